/- Marks on entries, and on what bears them. -/
import Derived.Test.YtfdgpkhofjdejaaXPm1
import Derived.Test.YtfdgpkhofjdejaaXPm2

namespace Go.Den.T
set_option linter.unusedVariables false
set_option linter.unusedSimpArgs false
set_option linter.unusedSectionVars false
section
variable {A : Atoms} [IsReal A]
theorem markText_ok (k : Nat) (hk : 100 ≤ k) (n : Int) (h1 : n ≤ 1000000000000000) : Ok (laws_markText_t A k (n, ()) ()) (fun q => q.1.1.length ≤ 30) := by
  rw [laws_markText_t, ok_cndS]
  refine ⟨fun _ => ok_some.2 (by simp), fun h => ?_⟩
  simp at h
  have e : (10 : Nat) ^ 17 = 100000000000000000 := by decide
  refine Ok.bind (P := fun e : List UInt8 × Unit => e.1.length ≤ 20) (iter_ok (fun j (s : Int × (List UInt8 × Unit)) => ∃ m : Nat, s.1 = (m : Int) ∧ m < 10 ^ j ∧ s.2.1.length + j ≤ 17 ∧ m ≤ 1000000000000000) _ ?_ (n := 17) (by omega) ⟨n.toNat, by simp only; omega, by omega, by simp, by omega⟩) fun e he => ?_
  · rintro j ⟨x, l, _⟩ ⟨m, g1, g2, g3, g4⟩
    simp only at g1 g2 g3
    subst g1
    rw [laws_markText_t_b0, ok_cndS]
    simp only [a_ltI, decide_eq_true_eq, decide_eq_false_iff_not]
    refine ⟨fun hpos => ?_, fun _ => ok_some.2 ⟨fun s' e => (by cases e), fun e he => (by injection he with he; subst he; show l.length ≤ 20; omega)⟩⟩
    have hj : j ≠ 0 := by rintro rfl; simp at g2; omega
    have hw : A.wrapI .i64 (A.quoI (m : Int) 10) = ((m / 10 : Nat) : Int) := by
      rw [a_quoI, show ((m : Int)).tdiv 10 = ((m / 10 : Nat) : Int) from rfl]
      exact a_wrap (by omega) (by omega)
    have g : 1 + (l.length : Int) < 4294967296 := by omega
    rw [hw]
    refine ⟨.inl (((m / 10 : Nat) : Int), (A.appL (A.byteList ((A.wrapI .u8 (A.wrapI .i64 (A.addI 48 (A.remI (m : Int) 10)))) :: ([] : List Int))) l, ())), by simp [g], fun s' e => ?_, fun e he => (by cases he)⟩
    injection e with e; subst e
    refine ⟨j - 1, by omega, m / 10, rfl, ?_, by simp; omega, by omega⟩
    have : j - 1 + 1 = j := by omega
    rw [← this, Nat.pow_succ] at g2
    exact Nat.div_lt_of_lt_mul (by rw [Nat.mul_comm]; exact g2)
  · rw [ok_cndS]
    refine ⟨fun _ => ok_some.2 (by simp; omega), fun hc => ?_⟩
    simp at hc; omega
/-- the text that marks a number -/
def mtx (A : Atoms) (k : Nat) (n : Int) : List UInt8 := match laws_markText_t A k (n, ()) () with
  | some r => r.1.1
  | none => []
theorem markText_eq (k : Nat) (hk : 100 ≤ k) (n : Int) (h1 : n ≤ 1000000000000000) : laws_markText_t A k (n, ()) () = some ((mtx A k n, ()), ()) := by
  obtain ⟨r, h, _⟩ := markText_ok (A := A) k hk n h1
  rw [mtx, h]
def mE (A : Atoms) (k : Nat) (n : Int) : Ent := (n, (n + 1, ((n + 2, (mtx A k (n + 3), (n + 4, (n + 5, ())))), ())))
def marksE (A : Atoms) (k : Nat) (n : Int) (m : Nat) : List Ent := (List.range m).map fun i : Nat => mE A k (n + 6 * (i : Int))
@[simp] theorem marksE_len (k : Nat) (n : Int) (m : Nat) : (marksE A k n m).length = m := by simp [marksE]
theorem marksE_get {k : Nat} {n : Int} {m i : Nat} (h : i < m) : (marksE A k n m).getD i ent0 = mE A k (n + 6 * (i : Int)) := by rw [getD_lt (by simpa using h)]; simp [marksE]
theorem marksE_succ (k : Nat) (n : Int) (m : Nat) : marksE A k n (m + 1) = marksE A k n m ++ [mE A k (n + 6 * (m : Int))] := by simp [marksE, List.range_succ]
theorem markE_set (k : Nat) (xs : List Ent) (n : Int) (i : Nat) (h : i < xs.length) : (marksE A k n i ++ xs.drop i).set i (mE A k (n + 6 * (i : Int))) = marksE A k n (i + 1) ++ xs.drop (i + 1) := by
  rw [List.set_append_right _ _ (by simp)]
  simp only [marksE_len, Nat.sub_self]
  rw [List.drop_eq_getElem_cons h, List.set_cons_zero, marksE_succ]
  simp
theorem markE_step (k : Nat) (hk : 100 ≤ k) (L : List Ent) (i : Nat) (hi : i < L.length) (hl : L.length ≤ 1000000000) (n : Int) (h0 : 0 ≤ n) (h1 : n ≤ 100000000000000) :
    laws_markEntryS_t_b0 A k (n, ((i : Int), (L, ()))) = some (.inl (n + 6, (((i + 1 : Nat) : Int), (L.set i (mE A k n), ())))) := by
  have hi' : (i : Int) < (L.length : Int) := by omega
  have w1 : A.wrapI .i64 (n + 1) = n + 1 := a_wrap (by omega) (by omega)
  have w2 : A.wrapI .i64 (n + 1 + 1) = n + 2 := by rw [a_wrap (by omega) (by omega)]; omega
  have w3 : A.wrapI .i64 (n + 2 + 1) = n + 3 := by rw [a_wrap (by omega) (by omega)]; omega
  have w4 : A.wrapI .i64 (n + 3 + 1) = n + 4 := by rw [a_wrap (by omega) (by omega)]; omega
  have w5 : A.wrapI .i64 (n + 4 + 1) = n + 5 := by rw [a_wrap (by omega) (by omega)]; omega
  have w6 : A.wrapI .i64 (n + 5 + 1) = n + 6 := by rw [a_wrap (by omega) (by omega)]; omega
  have w : A.wrapI .i64 ((i : Int) + 1) = ((i + 1 : Nat) : Int) := by rw [a_wrap (by omega) (by omega)]; rfl
  have ge : ∀ (M : List Ent) (x d : Ent), i < M.length → (M.set i x).getD i d = x := fun M x d h => by rw [getD_lt (by simpa using h)]; simp
  have ls : ∀ (M : List Ent) (x : Ent), (M.set i x).length = M.length := fun M x => by simp
  simp only [laws_markEntryS_t_b0, a_cndS, a_ltI, a_lenL, a_le0, a_andB, hi', Int.natCast_nonneg, decide_true, Bool.and_self, if_true, a_setL, a_atL, Int.toNat_natCast, a_obind_some, a_addI, w, w1, w2, w3, w4, w5, w6, ls, ge, List.set_set, markText_eq k hk (n + 3) (by omega), hi]
  rfl
theorem markEntryS_eq (k : Nat) (hk : 100 ≤ k) (n : Int) (xs : List Ent) (hkx : xs.length < k) (hl : xs.length ≤ 1000000000) (h0 : 0 ≤ n) (h1 : n ≤ 90000000000000) :
    laws_markEntryS_t A k ((), (n, ())) xs = some ((n + 6 * xs.length, ()), marksE A k n xs.length) := by
  have h := iter_for (A := A) (f := laws_markEntryS_t_b0 A k) (fun i => (n + 6 * (i : Int), ((i : Int), (marksE A k n i ++ xs.drop i, ())))) xs.length (n + 6 * (xs.length : Int), (marksE A k n xs.length, ()))
    (fun i hi => by
      rw [markE_step k hk _ i (by simp; omega) (by simp; omega) _ (by omega) (by omega), markE_set k xs n i hi]
      simp; omega)
    (by simp [laws_markEntryS_t_b0]) hkx
  have z : marksE A k n 0 = [] := rfl
  simp [z] at h
  simp [laws_markEntryS_t, h]
theorem heldEntryS_eq (k : Nat) (hk : 100 ≤ k) (n : Int) (m : Nat) (hkx : m < k) (hl : m ≤ 1000000000) (h0 : 0 ≤ n) (h1 : n ≤ 90000000000000) : laws_heldEntryS_t A k (marksE A k n m, (n, ())) () = some ((n + 6 * (m : Int), ()), ()) := by
  have h := iter_for (A := A) (f := laws_heldEntryS_t_b0 A k) (fun i => (marksE A k n m, (n + 6 * (i : Int), ((i : Int), ())))) m (.inl (n + 6 * (m : Int), ()))
    (fun i hi => by
      have e := marksE_get (A := A) (k := k) (n := n) hi
      have hi' : (i : Int) < (m : Int) := by omega
      generalize hq : n + 6 * (i : Int) = q at *
      have hq0 : 0 ≤ q := by omega
      have hq1 : q ≤ 100000000000000 := by omega
      have w1 : A.wrapI .i64 (q + 1) = q + 1 := a_wrap (by omega) (by omega)
      have w2 : A.wrapI .i64 (q + 1 + 1) = q + 2 := by rw [a_wrap (by omega) (by omega)]; omega
      have w3 : A.wrapI .i64 (q + 2 + 1) = q + 3 := by rw [a_wrap (by omega) (by omega)]; omega
      have w4 : A.wrapI .i64 (q + 3 + 1) = q + 4 := by rw [a_wrap (by omega) (by omega)]; omega
      have w5 : A.wrapI .i64 (q + 4 + 1) = q + 5 := by rw [a_wrap (by omega) (by omega)]; omega
      have w6 : A.wrapI .i64 (q + 5 + 1) = q + 6 := by rw [a_wrap (by omega) (by omega)]; omega
      have w : A.wrapI .i64 ((i : Int) + 1) = ((i + 1 : Nat) : Int) := by rw [a_wrap (by omega) (by omega)]; rfl
      simp only [laws_heldEntryS_t_b0, a_cndS, a_ltI, a_lenL, a_le0, a_andB, marksE_len, hi', Int.natCast_nonneg, decide_true, Bool.and_self, if_true, a_atL, Int.toNat_natCast, e, mE, a_eqI, a_eqS, a_notB, Bool.not_true, Bool.false_eq_true, if_false, a_addI, w, w1, w2, w3, w4, w5, w6, markText_eq k hk (q + 3) (by omega), a_obind_some]
      have : q + 6 = n + 6 * ((i + 1 : Nat) : Int) := by omega
      rw [this])
    (by simp [laws_heldEntryS_t_b0]) hkx
  simp at h
  simp [laws_heldEntryS_t, h]
end
end Go.Den.T

namespace Go.Den.T
set_option linter.unusedVariables false
set_option linter.unusedSimpArgs false
set_option linter.unusedSectionVars false
section
variable {A : Atoms} [IsReal A]
theorem spec_BagTake_eq (k : Nat) (hk : 30 ≤ k) (l : List Msg) (n : Int) : spec_BagTake_t A k (l, (n, ())) () = some (takeB l n, ()) := by
  simp only [spec_BagTake_t, spec_BagValid_eq k hk, a_obind_some, a_cndS, a_notB, takeB]
  rcases Bool.eq_false_or_eq_true (bagOk l) with hb | hb
  case inr => simp [hb]
  have hl := (bagOk_len hb).1
  have hf := bag_f hb
  have w : A.wrapI .i64 ((l.length : Int) - 1) = (l.length : Int) - 1 := a_wrap (by omega) (by omega)
  simp only [hb, Bool.not_true, Bool.false_eq_true, if_false, if_true, l18Bag_eq k l _ (by omega) (by omega) hf, a_obind_some, a_ltI, a_subI, a_lenL, w, l1In_eq]
  by_cases h1 : 0 ≤ n ∧ n < (l.length : Int)
  case neg =>
    have h2 : ¬ (0 ≤ n ∧ n ≤ (l.length : Int) - 1) := by omega
    simp [h1, h2, drop1_neg]
  obtain ⟨p, rfl⟩ : ∃ p : Nat, n = p := ⟨n.toNat, by omega⟩
  have hp : p < l.length := by omega
  have h2 : 0 ≤ (p : Int) ∧ (p : Int) ≤ (l.length : Int) - 1 := by omega
  have h3 : (p : Int) < (l.length : Int) := by omega
  simp only [h1, h2, h3, and_self, decide_true, Bool.not_true, Bool.false_eq_true, if_false, if_true, a_le0, Int.natCast_nonneg, a_andB, Bool.and_self, a_atL, Int.toNat_natCast, getD_lt hp, l18Copy_eq k l[p] (hf _ (List.getElem_mem hp)), a_obind_some]
/-! ### compared -/
def MsgT (k : Nat) (m : Msg) : Prop := m.2.2.2.1.2.1.length < k ∧ m.2.2.2.2.1.length < k ∧ MsgF m
/-! ### drawn -/
theorem BagS.t {k : Nat} {l : List Msg} (hk : 200 ≤ k) (h : BagS l) : ∀ m ∈ l, MsgT k m := fun m hm => by
  have := h.2 m hm
  have h1 : m.2.2.2.1.2.1.length ≤ 100 := this.1
  have h2 : m.2.2.2.2.1.length ≤ 30 := this.2.1
  exact ⟨by omega, by omega, by omega, by omega⟩
end
end Go.Den.T

namespace Go.Den.T
set_option linter.unusedVariables false
set_option linter.unusedSimpArgs false
set_option linter.unusedSectionVars false
section
variable {A : Atoms} [IsReal A]
theorem markIntS_eq2 (k : Nat) (n : Int) (xs : List Int) (hk : xs.length < k) (hl : xs.length ≤ 1000000000) (h0 : 0 ≤ n) (h1 : n ≤ 100000000000000) : laws_markIntS_t A k ((), (n, ())) xs = some ((n + xs.length, ()), marks n xs.length) := by
  have h := iter_for (A := A) (f := laws_markIntS_t_b0 A k) (fun i => (n + (i : Int), ((i : Int), (marks n i ++ xs.drop i, ())))) xs.length (n + (xs.length : Int), (marks n xs.length, ()))
    (fun i hi => by
      have e : i + (xs.length - i) = xs.length := by omega
      have := mark_step xs n i hi
      simp (disch := omega) [laws_markIntS_t_b0, hi, a_wrap, e, this]
      omega)
    (by simp [laws_markIntS_t_b0]) hk
  have z : marks n 0 = [] := rfl
  simp [z] at h
  simp [laws_markIntS_t, h]
theorem heldIntS_eq2 (k : Nat) (n : Int) (m : Nat) (hk : m < k) (hl : m ≤ 1000000000) (h0 : 0 ≤ n) (h1 : n ≤ 100000000000000) : laws_heldIntS_t A k (marks n m, (n, ())) () = some ((n + m, ()), ()) := by
  have h := iter_for (A := A) (f := laws_heldIntS_t_b0 A k) (fun i => (marks n m, (n + (i : Int), ((i : Int), ())))) m (.inl (n + (m : Int), ()))
    (fun i hi => by
      have e := marks_get (n := n) hi
      have hx : (marks n m)[i]?.getD 0 = n + i := by simpa [List.getD] using e
      simp (disch := omega) [laws_heldIntS_t_b0, hi, a_wrap, hx]
      omega)
    (by simp [laws_heldIntS_t_b0]) hk
  simp at h
  simp [laws_heldIntS_t, h]
/-! marks, element by element -/
section
variable {α : Type} (mk : Int → α → α) (nx : Int → α → Int)
def marksG : Int → List α → List α
  | _, [] => []
  | n, x :: xs => mk n x :: marksG (nx n x) xs
def endG : Int → List α → Int
  | n, [] => n
  | n, x :: xs => endG (nx n x) xs
theorem marksG_len (n : Int) (xs : List α) : (marksG mk nx n xs).length = xs.length := by
  induction xs generalizing n with
  | nil => rfl
  | cons x xs ih => simp [marksG, ih]
theorem marksG_snoc (n : Int) (xs : List α) (x : α) : marksG mk nx n (xs ++ [x]) = marksG mk nx n xs ++ [mk (endG nx n xs) x] ∧ endG nx n (xs ++ [x]) = nx (endG nx n xs) x := by
  induction xs generalizing n with
  | nil => exact ⟨rfl, rfl⟩
  | cons v xs ih => obtain ⟨h1, h2⟩ := ih (nx n v); exact ⟨by simp only [List.cons_append, marksG, endG, h1], by simp only [List.cons_append, endG, h2]⟩
theorem endG_take {xs : List α} {i : Nat} (n : Int) (hi : i < xs.length) : endG nx n (xs.take (i + 1)) = nx (endG nx n (xs.take i)) xs[i] := by
  rw [List.take_succ_eq_append_getElem hi]; exact (marksG_snoc (fun _ x => x) nx n _ _).2
theorem marksG_get {n : Int} {xs : List α} {i : Nat} (d : α) (hi : i < xs.length) : (marksG mk nx n xs).getD i d = mk (endG nx n (xs.take i)) xs[i] := by
  induction xs generalizing n i with
  | nil => simp at hi
  | cons v xs ih =>
    cases i with
    | zero => rfl
    | succ i => exact ih (n := nx n v) (by simpa using hi)
theorem markG_set {xs : List α} {n : Int} {i : Nat} (h : i < xs.length) : (marksG mk nx n (xs.take i) ++ xs.drop i).set i (mk (endG nx n (xs.take i)) xs[i]) = marksG mk nx n (xs.take (i + 1)) ++ xs.drop (i + 1) := by
  have hl : (marksG mk nx n (xs.take i)).length = i := by rw [marksG_len]; simp; omega
  rw [List.set_append_right _ _ (by omega), hl, Nat.sub_self]
  rw [List.drop_eq_getElem_cons h, List.set_cons_zero, List.take_succ_eq_append_getElem h, (marksG_snoc mk nx _ _ _).1]
  simp
theorem endG_bound {xs : List α} {C : Int} (hC : 0 ≤ C) (hnx : ∀ n x, x ∈ xs → 0 ≤ n → n ≤ nx n x ∧ nx n x ≤ n + C) {n : Int} (h0 : 0 ≤ n) : n ≤ endG nx n xs ∧ endG nx n xs ≤ n + C * xs.length := by
  induction xs generalizing n with
  | nil => simp [endG]
  | cons x xs ih =>
    obtain ⟨h1, h2⟩ := hnx n x (by simp) h0
    obtain ⟨h3, h4⟩ := ih (fun n y hy => hnx n y (by simp [hy])) (n := nx n x) (by omega)
    refine ⟨by simp only [endG]; omega, ?_⟩
    simp only [endG, List.length_cons]
    have : C * ((xs.length + 1 : Nat) : Int) = C * xs.length + C := by rw [Int.natCast_add, Int.mul_add]; simp
    omega
theorem mark_loop {f : Int × (Int × (List α × Unit)) → Option ((Int × (Int × (List α × Unit))) ⊕ (Int × (List α × Unit)))} {k : Nat} (d : α) (xs : List α) (hk : xs.length < k) {n C : Int} (h0 : 0 ≤ n) (hC : 0 ≤ C)
    (hnx : ∀ n x, x ∈ xs → 0 ≤ n → n ≤ nx n x ∧ nx n x ≤ n + C)
    (hs : ∀ (i : Nat) (m : Int) (ys : List α) (hi : i < xs.length), ys.length = xs.length → ys.getD i d = xs[i] → 0 ≤ m → m ≤ n + C * xs.length → f (m, ((i : Int), (ys, ()))) = some (.inl (nx m xs[i], (((i + 1 : Nat) : Int), (ys.set i (mk m xs[i]), ())))))
    (hd : ∀ (m : Int) (ys : List α), ys.length = xs.length → f (m, (((xs.length : Nat) : Int), (ys, ()))) = some (.inr (m, (ys, ())))) :
    A.iter k f (n, (0, (xs, ()))) = some (endG nx n xs, (marksG mk nx n xs, ())) := by
  have h := iter_for (A := A) (k := k) (f := f) (fun i => (endG nx n (xs.take i), ((i : Int), (marksG mk nx n (xs.take i) ++ xs.drop i, ())))) xs.length (endG nx n xs, (marksG mk nx n xs, ()))
    (fun i hi => by
      have hb := endG_bound nx hC (xs := xs.take i) (fun n x hx => hnx n x (List.mem_of_mem_take hx)) h0
      have hl : (marksG mk nx n (xs.take i)).length = i := by rw [marksG_len]; simp; omega
      have hm : C * ((xs.take i).length : Int) ≤ C * xs.length := Int.mul_le_mul_of_nonneg_left (by simp; omega) hC
      rw [hs i _ _ hi (by rw [List.length_append, hl]; simp; omega) (by simp [List.getD, List.getElem?_append_right (show (marksG mk nx n (xs.take i)).length ≤ i by omega), hl, hi]) (by omega) (by omega), markG_set mk nx hi, endG_take nx n hi])
    (by
      have := hd (endG nx n xs) (marksG mk nx n xs) (marksG_len mk nx n xs)
      simpa using this) hk
  simpa [marksG, endG] using h
theorem held_loop {f : List α × (Int × (Int × Unit)) → Option ((List α × (Int × (Int × Unit))) ⊕ ((Int × Unit) ⊕ ((Int × Unit) × Unit)))} {k : Nat} (d : α) (xs : List α) (hk : xs.length < k) {n C : Int} (h0 : 0 ≤ n) (hC : 0 ≤ C)
    (hnx : ∀ n x, x ∈ xs → 0 ≤ n → n ≤ nx n x ∧ nx n x ≤ n + C)
    (hs : ∀ (i : Nat) (m : Int) (ys : List α) (hi : i < xs.length), ys.length = xs.length → ys.getD i d = mk m xs[i] → 0 ≤ m → m ≤ n + C * xs.length → f (ys, (m, ((i : Int), ()))) = some (.inl (ys, (nx m xs[i], (((i + 1 : Nat) : Int), ())))))
    (hd : ∀ (m : Int) (ys : List α), ys.length = xs.length → f (ys, (m, (((xs.length : Nat) : Int), ()))) = some (.inr (.inl (m, ())))) :
    A.iter k f (marksG mk nx n xs, (n, (0, ()))) = some (.inl (endG nx n xs, ())) := by
  have h := iter_for (A := A) (k := k) (f := f) (fun i => (marksG mk nx n xs, (endG nx n (xs.take i), ((i : Int), ())))) xs.length (.inl (endG nx n xs, ()))
    (fun i hi => by
      have hb := endG_bound nx hC (xs := xs.take i) (fun n x hx => hnx n x (List.mem_of_mem_take hx)) h0
      have hm : C * ((xs.take i).length : Int) ≤ C * xs.length := Int.mul_le_mul_of_nonneg_left (by simp; omega) hC
      rw [hs i _ _ hi (marksG_len mk nx n xs) (marksG_get mk nx d hi) (by omega) (by omega), endG_take nx n hi])
    (by
      have := hd (endG nx n xs) (marksG mk nx n xs) (marksG_len mk nx n xs)
      simpa using this) hk
  simpa [endG] using h
end
/-! messages -/
def nxM (n : Int) (m : Msg) : Int := n + 5 + m.2.2.2.1.2.1.length + 6 * m.2.2.2.2.1.length
def mM (A : Atoms) (k : Nat) (n : Int) (m : Msg) : Msg :=
  (n, (n + 1, (n + 2, ((n + 3, (marks (n + 4) m.2.2.2.1.2.1.length, (decide ((n + 4 + (m.2.2.2.1.2.1.length : Int)).tmod 3 = 0), m.2.2.2.1.2.2.2))), (marksE A k (n + 5 + (m.2.2.2.1.2.1.length : Int)) m.2.2.2.2.1.length, m.2.2.2.2.2)))))
theorem markM_step (k : Nat) (hk : 2000000 ≤ k) (L : List Msg) (i : Nat) (hi : i < L.length) (hl : L.length ≤ 1000000000) (m : Msg) (hm : L.getD i msg0 = m) (hz : MsgZ m) (n : Int) (h0 : 0 ≤ n) (h1 : n ≤ 80000000000000) :
    laws_markMessageS_t_b0 A k (n, ((i : Int), (L, ()))) = some (.inl (nxM n m, (((i + 1 : Nat) : Int), (L.set i (mM A k n m), ())))) := by
  obtain ⟨z1, z2⟩ := hz
  have hi' : (i : Int) < (L.length : Int) := by omega
  have w1 : A.wrapI .i64 (n + 1) = n + 1 := a_wrap (by omega) (by omega)
  have w2 : A.wrapI .i64 (n + 1 + 1) = n + 2 := by rw [a_wrap (by omega) (by omega)]; omega
  have w3 : A.wrapI .i64 (n + 2 + 1) = n + 3 := by rw [a_wrap (by omega) (by omega)]; omega
  have w4 : A.wrapI .i64 (n + 3 + 1) = n + 4 := by rw [a_wrap (by omega) (by omega)]; omega
  have w5 : A.wrapI .i64 (n + 4 + (m.2.2.2.1.2.1.length : Int) + 1) = n + 5 + (m.2.2.2.1.2.1.length : Int) := by rw [a_wrap (by omega) (by omega)]; omega
  have w : A.wrapI .i64 ((i : Int) + 1) = ((i + 1 : Nat) : Int) := by rw [a_wrap (by omega) (by omega)]; rfl
  have ge : ∀ (M : List Msg) (x d : Msg), i < M.length → (M.set i x).getD i d = x := fun M x d h => by rw [getD_lt (by simpa using h)]; simp
  have ls : ∀ (M : List Msg) (x : Msg), (M.set i x).length = M.length := fun M x => by simp
  have h3 : ¬ (3 : Int) = 0 := by decide
  simp only [laws_markMessageS_t_b0, a_cndS, a_ltI, a_lenL, a_le0, a_andB, hi', Int.natCast_nonneg, decide_true, Bool.and_self, if_true, a_setL, a_atL, Int.toNat_natCast, a_obind_some, a_addI, w, w1, w2, w3, w4, w5, ls, ge, List.set_set, hm, hi,
    markIntS_eq2 k (n + 4) m.2.2.2.1.2.1 (by omega) (by omega) (by omega) (by omega), markEntryS_eq k (by omega) (n + 5 + (m.2.2.2.1.2.1.length : Int)) m.2.2.2.2.1 (by omega) (by omega) (by omega) (by omega), a_eqI, a_notB, a_remI, h3, decide_false, Bool.not_false]
  rfl
theorem heldM_step (k : Nat) (hk : 2000000 ≤ k) (L : List Msg) (i : Nat) (hi : i < L.length) (hl : L.length ≤ 1000000000) (m : Msg) (n : Int) (hm : L.getD i msg0 = mM A k n m) (hz : MsgZ m) (h0 : 0 ≤ n) (h1 : n ≤ 80000000000000) :
    laws_heldMessageS_t_b0 A k (L, (n, ((i : Int), ()))) = some (.inl (L, (nxM n m, (((i + 1 : Nat) : Int), ())))) := by
  obtain ⟨z1, z2⟩ := hz
  have hi' : (i : Int) < (L.length : Int) := by omega
  have w1 : A.wrapI .i64 (n + 1) = n + 1 := a_wrap (by omega) (by omega)
  have w2 : A.wrapI .i64 (n + 1 + 1) = n + 2 := by rw [a_wrap (by omega) (by omega)]; omega
  have w3 : A.wrapI .i64 (n + 2 + 1) = n + 3 := by rw [a_wrap (by omega) (by omega)]; omega
  have w4 : A.wrapI .i64 (n + 3 + 1) = n + 4 := by rw [a_wrap (by omega) (by omega)]; omega
  have w5 : A.wrapI .i64 (n + 4 + (m.2.2.2.1.2.1.length : Int) + 1) = n + 5 + (m.2.2.2.1.2.1.length : Int) := by rw [a_wrap (by omega) (by omega)]; omega
  have w : A.wrapI .i64 ((i : Int) + 1) = ((i + 1 : Nat) : Int) := by rw [a_wrap (by omega) (by omega)]; rfl
  have h3 : ¬ (3 : Int) = 0 := by decide
  have hb : ∀ b : Bool, (!(b == b)) = false := by decide
  have p1 : ¬ n + 4 + (m.2.2.2.1.2.1.length : Int) < 0 := by omega
  have p2 : ¬ n + 5 + (m.2.2.2.1.2.1.length : Int) + 6 * (m.2.2.2.2.1.length : Int) < 0 := by omega
  simp only [laws_heldMessageS_t_b0, a_cndS, a_ltI, a_lenL, a_le0, a_andB, hi', Int.natCast_nonneg, decide_true, Bool.and_self, if_true, a_atL, Int.toNat_natCast, a_obind_some, a_addI, w, w1, w2, w3, w4, w5, hm, mM,
    heldIntS_eq2 k (n + 4) m.2.2.2.1.2.1.length (by omega) (by omega) (by omega) (by omega), heldEntryS_eq k (by omega) (n + 5 + (m.2.2.2.1.2.1.length : Int)) m.2.2.2.2.1.length (by omega) (by omega) (by omega) (by omega), a_eqI, a_eqB, a_notB, a_remI, h3, decide_false, Bool.not_false, Bool.not_true, Bool.false_eq_true, if_false, p1, p2, hb]
  rfl
theorem nxM_bound (xs : List Msg) (hz : ∀ m ∈ xs, MsgZ m) : ∀ (n : Int) (x : Msg), x ∈ xs → 0 ≤ n → n ≤ nxM n x ∧ nxM n x ≤ n + 7340037 := fun n x hx h0 => by
  obtain ⟨z1, z2⟩ := hz x hx
  unfold nxM; omega
theorem markMessageS_eqn (k : Nat) (hk : 2000000 ≤ k) (n : Int) (xs : List Msg) (hl : xs.length ≤ 1048576) (hz : ∀ m ∈ xs, MsgZ m) (h0 : 0 ≤ n) (h1 : n ≤ 50000000000000) : laws_markMessageS_t A k ((), (n, ())) xs = some ((endG nxM n xs, ()), marksG (mM A k) nxM n xs) := by
  have h := mark_loop (A := A) (mM A k) nxM (f := laws_markMessageS_t_b0 A k) (k := k) msg0 xs (by omega) (n := n) (C := 7340037) (by omega) (by omega) (nxM_bound xs hz)
    (fun i m ys hi hy hg h0 h1 => markM_step k hk ys i (by omega) (by omega) xs[i] hg (hz _ (List.getElem_mem hi)) m h0 (by omega))
    (fun m ys hy => by simp [laws_markMessageS_t_b0, hy])
  simp only [laws_markMessageS_t, h, a_obind_some]
theorem heldMessageS_eqn (k : Nat) (hk : 2000000 ≤ k) (n : Int) (xs : List Msg) (hl : xs.length ≤ 1048576) (hz : ∀ m ∈ xs, MsgZ m) (h0 : 0 ≤ n) (h1 : n ≤ 50000000000000) : laws_heldMessageS_t A k (marksG (mM A k) nxM n xs, (n, ())) () = some ((endG nxM n xs, ()), ()) := by
  have h := held_loop (A := A) (mM A k) nxM (f := laws_heldMessageS_t_b0 A k) (k := k) msg0 xs (by omega) (n := n) (C := 7340037) (by omega) (by omega) (nxM_bound xs hz)
    (fun i m ys hi hy hg h0 h1 => heldM_step k hk ys i (by omega) (by omega) xs[i] m hg (hz _ (List.getElem_mem hi)) h0 (by omega))
    (fun m ys hy => by simp [laws_heldMessageS_t_b0, hy])
  simp only [laws_heldMessageS_t, h, a_obind_some, a_sumE_inl]
theorem markMessageS_eq (k : Nat) (hk : 2000000 ≤ k) (xs : List Msg) (hl : xs.length ≤ 1048576) (hz : ∀ m ∈ xs, MsgZ m) : laws_markMessageS_t A k ((), (1, ())) xs = some ((endG nxM 1 xs, ()), marksG (mM A k) nxM 1 xs) := markMessageS_eqn k hk 1 xs hl hz (by omega) (by omega)
theorem endM_pos (xs : List Msg) (hz : ∀ m ∈ xs, MsgZ m) : 1 ≤ endG nxM 1 xs := (endG_bound nxM (C := 7340037) (by omega) (nxM_bound xs hz) (n := 1) (by omega)).1
theorem bag_z {l : List Msg} (h : bagOk l = true) : l.length ≤ 1048576 ∧ ∀ m ∈ l, MsgZ m := by
  obtain ⟨h1, h2⟩ := bagOk_len h
  exact ⟨by omega, fun m hm => by have := msgOk_len (h2 m hm); exact ⟨by omega, by omega⟩⟩
theorem nil_z : ([] : List Msg).length ≤ 1048576 ∧ ∀ m ∈ ([] : List Msg), MsgZ m := ⟨by simp, by simp⟩
end
end Go.Den.T

namespace Go.Den.T
set_option linter.unusedVariables false
set_option linter.unusedSimpArgs false
set_option linter.unusedSectionVars false
section
variable {A : Atoms} [IsReal A]
theorem replacedXM_eq (k : Nat) (l : List Msg) (n : Nat) (hn : n < l.length) (hl : l.length ≤ 1000000) : impl_replacedX_Message_t A k (l, ((n : Int), ((1 : Int), (([] : List Msg), ())))) () = some ((drop1 l (n : Int), ()), ()) := by
  have g1 : (0 : Int) ≤ 1 := by omega
  have g2 : (n : Int) + 1 ≤ (l.length : Int) := by omega
  have g3 : (l.length : Int) < 4294967296 := by omega
  have g4 : ((n : Int) + 1).toNat = n + 1 := by omega
  simp only [impl_replacedX_Message_t, a_cndS, a_andB, a_le0, a_leI, a_ltI, a_addI, a_lenL, a_big, a_appL, a_takeL, a_dropL, List.length_nil, Int.natCast_nonneg, g1, g2, g3, g4, decide_true, Bool.and_self, if_true, Int.natCast_zero, Int.le_refl, Int.toNat_natCast, Int.ofNat_zero]
  simp [drop1, List.eraseIdx_eq_take_drop_succ]
theorem impl_BagTakeX_eq (k : Nat) (hk : 30 ≤ k) (l : List Msg) (n : Int) : impl_BagTakeX_t A k (l, (n, ())) () = some (takeB l n, ()) := by
  simp only [impl_BagTakeX_t, impl_BagValid_eq k hk, a_obind_some, a_cndS, a_notB, takeB]
  rcases Bool.eq_false_or_eq_true (bagOk l) with hb | hb
  case inr => simp [hb]
  have hl := (bagOk_len hb).1
  have hf := bag_f hb
  simp only [hb, Bool.not_true, Bool.false_eq_true, if_false, if_true, copyBag_eq k l (by omega) (by omega) hf, a_obind_some, a_ltI, a_leI, a_lenL]
  by_cases h1 : 0 ≤ n ∧ n < (l.length : Int)
  case neg =>
    by_cases h0 : n < 0
    · have : ¬ (0 ≤ n ∧ n < (l.length : Int)) := h1
      simp [h0, this]
    · have h2 : (l.length : Int) ≤ n := by omega
      simp [h0, h1, h2]
  obtain ⟨p, rfl⟩ : ∃ p : Nat, n = p := ⟨n.toNat, by omega⟩
  have hp : p < l.length := by omega
  have h0 : ¬ (p : Int) < 0 := by omega
  have h2 : ¬ (l.length : Int) ≤ (p : Int) := by omega
  have h3 : (p : Int) < (l.length : Int) := by omega
  simp only [h0, h2, h3, decide_false, decide_true, Bool.false_eq_true, if_false, if_true, a_obind_some, a_sumE_inl, a_le0, a_lenL, Int.natCast_nonneg, a_andB, Bool.and_self, a_atL, Int.toNat_natCast, a_ltI, getD_lt hp, copyMessage_eq k l[p] (hf _ (List.getElem_mem hp)), replacedXM_eq k l p hp (by omega), and_self]
def m1 (A : Atoms) (k : Nat) (n : Int) (m : Msg) : Msg := (m.1, (m.2.1, (m.2.2.1, ((m.2.2.2.1.1, (marks n m.2.2.2.1.2.1.length, m.2.2.2.1.2.2)), (marksE A k (n + (m.2.2.2.1.2.1.length : Int)) m.2.2.2.2.1.length, m.2.2.2.2.2)))))
theorem markMessage_eq2 (k : Nat) (hk : 2000000 ≤ k) (m : Msg) (hz : MsgZ m) : laws_markMessage_t A k ((), (1, ())) m = some ((1 + (m.2.2.2.1.2.1.length : Int) + 6 * (m.2.2.2.2.1.length : Int), ()), m1 A k 1 m) := by
  obtain ⟨z1, z2⟩ := hz
  have e : laws_markConfig_t A k ((), (1, ())) m.2.2.2.1 = some ((1 + (m.2.2.2.1.2.1.length : Int), ()), (m.2.2.2.1.1, (marks 1 m.2.2.2.1.2.1.length, m.2.2.2.1.2.2))) := by
    simp [laws_markConfig_t, markIntS_eq2 k 1 m.2.2.2.1.2.1 (by omega) (by omega) (by omega) (by omega)]
  simp only [laws_markMessage_t, e, a_obind_some, markEntryS_eq k (by omega) (1 + m.2.2.2.1.2.1.length) m.2.2.2.2.1 (by omega) (by omega) (by omega) (by omega)]
  rfl
theorem heldMessage_eq2 (k : Nat) (hk : 2000000 ≤ k) (m : Msg) (hz : MsgZ m) : laws_heldMessage_t A k (m1 A k 1 m, (1, ())) () = some ((1 + (m.2.2.2.1.2.1.length : Int) + 6 * (m.2.2.2.2.1.length : Int), ()), ()) := by
  obtain ⟨z1, z2⟩ := hz
  have e : laws_heldConfig_t A k ((m.2.2.2.1.1, (marks 1 m.2.2.2.1.2.1.length, m.2.2.2.1.2.2)), (1, ())) () = some ((1 + (m.2.2.2.1.2.1.length : Int), ()), ()) := heldConfig_eq k 1 _ _ _ (by omega) (by omega) (by omega) (by omega)
  have n1 : ¬ 1 + (m.2.2.2.1.2.1.length : Int) < 0 := by omega
  have n2 : ¬ 1 + (m.2.2.2.1.2.1.length : Int) + 6 * (m.2.2.2.2.1.length : Int) < 0 := by omega
  simp only [laws_heldMessage_t, m1, e, a_obind_some, heldEntryS_eq k (by omega) (1 + (m.2.2.2.1.2.1.length : Int)) m.2.2.2.2.1.length (by omega) (by omega) (by omega) (by omega), a_cndS, a_ltI, n1, n2, decide_false, Bool.false_eq_true, if_false]
theorem msg0_z : MsgZ msg0 := ⟨by simp [msg0], by simp [msg0]⟩
theorem takeB_z (l : List Msg) (n : Int) : MsgZ (takeB l n).1 ∧ (takeB l n).2.1.length ≤ 1048576 ∧ ∀ m ∈ (takeB l n).2.1, MsgZ m := by
  unfold takeB
  split
  · rename_i h
    obtain ⟨h1, h2⟩ := bag_z h
    split
    · rename_i hn
      have hp : n.toNat < l.length := by omega
      refine ⟨?_, ?_, fun m hm => ?_⟩
      · show MsgZ (l.getD n.toNat msg0)
        rw [getD_lt hp]; exact h2 _ (List.getElem_mem hp)
      · show (drop1 l n).length ≤ 1048576
        unfold drop1; rw [if_pos hn.1]
        exact Nat.le_trans (List.length_eraseIdx_le _ _) h1
      · change m ∈ drop1 l n at hm
        unfold drop1 at hm; rw [if_pos hn.1] at hm
        exact h2 m (List.mem_of_mem_eraseIdx hm)
    · exact ⟨msg0_z, h1, h2⟩
  · exact ⟨msg0_z, nil_z⟩
theorem FnExactBagTake_true (k : Nat) (hk : 2000000 ≤ k) (xs : List Msg) (n : Int) (hl : xs.length ≤ 9223372036854775807) (hm : ∀ m ∈ xs, MsgI m) : laws_FnExactBagTake_t A k (xs, (n, ())) () = some ((true, ()), ()) := by
  rw [← ok_eq, laws_FnExactBagTake_t]
  refine (szMessageS_ok k xs 1048576 (by omega) (by omega) hk hl hm).bind fun q hq => ?_
  rw [ok_cndS]
  simp only [a_ltI, decide_eq_true_eq, decide_eq_false_iff_not]
  refine ⟨fun _ => ok_some.2 rfl, fun hn => ?_⟩
  rcases hq with hq | ⟨_, _, h2, h3⟩
  · omega
  rw [ok_eq]
  obtain ⟨⟨z1, z2⟩, r1, r2⟩ := takeB_z xs n
  have p1 := endM_pos xs h3
  have e1 : ¬ endG nxM 1 xs < 0 := by omega
  have hb : 0 ≤ 1 + ((takeB xs n).1.2.2.2.1.2.1.length : Int) + 6 * ((takeB xs n).1.2.2.2.2.1.length : Int) ∧ 1 + ((takeB xs n).1.2.2.2.1.2.1.length : Int) + 6 * ((takeB xs n).1.2.2.2.2.1.length : Int) ≤ 50000000000000 := by omega
  have p2 := (endG_bound nxM (C := 7340037) (by omega) (nxM_bound _ r2) hb.1).1
  have e2 : ¬ 1 + ((takeB xs n).1.2.2.2.1.2.1.length : Int) + 6 * ((takeB xs n).1.2.2.2.2.1.length : Int) < 0 := by omega
  have e3 : ¬ endG nxM (1 + ((takeB xs n).1.2.2.2.1.2.1.length : Int) + 6 * ((takeB xs n).1.2.2.2.2.1.length : Int)) (takeB xs n).2.1 < 0 := by omega
  simp [toMessageS_eq k xs hk h2 h3, impl_BagTakeX_eq k (by omega), spec_BagTake_eq k (by omega), eqMessage_eq k _ _ hk z1 z2, eqMessageS_eq k _ _ hk r1 r2, eqMessageS_eq k _ _ hk h2 h3, markMessageS_eq k hk xs h2 h3, markMessage_eq2 k hk _ ⟨z1, z2⟩, heldMessage_eq2 k hk _ ⟨z1, z2⟩, markMessageS_eqn k hk _ _ r1 r2 hb.1 hb.2, heldMessageS_eqn k hk _ _ r1 r2 hb.1 hb.2, e1, e2, e3]
end
theorem FnExactBagTake_pure (xs : (Ty.slice TMsg).val) (h : InR (.slice TMsg) xs) (n : Int) (_ : InR (.int .i64) n) : ∃ k, laws_FnExactBagTake_t real k (xs, (n, ())) () = some ((true, ()), ()) :=
  haveI := isReal_real
  ⟨2000000, FnExactBagTake_true 2000000 (by omega) xs n (len_of h) (fun m hm => msgI_of (h.2 m hm))⟩
end Go.Den.T
