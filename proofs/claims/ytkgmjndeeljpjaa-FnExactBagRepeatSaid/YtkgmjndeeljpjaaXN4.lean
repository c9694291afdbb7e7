/- Marks on lists whose elements hold lists; bags as arguments of exact laws. -/
import Derived.Test.YtkgmjndeeljpjaaXM1
import Derived.Test.YtkgmjndeeljpjaaXN1
import Derived.Test.YtkgmjndeeljpjaaXR7
import Derived.Test.YtkgmjndeeljpjaaXTr4b

namespace Go.Den.T
set_option linter.unusedVariables false
set_option linter.unusedSimpArgs false
set_option linter.unusedSectionVars false
section
variable {A : Atoms} [IsReal A]
theorem markIntS_eq2 (k : Nat) (n : Int) (xs : List Int) (hk : xs.length < k) (hl : xs.length ≤ 1000000000) (h0 : 0 ≤ n) (h1 : n ≤ 100000000000000) : laws_markIntS_t A k ((), (n, ())) xs = some ((n + xs.length, ()), marks n xs.length) := by
  have h := iter_for (A := A) (f := laws_markIntS_t_b0 A k) (fun i => (n + (i : Int), ((i : Int), (marks n i ++ xs.drop i, ())))) xs.length (n + (xs.length : Int), (marks n xs.length, ()))
    (fun i hi => by
      have e : i + (xs.length - i) = xs.length := by omega
      have := mark_step xs n i hi
      simp (disch := omega) [laws_markIntS_t_b0, hi, a_wrap, e, this]
      omega)
    (by simp [laws_markIntS_t_b0]) hk
  have z : marks n 0 = [] := rfl
  simp [z] at h
  simp [laws_markIntS_t, h]
theorem heldIntS_eq2 (k : Nat) (n : Int) (m : Nat) (hk : m < k) (hl : m ≤ 1000000000) (h0 : 0 ≤ n) (h1 : n ≤ 100000000000000) : laws_heldIntS_t A k (marks n m, (n, ())) () = some ((n + m, ()), ()) := by
  have h := iter_for (A := A) (f := laws_heldIntS_t_b0 A k) (fun i => (marks n m, (n + (i : Int), ((i : Int), ())))) m (.inl (n + (m : Int), ()))
    (fun i hi => by
      have e := marks_get (n := n) hi
      have hx : (marks n m)[i]?.getD 0 = n + i := by simpa [List.getD] using e
      simp (disch := omega) [laws_heldIntS_t_b0, hi, a_wrap, hx]
      omega)
    (by simp [laws_heldIntS_t_b0]) hk
  simp at h
  simp [laws_heldIntS_t, h]
/-! marks, element by element -/
section
variable {α : Type} (mk : Int → α → α) (nx : Int → α → Int)
def marksG : Int → List α → List α
  | _, [] => []
  | n, x :: xs => mk n x :: marksG (nx n x) xs
def endG : Int → List α → Int
  | n, [] => n
  | n, x :: xs => endG (nx n x) xs
theorem marksG_len (n : Int) (xs : List α) : (marksG mk nx n xs).length = xs.length := by
  induction xs generalizing n with
  | nil => rfl
  | cons x xs ih => simp [marksG, ih]
theorem marksG_snoc (n : Int) (xs : List α) (x : α) : marksG mk nx n (xs ++ [x]) = marksG mk nx n xs ++ [mk (endG nx n xs) x] ∧ endG nx n (xs ++ [x]) = nx (endG nx n xs) x := by
  induction xs generalizing n with
  | nil => exact ⟨rfl, rfl⟩
  | cons v xs ih => obtain ⟨h1, h2⟩ := ih (nx n v); exact ⟨by simp only [List.cons_append, marksG, endG, h1], by simp only [List.cons_append, endG, h2]⟩
theorem endG_take {xs : List α} {i : Nat} (n : Int) (hi : i < xs.length) : endG nx n (xs.take (i + 1)) = nx (endG nx n (xs.take i)) xs[i] := by
  rw [List.take_succ_eq_append_getElem hi]; exact (marksG_snoc (fun _ x => x) nx n _ _).2
theorem marksG_get {n : Int} {xs : List α} {i : Nat} (d : α) (hi : i < xs.length) : (marksG mk nx n xs).getD i d = mk (endG nx n (xs.take i)) xs[i] := by
  induction xs generalizing n i with
  | nil => simp at hi
  | cons v xs ih =>
    cases i with
    | zero => rfl
    | succ i => exact ih (n := nx n v) (by simpa using hi)
theorem markG_set {xs : List α} {n : Int} {i : Nat} (h : i < xs.length) : (marksG mk nx n (xs.take i) ++ xs.drop i).set i (mk (endG nx n (xs.take i)) xs[i]) = marksG mk nx n (xs.take (i + 1)) ++ xs.drop (i + 1) := by
  have hl : (marksG mk nx n (xs.take i)).length = i := by rw [marksG_len]; simp; omega
  rw [List.set_append_right _ _ (by omega), hl, Nat.sub_self]
  rw [List.drop_eq_getElem_cons h, List.set_cons_zero, List.take_succ_eq_append_getElem h, (marksG_snoc mk nx _ _ _).1]
  simp
theorem endG_bound {xs : List α} {C : Int} (hC : 0 ≤ C) (hnx : ∀ n x, x ∈ xs → 0 ≤ n → n ≤ nx n x ∧ nx n x ≤ n + C) {n : Int} (h0 : 0 ≤ n) : n ≤ endG nx n xs ∧ endG nx n xs ≤ n + C * xs.length := by
  induction xs generalizing n with
  | nil => simp [endG]
  | cons x xs ih =>
    obtain ⟨h1, h2⟩ := hnx n x (by simp) h0
    obtain ⟨h3, h4⟩ := ih (fun n y hy => hnx n y (by simp [hy])) (n := nx n x) (by omega)
    refine ⟨by simp only [endG]; omega, ?_⟩
    simp only [endG, List.length_cons]
    have : C * ((xs.length + 1 : Nat) : Int) = C * xs.length + C := by rw [Int.natCast_add, Int.mul_add]; simp
    omega
theorem mark_loop {f : Int × (Int × (List α × Unit)) → Option ((Int × (Int × (List α × Unit))) ⊕ (Int × (List α × Unit)))} {k : Nat} (d : α) (xs : List α) (hk : xs.length < k) {n C : Int} (h0 : 0 ≤ n) (hC : 0 ≤ C)
    (hnx : ∀ n x, x ∈ xs → 0 ≤ n → n ≤ nx n x ∧ nx n x ≤ n + C)
    (hs : ∀ (i : Nat) (m : Int) (ys : List α) (hi : i < xs.length), ys.length = xs.length → ys.getD i d = xs[i] → 0 ≤ m → m ≤ n + C * xs.length → f (m, ((i : Int), (ys, ()))) = some (.inl (nx m xs[i], (((i + 1 : Nat) : Int), (ys.set i (mk m xs[i]), ())))))
    (hd : ∀ (m : Int) (ys : List α), ys.length = xs.length → f (m, (((xs.length : Nat) : Int), (ys, ()))) = some (.inr (m, (ys, ())))) :
    A.iter k f (n, (0, (xs, ()))) = some (endG nx n xs, (marksG mk nx n xs, ())) := by
  have h := iter_for (A := A) (k := k) (f := f) (fun i => (endG nx n (xs.take i), ((i : Int), (marksG mk nx n (xs.take i) ++ xs.drop i, ())))) xs.length (endG nx n xs, (marksG mk nx n xs, ()))
    (fun i hi => by
      have hb := endG_bound nx hC (xs := xs.take i) (fun n x hx => hnx n x (List.mem_of_mem_take hx)) h0
      have hl : (marksG mk nx n (xs.take i)).length = i := by rw [marksG_len]; simp; omega
      have hm : C * ((xs.take i).length : Int) ≤ C * xs.length := Int.mul_le_mul_of_nonneg_left (by simp; omega) hC
      rw [hs i _ _ hi (by rw [List.length_append, hl]; simp; omega) (by simp [List.getD, List.getElem?_append_right (show (marksG mk nx n (xs.take i)).length ≤ i by omega), hl, hi]) (by omega) (by omega), markG_set mk nx hi, endG_take nx n hi])
    (by
      have := hd (endG nx n xs) (marksG mk nx n xs) (marksG_len mk nx n xs)
      simpa using this) hk
  simpa [marksG, endG] using h
theorem held_loop {f : List α × (Int × (Int × Unit)) → Option ((List α × (Int × (Int × Unit))) ⊕ ((Int × Unit) ⊕ ((Int × Unit) × Unit)))} {k : Nat} (d : α) (xs : List α) (hk : xs.length < k) {n C : Int} (h0 : 0 ≤ n) (hC : 0 ≤ C)
    (hnx : ∀ n x, x ∈ xs → 0 ≤ n → n ≤ nx n x ∧ nx n x ≤ n + C)
    (hs : ∀ (i : Nat) (m : Int) (ys : List α) (hi : i < xs.length), ys.length = xs.length → ys.getD i d = mk m xs[i] → 0 ≤ m → m ≤ n + C * xs.length → f (ys, (m, ((i : Int), ()))) = some (.inl (ys, (nx m xs[i], (((i + 1 : Nat) : Int), ())))))
    (hd : ∀ (m : Int) (ys : List α), ys.length = xs.length → f (ys, (m, (((xs.length : Nat) : Int), ()))) = some (.inr (.inl (m, ())))) :
    A.iter k f (marksG mk nx n xs, (n, (0, ()))) = some (.inl (endG nx n xs, ())) := by
  have h := iter_for (A := A) (k := k) (f := f) (fun i => (marksG mk nx n xs, (endG nx n (xs.take i), ((i : Int), ())))) xs.length (.inl (endG nx n xs, ()))
    (fun i hi => by
      have hb := endG_bound nx hC (xs := xs.take i) (fun n x hx => hnx n x (List.mem_of_mem_take hx)) h0
      have hm : C * ((xs.take i).length : Int) ≤ C * xs.length := Int.mul_le_mul_of_nonneg_left (by simp; omega) hC
      rw [hs i _ _ hi (marksG_len mk nx n xs) (marksG_get mk nx d hi) (by omega) (by omega), endG_take nx n hi])
    (by
      have := hd (endG nx n xs) (marksG mk nx n xs) (marksG_len mk nx n xs)
      simpa using this) hk
  simpa [endG] using h
end
/-! messages -/
def nxM (n : Int) (m : Msg) : Int := n + 5 + m.2.2.2.1.2.1.length + 6 * m.2.2.2.2.1.length
def mM (A : Atoms) (k : Nat) (n : Int) (m : Msg) : Msg :=
  (n, (n + 1, (n + 2, ((n + 3, (marks (n + 4) m.2.2.2.1.2.1.length, (decide ((n + 4 + (m.2.2.2.1.2.1.length : Int)).tmod 3 = 0), m.2.2.2.1.2.2.2))), (marksE A k (n + 5 + (m.2.2.2.1.2.1.length : Int)) m.2.2.2.2.1.length, m.2.2.2.2.2)))))
theorem markM_step (k : Nat) (hk : 2000000 ≤ k) (L : List Msg) (i : Nat) (hi : i < L.length) (hl : L.length ≤ 1000000000) (m : Msg) (hm : L.getD i msg0 = m) (hz : MsgZ m) (n : Int) (h0 : 0 ≤ n) (h1 : n ≤ 9000000000000) :
    laws_markMessageS_t_b0 A k (n, ((i : Int), (L, ()))) = some (.inl (nxM n m, (((i + 1 : Nat) : Int), (L.set i (mM A k n m), ())))) := by
  obtain ⟨z1, z2⟩ := hz
  have hi' : (i : Int) < (L.length : Int) := by omega
  have w1 : A.wrapI .i64 (n + 1) = n + 1 := a_wrap (by omega) (by omega)
  have w2 : A.wrapI .i64 (n + 1 + 1) = n + 2 := by rw [a_wrap (by omega) (by omega)]; omega
  have w3 : A.wrapI .i64 (n + 2 + 1) = n + 3 := by rw [a_wrap (by omega) (by omega)]; omega
  have w4 : A.wrapI .i64 (n + 3 + 1) = n + 4 := by rw [a_wrap (by omega) (by omega)]; omega
  have w5 : A.wrapI .i64 (n + 4 + (m.2.2.2.1.2.1.length : Int) + 1) = n + 5 + (m.2.2.2.1.2.1.length : Int) := by rw [a_wrap (by omega) (by omega)]; omega
  have w : A.wrapI .i64 ((i : Int) + 1) = ((i + 1 : Nat) : Int) := by rw [a_wrap (by omega) (by omega)]; rfl
  have ge : ∀ (M : List Msg) (x d : Msg), i < M.length → (M.set i x).getD i d = x := fun M x d h => by rw [getD_lt (by simpa using h)]; simp
  have ls : ∀ (M : List Msg) (x : Msg), (M.set i x).length = M.length := fun M x => by simp
  have h3 : ¬ (3 : Int) = 0 := by decide
  simp only [laws_markMessageS_t_b0, a_cndS, a_ltI, a_lenL, a_le0, a_andB, hi', Int.natCast_nonneg, decide_true, Bool.and_self, if_true, a_setL, a_atL, Int.toNat_natCast, a_obind_some, a_addI, w, w1, w2, w3, w4, w5, ls, ge, List.set_set, hm, hi,
    markIntS_eq2 k (n + 4) m.2.2.2.1.2.1 (by omega) (by omega) (by omega) (by omega), markEntryS_eq k (by omega) (n + 5 + (m.2.2.2.1.2.1.length : Int)) m.2.2.2.2.1 (by omega) (by omega) (by omega) (by omega), a_eqI, a_notB, a_remI, h3, decide_false, Bool.not_false]
  rfl
theorem heldM_step (k : Nat) (hk : 2000000 ≤ k) (L : List Msg) (i : Nat) (hi : i < L.length) (hl : L.length ≤ 1000000000) (m : Msg) (n : Int) (hm : L.getD i msg0 = mM A k n m) (hz : MsgZ m) (h0 : 0 ≤ n) (h1 : n ≤ 9000000000000) :
    laws_heldMessageS_t_b0 A k (L, (n, ((i : Int), ()))) = some (.inl (L, (nxM n m, (((i + 1 : Nat) : Int), ())))) := by
  obtain ⟨z1, z2⟩ := hz
  have hi' : (i : Int) < (L.length : Int) := by omega
  have w1 : A.wrapI .i64 (n + 1) = n + 1 := a_wrap (by omega) (by omega)
  have w2 : A.wrapI .i64 (n + 1 + 1) = n + 2 := by rw [a_wrap (by omega) (by omega)]; omega
  have w3 : A.wrapI .i64 (n + 2 + 1) = n + 3 := by rw [a_wrap (by omega) (by omega)]; omega
  have w4 : A.wrapI .i64 (n + 3 + 1) = n + 4 := by rw [a_wrap (by omega) (by omega)]; omega
  have w5 : A.wrapI .i64 (n + 4 + (m.2.2.2.1.2.1.length : Int) + 1) = n + 5 + (m.2.2.2.1.2.1.length : Int) := by rw [a_wrap (by omega) (by omega)]; omega
  have w : A.wrapI .i64 ((i : Int) + 1) = ((i + 1 : Nat) : Int) := by rw [a_wrap (by omega) (by omega)]; rfl
  have h3 : ¬ (3 : Int) = 0 := by decide
  have hb : ∀ b : Bool, (!(b == b)) = false := by decide
  have p1 : ¬ n + 4 + (m.2.2.2.1.2.1.length : Int) < 0 := by omega
  have p2 : ¬ n + 5 + (m.2.2.2.1.2.1.length : Int) + 6 * (m.2.2.2.2.1.length : Int) < 0 := by omega
  simp only [laws_heldMessageS_t_b0, a_cndS, a_ltI, a_lenL, a_le0, a_andB, hi', Int.natCast_nonneg, decide_true, Bool.and_self, if_true, a_atL, Int.toNat_natCast, a_obind_some, a_addI, w, w1, w2, w3, w4, w5, hm, mM,
    heldIntS_eq2 k (n + 4) m.2.2.2.1.2.1.length (by omega) (by omega) (by omega) (by omega), heldEntryS_eq k (by omega) (n + 5 + (m.2.2.2.1.2.1.length : Int)) m.2.2.2.2.1.length (by omega) (by omega) (by omega) (by omega), a_eqI, a_eqB, a_notB, a_remI, h3, decide_false, Bool.not_false, Bool.not_true, Bool.false_eq_true, if_false, p1, p2, hb]
  rfl
theorem nxM_bound (xs : List Msg) (hz : ∀ m ∈ xs, MsgZ m) : ∀ (n : Int) (x : Msg), x ∈ xs → 0 ≤ n → n ≤ nxM n x ∧ nxM n x ≤ n + 7340037 := fun n x hx h0 => by
  obtain ⟨z1, z2⟩ := hz x hx
  unfold nxM; omega
theorem markMessageS_eq (k : Nat) (hk : 2000000 ≤ k) (xs : List Msg) (hl : xs.length ≤ 1048576) (hz : ∀ m ∈ xs, MsgZ m) : laws_markMessageS_t A k ((), (1, ())) xs = some ((endG nxM 1 xs, ()), marksG (mM A k) nxM 1 xs) := by
  have h := mark_loop (A := A) (mM A k) nxM (f := laws_markMessageS_t_b0 A k) (k := k) msg0 xs (by omega) (n := 1) (C := 7340037) (by omega) (by omega) (nxM_bound xs hz)
    (fun i m ys hi hy hg h0 h1 => markM_step k hk ys i (by omega) (by omega) xs[i] hg (hz _ (List.getElem_mem hi)) m h0 (by omega))
    (fun m ys hy => by simp [laws_markMessageS_t_b0, hy])
  simp only [laws_markMessageS_t, h, a_obind_some]
theorem heldMessageS_eq (k : Nat) (hk : 2000000 ≤ k) (xs : List Msg) (hl : xs.length ≤ 1048576) (hz : ∀ m ∈ xs, MsgZ m) : laws_heldMessageS_t A k (marksG (mM A k) nxM 1 xs, (1, ())) () = some ((endG nxM 1 xs, ()), ()) := by
  have h := held_loop (A := A) (mM A k) nxM (f := laws_heldMessageS_t_b0 A k) (k := k) msg0 xs (by omega) (n := 1) (C := 7340037) (by omega) (by omega) (nxM_bound xs hz)
    (fun i m ys hi hy hg h0 h1 => heldM_step k hk ys i (by omega) (by omega) xs[i] m hg (hz _ (List.getElem_mem hi)) h0 (by omega))
    (fun m ys hy => by simp [laws_heldMessageS_t_b0, hy])
  simp only [laws_heldMessageS_t, h, a_obind_some, a_sumE_inl]
theorem endM_pos (xs : List Msg) (hz : ∀ m ∈ xs, MsgZ m) : 1 ≤ endG nxM 1 xs := (endG_bound nxM (C := 7340037) (by omega) (nxM_bound xs hz) (n := 1) (by omega)).1
theorem bag_z {l : List Msg} (h : bagOk l = true) : l.length ≤ 1048576 ∧ ∀ m ∈ l, MsgZ m := by
  obtain ⟨h1, h2⟩ := bagOk_len h
  exact ⟨by omega, fun m hm => by have := msgOk_len (h2 m hm); exact ⟨by omega, by omega⟩⟩
theorem nil_z : ([] : List Msg).length ≤ 1048576 ∧ ∀ m ∈ ([] : List Msg), MsgZ m := ⟨by simp, by simp⟩
theorem addB_z (l : List Msg) (m : Msg) : (addB l m).1.length ≤ 1048576 ∧ ∀ x ∈ (addB l m).1, MsgZ x := by
  unfold addB
  split
  · rename_i h
    simp only [Bool.and_eq_true] at h
    obtain ⟨h1, h2⟩ := bag_z h.1
    split
    · exact ⟨h1, h2⟩
    · rename_i hl
      refine ⟨by simp only [List.length_append, List.length_cons, List.length_nil]; omega, fun x hx => ?_⟩
      rcases List.mem_append.1 hx with hx | hx
      · exact h2 x hx
      · simp at hx; subst hx
        have := msgOk_len h.2
        exact ⟨by omega, by omega⟩
  · exact nil_z
theorem repeatB_z (l : List Msg) (n : Int) : (repeatB l n).1.length ≤ 1048576 ∧ ∀ m ∈ (repeatB l n).1, MsgZ m := by
  unfold repeatB
  split
  · rename_i h
    split
    · exact addB_z _ _
    · exact bag_z h
  · exact nil_z
theorem FnExactBagRepeat_true (k : Nat) (hk : 2000000 ≤ k) (xs : List Msg) (n : Int) (hl : xs.length ≤ 9223372036854775807) (hm : ∀ m ∈ xs, MsgI m) : laws_FnExactBagRepeat_t A k (xs, (n, ())) () = some ((true, ()), ()) := by
  rw [← ok_eq, laws_FnExactBagRepeat_t]
  refine (szMessageS_ok k xs 1048576 (by omega) (by omega) hk hl hm).bind fun q hq => ?_
  rw [ok_cndS]
  simp only [a_ltI, decide_eq_true_eq, decide_eq_false_iff_not]
  refine ⟨fun _ => ok_some.2 rfl, fun hn => ?_⟩
  rcases hq with hq | ⟨_, _, h2, h3⟩
  · omega
  rw [ok_eq]
  obtain ⟨r1, r2⟩ := repeatB_z xs n
  have p1 := endM_pos xs h3
  have p2 := endM_pos _ r2
  have e1 : ¬ endG nxM 1 xs < 0 := by omega
  have e2 : ¬ endG nxM 1 (repeatB xs n).1 < 0 := by omega
  simp [toMessageS_eq k xs hk h2 h3, impl_BagRepeat_eq k (by omega), spec_BagRepeat_eq k (by omega), eqMessageS_eq k _ _ hk r1 r2, eqMessageS_eq k _ _ hk h2 h3, markMessageS_eq k hk xs h2 h3, markMessageS_eq k hk _ r1 r2, heldMessageS_eq k hk _ r1 r2, e1, e2]
end
theorem FnExactBagRepeat_pure (xs : (Ty.slice TMsg).val) (h : InR (.slice TMsg) xs) (n : Int) (_ : InR (.int .i64) n) : ∃ k, laws_FnExactBagRepeat_t real k (xs, (n, ())) () = some ((true, ()), ()) :=
  haveI := isReal_real
  ⟨2000000, FnExactBagRepeat_true 2000000 (by omega) xs n (len_of h) (fun m hm => msgI_of (h.2 m hm))⟩
end Go.Den.T
