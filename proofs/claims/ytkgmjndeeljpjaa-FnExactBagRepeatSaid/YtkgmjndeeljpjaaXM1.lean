/- Marks on entries, and on what bears them. -/
import Derived.Test.YtkgmjndeeljpjaaXE5
import Derived.Test.YtkgmjndeeljpjaaXTr3

namespace Go.Den.T
set_option linter.unusedVariables false
set_option linter.unusedSimpArgs false
set_option linter.unusedSectionVars false
section
variable {A : Atoms} [IsReal A]
theorem markText_ok (k : Nat) (hk : 100 ≤ k) (n : Int) (h1 : n ≤ 1000000000000000) : Ok (laws_markText_t A k (n, ()) ()) (fun q => q.1.1.length ≤ 30) := by
  rw [laws_markText_t, ok_cndS]
  refine ⟨fun _ => ok_some.2 (by simp), fun h => ?_⟩
  simp at h
  have e : (10 : Nat) ^ 17 = 100000000000000000 := by decide
  refine Ok.bind (P := fun e : List UInt8 × Unit => e.1.length ≤ 20) (iter_ok (fun j (s : Int × (List UInt8 × Unit)) => ∃ m : Nat, s.1 = (m : Int) ∧ m < 10 ^ j ∧ s.2.1.length + j ≤ 17 ∧ m ≤ 1000000000000000) _ ?_ (n := 17) (by omega) ⟨n.toNat, by simp only; omega, by omega, by simp, by omega⟩) fun e he => ?_
  · rintro j ⟨x, l, _⟩ ⟨m, g1, g2, g3, g4⟩
    simp only at g1 g2 g3
    subst g1
    rw [laws_markText_t_b0, ok_cndS]
    simp only [a_ltI, decide_eq_true_eq, decide_eq_false_iff_not]
    refine ⟨fun hpos => ?_, fun _ => ok_some.2 ⟨fun s' e => (by cases e), fun e he => (by injection he with he; subst he; show l.length ≤ 20; omega)⟩⟩
    have hj : j ≠ 0 := by rintro rfl; simp at g2; omega
    have hw : A.wrapI .i64 (A.quoI (m : Int) 10) = ((m / 10 : Nat) : Int) := by
      rw [a_quoI, show ((m : Int)).tdiv 10 = ((m / 10 : Nat) : Int) from rfl]
      exact a_wrap (by omega) (by omega)
    have g : 1 + (l.length : Int) < 4294967296 := by omega
    rw [hw]
    refine ⟨.inl (((m / 10 : Nat) : Int), (A.appL (A.byteList ((A.wrapI .u8 (A.wrapI .i64 (A.addI 48 (A.remI (m : Int) 10)))) :: ([] : List Int))) l, ())), by simp [g], fun s' e => ?_, fun e he => (by cases he)⟩
    injection e with e; subst e
    refine ⟨j - 1, by omega, m / 10, rfl, ?_, by simp; omega, by omega⟩
    have : j - 1 + 1 = j := by omega
    rw [← this, Nat.pow_succ] at g2
    exact Nat.div_lt_of_lt_mul (by rw [Nat.mul_comm]; exact g2)
  · rw [ok_cndS]
    refine ⟨fun _ => ok_some.2 (by simp; omega), fun hc => ?_⟩
    simp at hc; omega
/-- the text that marks a number -/
def mtx (A : Atoms) (k : Nat) (n : Int) : List UInt8 := match laws_markText_t A k (n, ()) () with
  | some r => r.1.1
  | none => []
theorem markText_eq (k : Nat) (hk : 100 ≤ k) (n : Int) (h1 : n ≤ 1000000000000000) : laws_markText_t A k (n, ()) () = some ((mtx A k n, ()), ()) := by
  obtain ⟨r, h, _⟩ := markText_ok (A := A) k hk n h1
  rw [mtx, h]
def mE (A : Atoms) (k : Nat) (n : Int) : Ent := (n, (n + 1, ((n + 2, (mtx A k (n + 3), (n + 4, (n + 5, ())))), ())))
def marksE (A : Atoms) (k : Nat) (n : Int) (m : Nat) : List Ent := (List.range m).map fun i : Nat => mE A k (n + 6 * (i : Int))
@[simp] theorem marksE_len (k : Nat) (n : Int) (m : Nat) : (marksE A k n m).length = m := by simp [marksE]
theorem marksE_get {k : Nat} {n : Int} {m i : Nat} (h : i < m) : (marksE A k n m).getD i ent0 = mE A k (n + 6 * (i : Int)) := by rw [getD_lt (by simpa using h)]; simp [marksE]
theorem marksE_succ (k : Nat) (n : Int) (m : Nat) : marksE A k n (m + 1) = marksE A k n m ++ [mE A k (n + 6 * (m : Int))] := by simp [marksE, List.range_succ]
theorem markE_set (k : Nat) (xs : List Ent) (n : Int) (i : Nat) (h : i < xs.length) : (marksE A k n i ++ xs.drop i).set i (mE A k (n + 6 * (i : Int))) = marksE A k n (i + 1) ++ xs.drop (i + 1) := by
  rw [List.set_append_right _ _ (by simp)]
  simp only [marksE_len, Nat.sub_self]
  rw [List.drop_eq_getElem_cons h, List.set_cons_zero, marksE_succ]
  simp
theorem markE_step (k : Nat) (hk : 100 ≤ k) (L : List Ent) (i : Nat) (hi : i < L.length) (hl : L.length ≤ 1000000000) (n : Int) (h0 : 0 ≤ n) (h1 : n ≤ 100000000000000) :
    laws_markEntryS_t_b0 A k (n, ((i : Int), (L, ()))) = some (.inl (n + 6, (((i + 1 : Nat) : Int), (L.set i (mE A k n), ())))) := by
  have hi' : (i : Int) < (L.length : Int) := by omega
  have w1 : A.wrapI .i64 (n + 1) = n + 1 := a_wrap (by omega) (by omega)
  have w2 : A.wrapI .i64 (n + 1 + 1) = n + 2 := by rw [a_wrap (by omega) (by omega)]; omega
  have w3 : A.wrapI .i64 (n + 2 + 1) = n + 3 := by rw [a_wrap (by omega) (by omega)]; omega
  have w4 : A.wrapI .i64 (n + 3 + 1) = n + 4 := by rw [a_wrap (by omega) (by omega)]; omega
  have w5 : A.wrapI .i64 (n + 4 + 1) = n + 5 := by rw [a_wrap (by omega) (by omega)]; omega
  have w6 : A.wrapI .i64 (n + 5 + 1) = n + 6 := by rw [a_wrap (by omega) (by omega)]; omega
  have w : A.wrapI .i64 ((i : Int) + 1) = ((i + 1 : Nat) : Int) := by rw [a_wrap (by omega) (by omega)]; rfl
  have ge : ∀ (M : List Ent) (x d : Ent), i < M.length → (M.set i x).getD i d = x := fun M x d h => by rw [getD_lt (by simpa using h)]; simp
  have ls : ∀ (M : List Ent) (x : Ent), (M.set i x).length = M.length := fun M x => by simp
  simp only [laws_markEntryS_t_b0, a_cndS, a_ltI, a_lenL, a_le0, a_andB, hi', Int.natCast_nonneg, decide_true, Bool.and_self, if_true, a_setL, a_atL, Int.toNat_natCast, a_obind_some, a_addI, w, w1, w2, w3, w4, w5, w6, ls, ge, List.set_set, markText_eq k hk (n + 3) (by omega), hi]
  rfl
theorem markEntryS_eq (k : Nat) (hk : 100 ≤ k) (n : Int) (xs : List Ent) (hkx : xs.length < k) (hl : xs.length ≤ 1000000000) (h0 : 0 ≤ n) (h1 : n ≤ 10000000000000) :
    laws_markEntryS_t A k ((), (n, ())) xs = some ((n + 6 * xs.length, ()), marksE A k n xs.length) := by
  have h := iter_for (A := A) (f := laws_markEntryS_t_b0 A k) (fun i => (n + 6 * (i : Int), ((i : Int), (marksE A k n i ++ xs.drop i, ())))) xs.length (n + 6 * (xs.length : Int), (marksE A k n xs.length, ()))
    (fun i hi => by
      rw [markE_step k hk _ i (by simp; omega) (by simp; omega) _ (by omega) (by omega), markE_set k xs n i hi]
      simp; omega)
    (by simp [laws_markEntryS_t_b0]) hkx
  have z : marksE A k n 0 = [] := rfl
  simp [z] at h
  simp [laws_markEntryS_t, h]
theorem heldEntryS_eq (k : Nat) (hk : 100 ≤ k) (n : Int) (m : Nat) (hkx : m < k) (hl : m ≤ 1000000000) (h0 : 0 ≤ n) (h1 : n ≤ 10000000000000) : laws_heldEntryS_t A k (marksE A k n m, (n, ())) () = some ((n + 6 * (m : Int), ()), ()) := by
  have h := iter_for (A := A) (f := laws_heldEntryS_t_b0 A k) (fun i => (marksE A k n m, (n + 6 * (i : Int), ((i : Int), ())))) m (.inl (n + 6 * (m : Int), ()))
    (fun i hi => by
      have e := marksE_get (A := A) (k := k) (n := n) hi
      have hi' : (i : Int) < (m : Int) := by omega
      generalize hq : n + 6 * (i : Int) = q at *
      have hq0 : 0 ≤ q := by omega
      have hq1 : q ≤ 100000000000000 := by omega
      have w1 : A.wrapI .i64 (q + 1) = q + 1 := a_wrap (by omega) (by omega)
      have w2 : A.wrapI .i64 (q + 1 + 1) = q + 2 := by rw [a_wrap (by omega) (by omega)]; omega
      have w3 : A.wrapI .i64 (q + 2 + 1) = q + 3 := by rw [a_wrap (by omega) (by omega)]; omega
      have w4 : A.wrapI .i64 (q + 3 + 1) = q + 4 := by rw [a_wrap (by omega) (by omega)]; omega
      have w5 : A.wrapI .i64 (q + 4 + 1) = q + 5 := by rw [a_wrap (by omega) (by omega)]; omega
      have w6 : A.wrapI .i64 (q + 5 + 1) = q + 6 := by rw [a_wrap (by omega) (by omega)]; omega
      have w : A.wrapI .i64 ((i : Int) + 1) = ((i + 1 : Nat) : Int) := by rw [a_wrap (by omega) (by omega)]; rfl
      simp only [laws_heldEntryS_t_b0, a_cndS, a_ltI, a_lenL, a_le0, a_andB, marksE_len, hi', Int.natCast_nonneg, decide_true, Bool.and_self, if_true, a_atL, Int.toNat_natCast, e, mE, a_eqI, a_eqS, a_notB, Bool.not_true, Bool.false_eq_true, if_false, a_addI, w, w1, w2, w3, w4, w5, w6, markText_eq k hk (q + 3) (by omega), a_obind_some]
      have : q + 6 = n + 6 * ((i + 1 : Nat) : Int) := by omega
      rw [this])
    (by simp [laws_heldEntryS_t_b0]) hkx
  simp at h
  simp [laws_heldEntryS_t, h]
end
end Go.Den.T
