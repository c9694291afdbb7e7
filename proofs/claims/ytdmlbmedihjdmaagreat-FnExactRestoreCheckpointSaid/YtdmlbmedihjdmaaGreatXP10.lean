/- Marks on pairs, sessions, states; the exact law on checkpoints taken. -/
import Derived.Test.YtdmlbmedihjdmaaGreatXE8
import Derived.Test.YtdmlbmedihjdmaaGreatXP9
import Derived.Test.YtdmlbmedihjdmaaGreatXS1

namespace Go.Den.T
set_option linter.unusedVariables false
set_option linter.unusedSimpArgs false
set_option linter.unusedSectionVars false
section
variable {A : Atoms} [IsReal A]
theorem szState_ok' (k : Nat) (s : Stt) (hk : 2000000 ≤ k) (hf : StFit s) : Ok (laws_szState_t A k (s, (1048576, ())) ()) (fun q => q.1.1 < 0 ∨ (0 ≤ q.1.1 ∧ q.1.1 ≤ 1048576 ∧ StShort s)) := by
  obtain ⟨f1, f2, f3, f4, f5, f6⟩ := hf
  have w1 : A.wrapI .i64 (1048576 - (s.1.1.length : Int)) = 1048576 - (s.1.1.length : Int) := a_wrap (by omega) (by omega)
  have hi : Ok (laws_szInterval_t A k (s.1, (1048576, ())) ()) (fun q => q.1.1 = -1 ∨ (0 ≤ q.1.1 ∧ q.1.1 ≤ 1048576)) := by
    rw [laws_szInterval_t, ok_cndS]
    simp only [a_lenL, a_subI, w1, a_ltI, decide_eq_true_eq, decide_eq_false_iff_not]
    refine ⟨fun _ => ok_some.2 (.inl rfl), fun h => ?_⟩
    have w2 : A.wrapI .i64 (1048576 - (s.1.1.length : Int) - (s.1.2.1.length : Int)) = 1048576 - (s.1.1.length : Int) - (s.1.2.1.length : Int) := a_wrap (by omega) (by omega)
    rw [ok_cndS]
    simp only [w2, decide_eq_true_eq, decide_eq_false_iff_not]
    exact ⟨fun _ => ok_some.2 (.inl rfl), fun h => ok_some.2 (.inr ⟨by show (0 : Int) ≤ 1048576 - (s.1.1.length : Int) - (s.1.2.1.length : Int); omega, by show (1048576 : Int) - (s.1.1.length : Int) - (s.1.2.1.length : Int) ≤ 1048576; omega⟩)⟩
  rw [laws_szState_t]
  refine hi.bind fun q hq => ?_
  rw [ok_cndS]
  simp only [a_ltI, decide_eq_true_eq, decide_eq_false_iff_not]
  refine ⟨fun _ => ok_some.2 (.inl (by show (-1 : Int) < 0; omega)), fun h => ?_⟩
  have hq' : 0 ≤ q.1.1 ∧ q.1.1 ≤ 1048576 := hq.resolve_left (fun e => h (by omega))
  refine (szPairS_ok k s.2.1 q.1.1 hq'.1 hq'.2 hk f3 f4).bind fun q1 hq1 => ?_
  rw [ok_cndS]
  simp only [a_ltI, decide_eq_true_eq, decide_eq_false_iff_not]
  refine ⟨fun _ => ok_some.2 (.inl (by show (-1 : Int) < 0; omega)), fun h1 => ?_⟩
  have hq1' : 0 ≤ q1.1.1 ∧ q1.1.1 ≤ q.1.1 ∧ s.2.1.length ≤ 1048576 := hq1.resolve_left (fun e => h1 (by omega))
  have w3 : A.wrapI .i64 (q1.1.1 - (s.2.2.1.length : Int)) = q1.1.1 - (s.2.2.1.length : Int) := a_wrap (by omega) (by omega)
  rw [laws_szSessionS_t]
  simp only [a_lenL, a_subI, w3, a_ltI]
  by_cases hs : q1.1.1 - (s.2.2.1.length : Int) < 0
  · simp [hs, ok_some]
  · have hsh : StShort s := ⟨hq1'.2.2, by omega⟩
    have w4 : A.wrapI .i64 (q1.1.1 - (s.2.2.1.length : Int) - (s.2.2.2.2.1.length : Int)) = q1.1.1 - (s.2.2.1.length : Int) - (s.2.2.2.2.1.length : Int) := a_wrap (by omega) (by omega)
    simp only [hs, a_cndS, decide_false, Bool.false_eq_true, if_false, a_obind_some, w4]
    by_cases h5 : q1.1.1 - (s.2.2.1.length : Int) - (s.2.2.2.2.1.length : Int) < 0
    · simp [h5, ok_some]
    · simp only [h5, decide_false, Bool.false_eq_true, if_false]
      refine ok_some.2 (.inr ⟨?_, ?_, hsh⟩)
      · show 0 ≤ q1.1.1 - (s.2.2.1.length : Int) - (s.2.2.2.2.1.length : Int); omega
      · show q1.1.1 - (s.2.2.1.length : Int) - (s.2.2.2.2.1.length : Int) ≤ 1048576; omega
/-! ### marks -/
def mP (A : Atoms) (k : Nat) (n : Int) : Pair := (mtx A k n, (n + 1, ()))
def mS (n : Int) : Ses := (n, (n + 1, (n + 2, ())))
def marksP (A : Atoms) (k : Nat) (n : Int) (m : Nat) : List Pair := (List.range m).map fun i : Nat => mP A k (n + 2 * (i : Int))
def marksS (n : Int) (m : Nat) : List Ses := (List.range m).map fun i : Nat => mS (n + 3 * (i : Int))
@[simp] theorem marksP_len (k : Nat) (n : Int) (m : Nat) : (marksP A k n m).length = m := by simp [marksP]
@[simp] theorem marksS_len (n : Int) (m : Nat) : (marksS n m).length = m := by simp [marksS]
theorem marksP_get {k : Nat} {n : Int} {m i : Nat} (h : i < m) : (marksP A k n m).getD i pair0 = mP A k (n + 2 * (i : Int)) := by rw [getD_lt (by simpa using h)]; simp [marksP]
theorem marksS_get {n : Int} {m i : Nat} (h : i < m) : (marksS n m).getD i ses0 = mS (n + 3 * (i : Int)) := by rw [getD_lt (by simpa using h)]; simp [marksS]
theorem marksP_succ (k : Nat) (n : Int) (m : Nat) : marksP A k n (m + 1) = marksP A k n m ++ [mP A k (n + 2 * (m : Int))] := by simp [marksP, List.range_succ]
theorem marksS_succ (n : Int) (m : Nat) : marksS n (m + 1) = marksS n m ++ [mS (n + 3 * (m : Int))] := by simp [marksS, List.range_succ]
theorem markP_set (k : Nat) (xs : List Pair) (n : Int) (i : Nat) (h : i < xs.length) : (marksP A k n i ++ xs.drop i).set i (mP A k (n + 2 * (i : Int))) = marksP A k n (i + 1) ++ xs.drop (i + 1) := by
  rw [List.set_append_right _ _ (by simp)]
  simp only [marksP_len, Nat.sub_self]
  rw [List.drop_eq_getElem_cons h, List.set_cons_zero, marksP_succ]
  simp
theorem markS_set (xs : List Ses) (n : Int) (i : Nat) (h : i < xs.length) : (marksS n i ++ xs.drop i).set i (mS (n + 3 * (i : Int))) = marksS n (i + 1) ++ xs.drop (i + 1) := by
  rw [List.set_append_right _ _ (by simp)]
  simp only [marksS_len, Nat.sub_self]
  rw [List.drop_eq_getElem_cons h, List.set_cons_zero, marksS_succ]
  simp
theorem markP_step (k : Nat) (hk : 100 ≤ k) (L : List Pair) (i : Nat) (hi : i < L.length) (hl : L.length ≤ 1000000000) (n : Int) (h0 : 0 ≤ n) (h1 : n ≤ 100000000000000) :
    laws_markPairS_t_b0 A k (n, ((i : Int), (L, ()))) = some (.inl (n + 2, (((i + 1 : Nat) : Int), (L.set i (mP A k n), ())))) := by
  have hi' : (i : Int) < (L.length : Int) := by omega
  have w1 : A.wrapI .i64 (n + 1) = n + 1 := a_wrap (by omega) (by omega)
  have w2 : A.wrapI .i64 (n + 1 + 1) = n + 2 := by rw [a_wrap (by omega) (by omega)]; omega
  have w : A.wrapI .i64 ((i : Int) + 1) = ((i + 1 : Nat) : Int) := by rw [a_wrap (by omega) (by omega)]; rfl
  have ge : ∀ (M : List Pair) (x d : Pair), i < M.length → (M.set i x).getD i d = x := fun M x d h => by rw [getD_lt (by simpa using h)]; simp
  have ls : ∀ (M : List Pair) (x : Pair), (M.set i x).length = M.length := fun M x => by simp
  simp only [laws_markPairS_t_b0, a_cndS, a_ltI, a_lenL, a_le0, a_andB, hi', Int.natCast_nonneg, decide_true, Bool.and_self, if_true, a_setL, a_atL, Int.toNat_natCast, a_obind_some, a_addI, w, w1, w2, ls, ge, List.set_set, markText_eq k hk n (by omega), hi]
  rfl
theorem markPairS_eq (k : Nat) (hk : 100 ≤ k) (n : Int) (xs : List Pair) (hkx : xs.length < k) (hl : xs.length ≤ 1000000000) (h0 : 0 ≤ n) (h1 : n ≤ 10000000000000) :
    laws_markPairS_t A k ((), (n, ())) xs = some ((n + 2 * xs.length, ()), marksP A k n xs.length) := by
  have h := iter_for (A := A) (f := laws_markPairS_t_b0 A k) (fun i => (n + 2 * (i : Int), ((i : Int), (marksP A k n i ++ xs.drop i, ())))) xs.length (n + 2 * (xs.length : Int), (marksP A k n xs.length, ()))
    (fun i hi => by
      rw [markP_step k hk _ i (by simp; omega) (by simp; omega) _ (by omega) (by omega), markP_set k xs n i hi]
      simp; omega)
    (by simp [laws_markPairS_t_b0]) hkx
  have z : marksP A k n 0 = [] := rfl
  simp [z] at h
  simp [laws_markPairS_t, h]
theorem heldPairS_eq (k : Nat) (hk : 100 ≤ k) (n : Int) (m : Nat) (hkx : m < k) (hl : m ≤ 1000000000) (h0 : 0 ≤ n) (h1 : n ≤ 10000000000000) : laws_heldPairS_t A k (marksP A k n m, (n, ())) () = some ((n + 2 * (m : Int), ()), ()) := by
  have h := iter_for (A := A) (f := laws_heldPairS_t_b0 A k) (fun i => (marksP A k n m, (n + 2 * (i : Int), ((i : Int), ())))) m (.inl (n + 2 * (m : Int), ()))
    (fun i hi => by
      have e := marksP_get (A := A) (k := k) (n := n) hi
      have hi' : (i : Int) < (m : Int) := by omega
      generalize hq : n + 2 * (i : Int) = q at *
      have w1 : A.wrapI .i64 (q + 1) = q + 1 := a_wrap (by omega) (by omega)
      have w2 : A.wrapI .i64 (q + 1 + 1) = q + 2 := by rw [a_wrap (by omega) (by omega)]; omega
      have w : A.wrapI .i64 ((i : Int) + 1) = ((i + 1 : Nat) : Int) := by rw [a_wrap (by omega) (by omega)]; rfl
      simp only [laws_heldPairS_t_b0, a_cndS, a_ltI, a_lenL, a_le0, a_andB, marksP_len, hi', Int.natCast_nonneg, decide_true, Bool.and_self, if_true, a_atL, Int.toNat_natCast, e, mP, a_eqI, a_eqS, a_notB, Bool.not_true, Bool.false_eq_true, if_false, a_addI, w, w1, w2, markText_eq k hk q (by omega), a_obind_some]
      have : q + 2 = n + 2 * ((i + 1 : Nat) : Int) := by omega
      rw [this])
    (by simp [laws_heldPairS_t_b0]) hkx
  simp at h
  simp [laws_heldPairS_t, h]
theorem markS_step (k : Nat) (L : List Ses) (i : Nat) (hi : i < L.length) (hl : L.length ≤ 1000000000) (n : Int) (h0 : 0 ≤ n) (h1 : n ≤ 100000000000000) :
    laws_markSessionS_t_b0 A k (n, ((i : Int), (L, ()))) = some (.inl (n + 3, (((i + 1 : Nat) : Int), (L.set i (mS n), ())))) := by
  have hi' : (i : Int) < (L.length : Int) := by omega
  have w1 : A.wrapI .i64 (n + 1) = n + 1 := a_wrap (by omega) (by omega)
  have w2 : A.wrapI .i64 (n + 1 + 1) = n + 2 := by rw [a_wrap (by omega) (by omega)]; omega
  have w3 : A.wrapI .i64 (n + 2 + 1) = n + 3 := by rw [a_wrap (by omega) (by omega)]; omega
  have w : A.wrapI .i64 ((i : Int) + 1) = ((i + 1 : Nat) : Int) := by rw [a_wrap (by omega) (by omega)]; rfl
  have ge : ∀ (M : List Ses) (x d : Ses), i < M.length → (M.set i x).getD i d = x := fun M x d h => by rw [getD_lt (by simpa using h)]; simp
  have ls : ∀ (M : List Ses) (x : Ses), (M.set i x).length = M.length := fun M x => by simp
  simp only [laws_markSessionS_t_b0, a_cndS, a_ltI, a_lenL, a_le0, a_andB, hi', Int.natCast_nonneg, decide_true, Bool.and_self, if_true, a_setL, a_atL, Int.toNat_natCast, a_obind_some, a_addI, w, w1, w2, w3, ls, ge, List.set_set, hi]
  rfl
theorem markSessionS_eq (k : Nat) (n : Int) (xs : List Ses) (hkx : xs.length < k) (hl : xs.length ≤ 1000000000) (h0 : 0 ≤ n) (h1 : n ≤ 10000000000000) :
    laws_markSessionS_t A k ((), (n, ())) xs = some ((n + 3 * xs.length, ()), marksS n xs.length) := by
  have h := iter_for (A := A) (f := laws_markSessionS_t_b0 A k) (fun i => (n + 3 * (i : Int), ((i : Int), (marksS n i ++ xs.drop i, ())))) xs.length (n + 3 * (xs.length : Int), (marksS n xs.length, ()))
    (fun i hi => by
      rw [markS_step k _ i (by simp; omega) (by simp; omega) _ (by omega) (by omega), markS_set xs n i hi]
      simp; omega)
    (by simp [laws_markSessionS_t_b0]) hkx
  have z : marksS n 0 = [] := rfl
  simp [z] at h
  simp [laws_markSessionS_t, h]
theorem heldSessionS_eq (k : Nat) (n : Int) (m : Nat) (hkx : m < k) (hl : m ≤ 1000000000) (h0 : 0 ≤ n) (h1 : n ≤ 10000000000000) : laws_heldSessionS_t A k (marksS n m, (n, ())) () = some ((n + 3 * (m : Int), ()), ()) := by
  have h := iter_for (A := A) (f := laws_heldSessionS_t_b0 A k) (fun i => (marksS n m, (n + 3 * (i : Int), ((i : Int), ())))) m (.inl (n + 3 * (m : Int), ()))
    (fun i hi => by
      have e := marksS_get (n := n) hi
      have hi' : (i : Int) < (m : Int) := by omega
      generalize hq : n + 3 * (i : Int) = q at *
      have w1 : A.wrapI .i64 (q + 1) = q + 1 := a_wrap (by omega) (by omega)
      have w2 : A.wrapI .i64 (q + 1 + 1) = q + 2 := by rw [a_wrap (by omega) (by omega)]; omega
      have w3 : A.wrapI .i64 (q + 2 + 1) = q + 3 := by rw [a_wrap (by omega) (by omega)]; omega
      have w : A.wrapI .i64 ((i : Int) + 1) = ((i + 1 : Nat) : Int) := by rw [a_wrap (by omega) (by omega)]; rfl
      simp only [laws_heldSessionS_t_b0, a_cndS, a_ltI, a_lenL, a_le0, a_andB, marksS_len, hi', Int.natCast_nonneg, decide_true, Bool.and_self, if_true, a_atL, Int.toNat_natCast, e, mS, a_eqI, a_notB, Bool.not_true, Bool.false_eq_true, if_false, a_addI, w, w1, w2, w3]
      have : q + 3 = n + 3 * ((i + 1 : Nat) : Int) := by omega
      rw [this])
    (by simp [laws_heldSessionS_t_b0]) hkx
  simp at h
  simp [laws_heldSessionS_t, h]
def mStt (A : Atoms) (k : Nat) (n : Int) (s : Stt) : Stt := (s.1, (marksP A k n s.2.1.length, (marksS (n + 2 * s.2.1.length) s.2.2.1.length, s.2.2.2)))
theorem markState_eq (k : Nat) (hk : 2000000 ≤ k) (n : Int) (s : Stt) (h : StShort s) (h0 : 0 ≤ n) (hn : n ≤ 100000000) :
    laws_markState_t A k ((), (n, ())) s = some ((n + 2 * s.2.1.length + 3 * s.2.2.1.length, ()), mStt A k n s) := by
  obtain ⟨h1, h2⟩ := h
  simp only [laws_markState_t, markPairS_eq k (by omega) n s.2.1 (by omega) (by omega) h0 (by omega), a_obind_some, markSessionS_eq k (n + 2 * s.2.1.length) s.2.2.1 (by omega) (by omega) (by omega) (by omega)]
  rfl
theorem heldState_eq (k : Nat) (hk : 2000000 ≤ k) (n : Int) (s : Stt) (h : StShort s) (h0 : 0 ≤ n) (hn : n ≤ 100000000) :
    laws_heldState_t A k (mStt A k n s, (n, ())) () = some ((n + 2 * s.2.1.length + 3 * s.2.2.1.length, ()), ()) := by
  obtain ⟨h1, h2⟩ := h
  have g1 : ¬ n + 2 * (s.2.1.length : Int) < 0 := by omega
  have g2 : ¬ n + 2 * (s.2.1.length : Int) + 3 * (s.2.2.1.length : Int) < 0 := by omega
  simp only [laws_heldState_t, mStt, heldPairS_eq k (by omega) n s.2.1.length (by omega) (by omega) h0 (by omega), a_obind_some, a_ltI, g1, decide_false, a_cndS, Bool.false_eq_true, if_false, heldSessionS_eq k (n + 2 * s.2.1.length) s.2.2.1.length (by omega) (by omega) (by omega) (by omega), g2]
theorem markCheckpoint_eq (k : Nat) (hk : 2000000 ≤ k) (n : Int) (c : Chk) (h : StShort c.2.1) (h0 : 0 ≤ n) (hn : n ≤ 100000000) :
    laws_markCheckpoint_t A k ((), (n, ())) c = some ((n + 2 * c.2.1.2.1.length + 3 * c.2.1.2.2.1.length, ()), (c.1, (mStt A k n c.2.1, c.2.2))) := by
  simp only [laws_markCheckpoint_t, markState_eq k hk n c.2.1 h h0 hn, a_obind_some]
end
end Go.Den.T
