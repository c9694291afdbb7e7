/- The law on checkpoints restored. -/
import Derived.Test.YtdmlbmedihjdmaaXP8

namespace Go.Den.T
set_option linter.unusedVariables false
set_option linter.unusedSimpArgs false
set_option linter.unusedSectionVars false
section
variable {A : Atoms} [IsReal A]
theorem DrawRestoreCheckpoint_ok (k : Nat) (hk : 3000 ≤ k) (a : List Int) (hb : ∀ x ∈ a, 0 ≤ x ∧ x ≤ 255) : Ok (spec_DrawRestoreCheckpoint_t A k (a, ()) ()) (fun q => StS q.1.1.2.1 ∧ q.1.2.1.length ≤ 30 ∧ -1 ≤ q.1.1.1 ∧ q.1.1.1 ≤ 25) := by
  rw [spec_DrawRestoreCheckpoint_t]
  refine (open_ok k a hb).bind fun q hq => ?_
  refine (l20Check_ok k (by omega) 9 0 q.1 hq (by omega) (by omega)).bind fun q1 h1 => ?_
  refine (l20Log_ok k (by omega) 14 _ q1.2 h1.1 (by omega) (by omega)).bind fun q2 h2 => ?_
  exact ok_some.2 ⟨h1.2.1, h2.2.1, h1.2.2.1, h1.2.2.2⟩
theorem FnRestoreCheckpoint_true (k : Nat) (hk : 3000 ≤ k) (a : List Int) (hb : ∀ x ∈ a, 0 ≤ x ∧ x ≤ 255) : laws_FnRestoreCheckpoint_t A k (a, ()) () = some ((true, ()), ()) := by
  rw [← ok_eq, laws_FnRestoreCheckpoint_t, ok_cndS]
  refine ⟨fun _ => ok_some.2 rfl, fun _ => ?_⟩
  refine (DrawRestoreCheckpoint_ok k hk a hb).bind fun q hq => ?_
  obtain ⟨⟨c, l, _⟩, _⟩ := q
  obtain ⟨⟨g1, g2⟩, g3, g4, g5⟩ := hq
  simp only at g1 g2 g3 g4 g5
  rw [ok_eq]
  have hk1 : 100 ≤ k := by omega
  have al := alive_eq (A := A) k (by omega : 10 ≤ k)
  by_cases hc : (chkOk c && logOk l) = true ∧ c.1 + l.length ≤ 24
  case neg =>
    have ht : restK c l = (stt0, ([], (false, ()))) := by rw [restK, if_neg hc]
    have sm := sameState_eq (A := A) k stt0 stt0 (by simp; omega) (by simp; omega) (by simp) (by simp)
    have nm := noState_eq (A := A) k stt0 (by simp; omega) (by simp; omega) (by simp) (by simp)
    have si := sameInts_eq (A := A) k [] [] (by simp; omega) (by simp)
    simp only [decide_true] at sm nm si
    simp only [impl_RestoreCheckpoint_eq k hk1 c l (by omega) (by omega), spec_RestoreCheckpoint_eq k hk1 c l (by omega) (by omega), ht, a_obind_some, sm, nm, si, al, a_eqI, a_eqB, decide_true, a_notB, Bool.not_true, a_cndS, Bool.false_eq_true, if_false, if_true, a_sumE_inl, Bool.not_false, beq_self_eq_true, a_sumE_inr, a_lenL, List.length_nil, Int.natCast_zero, Int.ofNat_zero]
  obtain ⟨hcl, n1⟩ := hc
  have ht : restK c l = ((rep c.2.1 l).1, ((rep c.2.1 l).2, (true, ()))) := by rw [restK, if_pos ⟨hcl, n1⟩]
  simp only [Bool.and_eq_true] at hcl
  obtain ⟨hck, hl⟩ := hcl
  obtain ⟨l1, l2⟩ := logOk_iff'.1 hl
  have hcc : (0 ≤ c.1 ∧ c.1 ≤ 24) ∧ stOk c.2.1 = true := by simpa [chkOk] using hck
  have hv : stOk (rep c.2.1 l).1 = true := rep_ok hcc.2 l2
  obtain ⟨v1, v2⟩ := st_short hv
  obtain ⟨u1, u2⟩ := st_short hcc.2
  have hlen : (rep c.2.1 l).2.length = l.length := (rep_append c.2.1 l []).2
  have w : A.wrapI .i64 (c.1 + (l.length : Int)) = c.1 + (l.length : Int) := a_wrap (by omega) (by omega)
  have hck2 : chkOk (c.1 + (l.length : Int), ((rep c.2.1 l).1, ())) = true := by
    have a1 : 0 ≤ c.1 + (l.length : Int) := by omega
    simp [chkOk, hv, a1, n1]
  have hnil : logOk [] = true := rfl
  have hr9 : restK (c.1 + (l.length : Int), ((rep c.2.1 l).1, ())) [] = ((rep c.2.1 l).1, ([], (true, ()))) := by
    rw [restK, if_pos ⟨by simp [hck2, hnil], by simpa using n1⟩]; rfl
  have hr10 : restK c [] = (c.2.1, ([], (true, ()))) := by
    rw [restK, if_pos ⟨by simp [hck, hnil], by simp; omega⟩]; rfl
  have sm := sameState_eq (A := A) k (rep c.2.1 l).1 (rep c.2.1 l).1 (by omega) (by omega) (by omega) (by omega)
  have sm2 := sameState_eq (A := A) k c.2.1 c.2.1 (by omega) (by omega) (by omega) (by omega)
  have si := sameInts_eq (A := A) k (rep c.2.1 l).2 (rep c.2.1 l).2 (by omega) (by omega)
  simp only [decide_true] at sm sm2 si
  have n6 : ((rep c.2.1 l).2.length : Int) = (l.length : Int) := by omega
  simp only [impl_RestoreCheckpoint_eq k hk1 c l (by omega) (by omega), spec_RestoreCheckpoint_eq k hk1 c l (by omega) (by omega), ht, a_obind_some, sm, si, a_eqI, a_eqB, decide_true, a_notB, Bool.not_true, a_cndS, Bool.false_eq_true, if_false, if_true, a_sumE_inl, beq_self_eq_true, a_addI, a_lenL, w,
    impl_RestoreCheckpoint_eq k hk1 (c.1 + (l.length : Int), ((rep c.2.1 l).1, ())) _ (show (rep c.2.1 l).1.2.2.1.length < k by omega) (show (rep c.2.1 l).1.2.2.1.length ≤ 1000000000 by omega), hr9, impl_RestoreCheckpoint_eq k hk1 c [] (by omega) (by omega), hr10,
    impl_CheckpointValid_eq k (by omega : 60 ≤ k) (c.1 + (l.length : Int), ((rep c.2.1 l).1, ())) (show (rep c.2.1 l).1.2.2.1.length < k by omega) (show (rep c.2.1 l).1.2.2.1.length ≤ 1000000000 by omega), hck2, sm2, n6, List.length_nil, Int.natCast_zero, Int.ofNat_zero]
end
theorem FnRestoreCheckpoint_pure (a : List Int) (h : InR (.slice (.int .u8)) a) : ∃ k, laws_FnRestoreCheckpoint_t real k (a, ()) () = some ((true, ()), ()) :=
  haveI := isReal_real
  ⟨3000, FnRestoreCheckpoint_true 3000 (by omega) a (code_bytes h)⟩
end Go.Den.T
