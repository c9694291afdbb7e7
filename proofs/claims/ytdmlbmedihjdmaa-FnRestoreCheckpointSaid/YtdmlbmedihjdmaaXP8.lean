/- The laws on checkpoints taken and restored. -/
import Derived.Test.YtdmlbmedihjdmaaXC5
import Derived.Test.YtdmlbmedihjdmaaXP7

namespace Go.Den.T
set_option linter.unusedVariables false
set_option linter.unusedSimpArgs false
set_option linter.unusedSectionVars false
section
variable {A : Atoms} [IsReal A]
theorem pair_eq (x y : Pair) : (decide (x.1 = y.1) && (decide (x.2.1 = y.2.1) && true)) = decide (x = y) := by
  obtain ⟨a, b, _⟩ := x
  obtain ⟨c, d, _⟩ := y
  by_cases h1 : a = c <;> by_cases h2 : b = d <;> simp [h1, h2]
theorem ses_eq (x y : Ses) : (decide (x.1 = y.1) && (decide (x.2.1 = y.2.1) && (decide (x.2.2.1 = y.2.2.1) && true))) = decide (x = y) := by
  obtain ⟨a, b, c, _⟩ := x
  obtain ⟨d, e, f, _⟩ := y
  by_cases h1 : a = d <;> by_cases h2 : b = e <;> by_cases h3 : c = f <;> simp [h1, h2, h3]
theorem samePairs_eq (k : Nat) (xs ys : List Pair) (hk : xs.length < k) (hl : xs.length ≤ 1000000000) : laws_samePairs_t A k (xs, (ys, ())) () = some ((decide (xs = ys), ()), ()) := by
  by_cases he : xs.length = ys.length
  · have h := eq_loop (A := A) (f := laws_samePairs_t_b0 A k) pair0 xs ys hk he
      (fun i hi => by
        have hi' : i < ys.length := by omega
        have hx : (i : Int) < (xs.length : Int) := by omega
        have hy : (i : Int) < (ys.length : Int) := by omega
        have w : A.wrapI .i64 ((i : Int) + 1) = (i : Int) + 1 := a_wrap (by omega) (by omega)
        have e := pair_eq (xs.getD i pair0) (ys.getD i pair0)
        simp only [laws_samePairs_t_b0, a_cndS, a_ltI, a_lenL, a_le0, a_andB, hx, hy, Int.natCast_nonneg, decide_true, Bool.and_self, if_true, a_atL, Int.toNat_natCast, a_eqI, a_eqS, a_notB, a_addI, w, e]
        by_cases hv : xs.getD i pair0 = ys.getD i pair0
        · simp only [hv]; simp
        · simp only [hv]; simp)
      (by simp [laws_samePairs_t_b0])
    simp only [laws_samePairs_t, a_lenL, he, a_eqI, decide_true, a_notB, Bool.not_true, a_cndS, Bool.false_eq_true, if_false, h]
    by_cases hv : xs = ys <;> simp [hv]
  · have h2 : ¬ (xs.length : Int) = ys.length := by omega
    have h3 : ¬ xs = ys := fun e => he (by rw [e])
    simp [laws_samePairs_t, h2, h3]
theorem sameSessions_eq (k : Nat) (xs ys : List Ses) (hk : xs.length < k) (hl : xs.length ≤ 1000000000) : laws_sameSessions_t A k (xs, (ys, ())) () = some ((decide (xs = ys), ()), ()) := by
  by_cases he : xs.length = ys.length
  · have h := eq_loop (A := A) (f := laws_sameSessions_t_b0 A k) ses0 xs ys hk he
      (fun i hi => by
        have hi' : i < ys.length := by omega
        have hx : (i : Int) < (xs.length : Int) := by omega
        have hy : (i : Int) < (ys.length : Int) := by omega
        have w : A.wrapI .i64 ((i : Int) + 1) = (i : Int) + 1 := a_wrap (by omega) (by omega)
        have e := ses_eq (xs.getD i ses0) (ys.getD i ses0)
        simp only [laws_sameSessions_t_b0, a_cndS, a_ltI, a_lenL, a_le0, a_andB, hx, hy, Int.natCast_nonneg, decide_true, Bool.and_self, if_true, a_atL, Int.toNat_natCast, a_eqI, a_eqS, a_notB, a_addI, w, e]
        by_cases hv : xs.getD i ses0 = ys.getD i ses0
        · simp only [hv]; simp
        · simp only [hv]; simp)
      (by simp [laws_sameSessions_t_b0])
    simp only [laws_sameSessions_t, a_lenL, he, a_eqI, decide_true, a_notB, Bool.not_true, a_cndS, Bool.false_eq_true, if_false, h]
    by_cases hv : xs = ys <;> simp [hv]
  · have h2 : ¬ (xs.length : Int) = ys.length := by omega
    have h3 : ¬ xs = ys := fun e => he (by rw [e])
    simp [laws_sameSessions_t, h2, h3]
theorem sameState_eq (k : Nat) (c d : Stt) (h1 : c.2.1.length < k) (h2 : c.2.2.1.length < k) (h1' : c.2.1.length ≤ 1000000000) (h2' : c.2.2.1.length ≤ 1000000000) : laws_sameState_t A k (c, (d, ())) () = some ((decide (c = d), ()), ()) := by
  obtain ⟨⟨a1, a1', _⟩, a2, a3, a4, a5, _⟩ := c
  obtain ⟨⟨b1, b1', _⟩, b2, b3, b4, b5, _⟩ := d
  simp only at h1 h2 h1' h2'
  simp only [laws_sameState_t, samePairs_eq k a2 b2 h1 h1', sameSessions_eq k a3 b3 h2 h2', a_obind_some, a_cndS, a_eqS, a_eqB, a_andB]
  by_cases g1 : a1 = b1
  · by_cases g1' : a1' = b1'
    · by_cases g2 : a2 = b2
      · by_cases g3 : a3 = b3
        · by_cases g4 : a4 = b4 <;> by_cases g5 : a5 = b5 <;> simp [g1, g1', g2, g3, g4, g5]
        · simp [g1, g1', g2, g3]
      · simp [g1, g1', g2]
    · simp [g1, g1']
  · simp [g1]
theorem noState_eq (k : Nat) (c : Stt) (h1 : c.2.1.length < k) (h2 : c.2.2.1.length < k) (h1' : c.2.1.length ≤ 1000000000) (h2' : c.2.2.1.length ≤ 1000000000) : laws_noState_t A k (c, ()) () = some ((decide (c = stt0), ()), ()) := by
  simp only [laws_noState_t, sameState_eq k c _ h1 h2 h1' h2', a_obind_some]
end
end Go.Den.T
