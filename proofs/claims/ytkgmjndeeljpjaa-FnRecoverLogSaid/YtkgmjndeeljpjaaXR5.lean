/- The law on copies taken. -/
import Derived.Test.YtkgmjndeeljpjaaXR4

namespace Go.Den.T
set_option linter.unusedVariables false
set_option linter.unusedSimpArgs false
set_option linter.unusedSectionVars false
section
variable {A : Atoms} [IsReal A]
theorem ent_eq (a b : Ent) : (decide (a.1 = b.1) && (decide (a.2.1 = b.2.1) && ((decide (a.2.2.1.1 = b.2.2.1.1) && (decide (a.2.2.1.2.1 = b.2.2.1.2.1) && (decide (a.2.2.1.2.2.1 = b.2.2.1.2.2.1) && (decide (a.2.2.1.2.2.2.1 = b.2.2.1.2.2.2.1) && true)))) && true))) = decide (a = b) := by
  obtain ⟨a1, a2, ⟨a3, a4, a5, a6, _⟩, _⟩ := a
  obtain ⟨b1, b2, ⟨b3, b4, b5, b6, _⟩, _⟩ := b
  rw [Bool.eq_iff_iff]
  simp
theorem sameLog_eq (k : Nat) (xs ys : List Ent) (hk : xs.length < k) (hl : xs.length ≤ 1000000000) : laws_sameLog_t A k (xs, (ys, ())) () = some ((decide (xs = ys), ()), ()) := by
  by_cases he : xs.length = ys.length
  · have h := eq_loop (A := A) (f := laws_sameLog_t_b0 A k) ent0 xs ys hk he
      (fun i hi => by
        have hi' : i < ys.length := by omega
        have hx : (i : Int) < (xs.length : Int) := by omega
        have hy : (i : Int) < (ys.length : Int) := by omega
        have w : A.wrapI .i64 ((i : Int) + 1) = (i : Int) + 1 := a_wrap (by omega) (by omega)
        have e := ent_eq (xs.getD i ent0) (ys.getD i ent0)
        simp only [laws_sameLog_t_b0, a_cndS, a_ltI, a_lenL, a_le0, a_andB, hx, hy, Int.natCast_nonneg, decide_true, Bool.and_self, if_true, a_atL, Int.toNat_natCast, a_eqI, a_eqS, a_notB, a_addI, w, e]
        by_cases hv : xs.getD i ent0 = ys.getD i ent0
        · simp only [hv]; simp
        · simp only [hv]; simp)
      (by simp [laws_sameLog_t_b0])
    simp only [laws_sameLog_t, a_lenL, he, a_eqI, decide_true, a_notB, Bool.not_true, a_cndS, Bool.false_eq_true, if_false, h]
    by_cases hv : xs = ys <;> simp [hv]
  · have h2 : ¬ (xs.length : Int) = ys.length := by omega
    have h3 : ¬ xs = ys := fun e => he (by rw [e])
    simp [laws_sameLog_t, h2, h3]
end
end Go.Den.T
