/- Drawn laws on configurations. -/
import Derived.Test.YtkgmjndeeljpjaaXC3
import Derived.Test.YtkgmjndeeljpjaaXE2

namespace Go.Den.T
set_option linter.unusedVariables false
set_option linter.unusedSimpArgs false
variable {A : Atoms} [IsReal A]
theorem sameInts_eq (k : Nat) (xs ys : List Int) (hk : xs.length < k) (hl : xs.length ≤ 1000000000) : laws_sameInts_t A k (xs, (ys, ())) () = some ((decide (xs = ys), ()), ()) := by
  by_cases he : xs.length = ys.length
  · have h := iter_all (A := A) (f := laws_sameInts_t_b0 A k) (fun i => (xs, (ys, ((i : Int), ())))) xs.length (fun i => decide (xs.getD i 0 = ys.getD i 0)) (.inr ((false, ()), ())) (.inl ())
      (fun i hi => by
        have hi' : i < ys.length := by omega
        simp (disch := omega) [laws_sameInts_t_b0, hi, hi', a_wrap]
        by_cases hv : xs[i] = ys[i] <;> simp [hv])
      (by simp [laws_sameInts_t_b0]) hk
    rw [list_eq_iff he] at h
    simp [laws_sameInts_t, he]
    simp at h
    rw [h]
    by_cases hv : xs = ys <;> simp [hv]
  · have h2 : ¬ (xs.length : Int) = ys.length := by omega
    have h3 : ¬ xs = ys := fun e => he (by rw [e])
    simp [laws_sameInts_t, h2, h3]
end Go.Den.T
