/- Configurations: what the program's and the reference's functions come to. -/
import Derived.Test.YtcpcboccflpbdaaXPw
import Derived.Test.YtcpcboccflpbdaaXT

namespace Go.Den.T
set_option linter.unusedVariables false
set_option linter.unusedSimpArgs false
variable {A : Atoms} [IsReal A]
abbrev Cfg := Int × (List Int × (Bool × Unit))

theorem l1In_eq (k : Nat) (v a b : Int) : spec_l1In_t A k (v, (a, (b, ()))) () = some ((decide (a ≤ v ∧ v ≤ b), ()), ()) := by
  simp only [spec_l1In_t, a_cndS, a_leI, if_true, decide_eq_true_eq]
  by_cases h : a ≤ v <;> simp [h]

/-! ### valid configurations -/
/-! ### the other functions -/
end Go.Den.T
