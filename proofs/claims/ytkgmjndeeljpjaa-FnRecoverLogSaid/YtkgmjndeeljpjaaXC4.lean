/- Laws whose argument is a code. -/
import Derived.Test.YtkgmjndeeljpjaaXC3
import Derived.Test.YtkgmjndeeljpjaaXDm3
set_option linter.unusedVariables false
set_option linter.unusedSimpArgs false
namespace Go.Den.T
theorem code_bytes {a : List Int} (h : InR (.slice (.int .u8)) a) : ∀ x ∈ a, 0 ≤ x ∧ x ≤ 255 := by
  intro x hx
  have := h.2 x hx
  simp [InR, Lit.wf, IntKind.min, IntKind.max, IntKind.signed, IntKind.bits] at this
  omega
end Go.Den.T
