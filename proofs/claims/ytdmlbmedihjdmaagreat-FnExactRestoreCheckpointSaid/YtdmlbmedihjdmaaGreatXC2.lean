/- The reader of codes. -/
import Derived.Test.YtdmlbmedihjdmaaGreatXC1

namespace Go.Den.T
set_option linter.unusedVariables false
set_option linter.unusedSimpArgs false
variable {A : Atoms} [IsReal A]
abbrev Rd := List Int × (Int × Unit)
/-- a reader in use: bytes, and a place that is small -/
def RdOk (N : Int) (r : Rd) : Prop := (∀ x ∈ r.1, 0 ≤ x ∧ x ≤ 255) ∧ r.1.length ≤ 2000 ∧ 0 ≤ r.2.1 ∧ r.2.1 ≤ N
theorem RdOk.le {N M : Int} {r : Rd} (h : RdOk N r) (hm : N ≤ M) : RdOk M r := ⟨h.1, h.2.1, h.2.2.1, Int.le_trans h.2.2.2 hm⟩
end Go.Den.T
