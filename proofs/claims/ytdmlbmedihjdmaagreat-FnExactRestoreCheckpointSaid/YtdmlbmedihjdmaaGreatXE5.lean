/- Exact laws on replicas and messages. -/
import Derived.Test.YtdmlbmedihjdmaaGreatXE4
import Derived.Test.YtdmlbmedihjdmaaGreatXV2

namespace Go.Den.T
set_option linter.unusedVariables false
set_option linter.unusedSimpArgs false
set_option linter.unusedSectionVars false
section
variable {A : Atoms} [IsReal A]
end
theorem keys_of {l : List TEnt.val} (h : InR (.slice TEnt) l) : ∀ e ∈ (show List Ent from l), e.2.2.1.2.1.length ≤ 9223372036854775807 :=
  fun e he => Nat.le_trans (h.2 e he).2.2.1.2.1 (by decide)
end Go.Den.T
