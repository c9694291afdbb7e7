/- The laws on checkpoints taken and restored. -/
import Derived.Test.YtdmlbmedihjdmaaGreatXC5
import Derived.Test.YtdmlbmedihjdmaaGreatXP7

namespace Go.Den.T
set_option linter.unusedVariables false
set_option linter.unusedSimpArgs false
set_option linter.unusedSectionVars false
section
variable {A : Atoms} [IsReal A]
end
end Go.Den.T
