/- Drawn laws: a member added, the tail, the target of copies. -/
import Derived.Test.YtdmlbmedihjdmaaGreatXC4
import Derived.Test.YtdmlbmedihjdmaaGreatXC6
import Derived.Test.YtdmlbmedihjdmaaGreatXD2
import Derived.Test.YtdmlbmedihjdmaaGreatXTr3

namespace Go.Den.T
set_option linter.unusedVariables false
set_option linter.unusedSimpArgs false
set_option linter.unusedSectionVars false
section
variable {A : Atoms} [IsReal A]
/-! ### a member added -/
end
end Go.Den.T
