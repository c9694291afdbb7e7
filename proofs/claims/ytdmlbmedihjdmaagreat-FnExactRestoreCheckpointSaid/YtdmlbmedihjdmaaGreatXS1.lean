/- Entries submitted. -/
import Derived.Test.YtdmlbmedihjdmaaGreatXE3
import Derived.Test.YtdmlbmedihjdmaaGreatXM1
import Derived.Test.YtdmlbmedihjdmaaGreatXR5

namespace Go.Den.T
set_option linter.unusedVariables false
set_option linter.unusedSimpArgs false
set_option linter.unusedSectionVars false
section
variable {A : Atoms} [IsReal A]
end
end Go.Den.T
