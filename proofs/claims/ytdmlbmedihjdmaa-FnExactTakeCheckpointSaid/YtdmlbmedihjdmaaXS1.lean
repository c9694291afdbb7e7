/- Entries submitted. -/
import Derived.Test.YtdmlbmedihjdmaaXE3
import Derived.Test.YtdmlbmedihjdmaaXM1
import Derived.Test.YtdmlbmedihjdmaaXR5

namespace Go.Den.T
set_option linter.unusedVariables false
set_option linter.unusedSimpArgs false
set_option linter.unusedSectionVars false
section
variable {A : Atoms} [IsReal A]
end
end Go.Den.T
