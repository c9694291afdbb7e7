/- What is drawn of disks. -/
import Derived.Test.YtcpcboccflpbdaaXK2

namespace Go.Den.T
set_option linter.unusedVariables false
set_option linter.unusedSimpArgs false
set_option linter.unusedSectionVars false
variable {A : Atoms} [IsReal A]
end Go.Den.T
