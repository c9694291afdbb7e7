/- Disks: writes appended; the law. -/
import Derived.Test.YtcpcboccflpbdaaXB2

namespace Go.Den.T
set_option linter.unusedVariables false
set_option linter.unusedSimpArgs false
set_option linter.unusedSectionVars false
section
variable {A : Atoms} [IsReal A]
end
end Go.Den.T
