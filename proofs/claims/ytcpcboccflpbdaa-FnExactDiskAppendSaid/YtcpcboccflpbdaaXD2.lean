/- What is drawn: logs, replicas; and the law on replicas. -/
import Derived.Test.YtcpcboccflpbdaaXD1
import Derived.Test.YtcpcboccflpbdaaXE4

namespace Go.Den.T
set_option linter.unusedVariables false
set_option linter.unusedSimpArgs false
set_option linter.unusedSectionVars false
variable {A : Atoms} [IsReal A]
end Go.Den.T
