/- What is drawn: keys, values, commands, entries, logs, replicas. -/
import Derived.Test.YtcpcboccflpbdaaXC3
import Derived.Test.YtcpcboccflpbdaaXTr2
import Derived.Test.YtcpcboccflpbdaaXV1

namespace Go.Den.T
set_option linter.unusedVariables false
set_option linter.unusedSimpArgs false
set_option linter.unusedSectionVars false
variable {A : Atoms} [IsReal A]
end Go.Den.T
