/- What is drawn: keys, values, commands, entries, logs, replicas. -/
import Derived.Test.YtojleoiiijlhaaaXC3
import Derived.Test.YtojleoiiijlhaaaXTr2
import Derived.Test.YtojleoiiijlhaaaXV1

namespace Go.Den.T
set_option linter.unusedVariables false
set_option linter.unusedSimpArgs false
set_option linter.unusedSectionVars false
variable {A : Atoms} [IsReal A]
end Go.Den.T
