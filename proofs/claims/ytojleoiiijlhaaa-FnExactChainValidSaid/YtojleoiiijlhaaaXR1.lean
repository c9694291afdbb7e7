/- Drawn laws: a member added, the tail, the target of copies. -/
import Derived.Test.YtojleoiiijlhaaaXC4
import Derived.Test.YtojleoiiijlhaaaXC6
import Derived.Test.YtojleoiiijlhaaaXD2
import Derived.Test.YtojleoiiijlhaaaXTr3

namespace Go.Den.T
set_option linter.unusedVariables false
set_option linter.unusedSimpArgs false
set_option linter.unusedSectionVars false
section
variable {A : Atoms} [IsReal A]
/-! ### a member added -/
end
end Go.Den.T
