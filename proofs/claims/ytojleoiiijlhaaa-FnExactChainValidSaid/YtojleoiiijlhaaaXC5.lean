/- Drawn laws on configurations. -/
import Derived.Test.YtojleoiiijlhaaaXC3
import Derived.Test.YtojleoiiijlhaaaXE2

namespace Go.Den.T
set_option linter.unusedVariables false
set_option linter.unusedSimpArgs false
variable {A : Atoms} [IsReal A]
end Go.Den.T
