/- Exact laws on configurations, as the rows take them. -/
import Derived.Test.YtojleoiiijlhaaaXDm3
import Derived.Test.YtojleoiiijlhaaaXE2
set_option linter.unusedVariables false
set_option linter.unusedSimpArgs false
namespace Go.Den.T
end Go.Den.T
