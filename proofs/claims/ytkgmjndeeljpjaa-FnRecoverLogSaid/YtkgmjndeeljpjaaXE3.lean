/- Exact laws on configurations, as the rows take them. -/
import Derived.Test.YtkgmjndeeljpjaaXDm3
import Derived.Test.YtkgmjndeeljpjaaXE2
set_option linter.unusedVariables false
set_option linter.unusedSimpArgs false
namespace Go.Den.T
end Go.Den.T
