/- The exact law on events, as the row takes it. -/
import Derived.Test.YtkgmjndeeljpjaaXDm3
import Derived.Test.YtkgmjndeeljpjaaXV1
set_option linter.unusedVariables false
set_option linter.unusedSimpArgs false
namespace Go.Den.T
end Go.Den.T
