/- Laws whose argument is a code. -/
import Derived.Test.YtkgmjndeeljpjaaXC3
import Derived.Test.YtkgmjndeeljpjaaXDm4
set_option linter.unusedVariables false
set_option linter.unusedSimpArgs false
namespace Go.Den.T
end Go.Den.T
