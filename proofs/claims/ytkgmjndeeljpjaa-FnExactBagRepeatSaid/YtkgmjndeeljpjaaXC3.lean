/- Drawn configurations, and the first law. -/
import Derived.Test.YtkgmjndeeljpjaaXC2

namespace Go.Den.T
set_option linter.unusedVariables false
set_option linter.unusedSimpArgs false
variable {A : Atoms} [IsReal A]
/-- a configuration whose lists are short -/
def Short (c : Cfg) : Prop := c.2.1.length ≤ 100
end Go.Den.T
