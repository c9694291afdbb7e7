/- Drawn laws: a member added, the tail, the target of copies. -/
import Derived.Test.YtkgmjndeeljpjaaXC4
import Derived.Test.YtkgmjndeeljpjaaXC6
import Derived.Test.YtkgmjndeeljpjaaXD2
import Derived.Test.YtkgmjndeeljpjaaXTr3

namespace Go.Den.T
set_option linter.unusedVariables false
set_option linter.unusedSimpArgs false
set_option linter.unusedSectionVars false
section
variable {A : Atoms} [IsReal A]
/-! ### a member added -/
end
end Go.Den.T
