/- Drawn laws on configurations: members one after the other, members taken away. -/
import Derived.Test.YtkgmjndeeljpjaaXC5

namespace Go.Den.T
set_option linter.unusedVariables false
set_option linter.unusedSimpArgs false
variable {A : Atoms} [IsReal A]
/-! ### a member taken away -/
end Go.Den.T
