/- Drawn laws on configurations. -/
import Derived.Test.YtkgmjndeeljpjaaXC3
import Derived.Test.YtkgmjndeeljpjaaXE2

namespace Go.Den.T
set_option linter.unusedVariables false
set_option linter.unusedSimpArgs false
variable {A : Atoms} [IsReal A]
end Go.Den.T
