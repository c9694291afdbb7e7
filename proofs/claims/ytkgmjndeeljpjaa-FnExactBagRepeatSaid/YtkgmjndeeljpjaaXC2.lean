/- The reader of codes. -/
import Derived.Test.YtkgmjndeeljpjaaXC1

namespace Go.Den.T
set_option linter.unusedVariables false
set_option linter.unusedSimpArgs false
variable {A : Atoms} [IsReal A]
end Go.Den.T
