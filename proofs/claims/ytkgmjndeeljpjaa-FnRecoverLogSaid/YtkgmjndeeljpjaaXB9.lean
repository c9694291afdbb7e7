/- The laws on logs' bytes and on crashes. -/
import Derived.Test.YtkgmjndeeljpjaaXB8
import Derived.Test.YtkgmjndeeljpjaaXK5
import Derived.Test.YtkgmjndeeljpjaaXR5
import Derived.Test.YtkgmjndeeljpjaaXTr4

namespace Go.Den.T
set_option linter.unusedVariables false
set_option linter.unusedSimpArgs false
set_option linter.unusedSectionVars false
section
variable {A : Atoms} [IsReal A]
end
end Go.Den.T
