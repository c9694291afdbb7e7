/- Drawn laws on configurations. -/
import Derived.Test.YtdmlbmedihjdmaaGreatXC3
import Derived.Test.YtdmlbmedihjdmaaGreatXE2

namespace Go.Den.T
set_option linter.unusedVariables false
set_option linter.unusedSimpArgs false
variable {A : Atoms} [IsReal A]
end Go.Den.T
