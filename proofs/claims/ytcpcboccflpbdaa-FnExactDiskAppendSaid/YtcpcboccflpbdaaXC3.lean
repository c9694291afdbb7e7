/- Drawn configurations, and the first law. -/
import Derived.Test.YtcpcboccflpbdaaXC2

namespace Go.Den.T
set_option linter.unusedVariables false
set_option linter.unusedSimpArgs false
variable {A : Atoms} [IsReal A]
end Go.Den.T
