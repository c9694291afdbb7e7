/- Drawn laws: a member added, the tail, the target of copies. -/
import Derived.Test.YtcpcboccflpbdaaXC4
import Derived.Test.YtcpcboccflpbdaaXC6
import Derived.Test.YtcpcboccflpbdaaXD2
import Derived.Test.YtcpcboccflpbdaaXTr3

namespace Go.Den.T
set_option linter.unusedVariables false
set_option linter.unusedSimpArgs false
set_option linter.unusedSectionVars false
section
variable {A : Atoms} [IsReal A]
/-! ### a member added -/
end
end Go.Den.T
