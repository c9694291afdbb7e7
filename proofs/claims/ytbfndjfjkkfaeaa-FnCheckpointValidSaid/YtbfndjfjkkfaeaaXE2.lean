/- The program's functions on configurations; exact laws on configurations. -/
import Derived.Test.YtbfndjfjkkfaeaaXE1

namespace Go.Den.T
set_option linter.unusedVariables false
set_option linter.unusedSimpArgs false
variable {A : Atoms} [IsReal A]
/-! ### a member taken away -/
/-! ### exact laws -/
end Go.Den.T
