/- The program's functions on configurations; exact laws on configurations. -/
import Derived.Test.YtojleoiiijlhaaaXE1

namespace Go.Den.T
set_option linter.unusedVariables false
set_option linter.unusedSimpArgs false
variable {A : Atoms} [IsReal A]
def after (c : Cfg) (n : Int) : Int := if (cfgOk c && (decide (n ∈ c.2.1) && !decide (idx c.2.1 n = (c.2.1.length : Int) - 1))) = true then c.2.1.getD (idx c.2.1 n + 1).toNat 0 else -1
/-! ### a member taken away -/
/-! ### exact laws -/
end Go.Den.T
