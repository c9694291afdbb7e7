/- The exact law on events, as the row takes it. -/
import Derived.Test.YtojleoiiijlhaaaXDm3
import Derived.Test.YtojleoiiijlhaaaXV1
set_option linter.unusedVariables false
set_option linter.unusedSimpArgs false
namespace Go.Den.T
abbrev TCmd : Ty := .prod (.int .i64) (.prod .str (.prod (.int .i64) (.prod (.int .i64) .unit)))
abbrev TEnt : Ty := .prod (.int .i64) (.prod (.int .i64) (.prod TCmd .unit))
end Go.Den.T
