/- The exact law on events, as the row takes it. -/
import Derived.Test.YtkgmjndeeljpjaaXDm4
import Derived.Test.YtkgmjndeeljpjaaXV1
set_option linter.unusedVariables false
set_option linter.unusedSimpArgs false
namespace Go.Den.T
abbrev TCmd : Ty := .prod (.int .i64) (.prod .str (.prod (.int .i64) (.prod (.int .i64) .unit)))
abbrev TEnt : Ty := .prod (.int .i64) (.prod (.int .i64) (.prod TCmd .unit))
end Go.Den.T
