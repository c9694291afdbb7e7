/- The exact law on events, as the row takes it. -/
import Derived.Test.YtbfndjfjkkfaeaaXDm3
import Derived.Test.YtbfndjfjkkfaeaaXV1
set_option linter.unusedVariables false
set_option linter.unusedSimpArgs false
namespace Go.Den.T
end Go.Den.T
