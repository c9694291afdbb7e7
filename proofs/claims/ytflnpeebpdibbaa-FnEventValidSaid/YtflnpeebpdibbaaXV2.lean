/- The exact law on events, as the row takes it. -/
import Derived.Test.YtflnpeebpdibbaaXDm3
import Derived.Test.YtflnpeebpdibbaaXV1
set_option linter.unusedVariables false
set_option linter.unusedSimpArgs false
namespace Go.Den.T
end Go.Den.T
