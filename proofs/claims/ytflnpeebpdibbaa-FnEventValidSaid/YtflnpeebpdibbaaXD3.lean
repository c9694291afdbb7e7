/- The drawn law on replicas, as the row takes it. -/
import Derived.Test.YtflnpeebpdibbaaXC4
import Derived.Test.YtflnpeebpdibbaaXD2
set_option linter.unusedVariables false
set_option linter.unusedSimpArgs false
namespace Go.Den.T
end Go.Den.T
