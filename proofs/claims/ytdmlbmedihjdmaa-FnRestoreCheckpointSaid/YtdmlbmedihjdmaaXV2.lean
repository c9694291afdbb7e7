/- The exact law on events, as the row takes it. -/
import Derived.Test.YtdmlbmedihjdmaaXDm3
import Derived.Test.YtdmlbmedihjdmaaXV1
set_option linter.unusedVariables false
set_option linter.unusedSimpArgs false
namespace Go.Den.T
end Go.Den.T
