/- Laws whose argument is a code. -/
import Derived.Test.YtcpcboccflpbdaaXC3
import Derived.Test.YtcpcboccflpbdaaXDm4
set_option linter.unusedVariables false
set_option linter.unusedSimpArgs false
namespace Go.Den.T
end Go.Den.T
