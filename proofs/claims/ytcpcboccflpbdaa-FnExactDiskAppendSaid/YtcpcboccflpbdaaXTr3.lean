/- A part of the proof of a law: see the text of the row. -/
import Derived.Test.YtcpcboccflpbdaaXTr2
set_option linter.unusedSimpArgs false
namespace Go.Den.T
set_option linter.unusedVariables false
set_option maxRecDepth 1000000
end Go.Den.T
