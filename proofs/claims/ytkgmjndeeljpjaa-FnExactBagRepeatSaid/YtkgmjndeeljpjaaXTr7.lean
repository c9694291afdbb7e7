/- A part of the proof of a law: see the text of the row. -/
import Derived.Test.YtkgmjndeeljpjaaXT
import Derived.Test.YtkgmjndeeljpjaaXTr2
import Derived.Test.YtkgmjndeeljpjaaXTr3
import Derived.Test.YtkgmjndeeljpjaaXTr4
set_option linter.unusedSimpArgs false
namespace Go.Den.T
set_option linter.unusedVariables false
set_option maxRecDepth 1000000
end Go.Den.T
