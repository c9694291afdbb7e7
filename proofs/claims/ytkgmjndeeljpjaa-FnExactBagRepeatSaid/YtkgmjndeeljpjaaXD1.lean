/- What is drawn: keys, values, commands, entries, logs, replicas. -/
import Derived.Test.YtkgmjndeeljpjaaXC3
import Derived.Test.YtkgmjndeeljpjaaXTr2
import Derived.Test.YtkgmjndeeljpjaaXV1

namespace Go.Den.T
set_option linter.unusedVariables false
set_option linter.unusedSimpArgs false
set_option linter.unusedSectionVars false
variable {A : Atoms} [IsReal A]
/-- a command whose key is short -/
def CmdS (c : Cmd) : Prop := c.2.1.length ≤ 8
def EntS (e : Ent) : Prop := CmdS e.2.2.1
end Go.Den.T
