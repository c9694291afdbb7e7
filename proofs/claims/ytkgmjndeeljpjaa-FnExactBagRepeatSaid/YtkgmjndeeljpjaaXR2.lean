/- Messages drawn; messages are of one kind. -/
import Derived.Test.YtkgmjndeeljpjaaXR1

namespace Go.Den.T
set_option linter.unusedVariables false
set_option linter.unusedSimpArgs false
set_option linter.unusedSectionVars false
section
variable {A : Atoms} [IsReal A]
def MsgS (m : Msg) : Prop := Short m.2.2.2.1 ∧ LogS m.2.2.2.2.1
end
end Go.Den.T
