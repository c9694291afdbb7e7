/- What is drawn: logs, replicas; and the law on replicas. -/
import Derived.Test.YtkgmjndeeljpjaaXD1
import Derived.Test.YtkgmjndeeljpjaaXE4

namespace Go.Den.T
set_option linter.unusedVariables false
set_option linter.unusedSimpArgs false
set_option linter.unusedSectionVars false
variable {A : Atoms} [IsReal A]
def LogS (l : List Ent) : Prop := l.length ≤ 30 ∧ ∀ e ∈ l, EntS e
end Go.Den.T
