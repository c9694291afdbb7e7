/- Disks: the program's check, and what encoding comes to. -/
import Derived.Test.YtkgmjndeeljpjaaXD2
import Derived.Test.YtkgmjndeeljpjaaXK1

namespace Go.Den.T
set_option linter.unusedVariables false
set_option linter.unusedSimpArgs false
set_option linter.unusedSectionVars false
variable {A : Atoms} [IsReal A]
/-- a disk whose lists are short -/
def DskS (d : Dsk) : Prop := d.1.length ≤ 100000 ∧ d.2.1.length ≤ 1000 ∧ ∀ w ∈ d.2.1, w.length ≤ 100000
/-! ### numbers and texts, encoded -/
end Go.Den.T
