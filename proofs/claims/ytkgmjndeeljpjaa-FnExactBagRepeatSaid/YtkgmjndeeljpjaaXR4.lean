/- Copies taken. -/
import Derived.Test.YtkgmjndeeljpjaaXR3

namespace Go.Den.T
set_option linter.unusedVariables false
set_option linter.unusedSimpArgs false
set_option linter.unusedSectionVars false
section
variable {A : Atoms} [IsReal A]
theorem copyOf_Entry_eq (k : Nat) (l : List Ent) (h : l.length ≤ 1000000000) : impl_copyOf_Entry_t A k (l, ()) () = some ((l, ()), ()) := by
  have : (l.length : Int) < 4294967296 := by omega
  simp [impl_copyOf_Entry_t, this]
end
end Go.Den.T
