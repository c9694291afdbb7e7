/- Marks on entries, and on what bears them. -/
import Derived.Test.YtkgmjndeeljpjaaXE5
import Derived.Test.YtkgmjndeeljpjaaXTr3

namespace Go.Den.T
set_option linter.unusedVariables false
set_option linter.unusedSimpArgs false
set_option linter.unusedSectionVars false
section
variable {A : Atoms} [IsReal A]
/-- the text that marks a number -/
def mtx (A : Atoms) (k : Nat) (n : Int) : List UInt8 := match laws_markText_t A k (n, ()) () with
  | some r => r.1.1
  | none => []
def mE (A : Atoms) (k : Nat) (n : Int) : Ent := (n, (n + 1, ((n + 2, (mtx A k (n + 3), (n + 4, (n + 5, ())))), ())))
def marksE (A : Atoms) (k : Nat) (n : Int) (m : Nat) : List Ent := (List.range m).map fun i : Nat => mE A k (n + 6 * (i : Int))
@[simp] theorem marksE_len (k : Nat) (n : Int) (m : Nat) : (marksE A k n m).length = m := by simp [marksE]
end
end Go.Den.T
