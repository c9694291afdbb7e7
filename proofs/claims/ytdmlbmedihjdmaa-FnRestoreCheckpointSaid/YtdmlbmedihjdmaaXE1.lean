/- Exact laws: copies, marks, what is held. -/
import Derived.Test.YtdmlbmedihjdmaaXC1

namespace Go.Den.T
set_option linter.unusedVariables false
set_option linter.unusedSimpArgs false
variable {A : Atoms} [IsReal A]
theorem list_eq_iff {xs ys : List Int} (h : xs.length = ys.length) : (List.range xs.length).all (fun i => decide (xs.getD i 0 = ys.getD i 0)) = decide (xs = ys) := by
  rw [Bool.eq_iff_iff, range_all, decide_eq_true_eq]
  constructor
  · intro hh
    refine List.ext_getElem h fun i h1 h2 => ?_
    have := hh i h1
    rw [getD_lt h1, getD_lt h2] at this; simpa using this
  · intro e i _; subst e; simp
/-- the numbers n, n+1, .. -/
def marks (n : Int) (m : Nat) : List Int := (List.range m).map fun i : Nat => n + (i : Int)
@[simp] theorem marks_len (n : Int) (m : Nat) : (marks n m).length = m := by simp [marks]
end Go.Den.T
