/- Exact laws: copies, marks, what is held. -/
import Derived.Test.YtkgmjndeeljpjaaXC1

namespace Go.Den.T
set_option linter.unusedVariables false
set_option linter.unusedSimpArgs false
variable {A : Atoms} [IsReal A]
theorem fill_step {α : Type} (xs : List α) (d e : α) (i n : Nat) (hn : n = xs.length) (h : i < n) : (xs.take i ++ List.replicate (n - i) d).set i (xs.getD i e) = xs.take (i + 1) ++ List.replicate (n - (i + 1)) d := by
  subst hn
  rw [List.set_append_right _ _ (by simp; omega)]
  have e1 : i - (xs.take i).length = 0 := by simp; omega
  have e2 : xs.length - i = (xs.length - (i + 1)) + 1 := by omega
  rw [e1, e2, List.replicate_succ, List.set_cons_zero, List.take_succ_eq_append_getElem h, getD_lt h, List.append_assoc]
  rfl
theorem list_eq_iff {xs ys : List Int} (h : xs.length = ys.length) : (List.range xs.length).all (fun i => decide (xs.getD i 0 = ys.getD i 0)) = decide (xs = ys) := by
  rw [Bool.eq_iff_iff, range_all, decide_eq_true_eq]
  constructor
  · intro hh
    refine List.ext_getElem h fun i h1 h2 => ?_
    have := hh i h1
    rw [getD_lt h1, getD_lt h2] at this; simpa using this
  · intro e i _; subst e; simp
/-- the numbers n, n+1, .. -/
def marks (n : Int) (m : Nat) : List Int := (List.range m).map fun i : Nat => n + (i : Int)
@[simp] theorem marks_len (n : Int) (m : Nat) : (marks n m).length = m := by simp [marks]
end Go.Den.T
