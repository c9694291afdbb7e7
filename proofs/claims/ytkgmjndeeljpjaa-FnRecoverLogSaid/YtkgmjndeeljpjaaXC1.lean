/- Configurations: what the program's and the reference's functions come to. -/
import Derived.Test.YtkgmjndeeljpjaaXPw
import Derived.Test.YtkgmjndeeljpjaaXT

namespace Go.Den.T
set_option linter.unusedVariables false
set_option linter.unusedSimpArgs false
variable {A : Atoms} [IsReal A]
abbrev Cfg := Int × (List Int × (Bool × Unit))

theorem l1In_eq (k : Nat) (v a b : Int) : spec_l1In_t A k (v, (a, (b, ()))) () = some ((decide (a ≤ v ∧ v ≤ b), ()), ()) := by
  simp only [spec_l1In_t, a_cndS, a_leI, if_true, decide_eq_true_eq]
  by_cases h : a ≤ v <;> simp [h]

/-- the first place of a number, or -1 -/
def idx (xs : List Int) (v : Int) : Int := ((List.range xs.length).findSome? fun i => if v = xs.getD i 0 then some (i : Int) else none).getD (-1)
/-! ### valid configurations -/
def membersOk (xs : List Int) : Bool := (List.range xs.length).all fun i => decide (0 ≤ xs.getD i 0 ∧ xs.getD i 0 ≤ 4) && !decide (xs.getD i 0 ∈ xs.take i)
def cfgOk (c : Cfg) : Bool := decide (1 ≤ c.1 ∧ c.1 ≤ 60) && (decide (1 ≤ c.2.1.length ∧ c.2.1.length ≤ 4) && (!(c.2.2.1 && decide (c.2.1.length < 2)) && membersOk c.2.1))

/-! ### the other functions -/
end Go.Den.T
