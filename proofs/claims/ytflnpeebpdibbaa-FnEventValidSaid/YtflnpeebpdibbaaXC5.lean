/- Drawn laws on configurations. -/
import Derived.Test.YtflnpeebpdibbaaXC3
import Derived.Test.YtflnpeebpdibbaaXE2

namespace Go.Den.T
set_option linter.unusedVariables false
set_option linter.unusedSimpArgs false
variable {A : Atoms} [IsReal A]
theorem Node_ok (k : Nat) (n N : Int) (r : Rd) (h : RdOk N r) (hp : N ≤ 900000000) (hn : n ≤ 1000000000) : Ok (spec_l20Node_t A k ((), (n, ())) r) (fun q => RdOk (N + 2) q.2 ∧ -1 ≤ q.1.1 ∧ q.1.1 ≤ 5) := by
  rw [spec_l20Node_t]
  refine (odd_ok k n N r h (by omega) (by omega)).bind fun q hq => ?_
  rw [ok_cndS]
  refine ⟨fun _ => ?_, fun _ => ?_⟩
  · refine (pick_ok k 2 _ _ hq (by omega) (by omega)).bind fun q1 hq1 => ?_
    have b1 := hq1.2.1
    have b2 := hq1.2.2.2.1 (by omega)
    rw [ok_cndS]
    refine ⟨fun _ => ok_some.2 ⟨hq1.1.le (by omega), ?_⟩, fun hc => ?_⟩
    · rw [a_atL]
      have : ∀ i : Nat, i < 2 → -1 ≤ ([-1, 5] : List Int).getD i 0 ∧ ([-1, 5] : List Int).getD i 0 ≤ 5 := by
        intro i hi
        rcases i with _ | _ | i <;> simp
      exact this _ (by omega)
    · simp at hc; omega
  · refine (pick_ok k 5 _ _ hq (by omega) (by omega)).bind fun q1 hq1 => ?_
    have b1 := hq1.2.1
    have b2 := hq1.2.2.2.1 (by omega)
    exact ok_some.2 ⟨hq1.1.le (by omega), by show -1 ≤ q1.1.1; omega, by show q1.1.1 ≤ 5; omega⟩
end Go.Den.T
