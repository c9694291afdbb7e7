/- Drawn configurations, and the first law. -/
import Derived.Test.YtkgmjndeeljpjaaXC2

namespace Go.Den.T
set_option linter.unusedVariables false
set_option linter.unusedSimpArgs false
variable {A : Atoms} [IsReal A]
theorem keyRank_aa (k : Nat) : impl_KeyRank_t real (k + 10) ([97, 97], ()) () = some ((1, ()), ()) := by rfl
theorem keyRank_nil (k : Nat) : impl_KeyRank_t real (k + 10) ([], ()) () = some ((-1, ()), ()) := by rfl
theorem alive_eq (k : Nat) (hk : 10 ≤ k) : laws_alive_t A k () () = some ((true, ()), ()) := by
  obtain ⟨k, rfl⟩ : ∃ q, k = q + 10 := ⟨k - 10, by omega⟩
  have e1 := keyRank_aa k
  have e2 := keyRank_nil k
  rw [← IsReal.eq (A := A)] at e1 e2
  simp [laws_alive_t, e1, e2]
end Go.Den.T
