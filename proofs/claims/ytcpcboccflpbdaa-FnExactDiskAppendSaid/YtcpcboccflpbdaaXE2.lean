/- The program's functions on configurations; exact laws on configurations. -/
import Derived.Test.YtcpcboccflpbdaaXE1

namespace Go.Den.T
set_option linter.unusedVariables false
set_option linter.unusedSimpArgs false
variable {A : Atoms} [IsReal A]
theorem copyOf_int_eq (k : Nat) (xs : List Int) (h : xs.length ≤ 1000000000) : impl_copyOf_int_t A k (xs, ()) () = some ((xs, ()), ()) := by
  have : (xs.length : Int) < 4294967296 := by omega
  simp [impl_copyOf_int_t, this]
/-! ### a member taken away -/
/-! ### exact laws -/
end Go.Den.T
