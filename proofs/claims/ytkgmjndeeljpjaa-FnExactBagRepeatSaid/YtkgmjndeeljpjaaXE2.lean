/- The program's functions on configurations; exact laws on configurations. -/
import Derived.Test.YtkgmjndeeljpjaaXE1

namespace Go.Den.T
set_option linter.unusedVariables false
set_option linter.unusedSimpArgs false
variable {A : Atoms} [IsReal A]
theorem copyOf_int_eq (k : Nat) (xs : List Int) (h : xs.length ≤ 1000000000) : impl_copyOf_int_t A k (xs, ()) () = some ((xs, ()), ()) := by
  have : (xs.length : Int) < 4294967296 := by omega
  simp [impl_copyOf_int_t, this]
theorem copyConfig_eq (k : Nat) (c : Cfg) (h : c.2.1.length ≤ 1000000000) : impl_copyConfig_t A k (c, ()) () = some ((c, ()), ()) := by
  simp [impl_copyConfig_t, copyOf_int_eq k c.2.1 h]
def after (c : Cfg) (n : Int) : Int := if (cfgOk c && (decide (n ∈ c.2.1) && !decide (idx c.2.1 n = (c.2.1.length : Int) - 1))) = true then c.2.1.getD (idx c.2.1 n + 1).toNat 0 else -1
/-! ### a member taken away -/
/-! ### exact laws -/
end Go.Den.T
