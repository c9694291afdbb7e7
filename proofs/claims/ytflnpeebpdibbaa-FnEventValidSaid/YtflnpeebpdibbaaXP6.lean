/- Commands, entries, logs applied: both sides in one form. -/
import Derived.Test.YtflnpeebpdibbaaXP5

namespace Go.Den.T
set_option linter.unusedVariables false
set_option linter.unusedSimpArgs false
set_option linter.unusedSectionVars false
section
variable {A : Atoms} [IsReal A]
/-! ### entries -/
def takes (s : Stt) (c : Cmd) : Bool := if c.1 = 5 then (decide (c.2.1 = []) || (cut s.1 c.2.1).2.2.1) else inside s.1 c.2.1
theorem l10Copy_eq (k : Nat) (s : Stt) (h1 : s.2.1.length ≤ 1000000000) (h2 : s.2.2.1.length ≤ 1000000000) : spec_l10Copy_t A k (s, ()) () = some ((s, ()), ()) := by
  have g1 : (s.2.1.length : Int) < 4294967296 := by omega
  have g2 : (s.2.2.1.length : Int) < 4294967296 := by omega
  simp only [spec_l10Copy_t, a_lenL, List.length_nil, Int.natCast_zero, Int.ofNat_zero, a_addI, Int.zero_add, a_ltI, a_big, g1, g2, decide_true, a_cndS, if_true, a_appL, List.nil_append]
/-! ### validity is kept -/
end
end Go.Den.T
