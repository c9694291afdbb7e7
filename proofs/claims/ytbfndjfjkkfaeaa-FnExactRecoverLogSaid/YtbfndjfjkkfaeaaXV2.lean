/- The exact law on events, as the row takes it. -/
import Derived.Test.YtbfndjfjkkfaeaaXDm3
import Derived.Test.YtbfndjfjkkfaeaaXV1
set_option linter.unusedVariables false
set_option linter.unusedSimpArgs false
namespace Go.Den.T
abbrev TCmd : Ty := .prod (.int .i64) (.prod .str (.prod (.int .i64) (.prod (.int .i64) .unit)))
abbrev TEnt : Ty := .prod (.int .i64) (.prod (.int .i64) (.prod TCmd .unit))
abbrev TEvt : Ty := .prod (.int .i64) (.prod (.int .i64) (.prod (.int .i64) (.prod TEnt .unit)))
theorem FnExactEventValid_pure (e : TEvt.val) (h : InR TEvt e) : ∃ k, laws_FnExactEventValid_t real k (e, ()) () = some ((true, ()), ()) :=
  haveI := isReal_real
  ⟨10, FnExactEventValid_true 10 (by omega) e (Nat.le_trans h.2.2.2.1.2.2.1.2.1 (by decide))⟩
end Go.Den.T
