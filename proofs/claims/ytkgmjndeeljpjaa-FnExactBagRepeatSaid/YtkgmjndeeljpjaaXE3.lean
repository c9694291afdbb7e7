/- Exact laws on configurations, as the rows take them. -/
import Derived.Test.YtkgmjndeeljpjaaXDm4
import Derived.Test.YtkgmjndeeljpjaaXE2
set_option linter.unusedVariables false
set_option linter.unusedSimpArgs false
namespace Go.Den.T
theorem len_of {t : Ty} {xs : List t.val} (h : InR (.slice t) xs) : xs.length ≤ 9223372036854775807 := Nat.le_trans h.1 (by decide)
end Go.Den.T
