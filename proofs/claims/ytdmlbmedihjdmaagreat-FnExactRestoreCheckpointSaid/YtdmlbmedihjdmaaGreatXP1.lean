/- Draws of intervals, pairs, sessions, states, checkpoints; the law FnCheckpointValid. -/
import Derived.Test.YtdmlbmedihjdmaaGreatXD3
import Derived.Test.YtdmlbmedihjdmaaGreatXE8
import Derived.Test.YtdmlbmedihjdmaaGreatXTr3

namespace Go.Den.T
set_option linter.unusedVariables false
set_option linter.unusedSimpArgs false
set_option linter.unusedSectionVars false
section
variable {A : Atoms} [IsReal A]
theorem in_bounds {α : Type} {l : List α} {i : Int} (h0 : 0 ≤ i) (h1 : i < l.length) : A.andB (A.le0 i) (A.ltI i (A.lenL l)) = true := by simp [h0, h1]
end
end Go.Den.T
