/- Disks: crashes and syncs; the law on syncs. -/
import Derived.Test.YtcpcboccflpbdaaXC5
import Derived.Test.YtcpcboccflpbdaaXK4

namespace Go.Den.T
set_option linter.unusedVariables false
set_option linter.unusedSimpArgs false
set_option linter.unusedSectionVars false
section
variable {A : Atoms} [IsReal A]
/-- a disk whose lists fit -/
def DskF (d : Dsk) : Prop := d.1.length ≤ 1000000000 ∧ ∀ w ∈ d.2.1, w.length ≤ 1000000000
theorem DskT.f {d : Dsk} (h : DskT d) : DskF d := h.fit
end
end Go.Den.T
