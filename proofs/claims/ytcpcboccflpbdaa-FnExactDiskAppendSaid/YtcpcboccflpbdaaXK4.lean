/- Disks drawn; the law on valid disks. -/
import Derived.Test.YtcpcboccflpbdaaXC4
import Derived.Test.YtcpcboccflpbdaaXK3

namespace Go.Den.T
set_option linter.unusedVariables false
set_option linter.unusedSimpArgs false
set_option linter.unusedSectionVars false
section
variable {A : Atoms} [IsReal A]
abbrev dsk0 : Dsk := ([], ([], ()))
theorem DskS.fit {d : Dsk} (h : DskS d) : d.1.length ≤ 1000000000 ∧ ∀ w ∈ d.2.1, w.length ≤ 1000000000 := ⟨by have := h.1; omega, fun w hw => by have := h.2.2 w hw; omega⟩
def DskT (d : Dsk) : Prop := d.1.length ≤ 200000 ∧ d.2.1.length ≤ 2000 ∧ ∀ w ∈ d.2.1, w.length ≤ 200000
theorem DskS.t {d : Dsk} (h : DskS d) : DskT d := ⟨by have := h.1; omega, by have := h.2.1; omega, fun w hw => by have := h.2.2 w hw; omega⟩
theorem DskT.fit {d : Dsk} (h : DskT d) : d.1.length ≤ 1000000000 ∧ ∀ w ∈ d.2.1, w.length ≤ 1000000000 := ⟨by have := h.1; omega, fun w hw => by have := h.2.2 w hw; omega⟩
end
end Go.Den.T
