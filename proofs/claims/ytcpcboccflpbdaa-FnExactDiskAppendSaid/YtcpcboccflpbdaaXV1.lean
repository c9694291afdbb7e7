/- Keys, commands, entries, events: what the program's and the reference's checks come to. -/
import Derived.Test.YtcpcboccflpbdaaXE2

namespace Go.Den.T
set_option linter.unusedVariables false
set_option linter.unusedSimpArgs false
set_option linter.unusedSectionVars false
variable {A : Atoms} [IsReal A]
abbrev Cmd := Int × (List UInt8 × (Int × (Int × Unit)))
abbrev Ent := Int × (Int × (Cmd × Unit))
/-! ### exact -/
end Go.Den.T
