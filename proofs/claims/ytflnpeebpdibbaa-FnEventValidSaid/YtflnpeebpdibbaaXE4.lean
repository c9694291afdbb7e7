/- Exact laws: lists of entries, replicas, messages. -/
import Derived.Test.YtflnpeebpdibbaaXTr2
import Derived.Test.YtflnpeebpdibbaaXV1

namespace Go.Den.T
set_option linter.unusedVariables false
set_option linter.unusedSimpArgs false
set_option linter.unusedSectionVars false
variable {A : Atoms} [IsReal A]
/-! ### loops over lists -/
/-! ### entries -/
instance : DecidableEq Cmd := inferInstanceAs (DecidableEq (Int × (List UInt8 × (Int × (Int × Unit)))))
instance : DecidableEq Ent := inferInstanceAs (DecidableEq (Int × (Int × (Cmd × Unit))))
/-! ### replicas -/
abbrev Rep := Cfg × (Bool × (List Ent × Unit))
abbrev Msg := Int × (Int × (Int × (Cfg × (List Ent × Unit))))
instance : DecidableEq Cfg := inferInstanceAs (DecidableEq (Int × (List Int × (Bool × Unit))))
instance : DecidableEq Rep := inferInstanceAs (DecidableEq (Cfg × (Bool × (List Ent × Unit))))
set_option synthInstance.maxSize 1000 in
instance : DecidableEq Msg := inferInstanceAs (DecidableEq (Int × (Int × (Int × (Cfg × (List Ent × Unit))))))
end Go.Den.T
