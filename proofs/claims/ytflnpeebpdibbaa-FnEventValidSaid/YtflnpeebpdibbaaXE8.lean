/- The exact law on checkpoints. -/
import Derived.Test.YtflnpeebpdibbaaXE7
import Derived.Test.YtflnpeebpdibbaaXV2

namespace Go.Den.T
set_option linter.unusedVariables false
set_option linter.unusedSimpArgs false
set_option linter.unusedSectionVars false
section
variable {A : Atoms} [IsReal A]
instance : DecidableEq Pair := inferInstanceAs (DecidableEq (List UInt8 × (Int × Unit)))
instance : DecidableEq Ses := inferInstanceAs (DecidableEq (Int × (Int × (Int × Unit))))
instance : DecidableEq Itv := inferInstanceAs (DecidableEq (List UInt8 × (List UInt8 × Unit)))
set_option synthInstance.maxSize 2000 in
instance : DecidableEq Stt := inferInstanceAs (DecidableEq (Itv × (List Pair × (List Ses × (Bool × (List UInt8 × Unit))))))
instance : DecidableEq Chk := inferInstanceAs (DecidableEq (Int × (Stt × Unit)))
end
end Go.Den.T
