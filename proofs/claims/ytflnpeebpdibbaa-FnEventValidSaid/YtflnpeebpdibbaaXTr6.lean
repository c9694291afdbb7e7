/- A part of the proof of a law: see the text of the row. -/
import Derived.Test.YtflnpeebpdibbaaXTr4
set_option linter.unusedSimpArgs false
namespace Go.Den.T
set_option linter.unusedVariables false
set_option maxRecDepth 1000000
def spec_l10Copy_t (A : Atoms) (k : Nat) (a : ((((List UInt8) × ((List UInt8) × Unit)) × ((List ((List UInt8) × (Int × Unit))) × ((List (Int × (Int × (Int × Unit)))) × (Bool × ((List UInt8) × Unit))))) × Unit)) (rd : Unit) : (Option (((((List UInt8) × ((List UInt8) × Unit)) × ((List ((List UInt8) × (Int × Unit))) × ((List (Int × (Int × (Int × Unit)))) × (Bool × ((List UInt8) × Unit))))) × Unit) × Unit)) :=
  (A.cndS (A.ltI (A.addI (A.lenL ([] : List ((List UInt8) × (Int × Unit)))) (A.lenL a.1.2.1)) A.big) (A.cndS (A.ltI (A.addI (A.lenL ([] : List (Int × (Int × (Int × Unit))))) (A.lenL a.1.2.2.1)) A.big) (some (((a.1.1, ((A.appL ([] : List ((List UInt8) × (Int × Unit))) a.1.2.1), ((A.appL ([] : List (Int × (Int × (Int × Unit)))) a.1.2.2.1), (a.1.2.2.2.1, (a.1.2.2.2.2.1, ()))))), ()), ())) none) none)
end Go.Den.T
