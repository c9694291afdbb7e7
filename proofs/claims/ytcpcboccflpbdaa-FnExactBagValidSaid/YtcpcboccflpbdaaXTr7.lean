/- A part of the proof of a law: see the text of the row. -/
import Derived.Test.YtcpcboccflpbdaaXTr4
set_option linter.unusedSimpArgs false
namespace Go.Den.T
set_option linter.unusedVariables false
set_option maxRecDepth 1000000
def laws_FnExactBagValid_t (A : Atoms) (k : Nat) (a : ((List (Int × (Int × (Int × ((Int × ((List Int) × (Bool × Unit))) × ((List (Int × (Int × ((Int × ((List UInt8) × (Int × (Int × Unit)))) × Unit)))) × Unit)))))) × Unit)) (rd : Unit) : (Option ((Bool × Unit) × Unit)) :=
  (A.obind (laws_szMessageS_t A k (a.1, ((1048576 : Int), ())) ()) (fun r0 => (A.cndS (A.ltI r0.1.1 0) (some ((true, ()), ())) (A.obind (laws_toMessageS_t A k (a.1, ()) ()) (fun r1 => (A.obind (spec_BagValid_t A k (r1.1.1, ()) ()) (fun r2 => (A.obind (laws_toMessageS_t A k (a.1, ()) ()) (fun r3 => (A.obind (impl_BagValid_t A k (r3.1.1, ()) ()) (fun r4 => (A.cndS (A.notB (A.eqB r4.1.1 r2.1.1)) (some ((false, ()), ())) (A.obind (laws_toMessageS_t A k (a.1, ()) ()) (fun r5 => (A.obind (laws_eqMessageS_t A k (r3.1.1, (r5.1.1, ())) ()) (fun r6 => (A.cndS (A.notB r6.1.1) (some ((false, ()), ())) (some ((true, ()), ())))))))))))))))))))
end Go.Den.T
