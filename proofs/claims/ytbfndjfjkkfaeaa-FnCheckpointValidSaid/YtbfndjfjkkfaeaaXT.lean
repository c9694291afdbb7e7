/- A part of the proof of a law: see the text of the row. -/
import Derived.Test.YtbfndjfjkkfaeaaXDm3

set_option linter.unusedVariables false
set_option linter.unusedSimpArgs false
namespace Go.Den.T
set_option linter.unusedVariables false
set_option maxRecDepth 1000000
def spec_l1In_t (A : Atoms) (k : Nat) (a : (Int × (Int × (Int × Unit)))) (rd : Unit) : (Option ((Bool × Unit) × Unit)) :=
  (A.cndS (A.leI a.2.1 a.1) (some (((A.cndS true (A.leI a.1 a.2.2.1) false), ()), ())) (some ((false, ()), ())))
def spec_KeyValid_t_b0 (A : Atoms) (k : Nat) (s : ((List UInt8) × (Int × Unit))) : (Option (((List UInt8) × (Int × Unit)) ⊕ (Unit ⊕ ((Bool × Unit) × Unit)))) :=
  (A.cndS (A.ltI s.2.1 (A.lenL s.1)) (A.cndS (A.andB (A.le0 s.2.1) (A.ltI s.2.1 (A.lenL s.1))) (A.cndS (A.ltI (A.u8i (A.atL s.1 s.2.1 0)) 97) (some (.inr (.inr ((false, ()), ())))) (A.cndS (A.andB (A.le0 s.2.1) (A.ltI s.2.1 (A.lenL s.1))) (A.cndS (A.cndS false true (A.ltI 122 (A.u8i (A.atL s.1 s.2.1 0)))) (some (.inr (.inr ((false, ()), ())))) (some (.inl (s.1, ((A.wrapI .i64 (A.addI s.2.1 1)), ()))))) none)) none) (some (.inr (.inl ()))))
def spec_KeyValid_t (A : Atoms) (k : Nat) (a : ((List UInt8) × Unit)) (rd : Unit) : (Option ((Bool × Unit) × Unit)) :=
  (A.obind (spec_l1In_t A k ((A.lenL a.1), ((1 : Int), ((4 : Int), ()))) ()) (fun r0 => (A.cndS (A.notB r0.1.1) (some ((false, ()), ())) (A.obind (A.iter k (spec_KeyValid_t_b0 A k) (a.1, ((0 : Int), ()))) (fun r1 => (A.sumE r1 (fun e2 => (some ((true, ()), ()))) (fun e3 => (some e3))))))))
def impl_seqValid_t (A : Atoms) (k : Nat) (a : (Int × Unit)) (rd : Unit) : (Option ((Bool × Unit) × Unit)) :=
  (A.cndS (A.leI 1 a.1) (some (((A.cndS true (A.leI a.1 999) false), ()), ())) (some ((false, ()), ())))
def impl_lettersOnly_t (A : Atoms) : Nat → ((List UInt8) × Unit) → Unit → (Option ((Bool × Unit) × Unit))
  | 0, _, _ => none
  | k + 1, a, rd =>
  (A.cndS (A.eqS a.1 ([] : List UInt8)) (some ((true, ()), ())) (A.cndS (A.andB (A.le0 0) (A.ltI 0 (A.lenL a.1))) (A.cndS (A.leI 97 (A.u8i (A.atL a.1 0 0))) (A.cndS (A.andB (A.le0 0) (A.ltI 0 (A.lenL a.1))) (A.cndS (A.cndS true (A.leI (A.u8i (A.atL a.1 0 0)) 122) false) (A.cndS (A.andB (A.le0 1) (A.leI 1 (A.lenL a.1))) (A.obind (impl_lettersOnly_t A k ((A.dropL a.1 1), ()) ()) (fun r0 => (some (((A.cndS true r0.1.1 false), ()), ())))) none) (some ((false, ()), ()))) none) (some ((false, ()), ()))) none))
def impl_KeyValid_t (A : Atoms) (k : Nat) (a : ((List UInt8) × Unit)) (rd : Unit) : (Option ((Bool × Unit) × Unit)) :=
  (A.cndS (A.ltI (A.lenL a.1) 1) (some ((false, ()), ())) (A.cndS (A.cndS false true (A.ltI 4 (A.lenL a.1))) (some ((false, ()), ())) (A.obind (impl_lettersOnly_t A k (a.1, ()) ()) (fun r0 => (some ((r0.1.1, ()), ()))))))
def impl_valueValid_t (A : Atoms) (k : Nat) (a : (Int × Unit)) (rd : Unit) : (Option ((Bool × Unit) × Unit)) :=
  (A.cndS (A.leI 0 a.1) (some (((A.cndS true (A.leI a.1 999) false), ()), ())) (some ((false, ()), ())))
def spec_l20Open_t (A : Atoms) (k : Nat) (a : ((List Int) × Unit)) (rd : Unit) : (Option (((List Int) × (Int × Unit)) × Unit)) :=
  (A.obind (A.cndS (A.ltI 2000 (A.lenL a.1)) (A.cndS (A.andB (A.le0 2000) (A.leI 2000 (A.lenL a.1))) (some ((A.takeL a.1 2000), ())) none) (some (a.1, ()))) (fun r0 => (some ((r0.1, ((0 : Int), ())), ()))))
def spec_l20Rd_pick_t (A : Atoms) (k : Nat) (a : (Unit × (Int × Unit))) (rd : ((List Int) × (Int × Unit))) : (Option ((Int × Unit) × ((List Int) × (Int × Unit)))) :=
  (A.obind (A.cndS (A.ltI a.2.1 1) (some (.inr (((0 : Int), ()), (rd.1, ((A.wrapI .i64 (A.addI rd.2.1 1)), rd.2.2))))) (A.cndS (A.cndS false true (A.eqI (A.lenL rd.1) 0)) (some (.inr (((0 : Int), ()), (rd.1, ((A.wrapI .i64 (A.addI rd.2.1 1)), rd.2.2))))) (some (.inl (a.2.1, (rd.1, ((A.wrapI .i64 (A.addI rd.2.1 1)), rd.2.2))))))) (fun r0 => (A.sumE r0 (fun e1 => (A.cndS (A.ltI (A.wrapI .i64 (A.subI e1.2.2.1 1)) (A.lenL e1.2.1)) (A.cndS (A.andB (A.le0 (A.wrapI .i64 (A.subI e1.2.2.1 1))) (A.ltI (A.wrapI .i64 (A.subI e1.2.2.1 1)) (A.lenL e1.2.1))) (A.cndS (A.notB (A.eqI e1.1 0)) (some (((A.remI (A.wrapI .i64 (A.atL e1.2.1 (A.wrapI .i64 (A.subI e1.2.2.1 1)) 0)) e1.1), ()), e1.2)) none) none) (A.cndS (A.notB (A.eqI (A.lenL e1.2.1) 0)) (A.cndS (A.andB (A.le0 (A.remI (A.wrapI .i64 (A.subI e1.2.2.1 1)) (A.lenL e1.2.1))) (A.ltI (A.remI (A.wrapI .i64 (A.subI e1.2.2.1 1)) (A.lenL e1.2.1)) (A.lenL e1.2.1))) (A.cndS (A.notB (A.eqI (A.lenL e1.2.1) 0)) (A.cndS (A.andB (A.le0 (A.remI (A.wrapI .i64 (A.addI (A.wrapI .i64 (A.mulI (A.wrapI .i64 (A.subI e1.2.2.1 1)) 7)) 3)) (A.lenL e1.2.1))) (A.ltI (A.remI (A.wrapI .i64 (A.addI (A.wrapI .i64 (A.mulI (A.wrapI .i64 (A.subI e1.2.2.1 1)) 7)) 3)) (A.lenL e1.2.1)) (A.lenL e1.2.1))) (A.cndS (A.notB (A.eqI (A.lenL e1.2.1) 0)) (A.cndS (A.notB (A.eqI 64 0)) (A.cndS (A.notB (A.eqI e1.1 0)) (some (((A.remI (A.xorI .i64 (A.wrapI .i64 (A.addI (A.wrapI .i64 (A.addI (A.wrapI .i64 (A.addI (A.wrapI .i64 (A.mulI (A.wrapI .i64 (A.atL e1.2.1 (A.remI (A.wrapI .i64 (A.subI e1.2.2.1 1)) (A.lenL e1.2.1)) 0)) 131)) (A.wrapI .i64 (A.mulI (A.wrapI .i64 (A.atL e1.2.1 (A.remI (A.wrapI .i64 (A.addI (A.wrapI .i64 (A.mulI (A.wrapI .i64 (A.subI e1.2.2.1 1)) 7)) 3)) (A.lenL e1.2.1)) 0)) 1117)))) (A.wrapI .i64 (A.mulI (A.wrapI .i64 (A.subI e1.2.2.1 1)) 29)))) (A.wrapI .i64 (A.mulI (A.wrapI .i64 (A.quoI (A.wrapI .i64 (A.subI e1.2.2.1 1)) (A.lenL e1.2.1))) 53)))) (A.wrapI .i64 (A.quoI (A.wrapI .i64 (A.addI (A.wrapI .i64 (A.addI (A.wrapI .i64 (A.addI (A.wrapI .i64 (A.mulI (A.wrapI .i64 (A.atL e1.2.1 (A.remI (A.wrapI .i64 (A.subI e1.2.2.1 1)) (A.lenL e1.2.1)) 0)) 131)) (A.wrapI .i64 (A.mulI (A.wrapI .i64 (A.atL e1.2.1 (A.remI (A.wrapI .i64 (A.addI (A.wrapI .i64 (A.mulI (A.wrapI .i64 (A.subI e1.2.2.1 1)) 7)) 3)) (A.lenL e1.2.1)) 0)) 1117)))) (A.wrapI .i64 (A.mulI (A.wrapI .i64 (A.subI e1.2.2.1 1)) 29)))) (A.wrapI .i64 (A.mulI (A.wrapI .i64 (A.quoI (A.wrapI .i64 (A.subI e1.2.2.1 1)) (A.lenL e1.2.1))) 53)))) 64))) e1.1), ()), e1.2)) none) none) none) none) none) none) none))) (fun e2 => (some e2)))))
def spec_l20Rd_odd_t (A : Atoms) (k : Nat) (a : (Unit × (Int × Unit))) (rd : ((List Int) × (Int × Unit))) : (Option ((Bool × Unit) × ((List Int) × (Int × Unit)))) :=
  (A.cndS (A.ltI 0 a.2.1) (A.obind (spec_l20Rd_pick_t A k ((), (a.2.1, ())) rd) (fun r0 => (some (((A.cndS true (A.eqI r0.1.1 (A.wrapI .i64 (A.subI a.2.1 1))) false), ()), r0.2)))) (some ((false, ()), rd)))
def impl_keysFrom_t (A : Atoms) : Nat → (Int × Unit) → Unit → (Option ((Int × Unit) × Unit))
  | 0, _, _ => none
  | k + 1, a, rd =>
  (A.cndS (A.leI 4 a.1) (some (((1 : Int), ()), ())) (A.obind (impl_keysFrom_t A k ((A.wrapI .i64 (A.addI a.1 1)), ()) ()) (fun r0 => (some (((A.wrapI .i64 (A.addI 1 (A.wrapI .i64 (A.mulI 26 r0.1.1)))), ()), ())))))
def impl_rankBelow_t (A : Atoms) : Nat → ((List UInt8) × (Int × Unit)) → Unit → (Option ((Int × Unit) × Unit))
  | 0, _, _ => none
  | k + 1, a, rd =>
  (A.cndS (A.eqS a.1 ([] : List UInt8)) (some (((0 : Int), ()), ())) (A.cndS (A.andB (A.le0 0) (A.ltI 0 (A.lenL a.1))) (A.obind (impl_keysFrom_t A k (a.2.1, ()) ()) (fun r0 => (A.cndS (A.andB (A.le0 1) (A.leI 1 (A.lenL a.1))) (A.obind (impl_rankBelow_t A k ((A.dropL a.1 1), ((A.wrapI .i64 (A.addI a.2.1 1)), ())) ()) (fun r1 => (some (((A.wrapI .i64 (A.addI (A.wrapI .i64 (A.addI 1 (A.wrapI .i64 (A.mulI (A.wrapI .i64 (A.wrapI .u8 (A.subI (A.u8i (A.atL a.1 0 0)) 97))) r0.1.1)))) r1.1.1)), ()), ())))) none))) none))
def impl_KeyRank_t (A : Atoms) (k : Nat) (a : ((List UInt8) × Unit)) (rd : Unit) : (Option ((Int × Unit) × Unit)) :=
  (A.obind (impl_KeyValid_t A k (a.1, ()) ()) (fun r0 => (A.cndS (A.notB r0.1.1) (some ((((-1) : Int), ()), ())) (A.obind (impl_rankBelow_t A k (a.1, ((1 : Int), ())) ()) (fun r1 => (some (((A.wrapI .i64 (A.subI r1.1.1 1)), ()), ())))))))
def laws_alive_t (A : Atoms) (k : Nat) (a : Unit) (rd : Unit) : (Option ((Bool × Unit) × Unit)) :=
  (A.obind (impl_KeyRank_t A k (((97 : UInt8) :: ((97 : UInt8) :: ([] : List UInt8))), ()) ()) (fun r0 => (A.cndS (A.eqI r0.1.1 1) (A.obind (impl_KeyRank_t A k (([] : List UInt8), ()) ()) (fun r1 => (some (((A.cndS true (A.eqI r1.1.1 (-1)) false), ()), ())))) (some ((false, ()), ())))))
end Go.Den.T
