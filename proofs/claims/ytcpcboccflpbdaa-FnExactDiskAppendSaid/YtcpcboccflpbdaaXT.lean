/- A part of the proof of a law: see the text of the row. -/
import Derived.Test.YtcpcboccflpbdaaXDm4
set_option linter.unusedSimpArgs false
namespace Go.Den.T
set_option linter.unusedVariables false
set_option maxRecDepth 1000000
def laws_szIntS_t (A : Atoms) (k : Nat) (a : ((List Int) × (Int × Unit))) (rd : Unit) : (Option ((Int × Unit) × Unit)) :=
  (A.cndS (A.ltI (A.wrapI .i64 (A.subI a.2.1 (A.lenL a.1))) 0) (some ((((-1) : Int), ()), ())) (some (((A.wrapI .i64 (A.subI a.2.1 (A.lenL a.1))), ()), ())))
def laws_toIntS_t_b0 (A : Atoms) (k : Nat) (s : ((List Int) × (Int × ((List Int) × Unit)))) : (Option (((List Int) × (Int × ((List Int) × Unit))) ⊕ ((List Int) × Unit))) :=
  (A.cndS (A.ltI s.2.1 (A.lenL s.1)) (A.cndS (A.andB (A.le0 s.2.1) (A.ltI s.2.1 (A.lenL s.1))) (A.cndS (A.andB (A.le0 s.2.1) (A.ltI s.2.1 (A.lenL s.2.2.1))) (A.cndS (A.andB (A.le0 s.2.1) (A.ltI s.2.1 (A.lenL s.2.2.1))) (some (.inl (s.1, ((A.wrapI .i64 (A.addI s.2.1 1)), ((A.setL s.2.2.1 s.2.1 (A.atL s.1 s.2.1 0)), ()))))) none) none) none) (some (.inr (s.2.2.1, ()))))
def laws_toIntS_t (A : Atoms) (k : Nat) (a : ((List Int) × Unit)) (rd : Unit) : (Option (((List Int) × Unit) × Unit)) :=
  (A.cndS (A.andB (A.le0 (A.lenL a.1)) (A.andB (A.leI (A.lenL a.1) (A.lenL a.1)) (A.ltI (A.lenL a.1) A.big))) (A.obind (A.iter k (laws_toIntS_t_b0 A k) (a.1, ((0 : Int), ((A.repL (A.lenL a.1) (0 : Int)), ())))) (fun r0 => (some ((r0.1, ()), ())))) none)
def spec_l1In_t (A : Atoms) (k : Nat) (a : (Int × (Int × (Int × Unit)))) (rd : Unit) : (Option ((Bool × Unit) × Unit)) :=
  (A.cndS (A.leI a.2.1 a.1) (some (((A.cndS true (A.leI a.1 a.2.2.1) false), ()), ())) (some ((false, ()), ())))
def laws_eqIntS_t_b0 (A : Atoms) (k : Nat) (s : ((List Int) × ((List Int) × (Int × Unit)))) : (Option (((List Int) × ((List Int) × (Int × Unit))) ⊕ (Unit ⊕ ((Bool × Unit) × Unit)))) :=
  (A.cndS (A.ltI s.2.2.1 (A.lenL s.1)) (A.cndS (A.andB (A.le0 s.2.2.1) (A.ltI s.2.2.1 (A.lenL s.1))) (A.cndS (A.andB (A.le0 s.2.2.1) (A.ltI s.2.2.1 (A.lenL s.2.1))) (A.cndS (A.notB (A.eqI (A.atL s.1 s.2.2.1 0) (A.atL s.2.1 s.2.2.1 0))) (some (.inr (.inr ((false, ()), ())))) (some (.inl (s.1, (s.2.1, ((A.wrapI .i64 (A.addI s.2.2.1 1)), ())))))) none) none) (some (.inr (.inl ()))))
def laws_eqIntS_t (A : Atoms) (k : Nat) (a : ((List Int) × ((List Int) × Unit))) (rd : Unit) : (Option ((Bool × Unit) × Unit)) :=
  (A.cndS (A.notB (A.eqI (A.lenL a.1) (A.lenL a.2.1))) (some ((false, ()), ())) (A.obind (A.iter k (laws_eqIntS_t_b0 A k) (a.1, (a.2.1, ((0 : Int), ())))) (fun r0 => (A.sumE r0 (fun e1 => (some ((true, ()), ()))) (fun e2 => (some e2))))))
def impl_copyOf_int_t (A : Atoms) (k : Nat) (a : ((List Int) × Unit)) (rd : Unit) : (Option (((List Int) × Unit) × Unit)) :=
  (A.cndS (A.ltI (A.addI (A.lenL ([] : List Int)) (A.lenL a.1)) A.big) (some (((A.appL ([] : List Int) a.1), ()), ())) none)
def laws_markIntS_t_b0 (A : Atoms) (k : Nat) (s : (Int × (Int × ((List Int) × Unit)))) : (Option ((Int × (Int × ((List Int) × Unit))) ⊕ (Int × ((List Int) × Unit)))) :=
  (A.cndS (A.ltI s.2.1 (A.lenL s.2.2.1)) (A.cndS (A.andB (A.le0 s.2.1) (A.ltI s.2.1 (A.lenL s.2.2.1))) (A.cndS (A.andB (A.le0 s.2.1) (A.ltI s.2.1 (A.lenL s.2.2.1))) (some (.inl ((A.wrapI .i64 (A.addI s.1 1)), ((A.wrapI .i64 (A.addI s.2.1 1)), ((A.setL s.2.2.1 s.2.1 s.1), ()))))) none) none) (some (.inr (s.1, (s.2.2.1, ())))))
def laws_markIntS_t (A : Atoms) (k : Nat) (a : (Unit × (Int × Unit))) (rd : (List Int)) : (Option ((Int × Unit) × (List Int))) :=
  (A.obind (A.iter k (laws_markIntS_t_b0 A k) (a.2.1, ((0 : Int), (rd, ())))) (fun r0 => (some ((r0.1, ()), r0.2.1))))
def laws_heldIntS_t_b0 (A : Atoms) (k : Nat) (s : ((List Int) × (Int × (Int × Unit)))) : (Option (((List Int) × (Int × (Int × Unit))) ⊕ ((Int × Unit) ⊕ ((Int × Unit) × Unit)))) :=
  (A.cndS (A.ltI s.2.2.1 (A.lenL s.1)) (A.cndS (A.andB (A.le0 s.2.2.1) (A.ltI s.2.2.1 (A.lenL s.1))) (A.cndS (A.notB (A.eqI (A.atL s.1 s.2.2.1 0) s.2.1)) (some (.inr (.inr ((((-1) : Int), ()), ())))) (some (.inl (s.1, ((A.wrapI .i64 (A.addI s.2.1 1)), ((A.wrapI .i64 (A.addI s.2.2.1 1)), ())))))) none) (some (.inr (.inl (s.2.1, ())))))
def laws_heldIntS_t (A : Atoms) (k : Nat) (a : ((List Int) × (Int × Unit))) (rd : Unit) : (Option ((Int × Unit) × Unit)) :=
  (A.obind (A.iter k (laws_heldIntS_t_b0 A k) (a.1, (a.2.1, ((0 : Int), ())))) (fun r0 => (A.sumE r0 (fun e1 => (some ((e1.1, ()), ()))) (fun e2 => (some e2)))))
end Go.Den.T
