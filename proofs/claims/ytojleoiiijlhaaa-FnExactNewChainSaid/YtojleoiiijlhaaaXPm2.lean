/- A part of the proof of a law: see the text of the row. -/
import Derived.Test.YtojleoiiijlhaaaXDm4
import Derived.Test.YtojleoiiijlhaaaXPm1
set_option linter.unusedSimpArgs false
namespace Go.Den.T
set_option linter.unusedVariables false
set_option maxRecDepth 1000000
def laws_markMessageS_t_b0 (A : Atoms) (k : Nat) (s : (Int × (Int × ((List TyM) × Unit)))) : (Option ((Int × (Int × ((List TyM) × Unit))) ⊕ (Int × ((List TyM) × Unit)))) :=
  (A.cndS (A.ltI s.2.1 (A.lenL s.2.2.1)) (A.obind (A.cndS (A.andB (A.le0 s.2.1) (A.ltI s.2.1 (A.lenL s.2.2.1))) (A.cndS (A.andB (A.le0 s.2.1) (A.ltI s.2.1 (A.lenL s.2.2.1))) (some (s.1,(s.2.1,((A.setL s.2.2.1 s.2.1 (s.1,(A.atL s.2.2.1 s.2.1 dfM).2)),())))) none) none) (fun r0=>(A.obind (A.cndS (A.andB (A.le0 r0.2.1) (A.ltI r0.2.1 (A.lenL r0.2.2.1))) (A.cndS (A.andB (A.le0 r0.2.1) (A.ltI r0.2.1 (A.lenL r0.2.2.1))) (some ((A.wrapI .i64 (A.addI r0.1 1)),(r0.2.1,((A.setL r0.2.2.1 r0.2.1 ((A.atL r0.2.2.1 r0.2.1 dfM).1,((A.wrapI .i64 (A.addI r0.1 1)),(A.atL r0.2.2.1 r0.2.1 dfM).2.2))),())))) none) none) (fun r1=>(A.obind (A.cndS (A.andB (A.le0 r1.2.1) (A.ltI r1.2.1 (A.lenL r1.2.2.1))) (A.cndS (A.andB (A.le0 r1.2.1) (A.ltI r1.2.1 (A.lenL r1.2.2.1))) (some ((A.wrapI .i64 (A.addI r1.1 1)),(r1.2.1,((A.setL r1.2.2.1 r1.2.1 ((A.atL r1.2.2.1 r1.2.1 dfM).1,((A.atL r1.2.2.1 r1.2.1 dfM).2.1,((A.wrapI .i64 (A.addI r1.1 1)),(A.atL r1.2.2.1 r1.2.1 dfM).2.2.2)))),())))) none) none) (fun r2=>(A.obind (A.cndS (A.andB (A.le0 r2.2.1) (A.ltI r2.2.1 (A.lenL r2.2.2.1))) (A.cndS (A.andB (A.le0 r2.2.1) (A.ltI r2.2.1 (A.lenL r2.2.2.1))) (some ((A.wrapI .i64 (A.addI r2.1 1)),(r2.2.1,((A.setL r2.2.2.1 r2.2.1 ((A.atL r2.2.2.1 r2.2.1 dfM).1,((A.atL r2.2.2.1 r2.2.1 dfM).2.1,((A.atL r2.2.2.1 r2.2.1 dfM).2.2.1,(((A.wrapI .i64 (A.addI r2.1 1)),(A.atL r2.2.2.1 r2.2.1 dfM).2.2.2.1.2),(A.atL r2.2.2.1 r2.2.1 dfM).2.2.2.2))))),())))) none) none) (fun r3=>(A.cndS (A.andB (A.le0 r3.2.1) (A.ltI r3.2.1 (A.lenL r3.2.2.1))) (A.cndS (A.andB (A.le0 r3.2.1) (A.ltI r3.2.1 (A.lenL r3.2.2.1))) (A.obind (laws_markIntS_t A k ((),((A.wrapI .i64 (A.addI r3.1 1)),())) (A.atL r3.2.2.1 r3.2.1 dfM).2.2.2.1.2.1) (fun r4=>(A.obind (A.cndS (A.notB (A.eqI 3 0)) (A.cndS (A.andB (A.le0 r3.2.1) (A.ltI r3.2.1 (A.lenL (A.setL r3.2.2.1 r3.2.1 ((A.atL r3.2.2.1 r3.2.1 dfM).1,((A.atL r3.2.2.1 r3.2.1 dfM).2.1,((A.atL r3.2.2.1 r3.2.1 dfM).2.2.1,(((A.atL r3.2.2.1 r3.2.1 dfM).2.2.2.1.1,(r4.2,(A.atL r3.2.2.1 r3.2.1 dfM).2.2.2.1.2.2)),(A.atL r3.2.2.1 r3.2.1 dfM).2.2.2.2)))))))) (A.cndS (A.andB (A.le0 r3.2.1) (A.ltI r3.2.1 (A.lenL (A.setL r3.2.2.1 r3.2.1 ((A.atL r3.2.2.1 r3.2.1 dfM).1,((A.atL r3.2.2.1 r3.2.1 dfM).2.1,((A.atL r3.2.2.1 r3.2.1 dfM).2.2.1,(((A.atL r3.2.2.1 r3.2.1 dfM).2.2.2.1.1,(r4.2,(A.atL r3.2.2.1 r3.2.1 dfM).2.2.2.1.2.2)),(A.atL r3.2.2.1 r3.2.1 dfM).2.2.2.2)))))))) (some (r4.1.1,(r3.2.1,((A.setL (A.setL r3.2.2.1 r3.2.1 ((A.atL r3.2.2.1 r3.2.1 dfM).1,((A.atL r3.2.2.1 r3.2.1 dfM).2.1,((A.atL r3.2.2.1 r3.2.1 dfM).2.2.1,(((A.atL r3.2.2.1 r3.2.1 dfM).2.2.2.1.1,(r4.2,(A.atL r3.2.2.1 r3.2.1 dfM).2.2.2.1.2.2)),(A.atL r3.2.2.1 r3.2.1 dfM).2.2.2.2))))) r3.2.1 ((A.atL (A.setL r3.2.2.1 r3.2.1 ((A.atL r3.2.2.1 r3.2.1 dfM).1,((A.atL r3.2.2.1 r3.2.1 dfM).2.1,((A.atL r3.2.2.1 r3.2.1 dfM).2.2.1,(((A.atL r3.2.2.1 r3.2.1 dfM).2.2.2.1.1,(r4.2,(A.atL r3.2.2.1 r3.2.1 dfM).2.2.2.1.2.2)),(A.atL r3.2.2.1 r3.2.1 dfM).2.2.2.2))))) r3.2.1 dfM).1,((A.atL (A.setL r3.2.2.1 r3.2.1 ((A.atL r3.2.2.1 r3.2.1 dfM).1,((A.atL r3.2.2.1 r3.2.1 dfM).2.1,((A.atL r3.2.2.1 r3.2.1 dfM).2.2.1,(((A.atL r3.2.2.1 r3.2.1 dfM).2.2.2.1.1,(r4.2,(A.atL r3.2.2.1 r3.2.1 dfM).2.2.2.1.2.2)),(A.atL r3.2.2.1 r3.2.1 dfM).2.2.2.2))))) r3.2.1 dfM).2.1,((A.atL (A.setL r3.2.2.1 r3.2.1 ((A.atL r3.2.2.1 r3.2.1 dfM).1,((A.atL r3.2.2.1 r3.2.1 dfM).2.1,((A.atL r3.2.2.1 r3.2.1 dfM).2.2.1,(((A.atL r3.2.2.1 r3.2.1 dfM).2.2.2.1.1,(r4.2,(A.atL r3.2.2.1 r3.2.1 dfM).2.2.2.1.2.2)),(A.atL r3.2.2.1 r3.2.1 dfM).2.2.2.2))))) r3.2.1 dfM).2.2.1,(((A.atL (A.setL r3.2.2.1 r3.2.1 ((A.atL r3.2.2.1 r3.2.1 dfM).1,((A.atL r3.2.2.1 r3.2.1 dfM).2.1,((A.atL r3.2.2.1 r3.2.1 dfM).2.2.1,(((A.atL r3.2.2.1 r3.2.1 dfM).2.2.2.1.1,(r4.2,(A.atL r3.2.2.1 r3.2.1 dfM).2.2.2.1.2.2)),(A.atL r3.2.2.1 r3.2.1 dfM).2.2.2.2))))) r3.2.1 dfM).2.2.2.1.1,((A.atL (A.setL r3.2.2.1 r3.2.1 ((A.atL r3.2.2.1 r3.2.1 dfM).1,((A.atL r3.2.2.1 r3.2.1 dfM).2.1,((A.atL r3.2.2.1 r3.2.1 dfM).2.2.1,(((A.atL r3.2.2.1 r3.2.1 dfM).2.2.2.1.1,(r4.2,(A.atL r3.2.2.1 r3.2.1 dfM).2.2.2.1.2.2)),(A.atL r3.2.2.1 r3.2.1 dfM).2.2.2.2))))) r3.2.1 dfM).2.2.2.1.2.1,((A.eqI (A.remI r4.1.1 3) 0),(A.atL (A.setL r3.2.2.1 r3.2.1 ((A.atL r3.2.2.1 r3.2.1 dfM).1,((A.atL r3.2.2.1 r3.2.1 dfM).2.1,((A.atL r3.2.2.1 r3.2.1 dfM).2.2.1,(((A.atL r3.2.2.1 r3.2.1 dfM).2.2.2.1.1,(r4.2,(A.atL r3.2.2.1 r3.2.1 dfM).2.2.2.1.2.2)),(A.atL r3.2.2.1 r3.2.1 dfM).2.2.2.2))))) r3.2.1 dfM).2.2.2.1.2.2.2))),(A.atL (A.setL r3.2.2.1 r3.2.1 ((A.atL r3.2.2.1 r3.2.1 dfM).1,((A.atL r3.2.2.1 r3.2.1 dfM).2.1,((A.atL r3.2.2.1 r3.2.1 dfM).2.2.1,(((A.atL r3.2.2.1 r3.2.1 dfM).2.2.2.1.1,(r4.2,(A.atL r3.2.2.1 r3.2.1 dfM).2.2.2.1.2.2)),(A.atL r3.2.2.1 r3.2.1 dfM).2.2.2.2))))) r3.2.1 dfM).2.2.2.2))))),())))) none) none) none) (fun r5=>(A.cndS (A.andB (A.le0 r5.2.1) (A.ltI r5.2.1 (A.lenL r5.2.2.1))) (A.cndS (A.andB (A.le0 r5.2.1) (A.ltI r5.2.1 (A.lenL r5.2.2.1))) (A.obind (laws_markEntryS_t A k ((),((A.wrapI .i64 (A.addI r5.1 1)),())) (A.atL r5.2.2.1 r5.2.1 dfM).2.2.2.2.1) (fun r6=>(some (.inl (r6.1.1,((A.wrapI .i64 (A.addI r5.2.1 1)),((A.setL r5.2.2.1 r5.2.1 ((A.atL r5.2.2.1 r5.2.1 dfM).1,((A.atL r5.2.2.1 r5.2.1 dfM).2.1,((A.atL r5.2.2.1 r5.2.1 dfM).2.2.1,((A.atL r5.2.2.1 r5.2.1 dfM).2.2.2.1,(r6.2,(A.atL r5.2.2.1 r5.2.1 dfM).2.2.2.2.2)))))),()))))))) none) none))))) none) none))))))))) (some (.inr (s.1,(s.2.2.1,())))))
def laws_markMessageS_t (A : Atoms) (k : Nat) (a : (Unit × (Int × Unit))) (rd : (List TyM)) : (Option ((Int × Unit) × (List TyM))) :=
  (A.obind (A.iter k (laws_markMessageS_t_b0 A k) (a.2.1,((0 : Int),(rd,())))) (fun r0=>(some ((r0.1,()),r0.2.1))))
end Go.Den.T
namespace Go.Den.T
set_option linter.unusedVariables false
set_option maxRecDepth 1000000
def spec_NewChain_t_b0 (A : Atoms) (k : Nat) (s : (Int × (TyH × (TyC × (TyH × Unit))))) : (Option ((Int × (TyH × (TyC × (TyH × Unit)))) ⊕ (TyH × (TyH × Unit)))) :=
  (A.cndS (A.ltI s.1 5) (A.obind (A.obind (spec_l16Index_t A k (s.2.2.1,(s.1,())) ()) (fun r0=>(A.cndS (A.leI 0 r0.1.1) (A.obind (spec_l16Copy_t A k (s.2.2.1,()) ()) (fun r1=>(some (s.1,(s.2.1,(s.2.2.1,(s.2.2.2.1,((r1.1.1,(true,(([] : List TyE),()))),())))))))) (some (s.1,(s.2.1,(s.2.2.1,(s.2.2.2.1,(dfR,()))))))))) (fun r2=>(A.cndS (A.ltI (A.addI (A.lenL r2.2.2.2.1.2.2.1) (A.lenL (r2.2.2.2.2.1 :: ([] : List TyR)))) A.big) (A.cndS (A.ltI (A.addI (A.lenL r2.2.2.2.1.2.2.2.1) (A.lenL (true :: ([] : List Bool)))) A.big) (some (.inl ((A.wrapI .i64 (A.addI r2.1 1)),(r2.2.1,(r2.2.2.1,((r2.2.2.2.1.1,(r2.2.2.2.1.2.1,((A.appL r2.2.2.2.1.2.2.1 (r2.2.2.2.2.1 :: ([] : List TyR))),((A.appL r2.2.2.2.1.2.2.2.1 (true :: ([] : List Bool))),r2.2.2.2.1.2.2.2.2)))),())))))) none) none))) (some (.inr (s.2.1,(s.2.2.2.1,())))))
def spec_NewChain_t (A : Atoms) (k : Nat) (a : (TyS × ((List Int) × Unit))) (rd : Unit) : (Option ((TyH × Unit) × Unit)) :=
  (A.cndS (A.ltI (A.addI (A.lenL ([] : List Int)) (A.lenL a.2.1)) A.big) (A.obind (A.obind (spec_StateValid_t A k (a.1,()) ()) (fun r0=>(A.cndS (A.notB r0.1.1) (some (.inr (((((([] : List UInt8),(([] : List UInt8),())),(([] : List ((List UInt8) × (Int × Unit))),(([] : List (Int × (Int × (Int × Unit)))),(false,(([] : List UInt8),()))))),(((0 : Int),(([] : List Int),(false,()))),(([] : List TyR),(([] : List Bool),(([] : List TyM),(([] : List (TyE × (Int × Unit))),())))))),()),()))) (A.obind (spec_ConfigValid_t A k (((1 : Int),((A.appL ([] : List Int) a.2.1),(false,()))),()) ()) (fun r1=>(A.cndS (A.cndS false true (A.notB r1.1.1)) (some (.inr (((((([] : List UInt8),(([] : List UInt8),())),(([] : List ((List UInt8) × (Int × Unit))),(([] : List (Int × (Int × (Int × Unit)))),(false,(([] : List UInt8),()))))),(((0 : Int),(([] : List Int),(false,()))),(([] : List TyR),(([] : List Bool),(([] : List TyM),(([] : List (TyE × (Int × Unit))),())))))),()),()))) (some (.inl (a.1,((((([] : List UInt8),(([] : List UInt8),())),(([] : List ((List UInt8) × (Int × Unit))),(([] : List (Int × (Int × (Int × Unit)))),(false,(([] : List UInt8),()))))),(((0 : Int),(([] : List Int),(false,()))),(([] : List TyR),(([] : List Bool),(([] : List TyM),(([] : List (TyE × (Int × Unit))),())))))),(((1 : Int),((A.appL ([] : List Int) a.2.1),(false,()))),()))))))))))) (fun r2=>(A.sumE r2 (fun e3=>(A.obind (spec_l10Copy_t A k (e3.1,()) ()) (fun r4=>(A.obind (A.iter k (spec_NewChain_t_b0 A k) ((0 : Int),(e3.2.1,(e3.2.2.1,((r4.1.1,(e3.2.2.1,(([] : List TyR),(([] : List Bool),(([] : List TyM),(([] : List (TyE × (Int × Unit))),())))))),()))))) (fun r5=>(some ((r5.2.1,()),()))))))) (fun e6=>(some e6))))) none)
def impl_NewChain_t_b0 (A : Atoms) (k : Nat) (s : ((List Int) × (Int × (Int × (TyH × (TyH × Unit)))))) : (Option (((List Int) × (Int × (Int × (TyH × (TyH × Unit))))) ⊕ (TyH × (TyH × Unit)))) :=
  (A.cndS (A.ltI s.2.2.1 s.2.1) (A.cndS (A.ltI (A.addI (A.lenL s.2.2.2.2.1.2.2.2.1) (A.lenL (true :: ([] : List Bool)))) A.big) (A.obind (slices_Contains_int_t A k (s.1,(s.2.2.1,())) ()) (fun r0=>(A.cndS r0.1.1 (A.obind (impl_copyConfig_t A k (s.2.2.2.2.1.2.1,()) ()) (fun r1=>(A.cndS (A.andB (A.le0 s.2.2.1) (A.ltI s.2.2.1 (A.lenL s.2.2.2.2.1.2.2.1))) (A.cndS (A.andB (A.le0 s.2.2.1) (A.ltI s.2.2.1 (A.lenL s.2.2.2.2.1.2.2.1))) (some (.inl (s.1,(s.2.1,((A.wrapI .i64 (A.addI s.2.2.1 1)),(s.2.2.2.1,((s.2.2.2.2.1.1,(s.2.2.2.2.1.2.1,((A.setL s.2.2.2.2.1.2.2.1 s.2.2.1 (r1.1.1,(true,(([] : List TyE),())))),((A.appL s.2.2.2.2.1.2.2.2.1 (true :: ([] : List Bool))),(s.2.2.2.2.1.2.2.2.2.1,(s.2.2.2.2.1.2.2.2.2.2.1,())))))),()))))))) none) none))) (some (.inl (s.1,(s.2.1,((A.wrapI .i64 (A.addI s.2.2.1 1)),(s.2.2.2.1,((s.2.2.2.2.1.1,(s.2.2.2.2.1.2.1,(s.2.2.2.2.1.2.2.1,((A.appL s.2.2.2.2.1.2.2.2.1 (true :: ([] : List Bool))),(s.2.2.2.2.1.2.2.2.2.1,(s.2.2.2.2.1.2.2.2.2.2.1,())))))),())))))))))) none) (some (.inr (s.2.2.2.1,(s.2.2.2.2.1,())))))
def impl_NewChain_t (A : Atoms) (k : Nat) (a : (TyS × ((List Int) × Unit))) (rd : Unit) : (Option ((TyH × Unit) × Unit)) :=
  (A.obind (impl_copyOf_int_t A k (a.2.1,()) ()) (fun r0=>(A.obind (A.obind (impl_StateValid_t A k (a.1,()) ()) (fun r1=>(A.cndS (A.notB r1.1.1) (some (.inr (((((([] : List UInt8),(([] : List UInt8),())),(([] : List ((List UInt8) × (Int × Unit))),(([] : List (Int × (Int × (Int × Unit)))),(false,(([] : List UInt8),()))))),(((0 : Int),(([] : List Int),(false,()))),(([] : List TyR),(([] : List Bool),(([] : List TyM),(([] : List (TyE × (Int × Unit))),())))))),()),()))) (A.obind (impl_ConfigValid_t A k (((1 : Int),(r0.1.1,(false,()))),()) ()) (fun r2=>(A.cndS (A.cndS false true (A.notB r2.1.1)) (some (.inr (((((([] : List UInt8),(([] : List UInt8),())),(([] : List ((List UInt8) × (Int × Unit))),(([] : List (Int × (Int × (Int × Unit)))),(false,(([] : List UInt8),()))))),(((0 : Int),(([] : List Int),(false,()))),(([] : List TyR),(([] : List Bool),(([] : List TyM),(([] : List (TyE × (Int × Unit))),())))))),()),()))) (some (.inl (a.2.1,(a.1,((((([] : List UInt8),(([] : List UInt8),())),(([] : List ((List UInt8) × (Int × Unit))),(([] : List (Int × (Int × (Int × Unit)))),(false,(([] : List UInt8),()))))),(((0 : Int),(([] : List Int),(false,()))),(([] : List TyR),(([] : List Bool),(([] : List TyM),(([] : List (TyE × (Int × Unit))),())))))),(((1 : Int),(r0.1.1,(false,()))),())))))))))))) (fun r3=>(A.sumE r3 (fun e4=>(A.obind (impl_copyState_t A k (e4.2.1,()) ()) (fun r5=>(A.cndS (A.andB (A.le0 5) (A.andB (A.leI 5 5) (A.ltI 5 A.big))) (A.obind (A.iter k (impl_NewChain_t_b0 A k) (e4.1,((A.lenL (A.repL (5 : Int) dfR)),((0 : Int),(e4.2.2.1,((r5.1.1,(e4.2.2.2.1,((A.repL (5 : Int) dfR),(([] : List Bool),(([] : List TyM),(([] : List (TyE × (Int × Unit))),())))))),())))))) (fun r6=>(some ((r6.2.1,()),())))) none)))) (fun e7=>(some e7)))))))
def laws_eqReplicaS_t_b0 (A : Atoms) (k : Nat) (s : ((List TyR) × ((List TyR) × (Int × Unit)))) : (Option (((List TyR) × ((List TyR) × (Int × Unit))) ⊕ (Unit ⊕ ((Bool × Unit) × Unit)))) :=
  (A.cndS (A.ltI s.2.2.1 (A.lenL s.1)) (A.cndS (A.andB (A.le0 s.2.2.1) (A.ltI s.2.2.1 (A.lenL s.1))) (A.cndS (A.andB (A.le0 s.2.2.1) (A.ltI s.2.2.1 (A.lenL s.2.1))) (A.obind (laws_eqReplica_t A k ((A.atL s.1 s.2.2.1 dfR),((A.atL s.2.1 s.2.2.1 dfR),())) ()) (fun r0=>(A.cndS (A.notB r0.1.1) (some (.inr (.inr ((false,()),())))) (some (.inl (s.1,(s.2.1,((A.wrapI .i64 (A.addI s.2.2.1 1)),())))))))) none) none) (some (.inr (.inl ()))))
def laws_eqReplicaS_t (A : Atoms) (k : Nat) (a : ((List TyR) × ((List TyR) × Unit))) (rd : Unit) : (Option ((Bool × Unit) × Unit)) :=
  (A.cndS (A.notB (A.eqI (A.lenL a.1) (A.lenL a.2.1))) (some ((false,()),())) (A.obind (A.iter k (laws_eqReplicaS_t_b0 A k) (a.1,(a.2.1,((0 : Int),())))) (fun r0=>(A.sumE r0 (fun e1=>(some ((true,()),()))) (fun e2=>(some e2))))))
def laws_eqBoolS_t_b0 (A : Atoms) (k : Nat) (s : ((List Bool) × ((List Bool) × (Int × Unit)))) : (Option (((List Bool) × ((List Bool) × (Int × Unit))) ⊕ (Unit ⊕ ((Bool × Unit) × Unit)))) :=
  (A.cndS (A.ltI s.2.2.1 (A.lenL s.1)) (A.cndS (A.andB (A.le0 s.2.2.1) (A.ltI s.2.2.1 (A.lenL s.1))) (A.cndS (A.andB (A.le0 s.2.2.1) (A.ltI s.2.2.1 (A.lenL s.2.1))) (A.cndS (A.notB (A.eqB (A.atL s.1 s.2.2.1 false) (A.atL s.2.1 s.2.2.1 false))) (some (.inr (.inr ((false,()),())))) (some (.inl (s.1,(s.2.1,((A.wrapI .i64 (A.addI s.2.2.1 1)),())))))) none) none) (some (.inr (.inl ()))))
def laws_eqBoolS_t (A : Atoms) (k : Nat) (a : ((List Bool) × ((List Bool) × Unit))) (rd : Unit) : (Option ((Bool × Unit) × Unit)) :=
  (A.cndS (A.notB (A.eqI (A.lenL a.1) (A.lenL a.2.1))) (some ((false,()),())) (A.obind (A.iter k (laws_eqBoolS_t_b0 A k) (a.1,(a.2.1,((0 : Int),())))) (fun r0=>(A.sumE r0 (fun e1=>(some ((true,()),()))) (fun e2=>(some e2))))))
def laws_eqAnswer_t (A : Atoms) (k : Nat) (a : ((TyE × (Int × Unit)) × ((TyE × (Int × Unit)) × Unit))) (rd : Unit) : (Option ((Bool × Unit) × Unit)) :=
  (A.obind (laws_eqEntry_t A k (a.1.1,(a.2.1.1,())) ()) (fun r0=>(A.cndS (A.notB r0.1.1) (some ((false,()),())) (A.cndS (A.notB (A.eqI a.1.2.1 a.2.1.2.1)) (some ((false,()),())) (some ((true,()),()))))))
def laws_eqAnswerS_t_b0 (A : Atoms) (k : Nat) (s : ((List (TyE × (Int × Unit))) × ((List (TyE × (Int × Unit))) × (Int × Unit)))) : (Option (((List (TyE × (Int × Unit))) × ((List (TyE × (Int × Unit))) × (Int × Unit))) ⊕ (Unit ⊕ ((Bool × Unit) × Unit)))) :=
  (A.cndS (A.ltI s.2.2.1 (A.lenL s.1)) (A.cndS (A.andB (A.le0 s.2.2.1) (A.ltI s.2.2.1 (A.lenL s.1))) (A.cndS (A.andB (A.le0 s.2.2.1) (A.ltI s.2.2.1 (A.lenL s.2.1))) (A.obind (laws_eqAnswer_t A k ((A.atL s.1 s.2.2.1 (dfE,((0 : Int),()))),((A.atL s.2.1 s.2.2.1 (dfE,((0 : Int),()))),())) ()) (fun r0=>(A.cndS (A.notB r0.1.1) (some (.inr (.inr ((false,()),())))) (some (.inl (s.1,(s.2.1,((A.wrapI .i64 (A.addI s.2.2.1 1)),())))))))) none) none) (some (.inr (.inl ()))))
def laws_eqAnswerS_t (A : Atoms) (k : Nat) (a : ((List (TyE × (Int × Unit))) × ((List (TyE × (Int × Unit))) × Unit))) (rd : Unit) : (Option ((Bool × Unit) × Unit)) :=
  (A.cndS (A.notB (A.eqI (A.lenL a.1) (A.lenL a.2.1))) (some ((false,()),())) (A.obind (A.iter k (laws_eqAnswerS_t_b0 A k) (a.1,(a.2.1,((0 : Int),())))) (fun r0=>(A.sumE r0 (fun e1=>(some ((true,()),()))) (fun e2=>(some e2))))))
def laws_eqChain_t (A : Atoms) (k : Nat) (a : (TyH × (TyH × Unit))) (rd : Unit) : (Option ((Bool × Unit) × Unit)) :=
  (A.obind (laws_eqState_t A k (a.1.1,(a.2.1.1,())) ()) (fun r0=>(A.cndS (A.notB r0.1.1) (some ((false,()),())) (A.obind (laws_eqConfig_t A k (a.1.2.1,(a.2.1.2.1,())) ()) (fun r1=>(A.cndS (A.notB r1.1.1) (some ((false,()),())) (A.obind (laws_eqReplicaS_t A k (a.1.2.2.1,(a.2.1.2.2.1,())) ()) (fun r2=>(A.cndS (A.notB r2.1.1) (some ((false,()),())) (A.obind (laws_eqBoolS_t A k (a.1.2.2.2.1,(a.2.1.2.2.2.1,())) ()) (fun r3=>(A.cndS (A.notB r3.1.1) (some ((false,()),())) (A.obind (laws_eqMessageS_t A k (a.1.2.2.2.2.1,(a.2.1.2.2.2.2.1,())) ()) (fun r4=>(A.cndS (A.notB r4.1.1) (some ((false,()),())) (A.obind (laws_eqAnswerS_t A k (a.1.2.2.2.2.2.1,(a.2.1.2.2.2.2.2.1,())) ()) (fun r5=>(A.cndS (A.notB r5.1.1) (some ((false,()),())) (some ((true,()),()))))))))))))))))))))
def laws_markReplicaS_t_b0 (A : Atoms) (k : Nat) (s : (Int × (Int × ((List TyR) × Unit)))) : (Option ((Int × (Int × ((List TyR) × Unit))) ⊕ (Int × ((List TyR) × Unit)))) :=
  (A.cndS (A.ltI s.2.1 (A.lenL s.2.2.1)) (A.obind (A.cndS (A.andB (A.le0 s.2.1) (A.ltI s.2.1 (A.lenL s.2.2.1))) (A.cndS (A.andB (A.le0 s.2.1) (A.ltI s.2.1 (A.lenL s.2.2.1))) (some (s.1,(s.2.1,((A.setL s.2.2.1 s.2.1 ((s.1,(A.atL s.2.2.1 s.2.1 dfR).1.2),(A.atL s.2.2.1 s.2.1 dfR).2)),())))) none) none) (fun r0=>(A.cndS (A.andB (A.le0 r0.2.1) (A.ltI r0.2.1 (A.lenL r0.2.2.1))) (A.cndS (A.andB (A.le0 r0.2.1) (A.ltI r0.2.1 (A.lenL r0.2.2.1))) (A.obind (laws_markIntS_t A k ((),((A.wrapI .i64 (A.addI r0.1 1)),())) (A.atL r0.2.2.1 r0.2.1 dfR).1.2.1) (fun r1=>(A.obind (A.cndS (A.notB (A.eqI 3 0)) (A.cndS (A.andB (A.le0 r0.2.1) (A.ltI r0.2.1 (A.lenL (A.setL r0.2.2.1 r0.2.1 (((A.atL r0.2.2.1 r0.2.1 dfR).1.1,(r1.2,(A.atL r0.2.2.1 r0.2.1 dfR).1.2.2)),(A.atL r0.2.2.1 r0.2.1 dfR).2))))) (A.cndS (A.andB (A.le0 r0.2.1) (A.ltI r0.2.1 (A.lenL (A.setL r0.2.2.1 r0.2.1 (((A.atL r0.2.2.1 r0.2.1 dfR).1.1,(r1.2,(A.atL r0.2.2.1 r0.2.1 dfR).1.2.2)),(A.atL r0.2.2.1 r0.2.1 dfR).2))))) (some (r1.1.1,(r0.2.1,((A.setL (A.setL r0.2.2.1 r0.2.1 (((A.atL r0.2.2.1 r0.2.1 dfR).1.1,(r1.2,(A.atL r0.2.2.1 r0.2.1 dfR).1.2.2)),(A.atL r0.2.2.1 r0.2.1 dfR).2)) r0.2.1 (((A.atL (A.setL r0.2.2.1 r0.2.1 (((A.atL r0.2.2.1 r0.2.1 dfR).1.1,(r1.2,(A.atL r0.2.2.1 r0.2.1 dfR).1.2.2)),(A.atL r0.2.2.1 r0.2.1 dfR).2)) r0.2.1 dfR).1.1,((A.atL (A.setL r0.2.2.1 r0.2.1 (((A.atL r0.2.2.1 r0.2.1 dfR).1.1,(r1.2,(A.atL r0.2.2.1 r0.2.1 dfR).1.2.2)),(A.atL r0.2.2.1 r0.2.1 dfR).2)) r0.2.1 dfR).1.2.1,((A.eqI (A.remI r1.1.1 3) 0),(A.atL (A.setL r0.2.2.1 r0.2.1 (((A.atL r0.2.2.1 r0.2.1 dfR).1.1,(r1.2,(A.atL r0.2.2.1 r0.2.1 dfR).1.2.2)),(A.atL r0.2.2.1 r0.2.1 dfR).2)) r0.2.1 dfR).1.2.2.2))),(A.atL (A.setL r0.2.2.1 r0.2.1 (((A.atL r0.2.2.1 r0.2.1 dfR).1.1,(r1.2,(A.atL r0.2.2.1 r0.2.1 dfR).1.2.2)),(A.atL r0.2.2.1 r0.2.1 dfR).2)) r0.2.1 dfR).2)),())))) none) none) none) (fun r2=>(A.obind (A.cndS (A.notB (A.eqI 3 0)) (A.cndS (A.andB (A.le0 r2.2.1) (A.ltI r2.2.1 (A.lenL r2.2.2.1))) (A.cndS (A.andB (A.le0 r2.2.1) (A.ltI r2.2.1 (A.lenL r2.2.2.1))) (some ((A.wrapI .i64 (A.addI r2.1 1)),(r2.2.1,((A.setL r2.2.2.1 r2.2.1 ((A.atL r2.2.2.1 r2.2.1 dfR).1,((A.eqI (A.remI (A.wrapI .i64 (A.addI r2.1 1)) 3) 0),(A.atL r2.2.2.1 r2.2.1 dfR).2.2))),())))) none) none) none) (fun r3=>(A.cndS (A.andB (A.le0 r3.2.1) (A.ltI r3.2.1 (A.lenL r3.2.2.1))) (A.cndS (A.andB (A.le0 r3.2.1) (A.ltI r3.2.1 (A.lenL r3.2.2.1))) (A.obind (laws_markEntryS_t A k ((),((A.wrapI .i64 (A.addI r3.1 1)),())) (A.atL r3.2.2.1 r3.2.1 dfR).2.2.1) (fun r4=>(some (.inl (r4.1.1,((A.wrapI .i64 (A.addI r3.2.1 1)),((A.setL r3.2.2.1 r3.2.1 ((A.atL r3.2.2.1 r3.2.1 dfR).1,((A.atL r3.2.2.1 r3.2.1 dfR).2.1,(r4.2,(A.atL r3.2.2.1 r3.2.1 dfR).2.2.2)))),()))))))) none) none))))))) none) none))) (some (.inr (s.1,(s.2.2.1,())))))
def laws_markReplicaS_t (A : Atoms) (k : Nat) (a : (Unit × (Int × Unit))) (rd : (List TyR)) : (Option ((Int × Unit) × (List TyR))) :=
  (A.obind (A.iter k (laws_markReplicaS_t_b0 A k) (a.2.1,((0 : Int),(rd,())))) (fun r0=>(some ((r0.1,()),r0.2.1))))
def laws_markBoolS_t_b0 (A : Atoms) (k : Nat) (s : (Int × (Int × ((List Bool) × Unit)))) : (Option ((Int × (Int × ((List Bool) × Unit))) ⊕ (Int × ((List Bool) × Unit)))) :=
  (A.cndS (A.ltI s.2.1 (A.lenL s.2.2.1)) (A.cndS (A.notB (A.eqI 3 0)) (A.cndS (A.andB (A.le0 s.2.1) (A.ltI s.2.1 (A.lenL s.2.2.1))) (A.cndS (A.andB (A.le0 s.2.1) (A.ltI s.2.1 (A.lenL s.2.2.1))) (some (.inl ((A.wrapI .i64 (A.addI s.1 1)),((A.wrapI .i64 (A.addI s.2.1 1)),((A.setL s.2.2.1 s.2.1 (A.eqI (A.remI s.1 3) 0)),()))))) none) none) none) (some (.inr (s.1,(s.2.2.1,())))))
def laws_markBoolS_t (A : Atoms) (k : Nat) (a : (Unit × (Int × Unit))) (rd : (List Bool)) : (Option ((Int × Unit) × (List Bool))) :=
  (A.obind (A.iter k (laws_markBoolS_t_b0 A k) (a.2.1,((0 : Int),(rd,())))) (fun r0=>(some ((r0.1,()),r0.2.1))))
def laws_markAnswerS_t_b0 (A : Atoms) (k : Nat) (s : (Int × (Int × ((List (TyE × (Int × Unit))) × Unit)))) : (Option ((Int × (Int × ((List (TyE × (Int × Unit))) × Unit))) ⊕ (Int × ((List (TyE × (Int × Unit))) × Unit)))) :=
  (A.cndS (A.ltI s.2.1 (A.lenL s.2.2.1)) (A.obind (A.cndS (A.andB (A.le0 s.2.1) (A.ltI s.2.1 (A.lenL s.2.2.1))) (A.cndS (A.andB (A.le0 s.2.1) (A.ltI s.2.1 (A.lenL s.2.2.1))) (some (s.1,(s.2.1,((A.setL s.2.2.1 s.2.1 ((s.1,(A.atL s.2.2.1 s.2.1 (dfE,((0 : Int),()))).1.2),(A.atL s.2.2.1 s.2.1 (dfE,((0 : Int),()))).2)),())))) none) none) (fun r0=>(A.obind (A.cndS (A.andB (A.le0 r0.2.1) (A.ltI r0.2.1 (A.lenL r0.2.2.1))) (A.cndS (A.andB (A.le0 r0.2.1) (A.ltI r0.2.1 (A.lenL r0.2.2.1))) (some ((A.wrapI .i64 (A.addI r0.1 1)),(r0.2.1,((A.setL r0.2.2.1 r0.2.1 (((A.atL r0.2.2.1 r0.2.1 (dfE,((0 : Int),()))).1.1,((A.wrapI .i64 (A.addI r0.1 1)),(A.atL r0.2.2.1 r0.2.1 (dfE,((0 : Int),()))).1.2.2)),(A.atL r0.2.2.1 r0.2.1 (dfE,((0 : Int),()))).2)),())))) none) none) (fun r1=>(A.obind (A.cndS (A.andB (A.le0 r1.2.1) (A.ltI r1.2.1 (A.lenL r1.2.2.1))) (A.cndS (A.andB (A.le0 r1.2.1) (A.ltI r1.2.1 (A.lenL r1.2.2.1))) (some ((A.wrapI .i64 (A.addI r1.1 1)),(r1.2.1,((A.setL r1.2.2.1 r1.2.1 (((A.atL r1.2.2.1 r1.2.1 (dfE,((0 : Int),()))).1.1,((A.atL r1.2.2.1 r1.2.1 (dfE,((0 : Int),()))).1.2.1,(((A.wrapI .i64 (A.addI r1.1 1)),(A.atL r1.2.2.1 r1.2.1 (dfE,((0 : Int),()))).1.2.2.1.2),(A.atL r1.2.2.1 r1.2.1 (dfE,((0 : Int),()))).1.2.2.2))),(A.atL r1.2.2.1 r1.2.1 (dfE,((0 : Int),()))).2)),())))) none) none) (fun r2=>(A.obind (A.obind (laws_markText_t A k ((A.wrapI .i64 (A.addI r2.1 1)),()) ()) (fun r3=>(A.cndS (A.andB (A.le0 r2.2.1) (A.ltI r2.2.1 (A.lenL r2.2.2.1))) (A.cndS (A.andB (A.le0 r2.2.1) (A.ltI r2.2.1 (A.lenL r2.2.2.1))) (some ((A.wrapI .i64 (A.addI r2.1 1)),(r2.2.1,((A.setL r2.2.2.1 r2.2.1 (((A.atL r2.2.2.1 r2.2.1 (dfE,((0 : Int),()))).1.1,((A.atL r2.2.2.1 r2.2.1 (dfE,((0 : Int),()))).1.2.1,(((A.atL r2.2.2.1 r2.2.1 (dfE,((0 : Int),()))).1.2.2.1.1,(r3.1.1,(A.atL r2.2.2.1 r2.2.1 (dfE,((0 : Int),()))).1.2.2.1.2.2)),(A.atL r2.2.2.1 r2.2.1 (dfE,((0 : Int),()))).1.2.2.2))),(A.atL r2.2.2.1 r2.2.1 (dfE,((0 : Int),()))).2)),())))) none) none))) (fun r4=>(A.obind (A.cndS (A.andB (A.le0 r4.2.1) (A.ltI r4.2.1 (A.lenL r4.2.2.1))) (A.cndS (A.andB (A.le0 r4.2.1) (A.ltI r4.2.1 (A.lenL r4.2.2.1))) (some ((A.wrapI .i64 (A.addI r4.1 1)),(r4.2.1,((A.setL r4.2.2.1 r4.2.1 (((A.atL r4.2.2.1 r4.2.1 (dfE,((0 : Int),()))).1.1,((A.atL r4.2.2.1 r4.2.1 (dfE,((0 : Int),()))).1.2.1,(((A.atL r4.2.2.1 r4.2.1 (dfE,((0 : Int),()))).1.2.2.1.1,((A.atL r4.2.2.1 r4.2.1 (dfE,((0 : Int),()))).1.2.2.1.2.1,((A.wrapI .i64 (A.addI r4.1 1)),(A.atL r4.2.2.1 r4.2.1 (dfE,((0 : Int),()))).1.2.2.1.2.2.2))),(A.atL r4.2.2.1 r4.2.1 (dfE,((0 : Int),()))).1.2.2.2))),(A.atL r4.2.2.1 r4.2.1 (dfE,((0 : Int),()))).2)),())))) none) none) (fun r5=>(A.obind (A.cndS (A.andB (A.le0 r5.2.1) (A.ltI r5.2.1 (A.lenL r5.2.2.1))) (A.cndS (A.andB (A.le0 r5.2.1) (A.ltI r5.2.1 (A.lenL r5.2.2.1))) (some ((A.wrapI .i64 (A.addI r5.1 1)),(r5.2.1,((A.setL r5.2.2.1 r5.2.1 (((A.atL r5.2.2.1 r5.2.1 (dfE,((0 : Int),()))).1.1,((A.atL r5.2.2.1 r5.2.1 (dfE,((0 : Int),()))).1.2.1,(((A.atL r5.2.2.1 r5.2.1 (dfE,((0 : Int),()))).1.2.2.1.1,((A.atL r5.2.2.1 r5.2.1 (dfE,((0 : Int),()))).1.2.2.1.2.1,((A.atL r5.2.2.1 r5.2.1 (dfE,((0 : Int),()))).1.2.2.1.2.2.1,((A.wrapI .i64 (A.addI r5.1 1)),(A.atL r5.2.2.1 r5.2.1 (dfE,((0 : Int),()))).1.2.2.1.2.2.2.2)))),(A.atL r5.2.2.1 r5.2.1 (dfE,((0 : Int),()))).1.2.2.2))),(A.atL r5.2.2.1 r5.2.1 (dfE,((0 : Int),()))).2)),())))) none) none) (fun r6=>(A.cndS (A.andB (A.le0 r6.2.1) (A.ltI r6.2.1 (A.lenL r6.2.2.1))) (A.cndS (A.andB (A.le0 r6.2.1) (A.ltI r6.2.1 (A.lenL r6.2.2.1))) (some (.inl ((A.wrapI .i64 (A.addI (A.wrapI .i64 (A.addI r6.1 1)) 1)),((A.wrapI .i64 (A.addI r6.2.1 1)),((A.setL r6.2.2.1 r6.2.1 ((A.atL r6.2.2.1 r6.2.1 (dfE,((0 : Int),()))).1,((A.wrapI .i64 (A.addI r6.1 1)),(A.atL r6.2.2.1 r6.2.1 (dfE,((0 : Int),()))).2.2))),()))))) none) none))))))))))))) (some (.inr (s.1,(s.2.2.1,())))))
def laws_markAnswerS_t (A : Atoms) (k : Nat) (a : (Unit × (Int × Unit))) (rd : (List (TyE × (Int × Unit)))) : (Option ((Int × Unit) × (List (TyE × (Int × Unit))))) :=
  (A.obind (A.iter k (laws_markAnswerS_t_b0 A k) (a.2.1,((0 : Int),(rd,())))) (fun r0=>(some ((r0.1,()),r0.2.1))))
def laws_markChain_t (A : Atoms) (k : Nat) (a : (Unit × (Int × Unit))) (rd : TyH) : (Option ((Int × Unit) × TyH)) :=
  (A.obind (laws_markState_t A k ((),(a.2.1,())) rd.1) (fun r0=>(A.obind (laws_markConfig_t A k ((),(r0.1.1,())) rd.2.1) (fun r1=>(A.obind (laws_markReplicaS_t A k ((),(r1.1.1,())) rd.2.2.1) (fun r2=>(A.obind (laws_markBoolS_t A k ((),(r2.1.1,())) rd.2.2.2.1) (fun r3=>(A.obind (laws_markMessageS_t A k ((),(r3.1.1,())) rd.2.2.2.2.1) (fun r4=>(A.obind (laws_markAnswerS_t A k ((),(r4.1.1,())) rd.2.2.2.2.2.1) (fun r5=>(some ((r5.1.1,()),(r0.2,(r1.2,(r2.2,(r3.2,(r4.2,(r5.2,rd.2.2.2.2.2.2))))))))))))))))))))
def laws_heldReplicaS_t_b0 (A : Atoms) (k : Nat) (s : ((List TyR) × (Int × (Int × Unit)))) : (Option (((List TyR) × (Int × (Int × Unit))) ⊕ ((Int × Unit) ⊕ ((Int × Unit) × Unit)))) :=
  (A.cndS (A.ltI s.2.2.1 (A.lenL s.1)) (A.cndS (A.andB (A.le0 s.2.2.1) (A.ltI s.2.2.1 (A.lenL s.1))) (A.cndS (A.notB (A.eqI (A.atL s.1 s.2.2.1 dfR).1.1 s.2.1)) (some (.inr (.inr ((((-1) : Int),()),())))) (A.cndS (A.andB (A.le0 s.2.2.1) (A.ltI s.2.2.1 (A.lenL s.1))) (A.obind (laws_heldIntS_t A k ((A.atL s.1 s.2.2.1 dfR).1.2.1,((A.wrapI .i64 (A.addI s.2.1 1)),())) ()) (fun r0=>(A.cndS (A.ltI r0.1.1 0) (some (.inr (.inr ((((-1) : Int),()),())))) (A.cndS (A.andB (A.le0 s.2.2.1) (A.ltI s.2.2.1 (A.lenL s.1))) (A.cndS (A.notB (A.eqI 3 0)) (A.cndS (A.notB (A.eqB (A.atL s.1 s.2.2.1 dfR).1.2.2.1 (A.eqI (A.remI r0.1.1 3) 0))) (some (.inr (.inr ((((-1) : Int),()),())))) (A.cndS (A.andB (A.le0 s.2.2.1) (A.ltI s.2.2.1 (A.lenL s.1))) (A.cndS (A.notB (A.eqI 3 0)) (A.cndS (A.notB (A.eqB (A.atL s.1 s.2.2.1 dfR).2.1 (A.eqI (A.remI (A.wrapI .i64 (A.addI r0.1.1 1)) 3) 0))) (some (.inr (.inr ((((-1) : Int),()),())))) (A.cndS (A.andB (A.le0 s.2.2.1) (A.ltI s.2.2.1 (A.lenL s.1))) (A.obind (laws_heldEntryS_t A k ((A.atL s.1 s.2.2.1 dfR).2.2.1,((A.wrapI .i64 (A.addI (A.wrapI .i64 (A.addI r0.1.1 1)) 1)),())) ()) (fun r1=>(A.cndS (A.ltI r1.1.1 0) (some (.inr (.inr ((((-1) : Int),()),())))) (some (.inl (s.1,(r1.1.1,((A.wrapI .i64 (A.addI s.2.2.1 1)),())))))))) none)) none) none)) none) none)))) none)) none) (some (.inr (.inl (s.2.1,())))))
def laws_heldReplicaS_t (A : Atoms) (k : Nat) (a : ((List TyR) × (Int × Unit))) (rd : Unit) : (Option ((Int × Unit) × Unit)) :=
  (A.obind (A.iter k (laws_heldReplicaS_t_b0 A k) (a.1,(a.2.1,((0 : Int),())))) (fun r0=>(A.sumE r0 (fun e1=>(some ((e1.1,()),()))) (fun e2=>(some e2)))))
def laws_heldBoolS_t_b0 (A : Atoms) (k : Nat) (s : ((List Bool) × (Int × (Int × Unit)))) : (Option (((List Bool) × (Int × (Int × Unit))) ⊕ ((Int × Unit) ⊕ ((Int × Unit) × Unit)))) :=
  (A.cndS (A.ltI s.2.2.1 (A.lenL s.1)) (A.cndS (A.andB (A.le0 s.2.2.1) (A.ltI s.2.2.1 (A.lenL s.1))) (A.cndS (A.notB (A.eqI 3 0)) (A.cndS (A.notB (A.eqB (A.atL s.1 s.2.2.1 false) (A.eqI (A.remI s.2.1 3) 0))) (some (.inr (.inr ((((-1) : Int),()),())))) (some (.inl (s.1,((A.wrapI .i64 (A.addI s.2.1 1)),((A.wrapI .i64 (A.addI s.2.2.1 1)),())))))) none) none) (some (.inr (.inl (s.2.1,())))))
def laws_heldBoolS_t (A : Atoms) (k : Nat) (a : ((List Bool) × (Int × Unit))) (rd : Unit) : (Option ((Int × Unit) × Unit)) :=
  (A.obind (A.iter k (laws_heldBoolS_t_b0 A k) (a.1,(a.2.1,((0 : Int),())))) (fun r0=>(A.sumE r0 (fun e1=>(some ((e1.1,()),()))) (fun e2=>(some e2)))))
def laws_heldAnswerS_t_b0 (A : Atoms) (k : Nat) (s : ((List (TyE × (Int × Unit))) × (Int × (Int × Unit)))) : (Option (((List (TyE × (Int × Unit))) × (Int × (Int × Unit))) ⊕ ((Int × Unit) ⊕ ((Int × Unit) × Unit)))) :=
  (A.cndS (A.ltI s.2.2.1 (A.lenL s.1)) (A.cndS (A.andB (A.le0 s.2.2.1) (A.ltI s.2.2.1 (A.lenL s.1))) (A.cndS (A.notB (A.eqI (A.atL s.1 s.2.2.1 (dfE,((0 : Int),()))).1.1 s.2.1)) (some (.inr (.inr ((((-1) : Int),()),())))) (A.cndS (A.andB (A.le0 s.2.2.1) (A.ltI s.2.2.1 (A.lenL s.1))) (A.cndS (A.notB (A.eqI (A.atL s.1 s.2.2.1 (dfE,((0 : Int),()))).1.2.1 (A.wrapI .i64 (A.addI s.2.1 1)))) (some (.inr (.inr ((((-1) : Int),()),())))) (A.cndS (A.andB (A.le0 s.2.2.1) (A.ltI s.2.2.1 (A.lenL s.1))) (A.cndS (A.notB (A.eqI (A.atL s.1 s.2.2.1 (dfE,((0 : Int),()))).1.2.2.1.1 (A.wrapI .i64 (A.addI (A.wrapI .i64 (A.addI s.2.1 1)) 1)))) (some (.inr (.inr ((((-1) : Int),()),())))) (A.cndS (A.andB (A.le0 s.2.2.1) (A.ltI s.2.2.1 (A.lenL s.1))) (A.obind (laws_markText_t A k ((A.wrapI .i64 (A.addI (A.wrapI .i64 (A.addI (A.wrapI .i64 (A.addI s.2.1 1)) 1)) 1)),()) ()) (fun r0=>(A.cndS (A.notB (A.eqS (A.atL s.1 s.2.2.1 (dfE,((0 : Int),()))).1.2.2.1.2.1 r0.1.1)) (some (.inr (.inr ((((-1) : Int),()),())))) (A.cndS (A.andB (A.le0 s.2.2.1) (A.ltI s.2.2.1 (A.lenL s.1))) (A.cndS (A.notB (A.eqI (A.atL s.1 s.2.2.1 (dfE,((0 : Int),()))).1.2.2.1.2.2.1 (A.wrapI .i64 (A.addI (A.wrapI .i64 (A.addI (A.wrapI .i64 (A.addI (A.wrapI .i64 (A.addI s.2.1 1)) 1)) 1)) 1)))) (some (.inr (.inr ((((-1) : Int),()),())))) (A.cndS (A.andB (A.le0 s.2.2.1) (A.ltI s.2.2.1 (A.lenL s.1))) (A.cndS (A.notB (A.eqI (A.atL s.1 s.2.2.1 (dfE,((0 : Int),()))).1.2.2.1.2.2.2.1 (A.wrapI .i64 (A.addI (A.wrapI .i64 (A.addI (A.wrapI .i64 (A.addI (A.wrapI .i64 (A.addI (A.wrapI .i64 (A.addI s.2.1 1)) 1)) 1)) 1)) 1)))) (some (.inr (.inr ((((-1) : Int),()),())))) (A.cndS (A.andB (A.le0 s.2.2.1) (A.ltI s.2.2.1 (A.lenL s.1))) (A.cndS (A.notB (A.eqI (A.atL s.1 s.2.2.1 (dfE,((0 : Int),()))).2.1 (A.wrapI .i64 (A.addI (A.wrapI .i64 (A.addI (A.wrapI .i64 (A.addI (A.wrapI .i64 (A.addI (A.wrapI .i64 (A.addI (A.wrapI .i64 (A.addI s.2.1 1)) 1)) 1)) 1)) 1)) 1)))) (some (.inr (.inr ((((-1) : Int),()),())))) (some (.inl (s.1,((A.wrapI .i64 (A.addI (A.wrapI .i64 (A.addI (A.wrapI .i64 (A.addI (A.wrapI .i64 (A.addI (A.wrapI .i64 (A.addI (A.wrapI .i64 (A.addI (A.wrapI .i64 (A.addI s.2.1 1)) 1)) 1)) 1)) 1)) 1)) 1)),((A.wrapI .i64 (A.addI s.2.2.1 1)),())))))) none)) none)) none)))) none)) none)) none)) none) (some (.inr (.inl (s.2.1,())))))
def laws_heldAnswerS_t (A : Atoms) (k : Nat) (a : ((List (TyE × (Int × Unit))) × (Int × Unit))) (rd : Unit) : (Option ((Int × Unit) × Unit)) :=
  (A.obind (A.iter k (laws_heldAnswerS_t_b0 A k) (a.1,(a.2.1,((0 : Int),())))) (fun r0=>(A.sumE r0 (fun e1=>(some ((e1.1,()),()))) (fun e2=>(some e2)))))
def laws_heldChain_t (A : Atoms) (k : Nat) (a : (TyH × (Int × Unit))) (rd : Unit) : (Option ((Int × Unit) × Unit)) :=
  (A.obind (laws_heldState_t A k (a.1.1,(a.2.1,())) ()) (fun r0=>(A.cndS (A.ltI r0.1.1 0) (some ((((-1) : Int),()),())) (A.obind (laws_heldConfig_t A k (a.1.2.1,(r0.1.1,())) ()) (fun r1=>(A.cndS (A.ltI r1.1.1 0) (some ((((-1) : Int),()),())) (A.obind (laws_heldReplicaS_t A k (a.1.2.2.1,(r1.1.1,())) ()) (fun r2=>(A.cndS (A.ltI r2.1.1 0) (some ((((-1) : Int),()),())) (A.obind (laws_heldBoolS_t A k (a.1.2.2.2.1,(r2.1.1,())) ()) (fun r3=>(A.cndS (A.ltI r3.1.1 0) (some ((((-1) : Int),()),())) (A.obind (laws_heldMessageS_t A k (a.1.2.2.2.2.1,(r3.1.1,())) ()) (fun r4=>(A.cndS (A.ltI r4.1.1 0) (some ((((-1) : Int),()),())) (A.obind (laws_heldAnswerS_t A k (a.1.2.2.2.2.2.1,(r4.1.1,())) ()) (fun r5=>(A.cndS (A.ltI r5.1.1 0) (some ((((-1) : Int),()),())) (some ((r5.1.1,()),()))))))))))))))))))))
def laws_FnExactNewChain_t (A : Atoms) (k : Nat) (a : (TyS × ((List Int) × Unit))) (rd : Unit) : (Option ((Bool × Unit) × Unit)) :=
  (A.cndS (A.ltI 1048576 (A.lenL a.2.1)) (some ((true,()),())) (A.obind (laws_szState_t A k (a.1,((1048576 : Int),())) ()) (fun r0=>(A.cndS (A.ltI r0.1.1 0) (some ((true,()),())) (A.obind (laws_toState_t A k (a.1,()) ()) (fun r1=>(A.obind (laws_toIntS_t A k (a.2.1,()) ()) (fun r2=>(A.obind (spec_NewChain_t A k (r1.1.1,(r2.1.1,())) ()) (fun r3=>(A.obind (laws_toState_t A k (a.1,()) ()) (fun r4=>(A.obind (laws_toIntS_t A k (a.2.1,()) ()) (fun r5=>(A.obind (impl_NewChain_t A k (r4.1.1,(r5.1.1,())) ()) (fun r6=>(A.obind (laws_eqChain_t A k (r6.1.1,(r3.1.1,())) ()) (fun r7=>(A.cndS (A.notB r7.1.1) (some ((false,()),())) (A.obind (laws_toState_t A k (a.1,()) ()) (fun r8=>(A.obind (laws_eqState_t A k (r4.1.1,(r8.1.1,())) ()) (fun r9=>(A.cndS (A.notB r9.1.1) (some ((false,()),())) (A.obind (laws_toIntS_t A k (a.2.1,()) ()) (fun r10=>(A.obind (laws_eqIntS_t A k (r5.1.1,(r10.1.1,())) ()) (fun r11=>(A.cndS (A.notB r11.1.1) (some ((false,()),())) (A.obind (laws_markState_t A k ((),((1 : Int),())) r4.1.1) (fun r12=>(A.obind (laws_markIntS_t A k ((),(r12.1.1,())) r5.1.1) (fun r13=>(A.obind (A.cndS (A.ltI r13.1.1 0) (some (.inr ((false,()),()))) (A.obind (laws_eqChain_t A k (r6.1.1,(r3.1.1,())) ()) (fun r14=>(A.cndS (A.cndS false true (A.notB r14.1.1)) (some (.inr ((false,()),()))) (some (.inl (a.2.1,(a.1,(r3.1.1,(r6.1.1,())))))))))) (fun r15=>(A.sumE r15 (fun e16=>(A.obind (laws_markChain_t A k ((),((1 : Int),())) e16.2.2.2.1) (fun r17=>(A.obind (laws_heldChain_t A k (r17.2,((1 : Int),())) ()) (fun r18=>(A.cndS (A.ltI r18.1.1 0) (some ((false,()),())) (A.cndS (A.notB (A.eqI r18.1.1 r17.1.1)) (some ((false,()),())) (A.obind (laws_toState_t A k (e16.2.1,()) ()) (fun r19=>(A.obind (laws_toIntS_t A k (e16.1,()) ()) (fun r20=>(A.obind (impl_NewChain_t A k (r19.1.1,(r20.1.1,())) ()) (fun r21=>(A.obind (laws_eqChain_t A k (r21.1.1,(e16.2.2.1,())) ()) (fun r22=>(A.cndS (A.notB r22.1.1) (some ((false,()),())) (A.obind (laws_heldChain_t A k (r17.2,((1 : Int),())) ()) (fun r23=>(A.cndS (A.ltI r23.1.1 0) (some ((false,()),())) (A.cndS (A.notB (A.eqI r23.1.1 r17.1.1)) (some ((false,()),())) (some ((true,()),())))))))))))))))))))))) (fun e24=>(some e24))))))))))))))))))))))))))))))))))))))
end Go.Den.T

namespace Go.Den
class IsReal (A : Atoms) : Prop where
  eq : A = real
instance isReal_real : IsReal real:=⟨rfl⟩
section
variable {A : Atoms} [R : IsReal A] {α β γ σ ρ : Type}
@[simp] theorem a_cndS (c : Bool) (x y : α) : A.cndS c x y = if c = true then x else y:=by obtain rfl:=R.eq; cases c <;> rfl
@[simp] theorem a_obind_some (a : α) (f : α→Option β) : A.obind (some a) f = f a:=by obtain rfl:=R.eq; rfl
@[simp] theorem a_obind_none (f : α→Option β) : A.obind none f = none:=by obtain rfl:=R.eq; rfl
@[simp] theorem a_sumE_inl (a : α) (f : α→γ) (g : β→γ) : A.sumE (.inl a) f g = f a:=by obtain rfl:=R.eq; rfl
@[simp] theorem a_sumE_inr (b : β) (f : α→γ) (g : β→γ) : A.sumE (.inr b) f g = g b:=by obtain rfl:=R.eq; rfl
theorem a_iter (k : Nat) (f : σ→Option (σ ⊕ ρ)) (s : σ) : A.iter k f s = iter k f s:=by obtain rfl:=R.eq; rfl
@[simp] theorem a_le0 (n : Int) : A.le0 n = decide (0≤n):=by obtain rfl:=R.eq; rfl
@[simp] theorem a_leI (a b : Int) : A.leI a b = decide (a≤b):=by obtain rfl:=R.eq; rfl
@[simp] theorem a_ltI (a b : Int) : A.ltI a b = decide (a < b):=by obtain rfl:=R.eq; rfl
@[simp] theorem a_lenL (xs : List α) : A.lenL xs = (xs.length : Int):=by obtain rfl:=R.eq; rfl
@[simp] theorem a_takeL (xs : List α) (n : Int) : A.takeL xs n = xs.take n.toNat:=by obtain rfl:=R.eq; rfl
@[simp] theorem a_dropL (xs : List α) (n : Int) : A.dropL xs n = xs.drop n.toNat:=by obtain rfl:=R.eq; rfl
@[simp] theorem a_atL (xs : List α) (n : Int) (d : α) : A.atL xs n d = xs.getD n.toNat d:=by obtain rfl:=R.eq; rfl
@[simp] theorem a_setL (xs : List α) (n : Int) (x : α) : A.setL xs n x = xs.set n.toNat x:=by obtain rfl:=R.eq; rfl
@[simp] theorem a_appL (xs ys : List α) : A.appL xs ys = xs ++ ys:=by obtain rfl:=R.eq; rfl
@[simp] theorem a_repL (n : Int) (d : α) : A.repL n d = List.replicate n.toNat d:=by obtain rfl:=R.eq; rfl
@[simp] theorem a_u8i (b : UInt8) : A.u8i b = (b.toNat : Int):=by obtain rfl:=R.eq; rfl
@[simp] theorem a_eqI (a b : Int) : A.eqI a b = decide (a = b):=by obtain rfl:=R.eq; rfl
@[simp] theorem a_eqB (a b : Bool) : A.eqB a b = (a == b):=by obtain rfl:=R.eq; rfl
@[simp] theorem a_eqS (a b : List UInt8) : A.eqS a b = decide (a = b):=by obtain rfl:=R.eq; rfl
@[simp] theorem a_lessS (a b : List UInt8) : A.lessS a b = Op.bytesLess a b:=by obtain rfl:=R.eq; rfl
@[simp] theorem a_notB (b : Bool) : A.notB b = !b:=by obtain rfl:=R.eq; rfl
@[simp] theorem a_andB (a b : Bool) : A.andB a b = (a && b):=by obtain rfl:=R.eq; rfl
@[simp] theorem a_orB (a b : Bool) : A.orB a b = (a || b):=by obtain rfl:=R.eq; rfl
@[simp] theorem a_addI (a b : Int) : A.addI a b = a + b:=by obtain rfl:=R.eq; rfl
@[simp] theorem a_subI (a b : Int) : A.subI a b = a - b:=by obtain rfl:=R.eq; rfl
@[simp] theorem a_mulI (a b : Int) : A.mulI a b = a * b:=by obtain rfl:=R.eq; rfl
@[simp] theorem a_quoI (a b : Int) : A.quoI a b = a.tdiv b:=by obtain rfl:=R.eq; rfl
@[simp] theorem a_remI (a b : Int) : A.remI a b = a.tmod b:=by obtain rfl:=R.eq; rfl
@[simp] theorem a_shrI (a b : Int) : A.shrI a b = a.fdiv (2 ^ b.toNat):=by obtain rfl:=R.eq; rfl
@[simp] theorem a_minI (a b : Int) : A.minI a b = if b < a then b else a:=by obtain rfl:=R.eq; rfl
@[simp] theorem a_maxI (a b : Int) : A.maxI a b = if a < b then b else a:=by obtain rfl:=R.eq; rfl
theorem a_wrapI (k : IntKind) (n : Int) : A.wrapI k n = k.wrap n:=by obtain rfl:=R.eq; rfl
@[simp] theorem a_byteList (xs : List Int) : A.byteList xs = xs.map fun n=>UInt8.ofNat n.toNat:=by obtain rfl:=R.eq; rfl
@[simp] theorem a_intList (s : List UInt8) : A.intList s = s.map fun b=>(b.toNat : Int):=by obtain rfl:=R.eq; rfl
@[simp] theorem a_big : A.big = 4294967296:=by obtain rfl:=R.eq; rfl
theorem wrap_i64 {n : Int} (h1 : -9223372036854775808≤n) (h2 : n≤9223372036854775807) : IntKind.i64.wrap n = n:=by
  have e : IntKind.i64.wrap n = if (decide (n % 18446744073709551616 ≥ 9223372036854775808)) = true then n % 18446744073709551616 - 18446744073709551616 else n % 18446744073709551616:=rfl
  rw [e]
  by_cases hn : 0≤n
  · have : n % 18446744073709551616 = n:=Int.emod_eq_of_lt hn (by omega)
    rw [this,if_neg (by simp; omega)]
  · have : n % 18446744073709551616 = n + 18446744073709551616:=by omega
    rw [this,if_pos (by simp; omega)]; omega
theorem a_wrap {n : Int} (h1 : -9223372036854775808≤n) (h2 : n≤9223372036854775807) : A.wrapI .i64 n = n:=by rw [a_wrapI,wrap_i64 h1 h2]
/-! ### what a reading comes to -/
def Ok (x : Option α) (Q : α→Prop) : Prop:=∃ r,x = some r∧Q r
theorem Ok.mono {x : Option α} {Q Q' : α→Prop} (h : Ok x Q) (k : ∀ r,Q r→Q' r) : Ok x Q':=by obtain ⟨r,e,q⟩:=h; exact ⟨r,e,k r q⟩
theorem ok_some {r : α} {Q : α→Prop} : Ok (some r) Q ↔ Q r:=⟨fun ⟨_,e,q⟩=>(by cases e; exact q),fun q=>⟨r,rfl,q⟩⟩
theorem ok_cndS {c : Bool} {x y : Option α} {Q : α→Prop} : Ok (A.cndS c x y) Q ↔ (c = true→Ok x Q)∧(c = false→Ok y Q):=by
  rw [a_cndS]; cases c <;> simp
theorem ok_obind {x : Option α} {f : α→Option β} {Q : β→Prop} : Ok (A.obind x f) Q ↔ Ok x (fun r=>Ok (f r) Q):=by
  obtain rfl:=R.eq
  cases x with
  | none=>exact ⟨fun ⟨_,e,_⟩=>(by cases e),fun ⟨_,e,_⟩=>(by cases e)⟩
  | some a=>exact ⟨fun h=>⟨a,rfl,h⟩,fun ⟨r,e,h⟩=>(by cases e; exact h)⟩
theorem ok_eq {x : Option α} {v : α} : Ok x (· = v) ↔ x = some v:=⟨fun ⟨r,e,q⟩=>(by rw [e,q]),fun h=>⟨v,h,rfl⟩⟩
theorem Ok.bind {x : Option α} {f : α→Option β} {P : α→Prop} {Q : β→Prop} (h : Ok x P) (k : ∀ r,P r→Ok (f r) Q) : Ok (A.obind x f) Q:=ok_obind.2 (h.mono k)

/-! ### loops -/
theorem iter_ok {f : σ→Option (σ ⊕ ρ)} (I : Nat→σ→Prop) (Q : ρ→Prop)
    (h : ∀ n s,I n s→Ok (f s) (fun r=>(∀ s',r = .inl s'→∃ m,m < n∧I m s')∧∀ e,r = .inr e→Q e)) :
    ∀ {k n : Nat} {s : σ},n < k→I n s→Ok (A.iter k f s) Q:=by
  intro k
  rw [show (A.iter k f : σ→Option ρ) = iter k f from funext (a_iter k f)]
  induction k with
  | zero=>intro n s hn; omega
  | succ k ih =>
    intro n s hn hI
    obtain ⟨r,h1,h2,h3⟩:=h n s hI
    cases r with
    | inl s' =>
      obtain ⟨m,h4,h5⟩:=h2 s' rfl
      obtain ⟨r,h6,h7⟩:=ih (by omega) h5
      exact ⟨r,(by simp only [iter,h1]; exact h6),h7⟩
    | inr r=>exact ⟨r,(by simp only [iter,h1]),h3 r rfl⟩
theorem iter_walk {f : σ→Option (σ ⊕ ρ)} (St : Nat→σ) (n : Nat) (stop : Nat→Option ρ) (d : ρ)
    (hs : ∀ i,i < n→f (St i) = some (match stop i with | none=>.inl (St (i + 1)) | some e=>.inr e))
    (hd : f (St n) = some (.inr d)) : ∀ {k : Nat},n < k→A.iter k f (St 0) = some (((List.range n).findSome? stop).getD d):=by
  have main : ∀ m i k,n - i = m→i≤n→m < k→iter k f (St i) = some (((List.range' i m).findSome? stop).getD d):=by
    intro m
    induction m with
    | zero =>
      intro i k hm hi hk
      obtain ⟨k,rfl⟩ : ∃ q,k = q + 1:=⟨k - 1,by omega⟩
      have : i = n:=by omega
      subst this
      simp [iter,hd]
    | succ m ih =>
      intro i k hm hi hk
      obtain ⟨k,rfl⟩ : ∃ q,k = q + 1:=⟨k - 1,by omega⟩
      have e:=hs i (by omega)
      simp only [iter,e,List.range'_succ,List.findSome?_cons]
      cases h : stop i with
      | none=>exact ih (i + 1) k (by omega) (by omega) (by omega)
      | some r=>rfl
  intro k hk
  rw [a_iter,main n 0 k (by omega) (by omega) hk,List.range_eq_range']
theorem iter_for {f : σ→Option (σ ⊕ ρ)} (St : Nat→σ) (n : Nat) (d : ρ) (hs : ∀ i,i < n→f (St i) = some (.inl (St (i + 1)))) (hd : f (St n) = some (.inr d)) {k : Nat} (hk : n < k) :
    A.iter k f (St 0) = some d:=by
  rw [iter_walk St n (fun _=>none) d hs hd hk]
  have : ∀ l : List Nat,l.findSome? (fun _=>(none : Option ρ)) = none:=by intro l; induction l <;> simp_all
  rw [this]; rfl
theorem iter_all {f : σ→Option (σ ⊕ ρ)} (St : Nat→σ) (n : Nat) (p : Nat→Bool) (e d : ρ) (hs : ∀ i,i < n→f (St i) = some (if p i = true then .inl (St (i + 1)) else .inr e)) (hd : f (St n) = some (.inr d)) {k : Nat} (hk : n < k) :
    A.iter k f (St 0) = some (if (List.range n).all p = true then d else e):=by
  rw [iter_walk St n (fun i=>if p i = true then none else some e) d (fun i hi=>by rw [hs i hi]; cases p i <;> rfl) hd hk]
  congr 1
  induction (List.range n) with
  | nil=>rfl
  | cons x xs ih =>
    simp only [List.findSome?_cons,List.all_cons]
    by_cases h : p x = true
    · simp only [h,if_true,Bool.true_and]; exact ih
    · have h' : p x = false:=by simpa using h
      simp [h']
theorem range_find {n : Nat} {f : Nat→Option α} : ((List.range n).findSome? f = none∧∀ i,i < n→f i = none)∨∃ i x,i < n∧f i = some x∧(∀ j,j < i→f j = none)∧(List.range n).findSome? f = some x:=by
  induction n with
  | zero=>exact .inl ⟨rfl,fun i hi=>by omega⟩
  | succ n ih =>
    rw [List.range_succ,List.findSome?_append]
    rcases ih with ⟨e,h⟩ | ⟨i,x,h1,h2,h3,e⟩
    · rw [e]
      cases hf : f n with
      | none => exact .inl ⟨by simp [hf], fun i hi => by by_cases hin : i = n; · rw [hin]; exact hf
                                                         · exact h i (by omega)⟩
      | some x=>exact .inr ⟨n,x,by omega,hf,h,by simp [hf]⟩
    · exact .inr ⟨i,x,by omega,h2,h3,by rw [e]; rfl⟩
theorem findSome_map (l : List Nat) (p : Nat→Prop) [DecidablePred p] (f : Nat→α) (g : α→β) : l.findSome? (fun i=>if p i then some (g (f i)) else none) = (l.findSome? fun i=>if p i then some (f i) else none).map g:=by
  induction l with
  | nil=>rfl
  | cons x l ih =>
    simp only [List.findSome?_cons]
    by_cases h : p x
    · simp only [if_pos h]; rfl
    · simp only [if_neg h]; exact ih
theorem range_all {p : Nat→Bool} {n : Nat} : (List.range n).all p = true ↔ ∀ i,i < n→p i = true:=by simp [List.all_eq_true]
theorem getD_lt {xs : List α} {n : Nat} {d : α} (h : n < xs.length) : xs.getD n d = xs[n]:=by simp [h]
theorem all_range {xs : List α} {q : α→Bool} {d : α} : (List.range xs.length).all (fun i=>q (xs.getD i d)) = xs.all q:=by
  rw [Bool.eq_iff_iff,range_all,List.all_eq_true]
  constructor
  · intro h x hx
    obtain ⟨i,hi,rfl⟩:=List.mem_iff_getElem.1 hx
    have:=h i hi
    rwa [getD_lt hi] at this
  · intro h i hi
    rw [getD_lt hi]; exact h _ (List.getElem_mem hi)
end
end Go.Den
