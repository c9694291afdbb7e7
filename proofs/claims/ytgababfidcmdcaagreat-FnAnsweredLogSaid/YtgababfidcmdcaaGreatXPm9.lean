/- Draws of chains. -/
import Derived.Test.YtgababfidcmdcaaGreatXPm5
import Derived.Test.YtgababfidcmdcaaGreatXPm6
import Derived.Test.YtgababfidcmdcaaGreatXPm7
import Derived.Test.YtgababfidcmdcaaGreatXPm8

namespace Go.Den.T
set_option linter.unusedVariables false
set_option linter.unusedSimpArgs false
set_option linter.unusedSectionVars false
section
variable {A:Atoms} [IsReal A]
theorem l20Reply_ok (k:Nat) (n N:Int) (r:Rd) (h:RdOk N r) (hp:N≤600000000) (hn:n≤1000000000):Ok (zkb A k ((),(n,())) r) (fun q=>RdOk (N+20) q.2):=by
 rw [zkb]
 refine (odd_ok k n N r h (by omega) (by omega)).bind fun q hq=>?_
 rw [zad]
 refine ⟨fun _=>?_,fun _=>?_⟩
 ·refine (zaf k 2 _ _ hq (by omega) (by omega)).bind fun q1 h1=>?_
  have b1:=h1.2.1
  have b2:=h1.2.2.2.1 (by omega)
  rw [zad]
  exact ⟨fun _=>zac.2 (h1.1.le (by omega)),fun hc=>(by simp at hc;omega)⟩
 ·refine (zaf k 256 _ _ hq (by omega) (by omega)).bind fun q1 h1=>?_
  refine (zaf k 7 _ _ h1.1 (by omega) (by omega)).bind fun q2 h2=>?_
  have b1:=h2.2.1
  have b2:=h2.2.2.2.1 (by omega)
  rw [zad]
  exact ⟨fun _=>zac.2 (h2.1.le (by omega)),fun hc=>(by simp at hc;omega)⟩
theorem repS_z {r:Rep} (h:RepS r):RepZ r:=⟨by have:=h.1;unfold Short at this;omega,by have:=h.2.1;omega⟩
theorem l20Chain_ok (k:Nat) (hk:2000000≤k) (n N:Int) (r:Rd) (h:RdOk N r) (hp:N≤100000000) (hn:n≤1000000000):Ok (zke A k ((),(n,())) r) (fun q=>ChnZ q.1.1):=by
 rw [zke]
 refine (zaf k 12 _ _ h (by omega) (by omega)).bind fun q0 h0=>?_
 refine (zaf k 30 _ _ h0.1 (by omega) (by omega)).bind fun q1 h1=>?_
 refine (zaf k 3 _ _ h1.1 (by omega) (by omega)).bind fun q2 h2=>?_
 have a0:=h0.2.1
 have b0:=h0.2.2.2.1 (by omega)
 have a1:=h1.2.1
 have b1:=h1.2.2.2.1 (by omega)
 have a2:=h2.2.1
 have b2:=h2.2.2.2.1 (by omega)
 have w1:A.wrapI .i64 (A.addI 20 q1.1.1)=20+q1.1.1:=by rw [a_addI];exact zal (by omega) (by omega)
 have d1:0≤q2.1.1.tdiv 2:=Int.tdiv_nonneg a2 (by omega)
 have d2:q2.1.1.tdiv 2≤1:=by rw [Int.tdiv_eq_ediv_of_nonneg a2];omega
 have w2:A.wrapI .i64 (A.quoI q2.1.1 2)=q2.1.1.tdiv 2:=by rw [a_quoI];exact zal (by omega) (by omega)
 rw [w1,w2,zad]
 refine ⟨fun _=>?_,fun hc=>by simp at hc⟩
 rw [zad]
 refine ⟨fun _=>?_,fun hc=>by simp at hc;omega⟩
 obtain ⟨M,hM,hM60⟩ : ∃M:Nat,A.atL [q0.1.1,20+q1.1.1] (q2.1.1.tdiv 2) 0=(M:Int)∧M≤60:=by
  have:(fun x:Int=>0≤x∧x≤60) ([q0.1.1,20+q1.1.1].getD (q2.1.1.tdiv 2).toNat 0):=by
   refine at_ok (P:=fun x:Int=>0≤x∧x≤60) ?_ d1 (by simp;omega)
   simp only [List.mem_cons,List.not_mem_nil,or_false,forall_eq_or_imp,forall_eq]
   omega
  rw [a_atL]
  exact ⟨_,(Int.toNat_of_nonneg this.1).symm,by have:=this.2;omega⟩
 rw [hM]
 refine (l20Play_val k hk M hM60 _ _ h2.1 (by omega)).bind fun q3 h3=>?_
 refine (ChainPlay_ok k hk q3.1.1 q3.1.2.1 h3.2.1 h3.2.2.1 h3.2.2.2).bind fun q4 hc=>?_
 refine (odd_ok k n _ _ h3.1 (by omega) (by omega)).bind fun q5 h5=>?_
 have hz:=hc.z
 obtain ⟨z1,z2,z3,z4,z5,z6⟩:=hz
 have hn5:=hc.n5
 have hu5:=hc.u5
 have ha:=hc.a24
 rw [zad]
 refine ⟨fun _=>?_,fun _=>zac.2 hc.z⟩
 refine (zaf k 9 _ _ h5 (by omega) (by omega)).bind fun q6 h6=>?_
 rw [zad];refine ⟨fun _=>?_,fun _=>?_⟩
 ·exact (l20State_ok k (by omega) 1 _ _ h6.1 (by omega) (by omega)).bind fun q7 h7=>zac.2 ⟨⟨Nat.le_trans h7.2.1 (by omega),Nat.le_trans h7.2.2 (by omega)⟩,z2,z3,z4,z5,z6⟩
 rw [zad];refine ⟨fun _=>?_,fun _=>?_⟩
 ·exact (zli k (by omega) 3 _ _ h6.1 (by omega) (by omega)).bind fun q7 h7=>zac.2 ⟨z1,by have:=h7.2;unfold Short at this;show q7.1.1.2.1.length≤1048576;omega,z3,z4,z5,z6⟩
 have setz : ∀(i:Nat) (x:Rep),RepZ x→(q4.1.1.2.2.1.set i x).length≤1048576∧∀r∈q4.1.1.2.2.1.set i x,RepZ r:=fun i x hx=>⟨by rw [List.length_set];exact z3.1,fun r hr=>by
  rcases List.mem_or_eq_of_mem_set hr with h|rfl
  ·exact z3.2 r h
  ·exact hx⟩
 rw [zad];refine ⟨fun _=>?_,fun _=>?_⟩
 ·refine (zaf k 5 _ _ h6.1 (by omega) (by omega)).bind fun q9 h9=>?_
  have e1:=h9.2.1
  have e2:=h9.2.2.2.1 (by omega)
  refine (l20Replica_ok k (by omega) 3 _ _ h9.1 (by omega) (by omega)).bind fun q10 h10=>?_
  have ib:=zga (A:=A) (l:=q4.1.1.2.2.1) (i:=q9.1.1) e1 (by omega)
  rw [ib]
  simp only [a_cndS,if_true]
  refine zac.2 ⟨z1,z2,?_,z4,z5,z6⟩
  show (A.setL q4.1.1.2.2.1 q9.1.1 q10.1.1).length≤_∧∀r∈A.setL q4.1.1.2.2.1 q9.1.1 q10.1.1,RepZ r
  rw [a_setL];exact setz _ _ (repS_z h10.2)
 rw [zad];refine ⟨fun _=>?_,fun _=>?_⟩
 ·rw [in_bounds' (by omega) (by omega)]
  simp only [a_cndS,if_true,a_dropL]
  exact zac.2 ⟨z1,z2,⟨by have:=z3.1;simp;omega,fun r hr=>z3.2 r (List.mem_of_mem_drop hr)⟩,z4,z5,z6⟩
 rw [zad];refine ⟨fun _=>?_,fun _=>?_⟩
 ·have e:((q4.1.1.2.2.2.1.length:Int)+(([true]:List Bool).length:Int))<4294967296:=by simp;omega
  simp only [a_cndS,a_ltI,a_addI,a_lenL,a_big,e,decide_true,if_true,a_appL]
  exact zac.2 ⟨z1,z2,z3,by simp;omega,z5,z6⟩
 rw [zad];refine ⟨fun _=>?_,fun _=>?_⟩
 ·refine (l20Bag_ok k (by omega) 2 _ _ h6.1 (by omega) (by omega)).bind fun q11 h11=>zac.2 ⟨z1,z2,z3,z4,⟨by have:=h11.2.1;show q11.1.1.length≤1048576;omega,fun m hm=>?_⟩,z6⟩
  obtain ⟨m1,m2⟩:=h11.2.2 m hm
  unfold Short at m1
  refine ⟨?_,?_⟩
  ·omega
  ·have:=m2.1;omega
 rw [zad];refine ⟨fun _=>?_,fun _=>?_⟩
 ·refine (zko k (by omega) 2 _ _ h6.1 (by omega) (by omega)).bind fun q12 h12=>?_
  refine (l20Reply_ok k 2 _ _ h12.1 (by omega) (by omega)).bind fun q13 h13=>?_
  have e1 : ∀a:Ans,(([a]:List Ans).length:Int)=1:=fun _=>rfl
  have e:(q4.1.1.2.2.2.2.2.1.length:Int)+1<4294967296:=by omega
  simp only [a_cndS,a_ltI,a_addI,a_lenL,e1,a_big,e,decide_true,if_true,a_appL]
  exact zac.2 ⟨z1,z2,z3,z4,z5,by simp;omega⟩
 rw [zad];refine ⟨fun _=>?_,fun _=>?_⟩
 ·refine (zaf k 5 _ _ h6.1 (by omega) (by omega)).bind fun q9 h9=>?_
  have e1:=h9.2.1
  have e2:=h9.2.2.2.1 (by omega)
  refine (l20Log_ok k (by omega) 0 _ _ h9.1 (by omega) (by omega)).bind fun q10 h10=>?_
  have ib:=zga (A:=A) (l:=q4.1.1.2.2.1) (i:=q9.1.1) e1 (by omega)
  rw [ib]
  simp only [a_cndS,if_true,a_setL,a_atL]
  refine zac.2 ⟨z1,z2,setz _ _ ⟨?_,by have:=h10.2.1;show q10.1.1.length≤1048576;omega⟩,z4,z5,z6⟩
  have hlt:q9.1.1.toNat<q4.1.1.2.2.1.length:=by omega
  have:=z3.2 (q4.1.1.2.2.1.getD q9.1.1.toNat rep0) (by rw [zar hlt];exact List.getElem_mem _)
  exact this.1
 ·refine Ok.bind (P:=fun e:Chn×(Chn×Rd)=>ChnZ e.2.1) (zbo (fun m s=>∃(d:Chn) (an:List Ans) (rr:Rd),s=(d,((q4.1.1.1,(q4.1.1.2.1,(q4.1.1.2.2.1,(q4.1.1.2.2.2.1,(q4.1.1.2.2.2.2.1,(an,())))))),rr))∧an.length≤25∧m=26-an.length∧RdOk (N+30000+70*(an.length:Int)) rr) _ ?_ (n:=26-q4.1.1.2.2.2.2.2.1.length) (by omega) ⟨_,q4.1.1.2.2.2.2.2.1,q6.2,rfl,by omega,rfl,h6.1.le (by omega)⟩) fun e he=>zac.2 he
  rintro m s ⟨d,an,rr,rfl,hl,rfl,hr⟩
  rw [znf]
  refine (zaf k 2 _ _ hr (by omega) (by omega)).bind fun p0 g0=>?_
  have c1:=g0.2.1
  have c2:=g0.2.2.2.1 (by omega)
  have w:A.wrapI .i64 (A.subI 24 p0.1.1)=24-p0.1.1:=by rw [a_subI];exact zal (by omega) (by omega)
  rw [w,zad]
  refine ⟨fun hle=>?_,fun _=>zac.2 ⟨fun s' e=>(by cases e),fun e he=>by injection he with he;subst he;exact ⟨z1,z2,z3,z4,z5,Nat.le_trans hl (by omega)⟩⟩⟩
  rw [a_leI,a_lenL,decide_eq_true_eq] at hle
  have hle:(an.length:Int)≤24-p0.1.1:=hle
  refine (zko k (by omega) 0 _ _ g0.1 (by omega) (by omega)).bind fun p1 g1=>?_
  have e1 : ∀a:Ans,(([a]:List Ans).length:Int)=1:=fun _=>rfl
  have e:(an.length:Int)+1<4294967296:=by omega
  simp only [a_cndS,a_ltI,a_addI,a_lenL,e1,a_big,e,decide_true,if_true,a_appL]
  refine zac.2 ⟨fun s' e=>?_,fun e he=>by cases he⟩
  injection e with e
  exact ⟨26-(an.length+1),by omega,d,_,_,e.symm,by simp;omega,by simp,g1.1.le (by simp;omega)⟩
end
end Go.Den.T
namespace Go.Den.T
set_option linter.unusedVariables false
set_option linter.unusedSimpArgs false
set_option linter.unusedSectionVars false
section
variable {A:Atoms} [IsReal A]
theorem DrawAnsweredLog_ok (k:Nat) (hk:2000000≤k) (a:List Int) (hb : ∀x∈a,0≤x∧x≤255):Ok (zdz A k (a,()) ()) (fun q=>ChnZ q.1.1):=by
 rw [zdz]
 refine (open_ok k a hb).bind fun q hq=>?_
 exact (l20Chain_ok k hk 6 0 _ hq (by omega) (by omega)).bind fun q1 h1=>zac.2 h1
end
end Go.Den.T
namespace Go.Den.T
set_option linter.unusedVariables false
set_option linter.unusedSimpArgs false
set_option linter.unusedSectionVars false
section
variable {A:Atoms} [IsReal A]
theorem FnAnsweredLog_true (k:Nat) (hk:2000000≤k) (a:List Int) (hb : ∀x∈a,0≤x∧x≤255):ze7 A k (a,()) ()=some ((true,()),()):=by
 rw [←ok_eq,ze7,zad]
 refine ⟨fun _=>zac.2 rfl,fun _=>?_⟩
 refine (DrawAnsweredLog_ok k hk a hb).bind fun q hz=>?_
 obtain ⟨⟨c,_⟩,_⟩:=q
 have hz:ChnZ c:=hz
 have hl:=ansLog_len c
 have i1:=zi7 (A:=A) k hk c hz
 have i2:=zi6 (A:=A) k hk c hz
 have i3:=sameLog_eq (A:=A) k (ansLog c) (ansLog c) (by omega) (by omega)
 have i4:=zg4 (A:=A) k hk c hz.1
 have al:=alive_eq (A:=A) k (by omega:10≤k)
 simp only [decide_true] at i3
 simp only [i1,i2,i3,i4,a_obind_some,a_notB,Bool.not_true,a_cndS,Bool.false_eq_true,if_false,al,a_eqI,a_lenL,if_true]
 rcases Bool.eq_false_or_eq_true (chnOk c) with h|h
 ·have hc:=cv_iff.1 h
  have ho:ansLog c=c.2.2.2.2.2.1.map (·.1):=by unfold ansLog;rw [if_pos h]
  have hlen:(ansLog c).length=c.2.2.2.2.2.1.length:=by rw [ho,List.length_map]
  simp only [h,Bool.not_true,Bool.false_eq_true,if_false]
  refine Ok.bind (P:=fun e=>e = .inl (ansLog c,(c,()))) (zbo (fun m s=>∃i:Nat,s=(ansLog c,((i:Int),(c,())))∧i+m=(ansLog c).length) _ ?_ (n:=(ansLog c).length) (by omega) ⟨0,rfl,by omega⟩) fun e he=>?_
  ·rintro m s ⟨i,rfl,him⟩
   rw [zj6]
   by_cases hi:i<(ansLog c).length
   ·have hi1:(i:Int)<((ansLog c).length:Int):=by omega
    have hi2:(i:Int)<(c.2.2.2.2.2.1.length:Int):=by omega
    have w:A.wrapI .i64 ((i:Int)+1)=((i+1:Nat):Int):=by rw [zal (by omega) (by omega)];rfl
    have he:(ansLog c).getD i ent0=(c.2.2.2.2.2.1.getD i ans0).1:=by
     rw [zar hi,zar (by omega)]
     simp only [ho,List.getElem_map]
    simp only [a_cndS,a_ltI,a_lenL,hi1,hi2,decide_true,if_true,a_obind_some,a_sumE_inl,a_andB,a_le0,Int.natCast_nonneg,Bool.and_self,a_atL,Int.toNat_natCast,he,a_eqI,a_eqS,a_notB,Bool.not_true,Bool.false_eq_true,if_false,a_addI,w]
    refine zac.2 ⟨fun s' e=>?_,fun e he=>by cases he⟩
    injection e with e
    exact ⟨m-1,by omega,i+1,e.symm,by omega⟩
   ·have hi1 : ¬(i:Int)<((ansLog c).length:Int):=by omega
    simp only [a_cndS,a_ltI,a_lenL,hi1,decide_false,Bool.false_eq_true,if_false,a_obind_some,a_sumE_inr]
    exact zac.2 ⟨fun s' e=>(by cases e),fun e he=>by injection he with he;exact he.symm⟩
  ·subst he
   have e1:((ansLog c).length:Int)=(c.2.2.2.2.2.1.length:Int):=by omega
   simp only [a_sumE_inl,e1,decide_true,if_true]
   exact zac.2 rfl
 ·have ho:ansLog c=[]:=by unfold ansLog;rw [if_neg (by rw [h];decide)]
  simp only [h,ho,Bool.not_false,if_true,List.length_nil]
  exact zac.2 rfl
end
theorem FnAnsweredLog_pure (a:List Int) (h:InR (.slice (.int .u8)) a) : ∃k,ze7 real k (a,()) ()=some ((true,()),()):=
 haveI:=isReal_real
 ⟨2000000,FnAnsweredLog_true 2000000 (by omega) a (code_bytes h)⟩
end Go.Den.T
