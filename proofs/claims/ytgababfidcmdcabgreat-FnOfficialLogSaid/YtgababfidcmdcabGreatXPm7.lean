/- Sessions found and put: both sides in one form. -/
import Derived.Test.YtgababfidcmdcabGreatXDm4
import Derived.Test.YtgababfidcmdcabGreatXPm2
import Derived.Test.YtgababfidcmdcabGreatXPm3
import Derived.Test.YtgababfidcmdcabGreatXPm5
import Derived.Test.YtgababfidcmdcabGreatXPm6

namespace Go.Den.T
set_option linter.unusedVariables false
set_option linter.unusedSimpArgs false
set_option linter.unusedSectionVars false
section
variable {A:Atoms} [IsReal A]
theorem ses_le4 {l:List Ses} (h:sesOk l=true):l.length≤4:=by
 have hs:=ses_sorted h
 simp only [sesOk,zcv] at h
 rcases Nat.lt_or_ge 4 l.length with hl|hl
 ·exfalso
  have r : ∀i,i<l.length→0≤(l.getD i ses0).1∧(l.getD i ses0).1≤3:=fun i hi=>by
   have:=h i hi
   simp only [sesAt,sesP,Bool.and_eq_true,decide_eq_true_eq] at this
   exact this.1
  have a0:=(r 0 (by omega)).1
  have a4:=(r 4 (by omega)).2
  have b1:=hs 0 1 (by omega) (by omega)
  have b2:=hs 1 2 (by omega) (by omega)
  have b3:=hs 2 3 (by omega) (by omega)
  have b4:=hs 3 4 (by omega) (by omega)
  omega
 ·exact hl
def sfind (l:List Ses) (c:Int):Ses:=if sh l c=true then l.getD (sp l c) ses0 else ses0
theorem sp_le (l:List Ses) (c:Int):sp l c≤l.length:=ahead_le ..
theorem sh_lt {l:List Ses} {c:Int} (h:sh l c=true):sp l c<l.length∧(l.getD (sp l c) ses0).1=c:=by simpa [sh] using h
theorem ses_at {l:List Ses} (h:sesOk l=true) {c:Int} {i:Nat} (hi:i<l.length):(l.getD i ses0).1=c↔sh l c=true∧i=sp l c:=by
 have hsort:=ses_sorted h
 have hsp:=ahead_spec (lt:=ltS c) (d:=ses0) (l:=l)
 constructor
 ·intro e
  have h1 : ¬i<sp l c:=fun hlt=>by
   have:=hsp.1 i hlt
   simp only [ltS,decide_eq_true_eq] at this
   omega
  have h2 : ¬sp l c<i:=fun hlt=>by
   have:=hsp.2 (show sp l c<l.length by omega)
   simp only [ltS,decide_eq_false_iff_not] at this
   have:=hsort _ i hlt hi
   have:(l.getD (sp l c) ses0).1<(l.getD i ses0).1:=this
   have h3 : ¬(l.getD (sp l c) ses0).1<c:=by assumption
   omega
  have e2:sp l c=i:=by omega
  exact ⟨by simp only [sh,e2,hi,e,decide_true,Bool.and_self],e2.symm⟩
 ·rintro ⟨h1,rfl⟩
  exact (sh_lt h1).2
theorem l9Find_eq (k:Nat) (l:List Ses) (c:Int) (h:sesOk l=true) (hk:l.length<k):zga A k (l,(c,())) ()=some ((sfind l c,()),()):=by
 have hl:=ses_le4 h
 rw [←ok_eq,zga]
 refine Ok.bind (P:=fun e:(Ses×Unit) ⊕ ((Ses×Unit)×Unit)=>(e = .inr ((sfind l c,()),()))∨(∃z,e = .inl z∧sfind l c=ses0)) (zbt (fun m (st:List Ses×(Int×(Int×(Ses×Unit))))=>∃i:Nat,st=(l,(c,((i:Int),(ses0,()))))∧i≤l.length∧m=l.length-i∧∀t,t<i→(l.getD t ses0).1≠c) _ ?_ (n:=l.length) (by omega) ⟨0,rfl,by omega,by omega,fun t ht=>by omega⟩) fun e he=>?_
 ·rintro m st ⟨i,rfl,hi,rfl,ha⟩
  have w:A.wrapI .i64 (A.addI (i:Int) 1)=((i+1:Nat):Int):=by rw [a_addI,zal (by omega) (by omega)];rfl
  rw [zlo,zad]
  refine ⟨fun h1=>?_,fun h1=>zac.2 ⟨fun s' e=>(by cases e),fun r e=>?_⟩⟩
  ·have hlt:(i:Int)<l.length:=by simpa using h1
   have hb:=zge (A:=A) (l:=l) (i:=(i:Int)) (by omega) hlt
   rw [zad]
   refine ⟨fun _=>?_,fun hc=>(by rw [hb] at hc;cases hc)⟩
   rw [zad]
   simp only [a_eqI,a_atL,Int.toNat_natCast,decide_eq_true_eq,decide_eq_false_iff_not]
   refine ⟨fun he=>?_,fun hne=>zac.2 ⟨fun s' e=>?_,fun r e=>(by cases e)⟩⟩
   ·rw [zad]
    refine ⟨fun _=>zac.2 ⟨fun s' e=>(by cases e),fun r e=>?_⟩,fun hc=>(by rw [hb] at hc;cases hc)⟩
    injection e with e;subst e
    obtain ⟨k1,k2⟩:=(ses_at h (show i<l.length by omega)).1 he
    left
    simp only [sfind,k1,if_true,←k2]
   ·injection e with e;subst e
    exact ⟨l.length-(i+1),by omega,i+1,by rw [w],by omega,rfl,fun t ht=>by
     rcases Nat.lt_or_ge t i with h2|h2
     ·exact ha t h2
     ·have:t=i:=by omega
      subst this;exact hne⟩
  ·injection e with e;subst e
   have hge : ¬(i:Int)<l.length:=by simpa using h1
   right
   refine ⟨_,rfl,?_⟩
   rcases Bool.eq_false_or_eq_true (sh l c) with hq|hq
   ·obtain ⟨q1,q2⟩:=sh_lt hq
    exact absurd q2 (ha _ (by omega))
   ·simp only [sfind,hq,Bool.false_eq_true,if_false]
 ·rcases he with rfl|⟨z,rfl,hz⟩
  ·rw [a_sumE_inr];exact zac.2 rfl
  ·rw [a_sumE_inl];exact zac.2 (by rw [hz])
def sput (l:List Ses) (s:Ses):List Ses×(Bool×Unit):=
 if (sesOk l&&sesOk [s])=true then (if sh l s.1=true then (if s.2.1≤(l.getD (sp l s.1) ses0).2.1 then (l,(false,())) else (l.take (sp l s.1)++[s]++l.drop (sp l s.1+1),(true,()))) else (l.take (sp l s.1)++[s]++l.drop (sp l s.1),(true,()))) else ([],(false,()))
def walked (l:List Ses) (s:Ses) (i:Nat):List Ses:=if i≤sp l s.1 then l.take i else l.take (sp l s.1)++[s]++(l.take i).drop (sp l s.1+(if sh l s.1=true then 1 else 0))
theorem zc0 (k:Nat) (hk:100≤k) (l:List Ses) (s:Ses) (hkl:l.length<k) (hl:l.length≤1000000000):zci A k (l,(s,())) ()=some (sput l s,()):=by
 simp only [zci,za2 k l hkl hl,za2 k [s] (by simp;omega) (by simp),a_obind_some,a_cndS,a_notB,sput]
 rcases Bool.eq_false_or_eq_true (sesOk l) with h1|h1
 case inr=>simp [h1]
 rcases Bool.eq_false_or_eq_true (sesOk [s]) with h2|h2
 case inr=>simp [h1,h2]
 have h4:=ses_le4 h1
 have hs:(0≤s.1∧s.1≤3)∧1≤s.2.1:=by
  have:=(zcv.1 h2) 0 (by simp)
  simp only [sesAt,sesP,Bool.and_eq_true,decide_eq_true_eq] at this
  exact ⟨this.1,this.2.1.1⟩
 have hb:(l.length:Int)<4294967296:=by omega
 have hseq:zdj A k (l,(s.1,())) ()=some (((sfind l s.1).2.1,()),()):=by
  simp only [zdj,za2 k l hkl hl,h1,zc9,hs.1,and_self,decide_true,a_notB,Bool.not_true,a_cndS,Bool.false_eq_true,if_false,a_obind_some,a_sumE_inl,l9Find_eq k l s.1 h1 hkl]
 simp only [h1,h2,Bool.not_true,Bool.false_eq_true,if_false,if_true,Bool.and_self,a_obind_some,a_sumE_inl,hseq,a_leI]
 have hsort:=ses_sorted h1
 have hsp:(∀i,i<sp l s.1→ltS s.1 (l.getD i ses0)=true)∧(sp l s.1<l.length→ltS s.1 (l.getD (sp l s.1) ses0)=false):=ahead_spec (lt:=ltS s.1) (d:=ses0) (l:=l)
 have hle:=sp_le l s.1
 have hloop:A.iter k (zew A k) (l,(([]:List Ses),(false,((0:Int),(s,())))))=some (walked l s l.length,(decide (sp l s.1<l.length),(s,()))):=by
  rw [←ok_eq]
  refine zbt (fun m (st:List Ses×(List Ses×(Bool×(Int×(Ses×Unit)))))=>∃i:Nat,st=(l,(walked l s i,(decide (sp l s.1<i),((i:Int),(s,())))))∧i≤l.length∧m=l.length-i) _ ?_ (n:=l.length) (by omega) ⟨0,by simp [walked],by omega,by omega⟩
  rintro m st ⟨i,rfl,hi,rfl⟩
  have w:A.wrapI .i64 (A.addI (i:Int) 1)=((i+1:Nat):Int):=by rw [a_addI,zal (by omega) (by omega)];rfl
  rw [zew,zad]
  refine ⟨fun q1=>?_,fun q1=>zac.2 ⟨fun s' e=>(by cases e),fun r e=>?_⟩⟩
  ·have hlt':(i:Int)<l.length:=by simpa using q1
   have hlt:i<l.length:=by omega
   have hb2:=zge (A:=A) (l:=l) (i:=(i:Int)) (by omega) hlt'
   have hbi:A.ltI (A.addI (A.lenL (walked l s i)) (A.lenL (s::([]:List Ses)))) A.big=true:=by
    have:(walked l s i).length≤l.length+1:=by
     unfold walked;split
     ·rw [List.length_take];omega
     ·simp;omega
    simp;omega
   have hw : ∀x:Ses,A.ltI (A.addI (A.lenL (walked l s i++[s])) (A.lenL (x::([]:List Ses)))) A.big=true:=fun x=>by
    have:(walked l s i).length≤l.length+1:=by
     unfold walked;split
     ·rw [List.length_take];omega
     ·simp;omega
    simp;omega
   have hw2 : ∀x:Ses,A.ltI (A.addI (A.lenL (walked l s i)) (A.lenL (x::([]:List Ses)))) A.big=true:=fun x=>by
    have:(walked l s i).length≤l.length+1:=by
     unfold walked;split
     ·rw [List.length_take];omega
     ·simp;omega
    simp;omega
   have hgo:l.take (i+1)=l.take i++[l.getD i ses0]:=by rw [List.take_succ_eq_append_getElem hlt,zar hlt]
   -- three kinds of rounds
   rcases Nat.lt_trichotomy i (sp l s.1) with hk1|hk1|hk1
   ·have ht:(l.getD i ses0).1<s.1:=by simpa [ltS] using hsp.1 i hk1
    have n1 : ¬sp l s.1<i:=by omega
    have n2 : ¬s.1≤(l.getD i ses0).1:=by omega
    have n3 : ¬(l.getD i ses0).1=s.1:=by omega
    have n4 : ¬sp l s.1<i+1:=by omega
    have e1:walked l s i=l.take i:=by unfold walked;rw [if_pos (by omega)]
    have e2:walked l s (i+1)=l.take i++[l.getD i ses0]:=by unfold walked;rw [if_pos (by omega),hgo]
    have hw2':=hw2 (l.getD i ses0)
    rw [e1] at hw2'
    simp only [e1,n1,decide_false,a_notB,Bool.not_false,a_cndS,if_true,hb2,a_leI,a_atL,Int.toNat_natCast,n2,Bool.false_eq_true,if_false,a_obind_some,a_eqI,n3,hw2',a_appL,w]
    exact zac.2 ⟨fun s' e=>(by injection e with e;subst e;exact ⟨l.length-(i+1),by omega,i+1,by rw [e2,decide_eq_false n4],by omega,rfl⟩),fun r e=>(by cases e)⟩
   ·have ht : ¬(l.getD i ses0).1<s.1:=by
      have:=hsp.2 (show sp l s.1<l.length by omega)
      rw [hk1];simpa [ltS] using this
    have n1 : ¬sp l s.1<i:=by omega
    have n2:s.1≤(l.getD i ses0).1:=by omega
    have n4:sp l s.1<i+1:=by omega
    have e1:walked l s i=l.take i:=by unfold walked;rw [if_pos (by omega)]
    have e2:walked l s (i+1)=l.take i++[s]++(if (l.getD i ses0).1=s.1 then [] else [l.getD i ses0]):=by
     unfold walked;rw [if_neg (by omega),hgo,←hk1]
     congr 1
     have tl:(l.take i).length=i:=by rw [List.length_take];omega
     by_cases he:(l.getD i ses0).1=s.1
     ·have hh:sh l s.1=true:=((ses_at h1 hlt).1 he).1
      rw [hh,if_pos rfl,if_pos he,List.drop_of_length_le (by simp;omega)]
     ·have hh : ¬sh l s.1=true:=fun hh=>he ((ses_at h1 hlt).2 ⟨hh,hk1⟩)
      rw [if_neg hh,if_neg he,Nat.add_zero]
      conv=>lhs;rw [←tl]
      rw [tl]
      rw [List.drop_append_of_le_length (by omega)]
      rw [List.drop_of_length_le (by omega),List.nil_append]
    have hbi':=hbi
    rw [e1] at hbi'
    simp only [e1,n1,decide_false,a_notB,Bool.not_false,a_cndS,if_true,hb2,a_leI,a_atL,Int.toNat_natCast,n2,decide_true,hbi',a_appL,a_obind_some,a_eqI]
    by_cases he:(l.getD i ses0).1=s.1
    ·simp only [he,decide_true,Bool.not_true,Bool.false_eq_true,if_false,w]
     exact zac.2 ⟨fun s' e=>(by injection e with e;subst e;exact ⟨l.length-(i+1),by omega,i+1,by rw [e2,decide_eq_true n4,if_pos he,List.append_nil],by omega,rfl⟩),fun r e=>(by cases e)⟩
    ·have hw':=hw (l.getD i ses0)
     rw [e1] at hw'
     simp only [he,decide_false,Bool.not_false,if_true,hw',w]
     exact zac.2 ⟨fun s' e=>(by injection e with e;subst e;exact ⟨l.length-(i+1),by omega,i+1,by rw [e2,decide_eq_true n4,if_neg he],by omega,rfl⟩),fun r e=>(by cases e)⟩
   ·have ht:s.1<(l.getD i ses0).1:=by
      have q2:=hsort _ i hk1 hlt
      have q3:=hsp.2 (show sp l s.1<l.length by omega)
      simp only [ltS,decide_eq_false_iff_not] at q3
      have q3 : ¬(l.getD (sp l s.1) ses0).1<s.1:=q3
      omega
    have n3 : ¬(l.getD i ses0).1=s.1:=by omega
    have n4:sp l s.1<i+1:=by omega
    have e2:walked l s (i+1)=walked l s i++[l.getD i ses0]:=by
     obtain ⟨z,hz1,hz2⟩ : ∃z,(if sh l s.1=true then 1 else 0)=z∧z≤1:=⟨_,rfl,by split<;>omega⟩
     have tl:(l.take i).length=i:=by rw [List.length_take];omega
     simp only [walked,hz1]
     rw [if_neg (show ¬i+1≤sp l s.1 by omega),if_neg (show ¬i≤sp l s.1 by omega),hgo,List.drop_append_of_le_length (by omega)]
     simp only [List.append_assoc]
    simp only [hk1,decide_true,a_notB,Bool.not_true,a_cndS,Bool.false_eq_true,if_false,a_obind_some,hb2,if_true,a_eqI,a_atL,Int.toNat_natCast,n3,decide_false,Bool.not_false,hw2 (l.getD i ses0),a_appL,w]
    exact zac.2 ⟨fun s' e=>(by injection e with e;subst e;exact ⟨l.length-(i+1),by omega,i+1,by rw [e2,decide_eq_true n4],by omega,rfl⟩),fun r e=>(by cases e)⟩
  ·injection e with e;subst e
   have hge : ¬(i:Int)<l.length:=by simpa using q1
   have:i=l.length:=by omega
   subst this;rfl
 rcases Bool.eq_false_or_eq_true (sh l s.1) with h|h
 ·obtain ⟨q1,q2⟩:=sh_lt h
  have e1:sfind l s.1=l.getD (sp l s.1) ses0:=by simp only [sfind,h,if_true]
  have e2:walked l s l.length=l.take (sp l s.1)++[s]++l.drop (sp l s.1+1):=by
   unfold walked;rw [if_neg (by omega),h,if_pos rfl,List.take_length]
  rw [e1]
  by_cases hq:s.2.1≤(l.getD (sp l s.1) ses0).2.1
  ·rw [if_pos hq,decide_eq_true hq]
   simp [h,hb]
  ·rw [if_neg hq,decide_eq_false hq]
   simp only [Bool.false_eq_true,if_false,hloop,a_obind_some,q1,decide_true,Bool.not_true,h,if_true,e2]
 ·have e1:sfind l s.1=ses0:=by simp only [sfind,h,Bool.false_eq_true,if_false]
  have n1 : ¬s.2.1≤0:=by omega
  rw [e1]
  simp only [n1,decide_false,Bool.false_eq_true,if_false,hloop,a_obind_some,h]
  by_cases hq:sp l s.1<l.length
  ·have e2:walked l s l.length=l.take (sp l s.1)++[s]++l.drop (sp l s.1):=by
     unfold walked;rw [if_neg (by omega),h,List.take_length];simp
   simp only [hq,decide_true,Bool.not_true,Bool.false_eq_true,if_false,e2]
  ·have e3:sp l s.1=l.length:=by omega
   have e2:walked l s l.length=l:=by unfold walked;rw [if_pos (by omega),List.take_length]
   have hb3:(l.length:Int)+1<4294967296:=by omega
   simp [e2,e3,hb3]
end
end Go.Den.T
namespace Go.Den.T
set_option linter.unusedVariables false
set_option linter.unusedSimpArgs false
set_option linter.unusedSectionVars false
section
variable {A:Atoms} [IsReal A]
theorem pget_cases (l:List Pair) (s:List UInt8):pget l s = -1∨(0≤pget l s∧pget l s≤999):=by
 unfold pget
 split
 ·rename_i h
  simp only [Bool.and_eq_true] at h
  obtain ⟨h1,h2⟩:=ph_lt h.2
  have:=h.1
  simp only [pairsOk,Bool.and_eq_true,zcv] at this
  have:=this.2 _ h1
  simp only [pairAt,valOk,Bool.and_eq_true,decide_eq_true_eq] at this
  exact .inr this.2.1
 ·exact .inl rfl
def appC (l:List Pair) (c:Cmd):List Pair×(Int×Unit):=
 if (pairsOk l&&cmdOk c)=true∧c.1≠5 then
  (if c.1=3 then ((pdrop l c.2.1).1,(pget l c.2.1,())) else if c.1=1∨(c.1=4∧c.2.2.2.1≠pget l c.2.1) then (l,(pget l c.2.1,()))
    else if pget l c.2.1 = -1∧8≤l.length then (l,(-2,())) else ((pput l c.2.1 c.2.2.1).1,(pget l c.2.1,())))
 else ([],(-3,()))
theorem zin (k:Nat) (hk:100≤k) (l:List Pair) (c:Cmd):zf5 A k (l,(c,())) ()=some (appC l c,()):=by
 obtain ⟨kd,key,val,old,_⟩:=c
 simp only [zf5,za9 k (by omega:60≤k),zez k (by omega:10≤k),a_obind_some,a_cndS,a_notB,a_eqI,appC]
 rcases Bool.eq_false_or_eq_true (pairsOk l) with h1|h1
 case inr=>simp [h1]
 rcases Bool.eq_false_or_eq_true (cmdOk (kd,(key,(val,(old,()))))) with h2|h2
 case inr=>simp [h1,h2]
 have hl:=pairs_len h1
 have hb:(l.length:Int)<4294967296:=by omega
 by_cases h5:kd=5
 ·simp [h1,h2,h5]
 simp only [h1,h2,h5,decide_false,Bool.not_true,Bool.false_eq_true,if_false,a_sumE_inl,a_obind_some,zmi k hk l key (by omega) (by omega),zlp k hk,zhi k hk,Bool.and_self,ne_eq,not_false_eq_true,and_self,if_true,a_lenL,a_ltI,a_addI,List.length_nil,Int.natCast_zero,Int.ofNat_zero,Int.zero_add,a_big,hb,decide_true,a_appL,List.nil_append]
 have hgc:=pget_cases l key
 generalize pget l key=g at hgc
 by_cases h3:kd=3
 ·simp [h3]
 by_cases h11:kd=1
 ·simp [h3,h11]
 by_cases h4:kd=4
 ·subst h4
  by_cases ho:old=g
  ·by_cases hg:g = -1
   ·by_cases h8:8≤l.length
    ·have:(8:Int)≤l.length:=by omega
     simp [ho,hg,h8,this]
    ·have : ¬(8:Int)≤l.length:=by omega
     simp [ho,hg,h8,this]
   ·have : ¬g<0:=by omega
    simp [ho,hg,this]
  ·simp [ho]
 ·by_cases hg:g = -1
  ·by_cases h8:8≤l.length
   ·have:(8:Int)≤l.length:=by omega
    simp [h3,h11,h4,hg,h8,this]
   ·have : ¬(8:Int)≤l.length:=by omega
    simp [h3,h11,h4,hg,h8,this]
  ·have : ¬g<0:=by omega
   simp [h3,h11,h4,hg,this]
/-! ### entries -/
abbrev stt0:Stt:=(itv0,(([]:List Pair),(([]:List Ses),(false,(([]:List UInt8),())))))
def takes (s:Stt) (c:Cmd):Bool:=if c.1=5 then (decide (c.2.1=[])||(cut s.1 c.2.1).2.2.1) else inside s.1 c.2.1
def apE (s:Stt) (e:Ent):Stt×(Int×Unit):=
 if (stOk s&&entOk e)=true then
  (if (sfind s.2.2.1 e.1).2.1=e.2.1 then (s,((sfind s.2.2.1 e.1).2.2.1,())) else if e.2.1<(sfind s.2.2.1 e.1).2.1 then (s,(-4,()))
   else if (s.2.2.2.1 || !takes s e.2.2.1)=true then (s,(-3,()))
   else if e.2.2.1.1=5 then ((s.1,(s.2.1,((sput s.2.2.1 (e.1,(e.2.1,(0,())))).1,(true,(e.2.2.1.2.1,()))))),(0,()))
   else ((s.1,((appC s.2.1 e.2.2.1).1,((sput s.2.2.1 (e.1,(e.2.1,((appC s.2.1 e.2.2.1).2.1,())))).1,s.2.2.2))),((appC s.2.1 e.2.2.1).2.1,())))
 else (stt0,(-3,()))
theorem stOk_parts {s:Stt} (h:stOk s=true):itvOk s.1=true∧pairsOk s.2.1=true∧sesOk s.2.2.1=true∧s.2.1.all (fun p=>inside s.1 p.1)=true∧(s.2.2.2.2.1=[]∨(s.2.2.2.1=true∧(cut s.1 s.2.2.2.2.1).2.2.1=true)):=by
 simp only [stOk,Bool.and_eq_true,Bool.or_eq_true,decide_eq_true_eq] at h
 exact ⟨h.1,h.2.1,h.2.2.1,h.2.2.2.1,h.2.2.2.2⟩
theorem entOk_parts {e:Ent} (h:entOk e=true):(0≤e.1∧e.1≤3)∧(1≤e.2.1∧e.2.1≤999)∧cmdOk e.2.2.1=true:=by
 simp only [entOk,Bool.and_eq_true,decide_eq_true_eq] at h
 exact ⟨h.1,h.2.1,h.2.2⟩
theorem cmd_key {c:Cmd} (h:cmdOk c=true):keyOk c.2.1=true∨(c.1=5∧c.2.1=[]):=by
 simp only [cmdOk,Bool.and_eq_true,Bool.or_eq_true,decide_eq_true_eq] at h
 exact h.1
theorem l10Copy_eq (k:Nat) (s:Stt) (h1:s.2.1.length≤1000000000) (h2:s.2.2.1.length≤1000000000):zet A k (s,()) ()=some ((s,()),()):=by
 have g1:(s.2.1.length:Int)<4294967296:=by omega
 have g2:(s.2.2.1.length:Int)<4294967296:=by omega
 simp only [zet,a_lenL,List.length_nil,Int.natCast_zero,Int.ofNat_zero,a_addI,Int.zero_add,a_ltI,a_big,g1,g2,decide_true,a_cndS,if_true,a_appL,List.nil_append]
theorem zkc (k:Nat) (hk:100≤k) (s:Stt) (e:Ent) (hk2:s.2.2.1.length<k) (hl:s.2.2.1.length≤1000000000):zib A k (s,(e,())) ()=some (apE s e,()):=by
 simp only [zib,zcw k (by omega:60≤k) s hk2 hl,zbq k (by omega:10≤k),a_obind_some,a_cndS,a_notB,apE]
 rcases Bool.eq_false_or_eq_true (stOk s) with h1|h1
 case inr=>simp [h1]
 rcases Bool.eq_false_or_eq_true (entOk e) with h2|h2
 case inr=>simp [h1,h2]
 obtain ⟨p1,p2,p3,p4,p5⟩:=stOk_parts h1
 obtain ⟨q1,q2,q3⟩:=entOk_parts h2
 have l1:=pairs_len p2
 have l2:=ses_le4 p3
 simp only [h1,h2,Bool.not_true,Bool.false_eq_true,if_false,if_true,a_sumE_inl,a_obind_some,Bool.and_self,l10Copy_eq k s (show s.2.1.length≤1000000000 by omega) hl,l9Find_eq k s.2.2.1 e.1 p3 hk2,a_eqI,a_ltI]
 by_cases c1:(sfind s.2.2.1 e.1).2.1=e.2.1
 ·simp [c1]
 by_cases c2:e.2.1<(sfind s.2.2.1 e.1).2.1
 ·simp [c1,c2]
 simp only [c1,c2,decide_false,Bool.false_eq_true,if_false]
 rcases Bool.eq_false_or_eq_true s.2.2.2.1 with hz|hz
 ·simp [hz]
 simp only [hz,Bool.false_eq_true,if_false,Bool.false_or,zcj k (by omega:10≤k),a_obind_some,zlb k (by omega:10≤k),p1,Bool.true_and,takes,a_eqS]
 by_cases h5:e.2.2.1.1=5
 ·simp only [h5,decide_true,if_true]
  by_cases hn:e.2.2.1.2.1=[]
  ·simp [hn,zc0 k hk s.2.2.1 _ hk2 hl]
  ·rcases Bool.eq_false_or_eq_true (cut s.1 e.2.2.1.2.1).2.2.1 with hc|hc
   ·simp [hn,hc,zc0 k hk s.2.2.1 _ hk2 hl]
   ·simp [hn,hc]
 ·have hkey:keyOk e.2.2.1.2.1=true:=by
    rcases cmd_key q3 with h|h
    ·exact h
    ·exact absurd h.1 h5
  simp only [h5,hkey,decide_false,Bool.false_eq_true,if_false,Bool.not_false,if_true,Bool.true_and]
  rcases Bool.eq_false_or_eq_true (inside s.1 e.2.2.1.2.1) with hi|hi
  ·simp [hi,h5,hz,zc0 k hk s.2.2.1 _ hk2 hl,zin k hk]
  ·simp [hi]
/-! ### validity is kept -/
theorem zkt {l:List Pair} : pairsOk l=true↔l.length≤48∧(∀p∈l,keyOk p.1=true∧valOk p.2.1=true)∧l.Pairwise (fun a b=>bless a.1 b.1=true):=by
 constructor
 ·intro h
  have hs:=pairs_sorted h
  refine ⟨pairs_len h,fun p hp=>?_,?_⟩
  ·obtain ⟨i,hi,rfl⟩:=List.mem_iff_getElem.1 hp
   simp only [pairsOk,Bool.and_eq_true,zcv] at h
   have:=h.2 i hi
   simp only [pairAt,Bool.and_eq_true] at this
   rw [zar hi] at this
   exact ⟨this.1,this.2.1⟩
  ·rw [List.pairwise_iff_getElem]
   intro i j hi hj hij
   have:=hs i j hij hj
   rwa [zar hi,zar hj] at this
 ·rintro ⟨h1,h2,h3⟩
  rw [List.pairwise_iff_getElem] at h3
  simp only [pairsOk,Bool.and_eq_true,zcv,decide_eq_true_eq]
  refine ⟨h1,fun i hi=>?_⟩
  have h4:=h2 l[i] (List.getElem_mem hi)
  simp only [pairAt,Bool.and_eq_true,Bool.or_eq_true,decide_eq_true_eq]
  rw [zar hi]
  refine ⟨h4.1,h4.2,?_⟩
  by_cases h0:i=0
  ·exact .inl h0
  ·have hi1:i-1<l.length:=by omega
   rw [zar hi1]
   exact .inr (h3 (i-1) i hi1 hi (by omega))
theorem sesOk_iff {l:List Ses} : sesOk l=true↔(∀p∈l,(0≤p.1∧p.1≤3)∧(1≤p.2.1∧p.2.1≤999)∧-2≤p.2.2.1∧p.2.2.1≤999)∧l.Pairwise (fun a b=>a.1<b.1):=by
 constructor
 ·intro h
  have hs:=ses_sorted h
  refine ⟨fun p hp=>?_,?_⟩
  ·obtain ⟨i,hi,rfl⟩:=List.mem_iff_getElem.1 hp
   simp only [sesOk,zcv] at h
   have:=h i hi
   simp only [sesAt,sesP,Bool.and_eq_true,decide_eq_true_eq] at this
   rw [zar hi] at this
   exact ⟨this.1,this.2.1,this.2.2.1⟩
  ·rw [List.pairwise_iff_getElem]
   intro i j hi hj hij
   have:=hs i j hij hj
   rwa [zar hi,zar hj] at this
 ·rintro ⟨h2,h3⟩
  rw [List.pairwise_iff_getElem] at h3
  simp only [sesOk,zcv]
  intro i hi
  have h4:=h2 l[i] (List.getElem_mem hi)
  simp only [sesAt,sesP,Bool.and_eq_true,Bool.or_eq_true,decide_eq_true_eq,Bool.not_eq_true',decide_eq_false_iff_not]
  rw [zar hi]
  refine ⟨h4.1,h4.2.1,h4.2.2,?_⟩
  by_cases h0:i=0
  ·exact .inl h0
  ·have hi1:i-1<l.length:=by omega
   rw [zar hi1]
   have:=h3 (i-1) i hi1 hi (by omega)
   exact .inr (by omega)
theorem pdrop_ok {l:List Pair} (h:pairsOk l=true) (s:List UInt8):pairsOk (pdrop l s).1=true∧∀p∈(pdrop l s).1,p∈l:=by
 unfold pdrop
 rw [if_pos h]
 split
 ·have hsub:List.Sublist (l.take (pp l s)++l.drop (pp l s+1)) l:=by
    conv=>rhs;rw [←List.take_append_drop (pp l s) l]
    exact List.Sublist.append (List.Sublist.refl _) (by rw [←List.drop_drop];exact List.drop_sublist 1 _)
  rw [zkt] at h
  refine ⟨zkt.2 ⟨Nat.le_trans hsub.length_le h.1,fun p hp=>h.2.1 p (hsub.subset hp),h.2.2.sublist hsub⟩,fun p hp=>hsub.subset hp⟩
 ·exact ⟨h,fun p hp=>hp⟩
theorem place_order {l:List Pair} (h:pairsOk l=true) (s:List UInt8):(∀p∈l.take (pp l s),bless p.1 s=true)∧(ph l s=true→∀p∈l.drop (pp l s+1),bless s p.1=true)∧(ph l s=false→∀p∈l.drop (pp l s),bless s p.1=true):=by
 have hs:=pairs_sorted h
 have hsp:(∀i,i<pp l s→ltP s (l.getD i pair0)=true)∧(pp l s<l.length→ltP s (l.getD (pp l s) pair0)=false):=ahead_spec (lt:=ltP s) (d:=pair0) (l:=l)
 refine ⟨fun p hp=>?_,fun hh p hp=>?_,fun hh p hp=>?_⟩
 ·obtain ⟨i,hi,rfl⟩:=List.mem_iff_getElem.1 hp
  rw [List.length_take] at hi
  have:=hsp.1 i (by omega)
  rw [zar (show i<l.length by omega)] at this
  rw [List.getElem_take];exact this
 ·obtain ⟨q1,q2⟩:=ph_lt hh
  obtain ⟨i,hi,rfl⟩:=List.mem_iff_getElem.1 hp
  rw [List.length_drop] at hi
  have:=hs (pp l s) (pp l s+1+i) (by omega) (by omega)
  rw [q2,zar (show pp l s+1+i<l.length by omega)] at this
  rw [List.getElem_drop];exact this
 ·obtain ⟨i,hi,rfl⟩:=List.mem_iff_getElem.1 hp
  rw [List.length_drop] at hi
  have hlt:pp l s<l.length:=by omega
  have hne : ¬(l.getD (pp l s) pair0).1=s:=fun e=>by
   have:ph l s=true:=by simp only [ph,hlt,e,decide_true,Bool.and_self]
   rw [this] at hh;cases hh
  have h0:bless s (l.getD (pp l s) pair0).1=true:=by
   have h1:=hsp.2 hlt
   have h2:=bless_total s (l.getD (pp l s) pair0).1
   have h1:bless (l.getD (pp l s) pair0).1 s=false:=h1
   rw [h1,decide_eq_false hne] at h2
   exact h2
  rw [List.getElem_drop]
  by_cases hi0:i=0
  ·subst hi0
   rw [zar hlt] at h0
   simpa using h0
  ·have:=hs (pp l s) (pp l s+i) (by omega) (by omega)
   rw [zar (show pp l s+i<l.length by omega)] at this
   exact bless_trans h0 this
theorem pput_ok {l:List Pair} (h:pairsOk l=true) {s:List UInt8} {v:Int} (hs:keyOk s=true) (hv:valOk v=true):pairsOk (pput l s v).1=true∧∀p∈(pput l s v).1,p∈l∨p=(s,(v,())):=by
 obtain ⟨o1,o2,o3⟩:=place_order h s
 have hle:=pp_le l s
 have hq:=h
 rw [zkt] at hq
 obtain ⟨q1,q2,q3⟩:=hq
 unfold pput
 rw [if_pos (by simp [h,hs,hv])]
 have gen : ∀d:List Pair,List.Sublist d (l.drop (pp l s))→(∀p∈d,bless s p.1=true)→(pp l s+1+d.length≤48)→pairsOk (l.take (pp l s)++[(s,(v,()))]++d)=true∧∀p∈l.take (pp l s)++[(s,(v,()))]++d,p∈l∨p=(s,(v,())):=by
  intro d hd ho hn
  have mem : ∀p∈l.take (pp l s)++[(s,(v,()))]++d,p∈l∨p=(s,(v,())):=by
   intro p hp
   rcases List.mem_append.1 hp with hp|hp
   ·rcases List.mem_append.1 hp with hp|hp
    ·exact .inl (List.mem_of_mem_take hp)
    ·exact .inr (by simpa using hp)
   ·exact .inl (List.mem_of_mem_drop (hd.subset hp))
  have hsub:List.Sublist (l.take (pp l s)++d) l:=by
   conv=>rhs;rw [←List.take_append_drop (pp l s) l]
   exact List.Sublist.append (List.Sublist.refl _) hd
  have hpw:=q3.sublist hsub
  rw [List.pairwise_append] at hpw
  refine ⟨zkt.2 ⟨by simp only [List.length_append,List.length_take,List.length_cons,List.length_nil];omega,fun p hp=>?_,?_⟩,mem⟩
  ·rcases mem p hp with hp|rfl
   ·exact q2 p hp
   ·exact ⟨hs,hv⟩
  ·rw [List.append_assoc,List.pairwise_append]
   refine ⟨hpw.1,?_,fun a ha b hb=>?_⟩
   ·rw [List.singleton_append,List.pairwise_cons]
    exact ⟨fun a ha=>ho a ha,hpw.2.1⟩
   ·rcases List.mem_append.1 hb with hb|hb
    ·have:b=(s,(v,())):=by simpa using hb
     rw [this];exact o1 a ha
    ·exact hpw.2.2 a ha b hb
 rcases Bool.eq_false_or_eq_true (ph l s) with hh|hh
 ·rw [if_pos hh]
  exact gen _ (by rw [←List.drop_drop];exact List.drop_sublist 1 _) (o2 hh) (by have:=(ph_lt hh).1;rw [List.length_drop];omega)
 ·rw [if_neg (by rw [hh];simp)]
  split
  ·exact ⟨h,fun p hp=>.inl hp⟩
  ·exact gen _ (List.Sublist.refl _) (o3 hh) (by rw [List.length_drop];omega)
theorem sput_ok {l:List Ses} (h:sesOk l=true) {s:Ses} (hs:(0≤s.1∧s.1≤3)∧(1≤s.2.1∧s.2.1≤999)∧-2≤s.2.2.1∧s.2.2.1≤999):sesOk (sput l s).1=true:=by
 have hsort:=ses_sorted h
 have hsp:(∀i,i<sp l s.1→ltS s.1 (l.getD i ses0)=true)∧(sp l s.1<l.length→ltS s.1 (l.getD (sp l s.1) ses0)=false):=ahead_spec (lt:=ltS s.1) (d:=ses0) (l:=l)
 have hq:=h
 rw [sesOk_iff] at hq
 obtain ⟨q2,q3⟩:=hq
 have h1:sesOk [s]=true:=sesOk_iff.2 ⟨fun p hp=>by simp at hp;subst hp;exact hs,by simp⟩
 have o1 : ∀p∈l.take (sp l s.1),p.1<s.1:=fun p hp=>by
  obtain ⟨i,hi,rfl⟩:=List.mem_iff_getElem.1 hp
  rw [List.length_take] at hi
  have:=hsp.1 i (by omega)
  rw [zar (show i<l.length by omega)] at this
  rw [List.getElem_take];simpa [ltS] using this
 unfold sput
 rw [if_pos (by simp [h,h1])]
 have gen : ∀d:List Ses,List.Sublist d (l.drop (sp l s.1))→(∀p∈d,s.1<p.1)→sesOk (l.take (sp l s.1)++[s]++d)=true:=by
  intro d hd ho
  have hsub:List.Sublist (l.take (sp l s.1)++d) l:=by
   conv=>rhs;rw [←List.take_append_drop (sp l s.1) l]
   exact List.Sublist.append (List.Sublist.refl _) hd
  have hpw:=q3.sublist hsub
  rw [List.pairwise_append] at hpw
  refine sesOk_iff.2 ⟨fun p hp=>?_,?_⟩
  ·rcases List.mem_append.1 hp with hp|hp
   ·rcases List.mem_append.1 hp with hp|hp
    ·exact q2 p (List.mem_of_mem_take hp)
    ·simp at hp;subst hp;exact hs
   ·exact q2 p (List.mem_of_mem_drop (hd.subset hp))
  ·rw [List.append_assoc,List.pairwise_append]
   refine ⟨hpw.1,?_,fun a ha b hb=>?_⟩
   ·rw [List.singleton_append,List.pairwise_cons]
    exact ⟨fun a ha=>ho a ha,hpw.2.1⟩
   ·rcases List.mem_append.1 hb with hb|hb
    ·have:b=s:=by simpa using hb
     rw [this];exact o1 a ha
    ·exact hpw.2.2 a ha b hb
 rcases Bool.eq_false_or_eq_true (sh l s.1) with hh|hh
 ·rw [if_pos hh]
  obtain ⟨m1,m2⟩:=sh_lt hh
  split
  ·exact h
  ·refine gen _ (by rw [←List.drop_drop];exact List.drop_sublist 1 _) (fun p hp=>?_)
   obtain ⟨i,hi,rfl⟩:=List.mem_iff_getElem.1 hp
   rw [List.length_drop] at hi
   have:=hsort (sp l s.1) (sp l s.1+1+i) (by omega) (by omega)
   rw [m2,zar (show sp l s.1+1+i<l.length by omega)] at this
   rw [List.getElem_drop];exact this
 ·rw [if_neg (by rw [hh];simp)]
  refine gen _ (List.Sublist.refl _) (fun p hp=>?_)
  obtain ⟨i,hi,rfl⟩:=List.mem_iff_getElem.1 hp
  rw [List.length_drop] at hi
  have hlt:sp l s.1<l.length:=by omega
  have hne : ¬(l.getD (sp l s.1) ses0).1=s.1:=fun e=>by
   have:sh l s.1=true:=by simp only [sh,hlt,e,decide_true,Bool.and_self]
   rw [this] at hh;cases hh
  have h0:s.1<(l.getD (sp l s.1) ses0).1:=by
   have h1:=hsp.2 hlt
   simp only [ltS,decide_eq_false_iff_not] at h1
   omega
  rw [List.getElem_drop]
  by_cases hi0:i=0
  ·subst hi0
   rw [zar hlt] at h0
   simpa using h0
  ·have:=hsort (sp l s.1) (sp l s.1+i) (by omega) (by omega)
   rw [zar (show sp l s.1+i<l.length by omega)] at this
   omega
end
end Go.Den.T
namespace Go.Den.T
set_option linter.unusedVariables false
set_option linter.unusedSimpArgs false
set_option linter.unusedSectionVars false
section
variable {A:Atoms} [IsReal A]
theorem pput_val {l:List Pair} (h:pairsOk l=true) (s:List UInt8) (v:Int):pairsOk (pput l s v).1=true:=by
 by_cases hs:keyOk s=true∧valOk v=true
 ·exact (pput_ok h hs.1 hs.2).1
 ·unfold pput
  rw [if_neg (by simp only [h,Bool.true_and,Bool.and_eq_true];exact hs)]
  decide
theorem sput_val {l:List Ses} (h:sesOk l=true) (s:Ses):sesOk (sput l s).1=true:=by
 by_cases hs:sesOk [s]=true
 ·refine sput_ok h ?_
  have h1:=zcv.1 hs 0 (by simp)
  simp only [sesAt,sesP,Bool.and_eq_true,decide_eq_true_eq] at h1
  exact ⟨h1.1,h1.2.1,h1.2.2.1⟩
 ·unfold sput
  rw [if_neg (by simp only [h,Bool.true_and];exact hs)]
  decide
theorem l20Sessions_val (k:Nat) (hk:2000≤k) (N:Int) (r:Rd) (h:RdOk N r) (hp:N≤790000000):Ok (zb9 A k ((),(0,())) r) (fun q=>RdOk (N+60) q.2∧sesOk q.1.1=true):=by
 rw [zb9]
 refine (zaf k 5 _ _ h (by omega) (by omega)).bind fun q0 h0=>?_
 have b1:=h0.2.1
 have b2:=h0.2.2.2.1 (by omega)
 refine Ok.bind (P:=fun e:Int×(List Ses×Rd)=>e.1=0∧sesOk e.2.1=true∧RdOk (N+40) e.2.2) (zbt (fun j (s:Int×(List Ses×(Int×Rd)))=>s.1=0∧s.2.2.1=(j:Int)∧sesOk s.2.1=true∧(j:Int)≤4∧RdOk (N+1+5*(4-(j:Int))) s.2.2.2) _ ?_ (n:=q0.1.1.toNat) (by omega) ⟨rfl,by show q0.1.1=_;omega,by show sesOk []=true;decide,by omega,h0.1.le (by omega)⟩) fun e he=>?_
 ·rintro j ⟨n',l,x,rr⟩ ⟨g0,g1,g2,g5,g3⟩
  simp only at g0 g1 g2 g3
  subst g0 g1
  rw [zhy,zad]
  simp only [a_ltI,decide_eq_true_eq,decide_eq_false_iff_not]
  refine ⟨fun hpos=>?_,fun _=>zac.2 ⟨fun s' e=>(by cases e),fun e he=>(by injection he with he;subst he;exact ⟨rfl,g2,g3.le (by omega)⟩)⟩⟩
  have w':A.wrapI .i64 (A.subI (j:Int) 1)=((j-1:Nat):Int):=by rw [a_subI,zal (by omega) (by omega)];omega
  have hl:=ses_le4 g2
  refine (l20Session_ok k 0 _ _ g3 (by omega) (by omega)).bind fun q1 h1=>?_
  rw [zc0 k (by omega) l q1.1.1 (by omega) (by omega),a_obind_some]
  refine zac.2 ⟨fun s' e=>?_,fun e he=>(by cases he)⟩
  injection e with e;subst e
  exact ⟨j-1,by omega,rfl,w',sput_val g2 _,by omega,h1.le (by omega)⟩
 ·obtain ⟨n1,l1,r1⟩:=e
  obtain ⟨e1,e2,e3⟩:=he
  simp only at e1 e2 e3
  subst e1
  simp only [odd0,a_obind_some,a_cndS,Bool.false_eq_true,if_false]
  exact zac.2 ⟨e3.le (by omega),e2⟩
theorem l20Pairs_val (k:Nat) (hk:2000≤k) (N:Int) (r:Rd) (h:RdOk N r) (hp:N≤800000000):Ok (zds A k ((),(0,())) r) (fun q=>RdOk (N+300) q.2∧pairsOk q.1.1=true):=by
 rw [zds]
 refine (zaf k 9 _ _ h (by omega) (by omega)).bind fun q0 h0=>?_
 have b1:=h0.2.1
 have b2:=h0.2.2.2.1 (by omega)
 refine Ok.bind (P:=fun e:Int×(List Pair×Rd)=>e.1=0∧pairsOk e.2.1=true∧RdOk (N+200) e.2.2) (zbt (fun j (s:Int×(List Pair×(Int×Rd)))=>s.1=0∧s.2.2.1=(j:Int)∧(j:Int)≤8∧pairsOk s.2.1=true∧RdOk (N+1+14*(8-(j:Int))) s.2.2.2) _ ?_ (n:=q0.1.1.toNat) (by omega) ⟨rfl,by show q0.1.1=_;omega,by omega,by show pairsOk []=true;decide,h0.1.le (by omega)⟩) fun e he=>?_
 ·rintro j ⟨n',l,x,rr⟩ ⟨g0,g1,g5,g2,g3⟩
  simp only at g0 g1 g2 g3
  subst g0 g1
  rw [zki,zad]
  simp only [a_ltI,decide_eq_true_eq,decide_eq_false_iff_not]
  refine ⟨fun hpos=>?_,fun _=>zac.2 ⟨fun s' e=>(by cases e),fun e he=>(by injection he with he;subst he;exact ⟨rfl,g2,g3.le (by omega)⟩)⟩⟩
  have w':A.wrapI .i64 (A.subI (j:Int) 1)=((j-1:Nat):Int):=by rw [a_subI,zal (by omega) (by omega)];omega
  refine (l20Key_ok k (by omega) 0 _ _ g3 (by omega) (by omega)).bind fun q1 h1=>?_
  refine (l20Value_ok k 0 _ _ h1.1 (by omega) (by omega)).bind fun q2 h2=>?_
  rw [zhi k (by omega),a_obind_some]
  refine zac.2 ⟨fun s' e=>?_,fun e he=>(by cases he)⟩
  injection e with e;subst e
  exact ⟨j-1,by omega,rfl,w',by omega,pput_val g2 _ _,h2.1.le (by omega)⟩
 obtain ⟨n1,l1,r1⟩:=e
 obtain ⟨e1,e2,e3⟩:=he
 simp only at e1 e2 e3
 subst e1
 refine Ok.bind (P:=fun e:Int×(List Pair×Rd)=>e.1=0∧pairsOk e.2.1=true∧RdOk (N+201) e.2.2) ?_ fun e he=>?_
 ·refine (zaf k 16 _ _ e3 (by omega) (by omega)).bind fun q1 h1=>?_
  rw [zad]
  refine ⟨fun _=>?_,fun _=>zac.2 ⟨rfl,e2,h1.1.le (by omega)⟩⟩
  refine Ok.bind (P:=fun e:Int×(List Pair×Rd)=>e.1=0∧pairsOk e.2.1=true∧RdOk (N+201) e.2.2) (zbt (fun m (s:Int×(List Pair×(Int×Rd)))=>∃i:Nat,s.1=0∧s.2.2.1=(i:Int)∧i≤200∧m=200-i∧pairsOk s.2.1=true∧RdOk (N+201) s.2.2.2) _ ?_ (n:=200) (by omega) ⟨0,rfl,rfl,by omega,rfl,e2,h1.1.le (by omega)⟩) fun e he=>zac.2 he
  rintro m ⟨n',l,x,rr⟩ ⟨i,g0,g1,g2,rfl,g3,g4⟩
  simp only at g0 g1 g3 g4
  subst g0 g1
  rw [zj2]
  refine Ok.bind (P:=fun t=>t = .inr (.inr ((0:Int),(l,rr)))∨(t = .inl ((0:Int),(l,((i:Int),rr)))∧i<200)) ?_ fun t ht=>?_
  ·rw [zad]
   refine ⟨fun c1=>?_,fun _=>zac.2 (.inl rfl)⟩
   rw [zad]
   refine ⟨fun c2=>zac.2 (.inr ⟨rfl,?_⟩),fun _=>zac.2 (.inl rfl)⟩
   have c2':(i:Int)<200:=by simpa using c2
   omega
  rcases ht with rfl|⟨rfl,hi⟩
  ·rw [a_sumE_inr]
   exact zac.2 ⟨fun s' e=>(by cases e),fun r e=>(by injection e with e;subst e;exact ⟨rfl,g3,g4⟩)⟩
  rw [a_sumE_inl]
  refine (KeyAt_ok k (by omega) _).bind fun q2 _=>?_
  rw [zhi k (by omega),a_obind_some]
  refine zac.2 ⟨fun s' e=>?_,fun e he=>(by cases he)⟩
  injection e with e;subst e
  have w:A.wrapI .i64 (A.addI (i:Int) 1)=((i+1:Nat):Int):=by rw [a_addI,zal (by omega) (by omega)];rfl
  exact ⟨200-(i+1),by omega,i+1,rfl,w,by omega,rfl,pput_val g3 _ _,g4⟩
 obtain ⟨n2,l2,r2⟩:=e
 obtain ⟨f1,f2,f3⟩:=he
 simp only at f1 f2 f3
 subst f1
 simp only [odd0,a_obind_some,a_cndS,Bool.false_eq_true,if_false]
 exact zac.2 ⟨f3.le (by omega),f2⟩
end
end Go.Den.T
namespace Go.Den.T
set_option linter.unusedVariables false
set_option linter.unusedSimpArgs false
set_option linter.unusedSectionVars false
section
variable {A:Atoms} [IsReal A]
end
abbrev TCfg':Ty:=.prod (.int .i64) (.prod (.slice (.int .i64)) (.prod .bool .unit))
abbrev TRep:Ty:=.prod TCfg' (.prod .bool (.prod (.slice TEnt) .unit))
end Go.Den.T
namespace Go.Den.T
set_option linter.unusedVariables false
set_option linter.unusedSimpArgs false
variable {A:Atoms} [IsReal A]
end Go.Den.T
namespace Go.Den.T
set_option linter.unusedVariables false
set_option linter.unusedSimpArgs false
variable {A:Atoms} [IsReal A]
theorem nodup_inj {xs:List Int} (h:xs.Nodup) {i j:Nat} (hi:i<xs.length) (hj:j<xs.length) (e:xs[i]=xs[j]):i=j:=by
 rw [List.nodup_iff_pairwise_ne,List.pairwise_iff_getElem] at h
 rcases Nat.lt_trichotomy i j with hl|hl|hl
 ·exact absurd e (h i j hi hj hl)
 ·exact hl
 ·exact absurd e.symm (h j i hj hi hl)
theorem idx_at {xs:List Int} {i:Nat} (h:xs.Nodup) (hi:i<xs.length):idx xs (xs.getD i 0)=i:=by
 rcases idx_cases xs (xs.getD i 0) with ⟨_,hm⟩|⟨j,e,hj,hv,_⟩
 ·exact absurd (by rw [zar hi];exact List.getElem_mem hi) hm
 ·rw [e]
  rw [zar hi,zar hj] at hv
  have:=nodup_inj h hj hi hv
  omega
/-! ### a member taken away -/
end Go.Den.T
namespace Go.Den.T
set_option linter.unusedVariables false
set_option linter.unusedSimpArgs false
set_option linter.unusedSectionVars false
section
variable {A:Atoms} [IsReal A]
/-! ### a member added -/
end
end Go.Den.T
namespace Go.Den.T
set_option linter.unusedVariables false
set_option linter.unusedSimpArgs false
set_option linter.unusedSectionVars false
section
variable {A:Atoms} [IsReal A]
def MsgS (m:Msg):Prop:=Short m.2.2.2.1∧LogS m.2.2.2.2.1
theorem l20Message_ok (k:Nat) (hk:100≤k) (n N:Int) (r:Rd) (h:RdOk N r) (hp:N≤400000000) (hn:n≤1000000000):Ok (zdh A k ((),(n,())) r) (fun q=>RdOk (N+9000) q.2∧MsgS q.1.1):=by
 have nilS:LogS []:=⟨by simp,by simp⟩
 have zS:Short (0,([],(false,()))):=by simp [Short]
 rw [zdh]
 refine (zlm k (by omega) 0 N r h (by omega) (by omega)).bind fun q0 hq0=>?_
 refine (zaf k 5 _ _ hq0.1 (by omega) (by omega)).bind fun q1 hq1=>?_
 refine Ok.bind (P:=fun t:Int×(Msg×(Msg×Rd))=>t.1=n∧MsgS t.2.2.1∧RdOk (N+4200) t.2.2.2) ?_ fun t ht=>?_
 ·refine (zaf k 3 _ _ hq1.1 (by omega) (by omega)).bind fun q2 hq2=>?_
  rw [zad]
  refine ⟨fun _=>?_,fun _=>?_⟩
  ·refine (zaf k 5 _ _ hq2.1 (by omega) (by omega)).bind fun q3 hq3=>?_
   refine (zaf k 5 _ _ hq3.1 (by omega) (by omega)).bind fun q4 hq4=>?_
   exact (l20Log_ok k hk 0 _ _ hq4.1 (by omega) (by omega)).bind fun q5 hq5=>zac.2 ⟨rfl,⟨zS,hq5.2⟩,hq5.1.le (by omega)⟩
  ·rw [zad]
   refine ⟨fun _=>?_,fun _=>zac.2 ⟨rfl,⟨hq0.2,nilS⟩,hq2.1.le (by omega)⟩⟩
   exact (zaf k 5 _ _ hq2.1 (by omega) (by omega)).bind fun q6 hq6=>zac.2 ⟨rfl,⟨zS,nilS⟩,hq6.1.le (by omega)⟩
 obtain ⟨g1,⟨g2,g3⟩,g4⟩:=ht
 refine (odd_ok k _ _ _ g4 (by omega) (by rw [g1];omega)).bind fun q8 hq8=>?_
 rw [zad]
 refine ⟨fun _=>?_,fun _=>zac.2 ⟨hq8.le (by omega),g2,g3⟩⟩
 refine (zaf k 5 _ _ hq8 (by omega) (by omega)).bind fun q9 hq9=>?_
 rw [zad]
 refine ⟨fun _=>?_,fun _=>?_⟩
 ·refine (zaf k 2 _ _ hq9.1 (by omega) (by omega)).bind fun q10 hq10=>?_
  have b1:=hq10.2.1
  have b2:=hq10.2.2.2.1 (by omega)
  rw [zad]
  exact ⟨fun _=>zac.2 ⟨hq10.1.le (by omega),g2,g3⟩,fun hc=>by simp at hc;omega⟩
 rw [zad]
 refine ⟨fun _=>?_,fun _=>?_⟩
 ·refine (zaf k 2 _ _ hq9.1 (by omega) (by omega)).bind fun q10 hq10=>?_
  have b1:=hq10.2.1
  have b2:=hq10.2.2.2.1 (by omega)
  rw [zad]
  exact ⟨fun _=>zac.2 ⟨hq10.1.le (by omega),g2,g3⟩,fun hc=>by simp at hc;omega⟩
 rw [zad]
 refine ⟨fun _=>?_,fun _=>?_⟩
 ·refine (zaf k 2 _ _ hq9.1 (by omega) (by omega)).bind fun q10 hq10=>?_
  have b1:=hq10.2.1
  have b2:=hq10.2.2.2.1 (by omega)
  rw [zad]
  exact ⟨fun _=>zac.2 ⟨hq10.1.le (by omega),g2,g3⟩,fun hc=>by simp at hc;omega⟩
 rw [zad]
 refine ⟨fun _=>?_,fun _=>?_⟩
 ·exact (l20Log_ok k hk 1 _ _ hq9.1 (by omega) (by omega)).bind fun q13 hq13=>zac.2 ⟨hq13.1.le (by omega),g2,hq13.2⟩
 ·exact (zlm k (by omega) 1 _ _ hq9.1 (by omega) (by omega)).bind fun q14 hq14=>zac.2 ⟨hq14.1.le (by omega),hq14.2,g3⟩
end
end Go.Den.T
namespace Go.Den.T
set_option linter.unusedVariables false
set_option linter.unusedSimpArgs false
set_option linter.unusedSectionVars false
section
variable {A:Atoms} [IsReal A]
def bagOk (l:List Msg):Bool:=decide (l.length≤10)&&l.all msgOk
theorem zlx (k:Nat) (hk:30≤k) (l:List Msg):zhs A k (l,()) ()=some ((bagOk l,()),()):=by
 by_cases hl:(10:Int)<l.length
 ·have : ¬l.length≤10:=by omega
  simp [zhs,hl,bagOk,this]
 ·have hl':l.length≤10:=by omega
  have h:=zdb (A:=A) (f:=zgy A k) (fun i=>(l,((l.length:Int),((i:Int),())))) l.length (fun i=>msgOk (l.getD i ((0:Int),((0:Int),((0:Int),(((0:Int),(([]:List Int),(false,()))),(([]:List Ent),()))))))) (.inr ((false,()),())) (.inl ())
   (fun i hi=>by
     simp (disch:=omega) [zgy,hi,zal,zip k hk]
     cases msgOk l[i]<;>simp)
   (by simp [zgy]) (k:=k) (by omega)
  rw [zht] at h
  simp only [Int.natCast_zero,Int.ofNat_zero] at h
  simp only [zhs,a_cndS,a_ltI,a_lenL,hl,decide_false,Bool.false_eq_true,if_false,h,a_obind_some,bagOk,hl',decide_true,Bool.true_and]
  cases l.all msgOk<;>simp
theorem zea (k:Nat) (hk:30≤k) (l:List Msg):zdn A k (l,()) ()=some ((bagOk l,()),()):=by
 have h:Ok (A.iter k (zc2 A k) (l,(0,()))) (fun r=>r=if bagOk l=true then .inl () else .inr ((false,()),())):=by
  refine zbt (fun j s=>∃i:Nat,s=(l,((i:Int),()))∧i+j=10∧i≤l.length∧(l.take i).all msgOk=true) _ ?_ (n:=10) (by omega) ⟨0,rfl,by omega,by omega,rfl⟩
  rintro j s ⟨i,rfl,hij,hil,hall⟩
  by_cases hi:i<l.length
  ·have hi':(i:Int)<(l.length:Int):=by omega
   by_cases h24:(10:Int)≤(i:Int)
   ·have : ¬l.length≤10:=by omega
    refine ⟨.inr (.inr ((false,()),())),by simp [zc2,hi,h24],fun s' e=>(by cases e),fun e he=>?_⟩
    injection he with he;subst he
    simp [bagOk,this]
   ·have w:A.wrapI .i64 ((i:Int)+1)=(i:Int)+1:=zal (by omega) (by omega)
    by_cases hv:msgOk l[i]=true
    ·refine ⟨.inl (l,(((i+1:Nat):Int),())),by simp [zc2,hi,h24,w,zc5 k hk,hv],fun s' e=>?_,fun e he=>(by cases he)⟩
     injection e with e;subst e
     refine ⟨j-1,by omega,i+1,rfl,by omega,by omega,?_⟩
     rw [List.take_succ_eq_append_getElem hi,List.all_append,hall];simp [hv]
    ·refine ⟨.inr (.inr ((false,()),())),by simp [zc2,hi,h24,w,zc5 k hk,hv],fun s' e=>(by cases e),fun e he=>?_⟩
     injection he with he;subst he
     have:l.all msgOk=false:=by
      rw [←Bool.not_eq_true,List.all_eq_true]
      exact fun h=>hv (h _ (List.getElem_mem hi))
     simp [bagOk,this]
  ·have:i=l.length:=by omega
   subst this
   rw [List.take_length] at hall
   refine ⟨.inr (.inl ()),by simp [zc2],fun s' e=>(by cases e),fun e he=>?_⟩
   injection he with he;subst he
   have:l.length≤10:=by omega
   simp only [bagOk,this,hall,decide_true,Bool.and_self,if_true]
 rw [ok_eq] at h
 rw [zdn,h]
 cases bagOk l<;>simp
def BagS (l:List Msg):Prop:=l.length≤30∧∀m∈l,MsgS m
theorem l20Bag_ok (k:Nat) (hk:100≤k) (n N:Int) (r:Rd) (h:RdOk N r) (hp:N≤200000000) (hn:n≤1000000000):Ok (zmc A k ((),(n,())) r) (fun q=>RdOk (N+1000000) q.2∧BagS q.1.1):=by
 rw [zmc]
 refine (zaf k 5 _ _ h (by omega) (by omega)).bind fun q0 hq0=>?_
 have b0:=hq0.2.1
 have b0':=hq0.2.2.2.1 (by omega)
 refine Ok.bind (P:=fun t:Int×(List Msg×(Int×Rd))=>t.1=n∧t.2.1=[]∧0≤t.2.2.1∧t.2.2.1≤10∧RdOk (N+10) t.2.2.2) ?_ fun t ht=>?_
 ·refine (zaf k 5 _ _ hq0.1 (by omega) (by omega)).bind fun q1 hq1=>?_
  rw [zad]
  refine ⟨fun _=>?_,fun _=>zac.2 ⟨rfl,rfl,b0,by show q0.1.1≤10;omega,hq1.1.le (by omega)⟩⟩
  refine (zaf k 2 _ _ hq1.1 (by omega) (by omega)).bind fun q2 hq2=>?_
  have b1:=hq2.2.1
  have b2:=hq2.2.2.2.1 (by omega)
  have w:A.wrapI .i64 (A.subI 10 q2.1.1)=10-q2.1.1:=by rw [a_subI];exact zal (by omega) (by omega)
  exact zac.2 ⟨rfl,rfl,by show 0≤A.wrapI .i64 (A.subI 10 q2.1.1);rw [w];omega,by show A.wrapI .i64 (A.subI 10 q2.1.1)≤10;rw [w];omega,hq2.1.le (by omega)⟩
 obtain ⟨t1,l,m,r3⟩:=t
 obtain ⟨g1,g2,g3,g4,g5⟩:=ht
 simp only at g1 g2 g3 g4 g5
 subst g1 g2
 refine Ok.bind (P:=fun e:Int×(List Msg×Rd)=>e.1=t1∧e.2.1.length≤10∧(∀m∈e.2.1,MsgS m)∧RdOk (N+200000) e.2.2) (zbt (fun j (s:Int×(List Msg×(Int×Rd)))=>s.1=t1∧s.2.2.1=m∧(s.2.1.length:Int)+j=m∧(∀x∈s.2.1,MsgS x)∧RdOk (N+10+9000*(s.2.1.length:Int)) s.2.2.2) _ ?_ (n:=m.toNat) (by omega) ⟨rfl,rfl,by show ((([]:List Msg).length:Nat):Int)+(m.toNat:Int)=m;simp;omega,by simp,g5.le (by simp)⟩) fun e he=>?_
 ·rintro j ⟨n',l,m',rr⟩ ⟨h1,h2,h3,h4,h5⟩
  simp only at h1 h2 h3 h4 h5
  subst h1 h2
  rw [spec_l20Bag_t_b0,zad]
  simp only [a_lenL,a_ltI,decide_eq_true_eq,decide_eq_false_iff_not]
  refine ⟨fun hlt=>?_,fun hge=>zac.2 ⟨fun s' e=>(by cases e),fun e he=>(by injection he with he;subst he;exact ⟨rfl,by show l.length≤10;omega,h4,h5.le (by omega)⟩)⟩⟩
  refine (l20Message_ok k hk 0 _ _ h5 (by omega) (by omega)).bind fun q hq=>?_
  rw [zad]
  refine ⟨fun _=>zac.2 ⟨fun s' e=>?_,fun e he=>(by cases he)⟩,fun hc=>by simp at hc;omega⟩
  injection e with e;subst e
  rw [a_appL]
  refine ⟨j-1,by omega,rfl,rfl,by simp;omega,fun x hx=>?_,hq.1.le (by simp;omega)⟩
  rcases List.mem_append.1 hx with hx|hx
  ·exact h4 x hx
  ·simp at hx;subst hx;exact hq.2
 ·obtain ⟨e1,e2,e3,e4⟩:=he
  refine (odd_ok k _ _ _ e4 (by omega) (by rw [e1];omega)).bind fun q2 hq2=>?_
  rw [zad]
  refine ⟨fun _=>?_,fun _=>zac.2 ⟨hq2.le (by omega),by show e.2.1.length≤30;omega,e3⟩⟩
  refine (zaf k 2 _ _ hq2 (by omega) (by omega)).bind fun q3 hq3=>?_
  rw [zad]
  refine ⟨fun _=>?_,fun _=>?_⟩
  ·refine (l20Message_ok k hk 1 _ _ hq3.1 (by omega) (by omega)).bind fun q4 hq4=>?_
   rw [zad]
   refine ⟨fun _=>zac.2 ⟨hq4.1.le (by omega),?_⟩,fun hc=>by simp at hc;omega⟩
   rw [a_appL]
   refine ⟨by simp;omega,fun x hx=>?_⟩
   rcases List.mem_append.1 hx with hx|hx
   ·exact e3 x hx
   ·simp at hx;subst hx;exact hq4.2
  ·refine Ok.bind (P:=fun t:List Msg×Rd=>BagS t.1∧RdOk (N+900000) t.2) (zbt (fun j (t:List Msg×Rd)=>j+t.1.length=11∧(∀x∈t.1,MsgS x)∧RdOk (N+200002+9000*(t.1.length:Int)) t.2) _ ?_ (n:=11-e.2.1.length) (by omega) ⟨by show 11-e.2.1.length+e.2.1.length=11;omega,e3,hq3.1.le (by show N+200000+1+1≤N+200002+9000*(e.2.1.length:Int);omega)⟩) fun t ht=>zac.2 ⟨ht.2.le (by omega),ht.1⟩
   rintro j ⟨l,rr⟩ ⟨h1,h2,h3⟩
   simp only at h1 h2 h3
   rw [spec_l20Bag_t_b1,zad]
   simp only [a_lenL,a_leI,decide_eq_true_eq,decide_eq_false_iff_not]
   refine ⟨fun hle=>?_,fun hgt=>zac.2 ⟨fun s' e=>(by cases e),fun e he=>(by injection he with he;subst he;exact ⟨⟨by show l.length≤30;omega,h2⟩,h3.le (by omega)⟩)⟩⟩
   refine (l20Message_ok k hk 0 _ _ h3 (by omega) (by omega)).bind fun q hq=>?_
   rw [zad]
   refine ⟨fun _=>zac.2 ⟨fun s' e=>?_,fun e he=>(by cases he)⟩,fun hc=>by simp at hc;omega⟩
   injection e with e;subst e
   rw [a_appL]
   refine ⟨j-1,by omega,by simp;omega,fun x hx=>?_,hq.1.le (by simp;omega)⟩
   rcases List.mem_append.1 hx with hx|hx
   ·exact h2 x hx
   ·simp at hx;subst hx;exact hq.2
end
end Go.Den.T
namespace Go.Den.T
set_option linter.unusedVariables false
set_option linter.unusedSimpArgs false
set_option linter.unusedSectionVars false
section
variable {A:Atoms} [IsReal A]
abbrev rep0:Rep:=((0,([],(false,()))),(false,([],())))
theorem l17Copy_eq (k:Nat) (r:Rep) (h1:r.1.2.1.length≤1000000000) (h2:r.2.2.1.length≤1000000000):zer A k (r,()) ()=some ((r,()),()):=by
 have:(r.2.2.1.length:Int)<4294967296:=by omega
 simp [zer,zfh k r.1 h1,this]
theorem repOk_len {r:Rep} (h:repOk r=true):r.1.2.1.length≤4∧r.2.2.1.length≤24:=by
 unfold repOk at h
 cases hn:noCfg r.1 with
 | true=>
   simp only [hn,if_true,Bool.and_eq_true,decide_eq_true_eq] at h
   simp only [noCfg,Bool.and_eq_true,decide_eq_true_eq] at hn
   omega
 | false=>
   simp only [hn,Bool.false_eq_true,if_false,Bool.and_eq_true] at h
   have:=zay h.1
   have h2:=h.2.1
   simp only [logOk,Bool.and_eq_true,decide_eq_true_eq] at h2
   omega
def takeCopy (r:Rep) (ep:Int) (l:List Ent):Rep×(Bool×Unit):=
 if (repOk r&&(decide (1≤ep∧ep≤60)&&logOk l))=true then
  if (decide (ep=r.1.1) && !(r.2.1&&decide (l.length≤r.2.2.1.length)))=true then ((r.1,(true,(l,r.2.2.2))),(true,())) else (r,(false,()))
 else (rep0,(false,()))
theorem zlq (k:Nat) (hk:30≤k) (r:Rep) (ep:Int) (l:List Ent):zkg A k (r,(ep,(l,()))) ()=some (takeCopy r ep l,()):=by
 simp only [zkg,zbi k hk,l10Log_eq k hk,zc9,a_obind_some,a_cndS,a_notB,takeCopy]
 cases h:repOk r with
 | false=>simp
 | true=>
   have hl:=repOk_len h
   by_cases h3:1≤ep∧ep≤60
   case neg=>simp [h3]
   cases hlog:logOk l with
   | false=>simp [h3]
   | true=>
     have hll:l.length≤24:=by simp only [logOk,Bool.and_eq_true,decide_eq_true_eq] at hlog;exact hlog.1
     have g1:(l.length:Int)<4294967296:=by omega
     simp only [h3,decide_true,decide_false,Bool.not_true,Bool.false_eq_true,if_false,if_true,a_sumE_inl,l17Copy_eq k r (by omega) (by omega),a_obind_some,a_eqI,Bool.and_self,and_self]
     by_cases h4:ep=r.1.1
     ·cases h5:r.2.1 with
      | true=>
        by_cases h6:l.length≤r.2.2.1.length
        ·have:(l.length:Int)≤(r.2.2.1.length:Int):=by omega
         simp [h4,h6,this]
        ·have : ¬(l.length:Int)≤(r.2.2.1.length:Int):=by omega
         simp [h4,h6,this,g1]
      | false=>simp [h4,g1]
     ·simp [h4]
end
end Go.Den.T
namespace Go.Den.T
set_option linter.unusedVariables false
set_option linter.unusedSimpArgs false
set_option linter.unusedSectionVars false
section
variable {A:Atoms} [IsReal A]
theorem ent_eq (a b:Ent):(decide (a.1=b.1)&&(decide (a.2.1=b.2.1)&&((decide (a.2.2.1.1=b.2.2.1.1)&&(decide (a.2.2.1.2.1=b.2.2.1.2.1)&&(decide (a.2.2.1.2.2.1=b.2.2.1.2.2.1)&&(decide (a.2.2.1.2.2.2.1=b.2.2.1.2.2.2.1)&&true))))&&true)))=decide (a=b):=by
 obtain ⟨a1,a2,⟨a3,a4,a5,a6,_⟩,_⟩:=a
 obtain ⟨b1,b2,⟨b3,b4,b5,b6,_⟩,_⟩:=b
 rw [Bool.eq_iff_iff]
 simp
theorem sameLog_eq (k:Nat) (xs ys:List Ent) (hk:xs.length<k) (hl:xs.length≤1000000000):zgn A k (xs,(ys,())) ()=some ((decide (xs=ys),()),()):=by
 by_cases he:xs.length=ys.length
 ·have h:=eq_loop (A:=A) (f:=zh1 A k) ent0 xs ys hk he
    (fun i hi=>by
      have hi':i<ys.length:=by omega
      have hx:(i:Int)<(xs.length:Int):=by omega
      have hy:(i:Int)<(ys.length:Int):=by omega
      have w:A.wrapI .i64 ((i:Int)+1)=(i:Int)+1:=zal (by omega) (by omega)
      have e:=ent_eq (xs.getD i ent0) (ys.getD i ent0)
      simp only [zh1,a_cndS,a_ltI,a_lenL,a_le0,a_andB,hx,hy,Int.natCast_nonneg,decide_true,Bool.and_self,if_true,a_atL,Int.toNat_natCast,a_eqI,a_eqS,a_notB,a_addI,w,e]
      by_cases hv:xs.getD i ent0=ys.getD i ent0
      ·simp only [hv];simp
      ·simp only [hv];simp)
    (by simp [zh1])
  simp only [zgn,a_lenL,he,a_eqI,decide_true,a_notB,Bool.not_true,a_cndS,Bool.false_eq_true,if_false,h]
  by_cases hv:xs=ys<;>simp [hv]
 ·have h2 : ¬(xs.length:Int)=ys.length:=by omega
  have h3 : ¬xs=ys:=fun e=>he (by rw [e])
  simp [zgn,h2,h3]
end
end Go.Den.T
namespace Go.Den.T
set_option linter.unusedVariables false
set_option linter.unusedSimpArgs false
set_option linter.unusedSectionVars false
section
variable {A:Atoms} [IsReal A]
abbrev msg0:Msg:=(0,(0,(0,((0,([],(false,()))),([],())))))
def MsgF (m:Msg):Prop:=m.2.2.2.1.2.1.length≤1000000000∧m.2.2.2.2.1.length≤1000000000
theorem l18Copy_eq (k:Nat) (m:Msg) (h:MsgF m):zgq A k (m,()) ()=some ((m,()),()):=by
 have h2:=h.2
 have:(m.2.2.2.2.1.length:Int)<4294967296:=by omega
 simp [zgq,zfh k m.2.2.2.1 h.1,this]
def drop1 {α:Type} (l:List α) (n:Int):List α:=if 0≤n then l.eraseIdx n.toNat else l
theorem drop1_snoc {α:Type} (l:List α) (x:α) (n:Int):drop1 (l++[x]) n=if n=(l.length:Int) then drop1 l n else drop1 l n++[x]:=by
 unfold drop1
 by_cases h0:0≤n
 ·obtain ⟨p,rfl⟩ : ∃p:Nat,n=p:=⟨n.toNat,by omega⟩
  simp only [h0,if_true,Int.toNat_natCast]
  by_cases hp:p<l.length
  ·have hne : ¬(p:Int)=(l.length:Int):=by omega
   rw [if_neg hne,List.eraseIdx_append_of_lt_length hp]
  ·have e1:l.eraseIdx p=l:=List.eraseIdx_of_length_le (by omega)
   by_cases he:p=l.length
   ·have hee:(p:Int)=(l.length:Int):=by omega
    rw [if_pos hee,e1,List.eraseIdx_append_of_length_le (by omega),he,Nat.sub_self]
    exact List.append_nil _
   ·have hne : ¬(p:Int)=(l.length:Int):=by omega
    have h2:[x].eraseIdx (p-l.length)=[x]:=List.eraseIdx_of_length_le (by show 1≤p-l.length;omega)
    rw [if_neg hne,e1,List.eraseIdx_append_of_length_le (by omega),h2]
 ·have hne : ¬n=(l.length:Int):=by omega
  simp [h0,hne]
theorem drop1_len {α:Type} (l:List α) (n:Int):(drop1 l n).length≤l.length:=by
 unfold drop1;split
 ·rw [List.length_eraseIdx];split<;>omega
 ·omega
theorem l18Bag_eq (k:Nat) (l:List Msg) (n:Int) (hk:l.length<k) (hl:l.length≤1000000000) (hf : ∀m∈l,MsgF m):zdc A k (l,(n,())) ()=some ((drop1 l n,()),()):=by
 have h:=iter_for (A:=A) (f:=zgk A k) (fun i=>(l,(n,(drop1 (l.take i) n,((i:Int),()))))) l.length (drop1 l n,())
  (fun i hi=>by
    have hm:=hf l[i] (List.getElem_mem hi)
    have hi':(i:Int)<(l.length:Int):=by omega
    have w:A.wrapI .i64 ((i:Int)+1)=(i:Int)+1:=zal (by omega) (by omega)
    have tl:(l.take i).length=i:=by rw [List.length_take];omega
    have dl:=drop1_len (l.take i) n
    have g:((drop1 (l.take i) n).length:Int)+1<4294967296:=by omega
    have e:drop1 (l.take (i+1)) n=if n=(i:Int) then drop1 (l.take i) n else drop1 (l.take i) n++[l[i]]:=by
     rw [List.take_succ_eq_append_getElem hi,drop1_snoc,tl]
    rw [e]
    by_cases hn:n=(i:Int)
    ·subst hn
     simp [zgk,hi,w]
    ·have hn' : ¬(i:Int)=n:=fun e=>hn e.symm
     simp only [zgk,a_cndS,a_ltI,a_lenL,a_le0,a_andB,hi',Int.natCast_nonneg,decide_true,decide_false,Bool.and_self,if_true,a_eqI,hn,hn',a_notB,Bool.not_false,if_false,a_atL,Int.toNat_natCast,zar hi,l18Copy_eq k l[i] hm,a_obind_some,a_addI,w,a_big,a_appL,List.length_cons,List.length_nil,Nat.zero_add,Int.natCast_one,Int.ofNat_one,g]
     rfl)
  (by simp [zgk]) hk
 have z:drop1 ([]:List Msg) n=[]:=by unfold drop1;split<;>simp
 simp [z] at h
 simp [zdc,h]
theorem drop1_neg {α:Type} (l:List α):drop1 l (-1)=l:=by simp [drop1]
def takeB (l:List Msg) (n:Int):Msg×(List Msg×(Bool×Unit)):=
 if bagOk l=true then (if 0≤n∧n<l.length then (l.getD n.toNat msg0,(drop1 l n,(true,()))) else (msg0,(l,(false,())))) else (msg0,([],(false,())))
theorem zgi {l:List Msg} (h:bagOk l=true):l.length≤10∧∀m∈l,msgOk m=true:=by
 simp only [bagOk,Bool.and_eq_true,decide_eq_true_eq,List.all_eq_true] at h;exact h
theorem msgOk_len {m:Msg} (h:msgOk m=true):m.2.2.2.1.2.1.length≤4∧m.2.2.2.2.1.length≤24:=by
 obtain ⟨kd,to,ep,c,l,_⟩:=m
 simp only [msgOk,Bool.and_eq_true,decide_eq_true_eq] at h
 have hcf : ∀c:Cfg,noCfg c=true→c.2.1.length=0:=fun c hc=>by
  simp only [noCfg,Bool.and_eq_true,decide_eq_true_eq] at hc;exact hc.2.1
 have hlg : ∀l:List Ent,logOk l=true→l.length≤24:=fun l hl=>by
  simp only [logOk,Bool.and_eq_true,decide_eq_true_eq] at hl;exact hl.1
 by_cases h1:kd=1
 ·simp [h1] at h
  have h5:=zay h.2.2.1
  have h6:=h.2.2.2.2
  refine ⟨by simp only;omega,by simp only;simp [h6]⟩
 ·by_cases h2:kd=2
  ·simp [h2] at h
   have hc:=hcf c h.2.2.1
   have hl:=hlg l h.2.2.2
   exact ⟨by simp only;omega,by simp only;omega⟩
  ·by_cases h3:kd=3
   ·simp [h3] at h
    have hc:=hcf c h.2.2.1
    have h6:=h.2.2.2
    exact ⟨by simp only;omega,by simp only;simp [h6]⟩
   ·simp [h1,h2,h3] at h
theorem bag_f {l:List Msg} (h:bagOk l=true) : ∀m∈l,MsgF m:=fun m hm=>by
 have:=msgOk_len ((zgi h).2 m hm)
 exact ⟨by omega,by omega⟩
end
end Go.Den.T
namespace Go.Den.T
end Go.Den.T
namespace Go.Den.T
set_option linter.unusedVariables false
set_option linter.unusedSimpArgs false
set_option linter.unusedSectionVars false
section
variable {A:Atoms} [IsReal A]
def MsgZ (m:Msg):Prop:=m.2.2.2.1.2.1.length≤1048576∧m.2.2.2.2.1.length≤1048576
end
end Go.Den.T
namespace Go.Den.T
set_option linter.unusedVariables false
set_option linter.unusedSimpArgs false
set_option linter.unusedSectionVars false
abbrev Ans:=Ent×(Int×Unit)
abbrev Chn:=Stt×(Cfg×(List Rep×(List Bool×(List Msg×(List Ans×Unit)))))
instance:DecidableEq Msg:=inferInstanceAs (DecidableEq (Int×(Int×(Int×(Cfg×(List Ent×Unit))))))
instance:DecidableEq Stt:=inferInstanceAs (DecidableEq (Itv×(List Pair×(List Ses×(Bool×(List UInt8×Unit))))))
instance:DecidableEq Ans:=inferInstanceAs (DecidableEq (Ent×(Int×Unit)))
instance decMsgAns:DecidableEq (List Msg×(List Ans×Unit)):=inferInstance
instance decReps:DecidableEq (List Rep×(List Bool×(List Msg×(List Ans×Unit)))):=inferInstance
instance decCfgs:DecidableEq (Cfg×(List Rep×(List Bool×(List Msg×(List Ans×Unit))))):=inferInstance
instance:DecidableEq Chn:=inferInstanceAs (DecidableEq (Stt×(Cfg×(List Rep×(List Bool×(List Msg×(List Ans×Unit)))))))
abbrev ans0:Ans:=(ent0,(0,()))
section
variable {A:Atoms} [IsReal A]
/-! ### sizes -/
def RepZ (r:Rep):Prop:=r.1.2.1.length≤1048576∧r.2.2.1.length≤1048576
def ChnZ (c:Chn):Prop:=StShort c.1∧c.2.1.2.1.length≤1048576∧(c.2.2.1.length≤1048576∧∀r∈c.2.2.1,RepZ r)∧c.2.2.2.1.length≤1048576∧(c.2.2.2.2.1.length≤1048576∧∀m∈c.2.2.2.2.1,MsgZ m)∧c.2.2.2.2.2.1.length≤1048576
/-! ### copies and comparisons -/
/-! ### valid chains -/
def ansOk (a:Ans):Bool:=entOk a.1&&decide (-4≤a.2.1∧a.2.1≤999)
def chnOk (c:Chn):Bool:=stOk c.1&&(cfgOk c.2.1&&(decide (c.2.2.1.length=5)&&(decide (c.2.2.2.1.length=5)&&(bagOk c.2.2.2.2.1&&(decide (c.2.2.2.2.2.1.length≤24) &&
 (c.2.2.1.all (fun r=>repOk r&&decide (r.1.1≤c.2.1.1))&&(c.2.2.2.2.1.all (fun m=>decide (m.2.2.1≤c.2.1.1))&&c.2.2.2.2.2.1.all ansOk)))))))
theorem zed (k:Nat) (hk:2000000≤k) (c:Chn) (hs:StShort c.1):zdi A k (c,()) ()=some ((chnOk c,()),()):=by
 have hs2:=hs.2
 simp only [zdi,zcw k (by omega) c.1 (by omega) (by omega),zav k (by omega) c.2.1,zea k (by omega) c.2.2.2.2.1,a_obind_some,a_cndS,a_notB,a_eqI,a_lenL,a_ltI,chnOk]
 rcases Bool.eq_false_or_eq_true (stOk c.1) with g1|g1
 case inr=>simp [g1]
 rcases Bool.eq_false_or_eq_true (cfgOk c.2.1) with g2|g2
 case inr=>simp [g1,g2]
 by_cases g3:c.2.2.1.length=5
 case neg=>
  have : ¬(c.2.2.1.length:Int)=5:=by omega
  simp [g1,g2,g3,this]
 by_cases g4:c.2.2.2.1.length=5
 case neg=>
  have : ¬(c.2.2.2.1.length:Int)=5:=by omega
  simp [g1,g2,g3,g4,this]
 rcases Bool.eq_false_or_eq_true (bagOk c.2.2.2.2.1) with g5|g5
 case inr=>simp [g1,g2,g3,g4,g5]
 by_cases g6:c.2.2.2.2.2.1.length≤24
 case neg=>
  have:(24:Int)<(c.2.2.2.2.2.1.length:Int):=by omega
  simp [g1,g2,g3,g4,g5,g6,this]
 have g3':(c.2.2.1.length:Int)=5:=by omega
 have g4':(c.2.2.2.1.length:Int)=5:=by omega
 have g6' : ¬(24:Int)<(c.2.2.2.2.2.1.length:Int):=by omega
 have hb:c.2.2.2.2.1.length≤10:=by simp [bagOk] at g5;exact g5.1
 have l0:=zdb (A:=A) (f:=ze3 A k) (fun i=>((i:Int),(c,()))) c.2.2.1.length (fun i=>repOk (c.2.2.1.getD i rep0)&&decide ((c.2.2.1.getD i rep0).1.1≤c.2.1.1)) (.inr ((false,()),())) (.inl (c,()))
  (fun i hi=>by
    have i5:(i:Int)<5:=by omega
    have w:A.wrapI .i64 ((i:Int)+1)=((i+1:Nat):Int):=by rw [zal (by omega) (by omega)];rfl
    have ha:A.atL c.2.2.1 (i:Int) rep0=c.2.2.1.getD i rep0:=by rw [a_atL];rfl
    simp only [ze3,a_cndS,a_ltI,i5,decide_true,if_true,a_lenL,g3',a_le0,Int.natCast_nonneg,a_andB,Bool.and_self,ha,zbi k (by omega),a_obind_some,a_notB,a_addI,w]
    generalize c.2.2.1.getD i rep0=r
    rcases Bool.eq_false_or_eq_true (repOk r) with v|v
    ·by_cases u:r.1.1≤c.2.1.1
     ·have : ¬c.2.1.1<r.1.1:=by omega
      simp [v,u,this]
     ·have:c.2.1.1<r.1.1:=by omega
      simp [v,u,this]
    ·simp [v])
  (by rw [g3];simp [ze3]) (k:=k) (by omega)
 have l1:=zdb (A:=A) (f:=ze1 A k) (fun i=>((i:Int),(c,()))) c.2.2.2.2.1.length (fun i=>decide ((c.2.2.2.2.1.getD i msg0).2.2.1≤c.2.1.1)) (.inr ((false,()),())) (.inl (c,()))
  (fun i hi=>by
    have i5:(i:Int)<(c.2.2.2.2.1.length:Int):=by omega
    have w:A.wrapI .i64 ((i:Int)+1)=((i+1:Nat):Int):=by rw [zal (by omega) (by omega)];rfl
    have ha:A.atL c.2.2.2.2.1 (i:Int) msg0=c.2.2.2.2.1.getD i msg0:=by rw [a_atL];rfl
    simp only [ze1,a_cndS,a_ltI,i5,decide_true,if_true,a_lenL,a_le0,Int.natCast_nonneg,a_andB,Bool.and_self,ha,a_addI,w]
    generalize c.2.2.2.2.1.getD i msg0=r
    by_cases u:r.2.2.1≤c.2.1.1
    ·have : ¬c.2.1.1<r.2.2.1:=by omega
     simp [u,this]
    ·have:c.2.1.1<r.2.2.1:=by omega
     simp [u,this])
  (by simp [ze1]) (k:=k) (by omega)
 have l2:=zdb (A:=A) (f:=zex A k) (fun i=>((i:Int),(c,()))) c.2.2.2.2.2.1.length (fun i=>ansOk (c.2.2.2.2.2.1.getD i ans0)) (.inr ((false,()),())) (.inl ())
  (fun i hi=>by
    have i5:(i:Int)<(c.2.2.2.2.2.1.length:Int):=by omega
    have w:A.wrapI .i64 ((i:Int)+1)=((i+1:Nat):Int):=by rw [zal (by omega) (by omega)];rfl
    have ha:A.atL c.2.2.2.2.2.1 (i:Int) ans0=c.2.2.2.2.2.1.getD i ans0:=by rw [a_atL];rfl
    simp only [zex,a_cndS,a_ltI,i5,decide_true,if_true,a_lenL,a_le0,Int.natCast_nonneg,a_andB,Bool.and_self,ha,a_addI,w,zbq k (by omega),zc9,a_obind_some,a_notB]
    generalize c.2.2.2.2.2.1.getD i ans0=r
    rcases Bool.eq_false_or_eq_true (entOk r.1) with v|v
    ·by_cases u : -4≤r.2.1∧r.2.1≤999<;>simp [ansOk,v,u]
    ·simp [ansOk,v])
  (by simp [zex]) (k:=k) (by omega)
 rw [zht (q:=fun r:Rep=>repOk r&&decide (r.1.1≤c.2.1.1))] at l0
 rw [zht (q:=fun m:Msg=>decide (m.2.2.1≤c.2.1.1))] at l1
 rw [zht (q:=ansOk)] at l2
 simp only [Int.natCast_zero,Int.ofNat_zero] at l0 l1 l2
 have e5:((5:Nat):Int)=5:=rfl
 simp only [g1,g2,g3',g4',g5,g6',g3,g4,g6,e5,decide_true,decide_false,Bool.not_true,Bool.false_eq_true,if_false,a_sumE_inl,l0,a_obind_some,Bool.true_and]
 cases c.2.2.1.all (fun r=>repOk r&&decide (r.1.1≤c.2.1.1)) with
 | false=>simp
 | true=>
   simp only [if_true,a_sumE_inl,l1,a_obind_some,Bool.true_and]
   cases c.2.2.2.2.1.all (fun m=>decide (m.2.2.1≤c.2.1.1)) with
   | false=>simp
   | true=>
     simp only [if_true,a_sumE_inl,l2,a_obind_some,Bool.true_and]
     cases c.2.2.2.2.2.1.all ansOk<;>simp
theorem answersValid_eq (k:Nat) (hk:2000000≤k) (l:List Ans):zf0 A k (l,()) ()=some (((decide (l.length≤24)&&l.all ansOk),()),()):=by
 rw [zf0]
 by_cases g6:l.length≤24
 case neg=>
  have:(24:Int)<(l.length:Int):=by omega
  simp [g6,this]
 have g6' : ¬(24:Int)<(l.length:Int):=by omega
 have l2:=zdb (A:=A) (f:=zd3 A k) (fun i=>(l,((l.length:Int),((i:Int),())))) l.length (fun i=>ansOk (l.getD i ans0)) (.inr ((false,()),())) (.inl ())
  (fun i hi=>by
    have i5:(i:Int)<(l.length:Int):=by omega
    have w:A.wrapI .i64 ((i:Int)+1)=((i+1:Nat):Int):=by rw [zal (by omega) (by omega)];rfl
    have ha:A.atL l (i:Int) ans0=l.getD i ans0:=by rw [a_atL];rfl
    simp only [zd3,a_cndS,a_ltI,i5,decide_true,if_true,a_lenL,a_le0,Int.natCast_nonneg,a_andB,Bool.and_self,ha,a_addI,w,zg2 k (by omega),a_obind_some,a_notB]
    generalize l.getD i ans0=r
    rcases Bool.eq_false_or_eq_true (entOk r.1) with v|v
    ·by_cases u1:r.2.1 < -4
     ·have : ¬(-4≤r.2.1∧r.2.1≤999):=by omega
      simp [ansOk,v,u1,this]
     ·by_cases u2:999<r.2.1
      ·have : ¬(-4≤r.2.1∧r.2.1≤999):=by omega
       simp [ansOk,v,u1,u2,this]
      ·have : -4≤r.2.1∧r.2.1≤999:=by omega
       simp [ansOk,v,u1,u2,this]
    ·simp [ansOk,v])
  (by simp [zd3]) (k:=k) (by omega)
 rw [zht (q:=ansOk)] at l2
 simp only [Int.natCast_zero,Int.ofNat_zero] at l2
 simp only [a_cndS,a_ltI,a_lenL,g6',decide_false,Bool.false_eq_true,if_false,l2,a_obind_some,g6,decide_true,Bool.true_and]
 cases l.all ansOk<;>simp
theorem zgz (k:Nat) (hk:2000000≤k) (c:Chn) (hs:StShort c.1):zfo A k (c,()) ()=some ((chnOk c,()),()):=by
 have hs2:=hs.2
 simp only [zfo,zjs k (by omega) c.1 (by omega) (by omega),zbj k (by omega) c.2.1,zlx k (by omega) c.2.2.2.2.1,a_obind_some,a_cndS,a_notB,a_eqI,a_lenL,chnOk]
 rcases Bool.eq_false_or_eq_true (stOk c.1) with g1|g1
 case inr=>simp [g1]
 rcases Bool.eq_false_or_eq_true (cfgOk c.2.1) with g2|g2
 case inr=>simp [g1,g2]
 by_cases g3:c.2.2.1.length=5
 case neg=>
  have : ¬(c.2.2.1.length:Int)=5:=by omega
  simp [g1,g2,g3,this]
 by_cases g4:c.2.2.2.1.length=5
 case neg=>
  have : ¬(c.2.2.2.1.length:Int)=5:=by omega
  simp [g1,g2,g3,g4,this]
 rcases Bool.eq_false_or_eq_true (bagOk c.2.2.2.2.1) with g5|g5
 case inr=>simp [g1,g2,g3,g4,g5]
 have g3':(c.2.2.1.length:Int)=5:=by omega
 have g4':(c.2.2.2.1.length:Int)=5:=by omega
 have hb:c.2.2.2.2.1.length≤10:=by simp [bagOk] at g5;exact g5.1
 have l0:=zdb (A:=A) (f:=zev A k) (fun i=>(c.2.2.1,(((c.2.2.1.length:Nat):Int),((i:Int),(c,()))))) c.2.2.1.length (fun i=>repOk (c.2.2.1.getD i rep0)&&decide ((c.2.2.1.getD i rep0).1.1≤c.2.1.1)) (.inr ((false,()),())) (.inl (c,()))
  (fun i hi=>by
    have i5:(i:Int)<(c.2.2.1.length:Int):=by omega
    have w:A.wrapI .i64 ((i:Int)+1)=((i+1:Nat):Int):=by rw [zal (by omega) (by omega)];rfl
    have ha:A.atL c.2.2.1 (i:Int) rep0=c.2.2.1.getD i rep0:=by rw [a_atL];rfl
    simp only [zev,a_cndS,a_ltI,i5,decide_true,if_true,a_lenL,a_le0,Int.natCast_nonneg,a_andB,Bool.and_self,ha,zil k (by omega),a_obind_some,a_notB,a_addI,w]
    generalize c.2.2.1.getD i rep0=r
    rcases Bool.eq_false_or_eq_true (repOk r) with v|v
    ·by_cases u:r.1.1≤c.2.1.1
     ·have : ¬c.2.1.1<r.1.1:=by omega
      simp [v,u,this]
     ·have:c.2.1.1<r.1.1:=by omega
      simp [v,u,this]
    ·simp [v])
  (by simp [zev]) (k:=k) (by omega)
 have l1:=zdb (A:=A) (f:=ze2 A k) (fun i=>(c.2.2.2.2.1,(((c.2.2.2.2.1.length:Nat):Int),((i:Int),(c,()))))) c.2.2.2.2.1.length (fun i=>decide ((c.2.2.2.2.1.getD i msg0).2.2.1≤c.2.1.1)) (.inr ((false,()),())) (.inl (c,()))
  (fun i hi=>by
    have i5:(i:Int)<(c.2.2.2.2.1.length:Int):=by omega
    have w:A.wrapI .i64 ((i:Int)+1)=((i+1:Nat):Int):=by rw [zal (by omega) (by omega)];rfl
    have ha:A.atL c.2.2.2.2.1 (i:Int) msg0=c.2.2.2.2.1.getD i msg0:=by rw [a_atL];rfl
    simp only [ze2,a_cndS,a_ltI,i5,decide_true,if_true,a_lenL,a_le0,Int.natCast_nonneg,a_andB,Bool.and_self,ha,a_addI,w]
    generalize c.2.2.2.2.1.getD i msg0=r
    by_cases u:r.2.2.1≤c.2.1.1
    ·have : ¬c.2.1.1<r.2.2.1:=by omega
     simp [u,this]
    ·have:c.2.1.1<r.2.2.1:=by omega
     simp [u,this])
  (by simp [ze2]) (k:=k) (by omega)
 rw [zht (q:=fun r:Rep=>repOk r&&decide (r.1.1≤c.2.1.1))] at l0
 rw [zht (q:=fun m:Msg=>decide (m.2.2.1≤c.2.1.1))] at l1
 simp only [Int.natCast_zero,Int.ofNat_zero] at l0 l1
 have e5:((5:Nat):Int)=5:=rfl
 simp only [g1,g2,g3',g4',g5,g3,g4,e5,decide_true,decide_false,Bool.not_true,Bool.false_eq_true,if_false,a_sumE_inl,a_obind_some,Bool.true_and]
 rw [g3,e5] at l0
 simp only [l0,a_obind_some]
 cases c.2.2.1.all (fun r=>repOk r&&decide (r.1.1≤c.2.1.1)) with
 | false=>simp
 | true=>
   simp only [if_true,a_sumE_inl,l1,a_obind_some,Bool.true_and]
   cases c.2.2.2.2.1.all (fun m=>decide (m.2.2.1≤c.2.1.1)) with
   | false=>simp
   | true=>simp only [if_true,a_sumE_inl,answersValid_eq k hk,a_obind_some,Bool.true_and]
end
end Go.Den.T
namespace Go.Den.T
set_option linter.unusedVariables false
set_option linter.unusedSimpArgs false
set_option linter.unusedSectionVars false
section
variable {A:Atoms} [IsReal A]
def mtx (A:Atoms) (k:Nat) (n:Int):List UInt8:=match laws_markText_t A k (n,()) () with
 | some r=>r.1.1
 | none=>[]
def mE (A:Atoms) (k:Nat) (n:Int):Ent:=(n,(n+1,((n+2,(mtx A k (n+3),(n+4,(n+5,())))),())))
def marksE (A:Atoms) (k:Nat) (n:Int) (m:Nat):List Ent:=(List.range m).map fun i:Nat=>mE A k (n+6*(i:Int))
@[simp] theorem marksE_len (k:Nat) (n:Int) (m:Nat):(marksE A k n m).length=m:=by simp [marksE]
end
end Go.Den.T
namespace Go.Den.T
set_option linter.unusedVariables false
set_option linter.unusedSimpArgs false
set_option linter.unusedSectionVars false
section
variable {A:Atoms} [IsReal A]
theorem zmq (k:Nat) (hk:30≤k) (l:List Msg) (n:Int):zlg A k (l,(n,())) ()=some (takeB l n,()):=by
 simp only [zlg,zea k hk,a_obind_some,a_cndS,a_notB,takeB]
 rcases Bool.eq_false_or_eq_true (bagOk l) with hb|hb
 case inr=>simp [hb]
 have hl:=(zgi hb).1
 have hf:=bag_f hb
 have w:A.wrapI .i64 ((l.length:Int)-1)=(l.length:Int)-1:=zal (by omega) (by omega)
 simp only [hb,Bool.not_true,Bool.false_eq_true,if_false,if_true,l18Bag_eq k l _ (by omega) (by omega) hf,a_obind_some,a_ltI,a_subI,a_lenL,w,zc9]
 by_cases h1:0≤n∧n<(l.length:Int)
 case neg=>
  have h2 : ¬(0≤n∧n≤(l.length:Int)-1):=by omega
  simp [h1,h2,drop1_neg]
 obtain ⟨p,rfl⟩ : ∃p:Nat,n=p:=⟨n.toNat,by omega⟩
 have hp:p<l.length:=by omega
 have h2:0≤(p:Int)∧(p:Int)≤(l.length:Int)-1:=by omega
 have h3:(p:Int)<(l.length:Int):=by omega
 simp only [h1,h2,h3,and_self,decide_true,Bool.not_true,Bool.false_eq_true,if_false,if_true,a_le0,Int.natCast_nonneg,a_andB,Bool.and_self,a_atL,Int.toNat_natCast,zar hp,l18Copy_eq k l[p] (hf _ (List.getElem_mem hp)),a_obind_some]
def addB (l:List Msg) (m:Msg):List Msg×(Bool×Unit):=
 if (bagOk l&&msgOk m)=true then (if 10≤l.length then (l,(false,())) else (l++[m],(true,()))) else ([],(false,()))
theorem zis (k:Nat) (hk:30≤k) (l:List Msg) (m:Msg):zfz A k (l,(m,())) ()=some (addB l m,()):=by
 simp only [zfz,zea k hk,zc5 k hk,a_obind_some,a_cndS,a_notB,addB]
 rcases Bool.eq_false_or_eq_true (bagOk l) with hb|hb
 case inr=>simp [hb]
 rcases Bool.eq_false_or_eq_true (msgOk m) with hm|hm
 case inr=>simp [hb,hm]
 have hl:=(zgi hb).1
 have hf:=bag_f hb
 have hml:=msgOk_len hm
 have g:(l.length:Int)+1<4294967296:=by omega
 simp only [hb,hm,Bool.not_true,Bool.false_eq_true,if_false,if_true,a_sumE_inl,l18Bag_eq k l _ (by omega) (by omega) hf,drop1_neg,a_obind_some,a_leI,a_lenL,Bool.and_self,l18Copy_eq k m ⟨by omega,by omega⟩]
 by_cases h10:10≤l.length
 ·have:(10:Int)≤(l.length:Int):=by omega
  simp [h10,this]
 ·have : ¬(10:Int)≤(l.length:Int):=by omega
  simp [h10,this,g]
def repeatB (l:List Msg) (n:Int):List Msg×(Bool×Unit):=
 if bagOk l=true then (if 0≤n∧n<l.length then addB l (l.getD n.toNat msg0) else (l,(false,()))) else ([],(false,()))
theorem zks (k:Nat) (hk:30≤k) (l:List Msg) (n:Int):zi4 A k (l,(n,())) ()=some (repeatB l n,()):=by
 simp only [zi4,zea k hk,a_obind_some,a_cndS,a_notB,repeatB]
 rcases Bool.eq_false_or_eq_true (bagOk l) with hb|hb
 case inr=>simp [hb]
 have hl:=(zgi hb).1
 have hf:=bag_f hb
 have w:A.wrapI .i64 ((l.length:Int)-1)=(l.length:Int)-1:=zal (by omega) (by omega)
 simp only [hb,Bool.not_true,Bool.false_eq_true,if_false,if_true,l18Bag_eq k l _ (by omega) (by omega) hf,a_obind_some,a_ltI,a_subI,a_lenL,w,zc9]
 by_cases h1:0≤n∧n<(l.length:Int)
 case neg=>
  have h2 : ¬(0≤n∧n≤(l.length:Int)-1):=by omega
  simp [h1,h2,drop1_neg]
 obtain ⟨p,rfl⟩ : ∃p:Nat,n=p:=⟨n.toNat,by omega⟩
 have hp:p<l.length:=by omega
 have h2:0≤(p:Int)∧(p:Int)≤(l.length:Int)-1:=by omega
 have h3:(p:Int)<(l.length:Int):=by omega
 simp only [h1,h2,h3,and_self,decide_true,Bool.not_true,Bool.false_eq_true,if_false,if_true,a_le0,Int.natCast_nonneg,a_andB,Bool.and_self,a_atL,Int.toNat_natCast,zar hp,zis k hk,a_obind_some]
/-! ### compared -/
def MsgT (k:Nat) (m:Msg):Prop:=m.2.2.2.1.2.1.length<k∧m.2.2.2.2.1.length<k∧MsgF m
/-! ### drawn -/
theorem BagS.t {k:Nat} {l:List Msg} (hk:200≤k) (h:BagS l) : ∀m∈l,MsgT k m:=fun m hm=>by
 have:=h.2 m hm
 have h1:m.2.2.2.1.2.1.length≤100:=this.1
 have h2:m.2.2.2.2.1.length≤30:=this.2.1
 exact ⟨by omega,by omega,by omega,by omega⟩
theorem mem_drop1 {α:Type} {l:List α} {n:Int} {x:α} (h:x∈drop1 l n):x∈l:=by
 unfold drop1 at h;split at h
 ·exact List.mem_of_mem_eraseIdx h
 ·exact h
end
end Go.Den.T
namespace Go.Den.T
set_option linter.unusedVariables false
set_option linter.unusedSimpArgs false
set_option linter.unusedSectionVars false
section
variable {A:Atoms} [IsReal A]
/-! marks, element by element -/
section
variable {α:Type} (mk:Int→α→α) (nx:Int→α→Int)
end
/-! messages -/
end
end Go.Den.T
namespace Go.Den.T
set_option linter.unusedVariables false
set_option linter.unusedSimpArgs false
set_option linter.unusedSectionVars false
section
variable {A:Atoms} [IsReal A]
theorem logOk_iff' {l:List Ent} : logOk l=true↔l.length≤24∧∀e∈l,entOk e=true:=by
 simp only [logOk,Bool.and_eq_true,decide_eq_true_eq,List.all_eq_true]
theorem cmd_val {c:Cmd} (h:cmdOk c=true) (h5:c.1≠5) (h1:c.1≠1) (h3:c.1≠3):valOk c.2.2.1=true:=by
 simp only [cmdOk,Bool.and_eq_true] at h
 have h:=h.2
 rw [if_neg (by simp [h1,h3,h5])] at h
 split at h
 ·simp only [decide_eq_true_eq] at h
  simp [valOk,h.1]
 ·split at h
  ·simp only [decide_eq_true_eq] at h
   simp [valOk,h.1]
  ·cases h
theorem appC_ok {l:List Pair} (h:pairsOk l=true) {c:Cmd} (hc:cmdOk c=true) (h5:c.1≠5):pairsOk (appC l c).1=true∧(∀p∈(appC l c).1,p∈l∨p.1=c.2.1)∧-2≤(appC l c).2.1∧(appC l c).2.1≤999:=by
 have hg:=pget_cases l c.2.1
 have hkey:keyOk c.2.1=true:=by
  rcases cmd_key hc with h|h
  ·exact h
  ·exact absurd h.1 h5
 unfold appC
 rw [if_pos ⟨by simp [h,hc],h5⟩]
 split
 ·obtain ⟨k1,k2⟩:=pdrop_ok h c.2.1
  exact ⟨k1,fun p hp=>.inl (k2 p hp),by show -2≤pget l c.2.1;omega,by show pget l c.2.1≤999;omega⟩
 ·rename_i h3
  split
  ·exact ⟨h,fun p hp=>.inl hp,by show -2≤pget l c.2.1;omega,by show pget l c.2.1≤999;omega⟩
  ·rename_i h1
   have h1:c.1≠1:=fun e=>h1 (.inl e)
   split
   ·exact ⟨h,fun p hp=>.inl hp,by simp,by simp⟩
   ·obtain ⟨k1,k2⟩:=pput_ok h hkey (cmd_val hc h5 h1 h3)
    exact ⟨k1,fun p hp=>(k2 p hp).imp id (fun e=>by rw [e]),by show -2≤pget l c.2.1;omega,by show pget l c.2.1≤999;omega⟩
theorem apE_ok {s:Stt} (h:stOk s=true) {e:Ent} (he:entOk e=true):stOk (apE s e).1=true:=by
 obtain ⟨p1,p2,p3,p4,p5⟩:=stOk_parts h
 obtain ⟨q1,q2,q3⟩:=entOk_parts he
 unfold apE
 rw [if_pos (by simp [h,he])]
 split
 ·exact h
 split
 ·exact h
 split
 ·exact h
 rename_i hm
 simp only [Bool.or_eq_true,Bool.not_eq_true',not_or,Bool.not_eq_true,Bool.not_eq_false] at hm
 obtain ⟨hz,ht⟩:=hm
 split
 ·rename_i h5
  have hs:=sput_ok p3 (s:=(e.1,(e.2.1,(0,())))) ⟨q1,q2,by simp,by simp⟩
  have hcut:e.2.2.1.2.1=[]∨(cut s.1 e.2.2.1.2.1).2.2.1=true:=by
   simp only [takes,h5,if_true,Bool.or_eq_true,decide_eq_true_eq] at ht
   exact ht
  simp only [stOk,p1,p2,hs,p4,Bool.true_and,Bool.or_eq_true,decide_eq_true_eq]
  exact hcut
 ·rename_i h5
  obtain ⟨k1,k2,k3,k4⟩:=appC_ok p2 q3 h5
  have hs:=sput_ok p3 (s:=(e.1,(e.2.1,((appC s.2.1 e.2.2.1).2.1,())))) ⟨q1,q2,k3,k4⟩
  have hin:inside s.1 e.2.2.1.2.1=true:=by simpa only [takes,h5,if_false] using ht
  have hall:(appC s.2.1 e.2.2.1).1.all (fun p=>inside s.1 p.1)=true:=by
   rw [List.all_eq_true]
   intro p hp
   rcases k2 p hp with hp|hp
   ·exact (List.all_eq_true.1 p4) p hp
   ·rw [hp];exact hin
  simp only [stOk,p1,k1,hs,hall,Bool.true_and,Bool.or_eq_true,decide_eq_true_eq,Bool.and_eq_true]
  exact p5
def rep (s:Stt):List Ent→Stt×List Int
 | []=>(s,[])
 | e::l=>((rep (apE s e).1 l).1,(apE s e).2.1::(rep (apE s e).1 l).2)
theorem rep_append (s:Stt) : ∀(l m:List Ent),rep s (l++m)=((rep (rep s l).1 m).1,(rep s l).2++(rep (rep s l).1 m).2)∧(rep s l).2.length=l.length:=by
 intro l
 induction l generalizing s with
 | nil=>intro m;exact ⟨rfl,rfl⟩
 | cons e l ih=>
   intro m
   obtain ⟨h1,h2⟩:=ih (apE s e).1 m
   exact ⟨by simp only [List.cons_append,rep,h1],by simp only [rep,List.length_cons,h2]⟩
theorem rep_snoc (s:Stt) (l:List Ent) (e:Ent):rep s (l++[e])=((apE (rep s l).1 e).1,(rep s l).2++[(apE (rep s l).1 e).2.1]):=(rep_append s l [e]).1
theorem rep_ok {s:Stt} (h:stOk s=true) : ∀ {l:List Ent},(∀e∈l,entOk e=true)→stOk (rep s l).1=true:=by
 intro l
 induction l generalizing s with
 | nil=>intro _;exact h
 | cons e l ih=>intro hl;exact ih (apE_ok h (hl e (by simp))) (fun x hx=>hl x (by simp [hx]))
def replay (s:Stt) (l:List Ent):Stt×(List Int×Unit):=if (stOk s&&logOk l)=true then ((rep s l).1,((rep s l).2,())) else (stt0,([],()))
theorem st_short {s:Stt} (h:stOk s=true):s.2.1.length≤48∧s.2.2.1.length≤4:=by
 obtain ⟨_,p2,p3,_⟩:=stOk_parts h
 exact ⟨pairs_len p2,ses_le4 p3⟩
theorem spec_Replay_eq (k:Nat) (hk:100≤k) (s:Stt) (l:List Ent) (hk2:s.2.2.1.length<k) (hl:s.2.2.1.length≤1000000000):zmb A k (s,(l,())) ()=some (replay s l,()):=by
 simp only [zmb,zcw k (by omega:60≤k) s hk2 hl,l10Log_eq k (by omega:30≤k),a_obind_some,a_cndS,a_notB,replay]
 rcases Bool.eq_false_or_eq_true (stOk s) with h1|h1
 case inr=>simp [h1]
 rcases Bool.eq_false_or_eq_true (logOk l) with h2|h2
 case inr=>simp [h1,h2]
 obtain ⟨g1,g2⟩:=st_short h1
 obtain ⟨m1,m2⟩:=logOk_iff'.1 h2
 have hloop:A.iter k (zly A k) (l,(([]:List Int),((0:Int),(stt0,(s,())))))=some ((rep s l).2,(stt0,((rep s l).1,()))):=by
  rw [←ok_eq]
  refine zbt (fun m (st:List Ent×(List Int×(Int×(Stt×(Stt×Unit)))))=>∃i:Nat,st=(l,((rep s (l.take i)).2,((i:Int),(stt0,((rep s (l.take i)).1,())))))∧i≤l.length∧m=l.length-i) _ ?_ (n:=l.length) (by omega) ⟨0,by simp [rep],by omega,by omega⟩
  rintro m st ⟨i,rfl,hi,rfl⟩
  have w:A.wrapI .i64 (A.addI (i:Int) 1)=((i+1:Nat):Int):=by rw [a_addI,zal (by omega) (by omega)];rfl
  have hv:=rep_ok h1 (l:=l.take i) (fun e he=>m2 e (List.mem_of_mem_take he))
  obtain ⟨v1,v2⟩:=st_short hv
  have hrl:(rep s (l.take i)).2.length=i:=by rw [(rep_append s (l.take i) []).2,List.length_take];omega
  rw [zly,zad]
  refine ⟨fun q1=>?_,fun q1=>zac.2 ⟨fun s' e=>(by cases e),fun r e=>?_⟩⟩
  ·have hlt':(i:Int)<l.length:=by simpa using q1
   have hlt:i<l.length:=by omega
   have hb:=zge (A:=A) (l:=l) (i:=(i:Int)) (by omega) hlt'
   have hgo:l.take (i+1)=l.take i++[l.getD i ent0]:=by rw [List.take_succ_eq_append_getElem hlt,zar hlt]
   rw [zad]
   refine ⟨fun _=>?_,fun hc=>(by rw [hb] at hc;cases hc)⟩
   rw [a_atL,Int.toNat_natCast,zkc k hk (rep s (l.take i)).1 _ (by omega) (by omega),a_obind_some,zad]
   refine ⟨fun _=>zac.2 ⟨fun s' e=>?_,fun r e=>(by cases e)⟩,fun hc=>(by simp [hrl] at hc;omega)⟩
   injection e with e;subst e
   exact ⟨l.length-(i+1),by omega,i+1,by rw [hgo,rep_snoc,w,a_appL],by omega,rfl⟩
  ·injection e with e;subst e
   have hge : ¬(i:Int)<l.length:=by simpa using q1
   have:i=l.length:=by omega
   subst this
   rw [List.take_length]
 simp only [h1,h2,Bool.not_true,Bool.false_eq_true,if_false,if_true,a_sumE_inl,a_obind_some,l10Copy_eq k s (show s.2.1.length≤1000000000 by omega) hl,a_lenL,hloop,Bool.and_self]
end
end Go.Den.T
namespace Go.Den.T
set_option linter.unusedVariables false
set_option linter.unusedSimpArgs false
set_option linter.unusedSectionVars false
section
variable {A:Atoms} [IsReal A]
end
end Go.Den.T
namespace Go.Den.T
set_option linter.unusedVariables false
set_option linter.unusedSimpArgs false
set_option linter.unusedSectionVars false
section
variable {A:Atoms} [IsReal A]
end
end Go.Den.T
