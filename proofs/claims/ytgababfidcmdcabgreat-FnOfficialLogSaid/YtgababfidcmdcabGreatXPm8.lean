/- Entries submitted. -/
import Derived.Test.YtgababfidcmdcabGreatXPm2
import Derived.Test.YtgababfidcmdcabGreatXPm4
import Derived.Test.YtgababfidcmdcabGreatXPm5
import Derived.Test.YtgababfidcmdcabGreatXPm6
import Derived.Test.YtgababfidcmdcabGreatXPm7

namespace Go.Den.T
set_option linter.unusedVariables false
set_option linter.unusedSimpArgs false
set_option linter.unusedSectionVars false
section
variable {A:Atoms} [IsReal A]
def maySubmit (r:Rep) (node:Int):Bool:=r.2.1&&(decide (r.1.2.1.getD 0 0=node)&&decide (r.2.2.1.length<24))
def submit (r:Rep) (node:Int) (e:Ent):Rep×(Bool×Unit):=
 if (repOk r&&(decide (0≤node∧node≤4)&&entOk e))=true then
  if maySubmit r node=true then ((r.1,(r.2.1,(r.2.2.1++[e],r.2.2.2))),(true,())) else (r,(false,()))
 else (rep0,(false,()))
theorem zjc (k:Nat) (hk:30≤k) (r:Rep) (n:Int) (e:Ent):zg3 A k (r,(n,(e,()))) ()=some (submit r n e,()):=by
 simp only [zg3,zbi k hk,zc9,zbq k (by omega:10≤k),a_obind_some,a_cndS,a_notB,submit]
 cases h:repOk r with
 | false=>simp
 | true=>
   have hl:=repOk_len h
   by_cases h1:0≤n∧n≤4
   case neg=>simp [h1]
   cases he:entOk e with
   | false=>simp [h1]
   | true=>
     simp only [h1,and_self,decide_true,Bool.not_true,Bool.false_eq_true,if_false,if_true,a_sumE_inl,l17Copy_eq k r (by omega) (by omega),a_obind_some,Bool.and_self,maySubmit]
     rcases Bool.eq_false_or_eq_true r.2.1 with hr|hr
     case inr=>simp [hr]
     case inl=>
      have hc:=zay (zmm h hr)
      have h0:(0:Int)<(r.1.2.1.length:Int):=by omega
      have h0':0<r.1.2.1.length:=by omega
      have ea:A.atL r.1.2.1 0 0=r.1.2.1.getD 0 0:=a_atL _ _ _
      obtain ⟨m0,em⟩ : ∃m0,r.1.2.1.getD 0 0=m0:=⟨_,rfl⟩
      simp only [ea,em]
      clear ea em
      by_cases hm:m0=n
      case neg=>simp [h0,h0',hm,hr]
      by_cases hlen:r.2.2.1.length<24
      ·have h24 : ¬(24:Int)≤(r.2.2.1.length:Int):=by omega
       have g:(r.2.2.1.length:Int)+1<4294967296:=by omega
       simp [h0,h0',hm,hlen,h24,g,hr]
      ·have h24:(24:Int)≤(r.2.2.1.length:Int):=by omega
       simp [h0,h0',hm,hlen,h24,hr]
end
end Go.Den.T
namespace Go.Den.T
set_option linter.unusedVariables false
set_option linter.unusedSimpArgs false
set_option linter.unusedSectionVars false
section
variable {A:Atoms} [IsReal A]
/-! ### marks -/
def mP (A:Atoms) (k:Nat) (n:Int):Pair:=(mtx A k n,(n+1,()))
def mS (n:Int):Ses:=(n,(n+1,(n+2,())))
def marksP (A:Atoms) (k:Nat) (n:Int) (m:Nat):List Pair:=(List.range m).map fun i:Nat=>mP A k (n+2*(i:Int))
def marksS (n:Int) (m:Nat):List Ses:=(List.range m).map fun i:Nat=>mS (n+3*(i:Int))
@[simp] theorem marksP_len (k:Nat) (n:Int) (m:Nat):(marksP A k n m).length=m:=by simp [marksP]
@[simp] theorem marksS_len (n:Int) (m:Nat):(marksS n m).length=m:=by simp [marksS]
end
end Go.Den.T
namespace Go.Den.T
set_option linter.unusedVariables false
set_option linter.unusedSimpArgs false
set_option linter.unusedSectionVars false
section
variable {A:Atoms} [IsReal A]
/-! the logs -/
theorem repOk_log {r:Rep} (h:repOk r=true):r.2.2.1.length≤24:=by
 unfold repOk at h
 split at h
 ·simp only [Bool.and_eq_true,decide_eq_true_eq] at h;omega
 ·simp only [Bool.and_eq_true] at h
  exact (logOk_iff'.1 h.2.1).1
theorem chnOk_parts {c:Chn} (h:chnOk c=true):stOk c.1=true∧cfgOk c.2.1=true∧c.2.2.1.length=5∧c.2.2.2.1.length=5∧bagOk c.2.2.2.2.1=true∧c.2.2.2.2.2.1.length≤24∧(∀r∈c.2.2.1,repOk r=true)∧∀a∈c.2.2.2.2.2.1,ansOk a=true:=by
 simp only [chnOk,Bool.and_eq_true,decide_eq_true_eq,List.all_eq_true] at h
 obtain ⟨h1,h2,h3,h4,h5,h6,h7,_,h8⟩:=h
 exact ⟨h1,h2,h3,h4,h5,h6,fun r hr=>(h7 r hr).1,h8⟩
theorem cfgOk_head {c:Cfg} (h:cfgOk c=true):0<c.2.1.length∧0≤c.2.1.getD 0 0∧c.2.1.getD 0 0≤4:=by
 simp only [cfgOk,Bool.and_eq_true,decide_eq_true_eq] at h
 obtain ⟨_,⟨h1,_⟩,_,hm⟩:=h
 have h0:0<c.2.1.length:=by omega
 rw [membersOk,zcv] at hm
 have:=hm 0 h0
 simp only [Bool.and_eq_true,decide_eq_true_eq] at this
 exact ⟨h0,this.1⟩
def offLog (c:Chn):List Ent:=if chnOk c=true then (c.2.2.1.getD (c.2.1.2.1.getD 0 0).toNat rep0).2.2.1 else []
theorem offLog_len (c:Chn):(offLog c).length≤24:=by
 unfold offLog
 split
 ·rename_i h
  obtain ⟨_,h2,h3,_,_,_,h7,_⟩:=chnOk_parts h
  obtain ⟨_,m1,m2⟩:=cfgOk_head h2
  have hl:(c.2.1.2.1.getD 0 0).toNat<c.2.2.1.length:=by omega
  rw [zar hl]
  exact repOk_log (h7 _ (List.getElem_mem hl))
 ·simp
theorem zje (k:Nat) (hk:2000000≤k) (c:Chn) (h:ChnZ c):zgs A k (c,()) ()=some ((offLog c,()),()):=by
 simp only [zgs,zgz k hk c h.1,a_obind_some,a_notB,a_cndS]
 cases hc:chnOk c with
 | false=>simp [offLog,hc]
 | true=>
   have hl:=offLog_len c
   obtain ⟨_,h2,h3,_⟩:=chnOk_parts hc
   obtain ⟨m0,m1,m2⟩:=cfgOk_head h2
   have hv:offLog c=(c.2.2.1.getD (c.2.1.2.1.getD 0 0).toNat rep0).2.2.1:=by simp [offLog,hc]
   have e0:(0:Int)<(c.2.1.2.1.length:Int):=by omega
   have e1:c.2.1.2.1.getD 0 0<(c.2.2.1.length:Int):=by omega
   simp only [impl_headLog_t,a_cndS,a_andB,a_le0,a_ltI,a_lenL,a_atL,Int.toNat_zero,e0,e1,m1,Int.le_refl,decide_true,Bool.and_self,if_true,a_obind_some,Bool.not_true,Bool.false_eq_true,if_false]
   rw [←hv]
   generalize offLog c=l at hl
   have hb:(l.length:Int)<4294967296:=by omega
   simp [zi6,hb]
theorem zja (k:Nat) (hk:2000000≤k) (c:Chn) (h:ChnZ c):zg6 A k (c,()) ()=some ((offLog c,()),()):=by
 simp only [zg6,zed k hk c h.1,a_obind_some,a_notB,a_cndS]
 cases hc:chnOk c with
 | false=>simp [offLog,hc]
 | true=>
   have hl:=offLog_len c
   obtain ⟨_,h2,h3,_⟩:=chnOk_parts hc
   obtain ⟨m0,m1,m2⟩:=cfgOk_head h2
   have hv:offLog c=(c.2.2.1.getD (c.2.1.2.1.getD 0 0).toNat rep0).2.2.1:=by simp [offLog,hc]
   have e0:(0:Int)<(c.2.1.2.1.length:Int):=by omega
   have e1:c.2.1.2.1.getD 0 0<(c.2.2.1.length:Int):=by omega
   simp only [a_andB,a_le0,a_ltI,a_lenL,a_atL,Int.toNat_zero,e0,e1,m1,Int.le_refl,decide_true,Bool.and_self,if_true,Bool.not_true,Bool.false_eq_true,if_false]
   rw [←hv]
   generalize offLog c=l at hl
   have hb:(l.length:Int)<4294967296:=by omega
   simp [hb]
end
end Go.Den.T
namespace Go.Den.T
set_option linter.unusedVariables false
set_option linter.unusedSimpArgs false
set_option linter.unusedSectionVars false
section
variable {A:Atoms} [IsReal A]
/-! what a new chain is -/
def newNode (c:Cfg) (i:Nat):Rep:=if (i:Int)∈c.2.1 then (c,(true,([],()))) else rep0
def newNodes (c:Cfg) (n:Nat):List Rep:=(List.range n).map (newNode c)
abbrev chn0:Chn:=(stt0,((0,([],(false,()))),([],([],([],([],()))))))
def newC (s:Stt) (ms:List Int):Chn:=if (stOk s&&cfgOk (1,(ms,(false,()))))=true then (s,((1,(ms,(false,()))),(newNodes (1,(ms,(false,()))) 5,(List.replicate 5 true,([],([],())))))) else chn0
theorem zls (k:Nat) (hk:2000000≤k) (s:Stt) (ms:List Int) (hs:StShort s) (hm:ms.length≤1048576):zhu A k (s,(ms,())) ()=some ((newC s ms,()),()):=by
 have h2:=hs.2
 have h1:=hs.1
 have g:(ms.length:Int)<4294967296:=by omega
 have g':((([]:List Int).length:Nat):Int)+(ms.length:Int)<4294967296:=by simp;omega
 simp only [zhu,a_cndS,a_addI,a_lenL,a_big,a_ltI,g',decide_true,if_true,zcw k (by omega:60≤k) s (by omega) (by omega),a_obind_some,a_notB,a_appL,List.nil_append,zav k (by omega:10≤k)]
 cases h3:stOk s with
 | false=>simp [newC,h3]
 | true=>
   cases h4:cfgOk (1,(ms,(false,()))) with
   | false=>simp [newC,h3,h4]
   | true=>
     have hl:ms.length≤4:=by
      have h4':=h4
      simp only [cfgOk,Bool.and_eq_true,decide_eq_true_eq] at h4'
      exact h4'.2.1.2
     simp only [Bool.not_true,Bool.false_eq_true,if_false,a_obind_some,a_sumE_inl,l10Copy_eq k s (by omega) (by omega)]
     have h:=iter_for (A:=A) (k:=k) (f:=zei A k) (fun i=>((i:Int),(chn0,((1,(ms,(false,()))),((s,((1,(ms,(false,()))),(newNodes (1,(ms,(false,()))) i,(List.replicate i true,([],([],())))))),()))))) 5 (chn0,((s,((1,(ms,(false,()))),(newNodes (1,(ms,(false,()))) 5,(List.replicate 5 true,([],([],())))))),()))
      (fun i hi=>by
        have hi':(i:Int)<5:=by omega
        have w:A.wrapI .i64 ((i:Int)+1)=((i+1:Nat):Int):=by rw [zal (by omega) (by omega)];rfl
        have ln:(newNodes (1,(ms,(false,()))) i).length=i:=by simp [newNodes]
        have sn:newNodes (1,(ms,(false,()))) (i+1)=newNodes (1,(ms,(false,()))) i++[newNode (1,(ms,(false,()))) i]:=by simp [newNodes,List.range_succ]
        have sr:List.replicate (i+1) true=List.replicate i true++[true]:=by rw [List.replicate_succ']
        have g1:((i:Nat):Int)+((1:Nat):Int)<4294967296:=by omega
        simp only [zei,a_cndS,a_ltI,hi',decide_true,if_true,zkq k (1,(ms,(false,()))) (i:Int) (by show ms.length<k;omega) (by show ms.length≤_;omega),a_obind_some,a_leI,decide_eq_true_eq,zfh k (1,(ms,(false,()))) (by show ms.length≤_;omega)]
        by_cases hin:(i:Int)∈ms
        ·have:=idx_mem.2 hin
         have nn:newNode (1,(ms,(false,()))) i=((1,(ms,(false,()))),(true,([],()))):=by simp [newNode,hin]
         simp only [this,if_true,a_obind_some,a_addI,a_lenL,ln,List.length_cons,List.length_nil,Nat.zero_add,a_big,g1,decide_true,List.length_replicate,w,a_appL,sn,sr,nn]
        ·have : ¬0≤idx ms i:=fun h=>hin (idx_mem.1 h)
         have nn:newNode (1,(ms,(false,()))) i=rep0:=by simp [newNode,hin]
         simp only [this,if_false,a_obind_some,a_addI,a_lenL,ln,List.length_cons,List.length_nil,Nat.zero_add,a_big,g1,decide_true,if_true,List.length_replicate,w,a_appL,sn,sr,nn])
      (by simp [zei]) (by omega)
     have h':A.iter k (zei A k) ((0:Int),(chn0,((1,(ms,(false,()))),((s,((1,(ms,(false,()))),(([]:List Rep),(([]:List Bool),(([]:List Msg),(([]:List Ans),())))))),()))))=_:=h
     rw [h',a_obind_some]
     simp [newC,h3,h4]
end
end Go.Den.T
namespace Go.Den.T
set_option linter.unusedVariables false
set_option linter.unusedSimpArgs false
set_option linter.unusedSectionVars false
section
variable {A:Atoms} [IsReal A]
end
end Go.Den.T
namespace Go.Den.T
set_option linter.unusedVariables false
set_option linter.unusedSimpArgs false
set_option linter.unusedSectionVars false
section
variable {A:Atoms} [IsReal A]
end
end Go.Den.T
namespace Go.Den.T
set_option linter.unusedVariables false
set_option linter.unusedSimpArgs false
set_option linter.unusedSectionVars false
section
variable {A:Atoms} [IsReal A]
theorem logOk_nil:logOk []=true:=by simp [logOk]
theorem newC_ok {s:Stt} {ms:List Int} (h:(stOk s&&cfgOk (1,(ms,(false,()))))=true):chnOk (newC s ms)=true:=by
 have h':=h
 simp only [Bool.and_eq_true] at h'
 obtain ⟨h1,h2⟩:=h'
 have e:newC s ms=(s,((1,(ms,(false,()))),(newNodes (1,(ms,(false,()))) 5,(List.replicate 5 true,([],([],())))))):=by unfold newC;rw [if_pos h]
 have hn : ∀i,(repOk (newNode (1,(ms,(false,()))) i)&&decide ((newNode (1,(ms,(false,()))) i).1.1≤1))=true:=by
  intro i
  unfold newNode
  split
  ·have:noCfg (1,(ms,(false,())))=false:=by simp [noCfg]
   simp [repOk,this,h2,logOk_nil]
  ·simp [repOk,noCfg]
 have hall:(newNodes (1,(ms,(false,()))) 5).all (fun r=>repOk r&&decide (r.1.1≤1))=true:=by
  rw [List.all_eq_true]
  intro r hr
  simp only [newNodes,List.mem_map] at hr
  obtain ⟨i,_,rfl⟩:=hr
  exact hn i
 rw [e]
 simp only [chnOk,h1,h2,hall,Bool.true_and]
 simp [newNodes,bagOk]
end
end Go.Den.T
namespace Go.Den.T
set_option linter.unusedVariables false
set_option linter.unusedSimpArgs false
set_option linter.unusedSectionVars false
section
variable {A:Atoms} [IsReal A]
/-! ### configurations entered -/
def tailC (c:Cfg):Int:=c.2.1.getD (c.2.1.length-1) 0
def mayEnter (r:Rep) (n:Int) (c:Cfg):Bool:=decide (n∈c.2.1) && !decide (c.1≤r.1.1)
def enter (r:Rep) (n:Int) (c:Cfg):Rep×(Bool×Unit):=
 if (repOk r&&(decide (0≤n∧n≤4)&&cfgOk c))=true then
  if mayEnter r n c=true then
   if (c.2.2.1&&decide (tailC c=n))=true then ((c,(false,([],r.2.2.2))),(true,())) else ((c,r.2),(true,()))
  else (r,(false,()))
 else (rep0,(false,()))
theorem tail_idx {c:Cfg} (h:cfgOk c=true) {n:Int} (hn:n∈c.2.1):(idx c.2.1 n=(c.2.1.length:Int)-1)↔tailC c=n:=by
 have hl:=zay h
 have hm:=(zj0.1 (zh3 h)).2
 constructor
 ·intro e
  rcases idx_cases c.2.1 n with ⟨_,hno⟩|⟨i,e2,hi,hv,_⟩
  ·exact absurd hn hno
  ·rw [tailC,←hv];congr 1;omega
 ·intro e
  rw [←e,tailC,idx_at hm (by omega)];omega
theorem zi9 (k:Nat) (hk:30≤k) (r:Rep) (n:Int) (c:Cfg):zgx A k (r,(n,(c,()))) ()=some (enter r n c,()):=by
 simp only [zgx,zbi k hk,zc9,zav k (by omega:10≤k),a_obind_some,a_cndS,a_notB,enter]
 cases h:repOk r with
 | false=>simp
 | true=>
   have hl:=repOk_len h
   by_cases h1:0≤n∧n≤4
   case neg=>simp [h1]
   rcases Bool.eq_false_or_eq_true (cfgOk c) with hc|hc
   case inr=>simp [h1,hc]
   have hcl:=zay hc
   have w:A.wrapI .i64 ((c.2.1.length:Int)-1)=(c.2.1.length:Int)-1:=zal (by omega) (by omega)
   simp only [hc,h1,and_self,decide_true,Bool.not_true,Bool.false_eq_true,if_false,if_true,a_sumE_inl,l17Copy_eq k r (by omega) (by omega),a_obind_some,Bool.and_self,mayEnter,zkq k c n (by omega) (by omega)]
   by_cases hm:n∈c.2.1
   case neg=>
    have:=idx_neg.2 hm
    simp [hm,this]
   have hi:=idx_mem.2 hm
   have hi' : ¬idx c.2.1 n<0:=by omega
   by_cases he:c.1≤r.1.1
   case pos=>simp [hm,he,hi']
   have hti:=tail_idx hc hm
   rcases Bool.eq_false_or_eq_true c.2.2.1 with hf|hf
   ·by_cases ht:tailC c=n
    ·have:=hti.2 ht
     simp [hm,he,hf,ht,this,w,zfh k c (by omega)]
     rw [if_neg (show ¬(c.2.1.length:Int)-1<0 by omega)]
     simp [hf,w,zfh k c (by omega)]
    ·have : ¬idx c.2.1 n=(c.2.1.length:Int)-1:=fun e=>ht (hti.1 e)
     simp [hm,he,hf,ht,this,w,hi',zfh k c (by omega)]
   ·simp [hm,he,hf,hi',zfh k c (by omega)]
end
end Go.Den.T
namespace Go.Den.T
set_option linter.unusedVariables false
set_option linter.unusedSimpArgs false
set_option linter.unusedSectionVars false
section
variable {A:Atoms} [IsReal A]
theorem bagOk_of {l:List Msg} (h:l.length≤10) (hm : ∀m∈l,msgOk m=true):bagOk l=true:=by
 simp only [bagOk,Bool.and_eq_true,decide_eq_true_eq,List.all_eq_true];exact ⟨h,hm⟩
theorem takeB_ok {l:List Msg} (h:bagOk l=true) (n:Int):bagOk (takeB l n).2.1=true∧(∀m∈(takeB l n).2.1,m∈l)∧((takeB l n).2.2.1=true→(takeB l n).1∈l):=by
 have hb:=zgi h
 unfold takeB
 rw [if_pos h]
 split
 ·rename_i hn
  refine ⟨bagOk_of (Nat.le_trans (drop1_len l n) hb.1) fun m hm=>hb.2 m (mem_drop1 hm),fun m hm=>mem_drop1 hm,fun _=>?_⟩
  have hlt:n.toNat<l.length:=by omega
  simp only [zar hlt];exact List.getElem_mem _
 ·exact ⟨h,fun m hm=>hm,fun h=>by cases h⟩
theorem addB_ok {l:List Msg} (h:bagOk l=true) {m:Msg} (hm:msgOk m=true):bagOk (addB l m).1=true∧∀x∈(addB l m).1,x∈l∨x=m:=by
 have hb:=zgi h
 unfold addB
 rw [if_pos (by simp [h,hm])]
 split
 ·exact ⟨h,fun x hx=>.inl hx⟩
 ·rename_i hl
  refine ⟨bagOk_of (by simp;omega) fun x hx=>?_,fun x hx=>by simpa using hx⟩
  rcases List.mem_append.1 hx with hx|hx
  ·exact hb.2 x hx
  ·rw [List.mem_singleton.1 hx];exact hm
theorem repeatB_ok {l:List Msg} (h:bagOk l=true) (n:Int):bagOk (repeatB l n).1=true∧∀x∈(repeatB l n).1,x∈l:=by
 have hb:=zgi h
 unfold repeatB
 rw [if_pos h]
 split
 ·rename_i hn
  have hlt:n.toNat<l.length:=by omega
  have hmem:l.getD n.toNat msg0∈l:=by rw [zar hlt];exact List.getElem_mem _
  obtain ⟨q1,q2⟩:=addB_ok h (hb.2 _ hmem)
  exact ⟨q1,fun x hx=>(q2 x hx).elim id fun e=>by rw [e];exact hmem⟩
 ·exact ⟨h,fun x hx=>hx⟩
theorem withMember_ok {c:Cfg} (h:cfgOk c=true) {n:Int} (hn:0≤n∧n≤4):cfgOk (withMember c n).1=true∧c.1≤(withMember c n).1.1:=by
 have hl:=zay h
 have hm:=zh3 h
 unfold withMember
 rw [if_pos (by simp [h,hn])]
 split
 ·rename_i ha
  simp only [mayAdd,Bool.and_eq_true,Bool.not_eq_true',decide_eq_false_iff_not] at ha
  obtain ⟨a1,a2,a3,a4⟩:=ha
  refine ⟨?_,by simp only;omega⟩
  have hmm:membersOk (c.2.1++[n])=true:=by
   rw [zj0] at hm ⊢
   refine ⟨fun x hx=>?_,?_⟩
   ·rcases List.mem_append.1 hx with hx|hx
    ·exact hm.1 x hx
    ·rw [List.mem_singleton.1 hx];exact hn
   ·rw [List.nodup_append]
    exact ⟨hm.2,by simp,fun a ha b hb=>by rw [List.mem_singleton.1 hb];exact fun e=>a2 (e▸ha)⟩
  simp only [cfgOk,hmm,Bool.and_true,Bool.and_eq_true,decide_eq_true_eq,Bool.not_eq_true',Bool.and_eq_false_iff,decide_eq_false_iff_not,List.length_append,List.length_singleton]
  omega
 ·exact ⟨h,Int.le_refl _⟩
theorem withoutMember_ok {c:Cfg} (h:cfgOk c=true) (n:Int):cfgOk (withoutMember c n).1=true∧c.1≤(withoutMember c n).1.1:=by
 unfold withoutMember
 rw [if_pos h]
 split
 ·rename_i ha
  simp only [mayDrop,Bool.and_eq_true,decide_eq_true_eq,Bool.not_eq_true',decide_eq_false_iff_not] at ha
  obtain ⟨a1,a2,a3⟩:=ha
  have hi:=(idx_lt c.2.1 n).1
  have hi0:=idx_mem.2 a1
  refine ⟨?_,by show c.1≤c.1+1;omega⟩
  rw [without_ok h (by omega) a2]
  rw [show (((idx c.2.1 n).toNat:Nat):Int)=idx c.2.1 n by omega]
  rw [a3];rfl
 ·exact ⟨h,Int.le_refl _⟩
theorem done_ok {c:Cfg} (h:cfgOk c=true):cfgOk (c.1,(c.2.1,(false,())))=true:=by
 have hl:=zay h
 have hm:=zh3 h
 simp only [cfgOk,hm,Bool.and_true,Bool.false_and,Bool.not_false,Bool.and_eq_true,decide_eq_true_eq]
 omega
theorem noCfg_of {c:Cfg} (h:cfgOk c=true):noCfg c=false:=by
 have hl:=zay h
 have : ¬c.1=0:=by omega
 simp [noCfg,this]
theorem repOk_log' {r:Rep} (h:repOk r=true):logOk r.2.2.1=true∧(r.2.1=true∨r.2.2.1.length=0):=by
 unfold repOk at h
 split at h
 ·simp only [Bool.and_eq_true,decide_eq_true_eq] at h
  have:=List.eq_nil_of_length_eq_zero h.2
  rw [this];exact ⟨logOk_nil,.inr rfl⟩
 ·simp only [Bool.and_eq_true,Bool.or_eq_true,decide_eq_true_eq] at h
  exact ⟨h.2.1,h.2.2⟩
theorem repOk_of {r:Rep} (hc:cfgOk r.1=true) (hl:logOk r.2.2.1=true) (hr:r.2.1=true∨r.2.2.1.length=0):repOk r=true:=by
 unfold repOk
 rw [noCfg_of hc]
 simp only [Bool.false_eq_true,if_false,hc,hl,Bool.true_and,Bool.or_eq_true,decide_eq_true_eq]
 exact hr
theorem enter_ok {r:Rep} (h:repOk r=true) {n:Int} {c:Cfg} (hn:0≤n∧n≤4) (hc:cfgOk c=true) {E:Int} (h1:r.1.1≤E) (h2:c.1≤E):repOk (enter r n c).1=true∧(enter r n c).1.1.1≤E:=by
 unfold enter
 rw [if_pos (by simp [h,hn,hc])]
 split
 ·split
  ·exact ⟨repOk_of hc logOk_nil (.inr rfl),h2⟩
  ·exact ⟨repOk_of hc (repOk_log' h).1 (repOk_log' h).2,h2⟩
 ·exact ⟨h,h1⟩
theorem takeCopy_ok {r:Rep} (h:repOk r=true) {ep:Int} {l:List Ent} (he:1≤ep∧ep≤60) (hl:logOk l=true):repOk (takeCopy r ep l).1=true∧(takeCopy r ep l).1.1.1=r.1.1:=by
 unfold takeCopy
 rw [if_pos (by simp [h,he,hl])]
 split
 ·rename_i hc
  simp only [Bool.and_eq_true,decide_eq_true_eq] at hc
  refine ⟨?_,rfl⟩
  have hcf:cfgOk r.1=true:=by
   unfold repOk at h
   split at h
   ·rename_i hn
    simp only [noCfg,Bool.and_eq_true,decide_eq_true_eq] at hn
    omega
   ·simp only [Bool.and_eq_true] at h;exact h.1
  exact repOk_of hcf hl (.inl rfl)
 ·exact ⟨h,rfl⟩
theorem submit_ok {r:Rep} (h:repOk r=true) {n:Int} {e:Ent} (hn:0≤n∧n≤4) (he:entOk e=true):repOk (submit r n e).1=true∧(submit r n e).1.1.1=r.1.1:=by
 unfold submit
 rw [if_pos (by simp [h,hn,he])]
 split
 ·rename_i hs
  simp only [maySubmit,Bool.and_eq_true,decide_eq_true_eq] at hs
  refine ⟨?_,rfl⟩
  have hrd:=zmm h hs.1
  refine repOk_of hrd ?_ (.inl hs.1)
  have:=(repOk_log' h).1
  simp only [logOk,Bool.and_eq_true,decide_eq_true_eq,List.all_eq_true] at this ⊢
  refine ⟨by simp;omega,fun x hx=>?_⟩
  rcases List.mem_append.1 hx with hx|hx
  ·exact this.2 x hx
  ·rw [List.mem_singleton.1 hx];exact he
 ·exact ⟨h,rfl⟩
end
end Go.Den.T
namespace Go.Den.T
set_option linter.unusedVariables false
set_option linter.unusedSimpArgs false
set_option linter.unusedSectionVars false
section
variable {A:Atoms} [IsReal A]
structure CV (c:Chn):Prop where
 st:stOk c.1=true
 cfg:cfgOk c.2.1=true
 n5:c.2.2.1.length=5
 u5:c.2.2.2.1.length=5
 bag:bagOk c.2.2.2.2.1=true
 a24:c.2.2.2.2.2.1.length≤24
 reps : ∀r∈c.2.2.1,repOk r=true∧r.1.1≤c.2.1.1
 msgs : ∀m∈c.2.2.2.2.1,m.2.2.1≤c.2.1.1
 anss : ∀a∈c.2.2.2.2.2.1,ansOk a=true
theorem cv_iff {c:Chn} : chnOk c=true↔CV c:=by
 constructor
 ·intro h
  simp only [chnOk,Bool.and_eq_true,decide_eq_true_eq,List.all_eq_true] at h
  obtain ⟨h1,h2,h3,h4,h5,h6,h7,h8,h9⟩:=h
  exact ⟨h1,h2,h3,h4,h5,h6,h7,h8,h9⟩
 ·intro h
  simp only [chnOk,Bool.and_eq_true,decide_eq_true_eq,List.all_eq_true]
  exact ⟨h.st,h.cfg,h.n5,h.u5,h.bag,h.a24,h.reps,h.msgs,h.anss⟩
theorem CV.withBag {s:Stt} {c:Cfg} {ns:List Rep} {us:List Bool} {bg bg':List Msg} {an:List Ans×Unit} (h:CV (s,(c,(ns,(us,(bg,an)))))) (hb:bagOk bg'=true) (hm : ∀m∈bg',m.2.2.1≤c.1):CV (s,(c,(ns,(us,(bg',an))))):=
 ⟨h.st,h.cfg,h.n5,h.u5,hb,h.a24,h.reps,hm,h.anss⟩
theorem CV.withCfg {s:Stt} {c c':Cfg} {x:List Rep×(List Bool×(List Msg×(List Ans×Unit)))} (h:CV (s,(c,x))) (hc:cfgOk c'=true) (he:c.1≤c'.1):CV (s,(c',x)):=
 ⟨h.st,hc,h.n5,h.u5,h.bag,h.a24,fun r hr=>⟨(h.reps r hr).1,Int.le_trans (h.reps r hr).2 he⟩,fun m hm=>Int.le_trans (h.msgs m hm) he,h.anss⟩
theorem CV.withNode {s:Stt} {c:Cfg} {ns:List Rep} {x:List Bool×(List Msg×(List Ans×Unit))} (h:CV (s,(c,(ns,x)))) {i:Nat} {r:Rep} (hr:repOk r=true) (he:r.1.1≤c.1):CV (s,(c,(ns.set i r,x))):=
 ⟨h.st,h.cfg,by simpa using h.n5,h.u5,h.bag,h.a24,fun r' hr'=>by
   rcases List.mem_or_eq_of_mem_set hr' with h1|rfl
   ·exact h.reps r' h1
   ·exact ⟨hr,he⟩,h.msgs,h.anss⟩
theorem CV.withUp {s:Stt} {c:Cfg} {ns:List Rep} {us:List Bool} {x:List Msg×(List Ans×Unit)} (h:CV (s,(c,(ns,(us,x))))) {i:Nat} {b:Bool} : CV (s,(c,(ns,(us.set i b,x)))):=
 ⟨h.st,h.cfg,h.n5,by simpa using h.u5,h.bag,h.a24,h.reps,h.msgs,h.anss⟩
theorem CV.z {c:Chn} (h:CV c):ChnZ c:=by
 obtain ⟨p1,p2⟩:=st_short h.st
 have hc:=zay h.cfg
 have hb:=zgi h.bag
 refine ⟨⟨by omega,by omega⟩,by omega,⟨by rw [h.n5];omega,fun r hr=>?_⟩,by rw [h.u5];omega,⟨by omega,fun m hm=>?_⟩,by have:=h.a24;omega⟩
 ·have h1:=(h.reps r hr).1
  have:=repOk_log h1
  refine ⟨?_,by omega⟩
  unfold repOk at h1
  split at h1
  ·rename_i hn
   simp only [noCfg,Bool.and_eq_true,decide_eq_true_eq] at hn
   omega
  ·simp only [Bool.and_eq_true] at h1
   have:=zay h1.1
   omega
 ·have:=msgOk_len (hb.2 m hm)
  refine ⟨?_,?_⟩<;>omega
theorem msgOk_to {m:Msg} (h:msgOk m=true):(1≤m.2.2.1∧m.2.2.1≤60)∧(m.1=1→(0≤m.2.1∧m.2.1≤4)∧cfgOk m.2.2.2.1=true∧m.2.2.2.1.1=m.2.2.1)∧(m.1=2→(0≤m.2.1∧m.2.1≤4)∧logOk m.2.2.2.2.1=true)∧(m.1=1∨m.1=2∨m.1=3):=by
 unfold msgOk at h
 split at h
 ·rename_i h1
  simp only [Bool.and_eq_true,decide_eq_true_eq] at h
  exact ⟨h.1,fun _=>⟨h.2.1,h.2.2.1,h.2.2.2.1⟩,fun h2=>(by rw [h1] at h2;cases h2),.inl h1⟩
 ·rename_i h1
  split at h
  ·rename_i h2
   simp only [Bool.and_eq_true,decide_eq_true_eq] at h
   exact ⟨h.1,fun h'=>absurd h' h1,fun _=>⟨h.2.1,h.2.2.2⟩,.inr (.inl h2)⟩
  ·rename_i h2
   split at h
   ·rename_i h3
    simp only [Bool.and_eq_true,decide_eq_true_eq] at h
    exact ⟨h.1,fun h'=>absurd h' h1,fun h'=>absurd h' h2,.inr (.inr h3)⟩
   ·cases h
theorem stepBag_ok (k:Nat) (hk:2000000≤k) (c:Chn) (e:Evt) (hc:CV c) (he:evtOk e=true):Ok (zch A k (c,(e,())) ()) (fun q=>CV q.1.1):=by
 obtain ⟨s,cf,ns,us,bg,an⟩:=c
 have hb:bagOk bg=true:=hc.bag
 simp only [zch,zks k (by omega:30≤k),zmq k (by omega:30≤k),a_obind_some,a_cndS,a_eqI,a_notB]
 by_cases h5:e.1=5
 ·simp only [h5,decide_true,if_true]
  obtain ⟨q1,q2⟩:=repeatB_ok hb e.2.2.1
  exact zac.2 (hc.withBag q1 fun m hm=>hc.msgs m (q2 m hm))
 ·simp only [h5,decide_false,Bool.false_eq_true,if_false]
  obtain ⟨q1,q2,q3⟩:=takeB_ok hb e.2.2.1
  have hc':CV (s,(cf,(ns,(us,((takeB bg e.2.2.1).2.1,an))))):=hc.withBag q1 fun m hm=>hc.msgs m (q2 m hm)
  cases ht:(takeB bg e.2.2.1).2.2.1 with
  | false=>simp only [Bool.not_false,if_true,a_obind_some,a_sumE_inr];exact zac.2 hc'
  | true=>
    have hm:=q3 ht
    obtain ⟨m1,m2,m3,m4⟩:=msgOk_to ((zgi hb).2 _ hm)
    have hme:=hc.msgs _ hm
    simp only [Bool.not_true,Bool.false_eq_true,if_false]
    by_cases h4:e.1=4
    ·simp only [h4,decide_true,if_true,a_obind_some,a_sumE_inr];exact zac.2 hc'
    ·simp only [h4,decide_false,Bool.false_eq_true,if_false,a_obind_some,a_sumE_inl]
     by_cases k3:(takeB bg e.2.2.1).1.1=3
     ·simp only [k3,decide_true,if_true]
      by_cases hep:(takeB bg e.2.2.1).1.2.2.1=cf.1
      ·simp only [hep,decide_true,if_true,zg5 k (by omega:10≤k),a_obind_some]
       have hcf:cfgOk cf=true:=hc.cfg
       simp only [hcf,if_true]
       exact zac.2 (hc'.withCfg (done_ok hcf) (Int.le_refl _))
      ·simp only [hep,decide_false,Bool.false_eq_true,if_false];exact zac.2 hc'
     ·simp only [k3,decide_false,Bool.false_eq_true,if_false]
      have hto:0≤(takeB bg e.2.2.1).1.2.1∧(takeB bg e.2.2.1).1.2.1≤4:=by
       rcases m4 with h|h|h
       ·exact (m2 h).1
       ·exact (m3 h).1
       ·exact absurd h k3
      have hn5:ns.length=5:=hc.n5
      have hu5:us.length=5:=hc.u5
      have i1:(decide (0≤(takeB bg e.2.2.1).1.2.1)&&decide ((takeB bg e.2.2.1).1.2.1<((us.length:Nat):Int)))=true:=by simp;omega
      have i2:(decide (0≤(takeB bg e.2.2.1).1.2.1)&&decide ((takeB bg e.2.2.1).1.2.1<((ns.length:Nat):Int)))=true:=by simp;omega
      have hlt:(takeB bg e.2.2.1).1.2.1.toNat<ns.length:=by omega
      have hr:=hc.reps (ns.getD (takeB bg e.2.2.1).1.2.1.toNat rep0) (by rw [zar hlt];exact List.getElem_mem _)
      simp only [a_andB,a_le0,a_ltI,a_lenL,i1,i2,if_true,a_atL,a_setL]
      cases us.getD (takeB bg e.2.2.1).1.2.1.toNat false with
      | false=>simp only [Bool.not_false,if_true];exact zac.2 hc'
      | true=>
        simp only [Bool.not_true,Bool.false_eq_true,if_false]
        by_cases k1:(takeB bg e.2.2.1).1.1=1
        ·simp only [k1,decide_true,if_true,zi9 k (by omega:30≤k),a_obind_some]
         obtain ⟨_,g1,g2⟩:=m2 k1
         obtain ⟨w1,w2⟩:=enter_ok hr.1 hto g1 hr.2 (by rw [g2];exact hme)
         exact zac.2 (hc'.withNode w1 w2)
        ·have k2:(takeB bg e.2.2.1).1.1=2:=by
           rcases m4 with h|h|h
           ·exact absurd h k1
           ·exact h
           ·exact absurd h k3
         simp only [k1,decide_false,Bool.false_eq_true,if_false,zlq k (by omega:30≤k),a_obind_some]
         obtain ⟨w1,w2⟩:=takeCopy_ok hr.1 m1 (m3 k2).2
         exact zac.2 (hc'.withNode w1 (by rw [w2];exact hr.2))
theorem stepMaster_ok (k:Nat) (hk:2000000≤k) (c:Chn) (e:Evt) (hc:CV c) (he:evtOk e=true):Ok (zak A k (c,(e,())) ()) (fun q=>CV q.1.1):=by
 obtain ⟨s,cf,ns,us,bg,an⟩:=c
 have hb:bagOk bg=true:=hc.bag
 have hcf:cfgOk cf=true:=hc.cfg
 have hl:=zay hcf
 have hu5:us.length=5:=hc.u5
 have he2:0≤e.2.1∧e.2.1≤4:=by
  simp only [evtOk,Bool.and_eq_true,decide_eq_true_eq] at he;exact he.2.1
 simp only [zak,zkq k cf e.2.1 (by omega) (by omega),zis k (by omega:30≤k),zg1 k (by omega:10≤k),zef k (by omega:10≤k),a_obind_some,a_cndS,a_eqI,a_notB,a_ltI]
 by_cases h6:e.1=6
 ·simp only [h6,decide_true,if_true]
  by_cases hx:idx cf.2.1 e.2.1<0
  ·simp only [hx,decide_true,if_true];exact zac.2 hc
  ·simp only [hx,decide_false,Bool.false_eq_true,if_false]
   have hm:msgOk ((1,(e.2.1,(cf.1,(cf,([],()))))):Msg)=true:=by
    simp only [msgOk,hcf,if_true,List.length_nil,decide_true,Bool.and_true,Bool.true_and,Bool.and_eq_true,decide_eq_true_eq]
    omega
   obtain ⟨q1,q2⟩:=addB_ok hb hm
   refine zac.2 (hc.withBag q1 fun m hm'=>?_)
   rcases q2 m hm' with h|h
   ·exact hc.msgs m h
   ·rw [h];exact Int.le_refl _
 ·simp only [h6,decide_false,Bool.false_eq_true,if_false]
  by_cases h11:e.1=11
  ·simp only [h11,decide_true,if_true]
   obtain ⟨q1,q2⟩:=withoutMember_ok hcf e.2.1
   exact zac.2 (hc.withCfg q1 q2)
  ·simp only [h11,decide_false,Bool.false_eq_true,if_false]
   by_cases h12:e.1=12
   ·simp only [h12,decide_true,if_true]
    obtain ⟨q1,q2⟩:=withMember_ok hcf he2
    exact zac.2 (hc.withCfg q1 q2)
   ·simp only [h12,decide_false,Bool.false_eq_true,if_false]
    have i1:(decide (0≤e.2.1)&&decide (e.2.1<((us.length:Nat):Int)))=true:=by simp;omega
    simp only [a_andB,a_le0,a_lenL,i1,if_true,a_obind_some,a_setL]
    exact zac.2 hc.withUp
end
end Go.Den.T
namespace Go.Den.T
set_option linter.unusedVariables false
set_option linter.unusedSimpArgs false
set_option linter.unusedSectionVars false
section
variable {A:Atoms} [IsReal A]
theorem ses_reply {l:List Ses} (h:sesOk l=true) {i:Nat} (hi:i<l.length) : -2≤(l.getD i ses0).2.2.1∧(l.getD i ses0).2.2.1≤999:=by
 have h1:=zcv.1 h i hi
 simp only [sesAt,sesP,Bool.and_eq_true,decide_eq_true_eq] at h1
 exact h1.2.2.1
theorem sfind_reply {l:List Ses} (h:sesOk l=true) (c:Int) : -2≤(sfind l c).2.2.1∧(sfind l c).2.2.1≤999:=by
 unfold sfind
 split
 ·rename_i hs;exact ses_reply h (sh_lt hs).1
 ·simp
theorem apE_reply {s:Stt} (h:stOk s=true) {e:Ent} (he:entOk e=true) : -4≤(apE s e).2.1∧(apE s e).2.1≤999:=by
 obtain ⟨p1,p2,p3,p4,p5⟩:=stOk_parts h
 obtain ⟨q1,q2,q3⟩:=entOk_parts he
 have hf:=sfind_reply p3 e.1
 unfold apE
 rw [if_pos (by simp [h,he])]
 split
 ·exact ⟨by simp only;omega,by simp only;omega⟩
 split
 ·simp
 split
 ·simp
 split
 ·simp
 ·rename_i h5
  obtain ⟨k1,k2,k3,k4⟩:=appC_ok p2 q3 h5
  exact ⟨by simp only;omega,by simp only;omega⟩
theorem rep_reply {s:Stt} (h:stOk s=true) : ∀ {l:List Ent},(∀e∈l,entOk e=true)→∀x∈(rep s l).2,-4≤x∧x≤999:=by
 intro l
 induction l generalizing s with
 | nil=>intro _ x hx;cases hx
 | cons e l ih=>
   intro hl x hx
   simp only [rep] at hx
   rcases List.mem_cons.1 hx with hx|hx
   ·rw [hx];exact apE_reply h (hl e (by simp))
   ·exact ih (apE_ok h (hl e (by simp))) (fun y hy=>hl y (by simp [hy])) x hx
theorem rep_len (s:Stt) (l:List Ent):(rep s l).2.length=l.length:=(rep_append s l []).2
theorem after_range {c:Cfg} {n:Int} (h:cfgOk c=true) (h0 : ¬after c n<0):0≤after c n∧after c n≤4:=by
 have hm:=(zj0.1 (zh3 h)).1
 unfold after at h0 ⊢
 split at h0
 ·rename_i hc
  rw [if_pos hc]
  simp only [Bool.and_eq_true,decide_eq_true_eq,Bool.not_eq_true',decide_eq_false_iff_not] at hc
  have h1:=idx_mem.2 hc.2.1
  have h2:=(idx_lt c.2.1 n).1
  have hlt:(idx c.2.1 n+1).toNat<c.2.1.length:=by omega
  rw [zar hlt]
  exact hm _ (List.getElem_mem _)
 ·simp at h0
theorem answers_ok (k:Nat) (hk:2000000≤k) (x:Chn) (r:Rep) (rs:List Int) (hc : ∀an:List Ans,an.length≤24→(∀a∈an,ansOk a=true)→CV (x.1,(x.2.1,(x.2.2.1,(x.2.2.2.1,(x.2.2.2.2.1,(an,())))))))
 (hl:r.2.2.1.length≤24) (he : ∀e∈r.2.2.1,entOk e=true) (hrs:rs.length=r.2.2.1.length) (hr : ∀x∈rs,-4≤x∧x≤999)
 (an0:List Ans) (d:Chn) (h0:an0.length≤r.2.2.1.length) (ha : ∀a∈an0,ansOk a=true) :
 Ok (A.iter k (zhr A k) (rs,((an0.length:Int),((x.1,(x.2.1,(x.2.2.1,(x.2.2.2.1,(x.2.2.2.2.1,(an0,())))))),(d,(r,())))))) (fun q=>CV q.1):=by
 refine zbt (fun m s=>∃an:List Ans,s=(rs,((an.length:Int),((x.1,(x.2.1,(x.2.2.1,(x.2.2.2.1,(x.2.2.2.2.1,(an,())))))),(d,(r,())))))∧an.length+m=r.2.2.1.length∧∀a∈an,ansOk a=true) _ ?_ (n:=r.2.2.1.length-an0.length) (by omega) ⟨an0,rfl,by omega,ha⟩
 rintro m s ⟨an,rfl,hm,hall⟩
 have w:A.wrapI .i64 ((an.length:Int)+1)=(an.length:Int)+1:=zal (by omega) (by omega)
 simp only [zhr,a_cndS,a_ltI,a_lenL,a_andB,a_le0,a_addI,a_appL,a_atL,Int.toNat_natCast,hrs,w]
 by_cases hlt:(an.length:Int)<(r.2.2.1.length:Int)
 ·have hbig:(an.length:Int)+1<4294967296:=by omega
  have hn:an.length<r.2.2.1.length:=by omega
  have hn2:an.length<rs.length:=by omega
  have e1 : ∀a:Ans,(([a]:List Ans).length:Int)=1:=fun _=>rfl
  simp only [hlt,decide_true,if_true,Int.natCast_nonneg,Bool.and_self,e1,a_big,hbig]
  refine zac.2 ⟨fun s' hs'=>?_,fun e he'=>by cases he'⟩
  injection hs' with hs'
  refine ⟨m-1,by omega,an++[(r.2.2.1.getD an.length ent0,(rs.getD an.length 0,()))],?_,by simp;omega,fun a ha'=>?_⟩
  ·rw [←hs',List.length_append];rfl
  ·rcases List.mem_append.1 ha' with ha'|ha'
   ·exact hall a ha'
   ·rw [List.mem_singleton.1 ha']
    simp only [ansOk,Bool.and_eq_true,decide_eq_true_eq]
    exact ⟨by rw [zar hn];exact he _ (List.getElem_mem _),by simp only [zar hn2];exact hr _ (List.getElem_mem _)⟩
 ·simp only [hlt,decide_false,Bool.false_eq_true,if_false]
  exact zac.2 ⟨fun s' hs'=>(by cases hs'),fun e he'=>by injection he' with he';subst he';exact hc an (by omega) hall⟩
end
end Go.Den.T
namespace Go.Den.T
set_option linter.unusedVariables false
set_option linter.unusedSimpArgs false
set_option linter.unusedSectionVars false
section
variable {A:Atoms} [IsReal A]
theorem isTail_ready {r:Rep} {n:Int} (h:isTail r n=true):repOk r=true∧r.2.1=true:=by
 simp only [isTail,Bool.and_eq_true] at h;exact ⟨h.1,h.2.1⟩
theorem stepNode_ok (k:Nat) (hk:2000000≤k) (c:Chn) (e:Evt) (hc:CV c) (he:evtOk e=true):Ok (zej A k (c,(e,())) ()) (fun q=>CV q.1.1):=by
 obtain ⟨s,cf,ns,us,bg,an,u⟩:=c
 have hb:bagOk bg=true:=hc.bag
 have hcf:cfgOk cf=true:=hc.cfg
 have hst:stOk s=true:=hc.st
 have hn5:ns.length=5:=hc.n5
 simp only [evtOk,Bool.and_eq_true,decide_eq_true_eq] at he
 obtain ⟨_,he2,_,hes⟩:=he
 have i1:(decide (0≤e.2.1)&&decide (e.2.1<((ns.length:Nat):Int)))=true:=by simp;omega
 have hlt:e.2.1.toNat<ns.length:=by omega
 obtain ⟨r,hr0⟩ : ∃r,ns.getD e.2.1.toNat rep0=r:=⟨_,rfl⟩
 have hr:repOk r=true∧r.1.1≤cf.1:=by
  rw [←hr0];exact hc.reps _ (by rw [zar hlt];exact List.getElem_mem _)
 have hr1:r.1.2.1.length≤4:=by
  have h1:=hr.1
  unfold repOk at h1
  split at h1
  ·rename_i hn
   simp only [noCfg,Bool.and_eq_true,decide_eq_true_eq] at hn
   omega
  ·simp only [Bool.and_eq_true] at h1
   exact (zay h1.1).2.2.2.1
 have hlog:=(repOk_log' hr.1).1
 have hlog':r.2.2.1.length≤24∧∀e∈r.2.2.1,entOk e=true:=by
  simpa only [logOk,Bool.and_eq_true,decide_eq_true_eq,List.all_eq_true] using hlog
 simp only [zej,a_andB,a_le0,a_ltI,a_lenL,i1,a_cndS,if_true,a_atL,hr0,a_eqI,zjc k (by omega:30≤k),zj4 k (by omega:30≤k) r e.2.1 (by omega) (by omega),spec_IsTail_eq k (by omega:30≤k),zis k (by omega:30≤k),a_obind_some,a_notB,a_setL]
 by_cases k1:e.1=1
 ·simp only [k1,if_true] at hes
  simp only [k1,decide_true,if_true]
  obtain ⟨w1,w2⟩:=submit_ok hr.1 he2 hes
  exact zac.2 (hc.withNode w1 (by rw [w2];exact hr.2))
 ·simp only [k1,decide_false,Bool.false_eq_true,if_false]
  by_cases k2:e.1=2
  ·simp only [k2,decide_true,if_true]
   by_cases ht:copyTarget r e.2.1<0
   ·simp only [ht,decide_true,if_true];exact zac.2 hc
   ·simp only [ht,decide_false,Bool.false_eq_true,if_false]
    have hcr:cfgOk r.1=true∧0≤copyTarget r e.2.1∧copyTarget r e.2.1≤4:=by
     unfold copyTarget at ht ⊢
     split at ht
     ·rename_i hq
      rw [if_pos hq]
      simp only [Bool.and_eq_true] at hq
      have hcr:=zmm hr.1 hq.2
      exact ⟨hcr,after_range hcr ht⟩
     ·simp at ht
    have hl:=zay hcr.1
    have hm:msgOk ((2,(copyTarget r e.2.1,(r.1.1,((0,([],(false,()))),(r.2.2.1,()))))):Msg)=true:=by
     simp only [msgOk,show ¬(2:Int)=1 by decide,if_false,if_true,hlog,noCfg,List.length_nil,decide_true,Bool.not_false,Bool.and_self,Bool.and_true,Bool.and_eq_true,decide_eq_true_eq]
     omega
    obtain ⟨q1,q2⟩:=addB_ok hb hm
    refine zac.2 (hc.withBag q1 fun m hm'=>?_)
    rcases q2 m hm' with h|h
    ·exact hc.msgs m h
    ·rw [h];exact hr.2
  ·simp only [k2,decide_false,Bool.false_eq_true,if_false]
   by_cases k8:e.1=8
   ·simp only [k8,decide_true,if_true]
    cases ht:isTail r e.2.1 with
    | false=>simp only [Bool.not_false,if_true,a_obind_some,a_sumE_inr];exact zac.2 hc
    | true=>
      simp only [Bool.not_true,Bool.false_eq_true,if_false]
      cases hf:r.1.2.2.1 with
      | false=>simp only [Bool.not_false,if_true,a_obind_some,a_sumE_inr];exact zac.2 hc
      | true=>
        simp only [Bool.not_true,Bool.false_eq_true,if_false,a_obind_some,a_sumE_inl]
        have hcr:=zmm hr.1 (isTail_ready ht).2
        have hl:=zay hcr
        have hm:msgOk ((3,(-1,(r.1.1,((0,([],(false,()))),([],()))))):Msg)=true:=by
         simp only [msgOk,show ¬(3:Int)=1 by decide,show ¬(3:Int)=2 by decide,if_false,if_true,noCfg,List.length_nil,decide_true,Bool.not_false,Bool.and_self,Bool.and_true,Bool.and_eq_true,decide_eq_true_eq]
         omega
        obtain ⟨q1,q2⟩:=addB_ok hb hm
        refine zac.2 (hc.withBag q1 fun m hm'=>?_)
        rcases q2 m hm' with h|h
        ·exact hc.msgs m h
        ·rw [h];exact hr.2
   ·simp only [k8,decide_false,Bool.false_eq_true,if_false]
    cases ht:isTail r e.2.1 with
    | false=>simp only [Bool.not_false,if_true,a_obind_some,a_sumE_inr];exact zac.2 hc
    | true=>
      simp only [Bool.not_true,Bool.false_eq_true,if_false,a_leI]
      by_cases hle:(r.2.2.1.length:Int)≤(an.length:Int)
      ·simp only [hle,decide_true,if_true,a_obind_some,a_sumE_inr];exact zac.2 hc
      ·simp only [hle,decide_false,Bool.false_eq_true,if_false,a_obind_some,a_sumE_inl]
       have hsh:=st_short hst
       rw [spec_Replay_eq k (by omega) s r.2.2.1 (by omega) (by omega)]
       simp only [a_obind_some,replay,hst,hlog,Bool.and_self,if_true]
       refine (answers_ok k hk (s,(cf,(ns,(us,(bg,(an,())))))) r (rep s r.2.2.1).2 (fun an' h1 h2=>⟨hc.st,hc.cfg,hc.n5,hc.u5,hc.bag,h1,hc.reps,hc.msgs,h2⟩) hlog'.1 hlog'.2 (rep_len s _) (rep_reply hst hlog'.2) an _ (by omega) hc.anss).bind fun q hq=>?_
       exact zac.2 hq
end
end Go.Den.T
namespace Go.Den.T
set_option linter.unusedVariables false
set_option linter.unusedSimpArgs false
set_option linter.unusedSectionVars false
section
variable {A:Atoms} [IsReal A]
theorem CV.rep5 {c:Chn} (h:CV c) {r:Rep} (hr:r∈c.2.2.1):r.1.2.1.length≤1000000000∧r.2.2.1.length≤1000000000:=by
 obtain ⟨_,_,⟨_,z⟩,_⟩:=h.z
 have:=z r hr
 exact ⟨by have:=this.1;omega,by have:=this.2;omega⟩
theorem l19Copy_eq (k:Nat) (hk:2000000≤k) (c:Chn) (hc:CV c):ziq A k (c,()) ()=some ((c,()),()):=by
 obtain ⟨s,cf,ns,us,bg,an,u⟩:=c
 have hst:stOk s=true:=hc.st
 have hsh:=st_short hst
 have hcf:cfgOk cf=true:=hc.cfg
 have hl:=zay hcf
 have hb:bagOk bg=true:=hc.bag
 have hbl:=zgi hb
 have hu5:us.length=5:=hc.u5
 have hn5:ns.length=5:=hc.n5
 have ha:an.length≤24:=hc.a24
 have hd:drop1 bg (-1)=bg:=by unfold drop1;rw [if_neg (by omega)]
 have hB:zdc A k (bg,(-1,())) ()=some ((bg,()),()):=by
  rw [l18Bag_eq k bg (-1) (by omega) (by omega) (fun m hm=>by
   have:=msgOk_len (hbl.2 m hm)
   exact ⟨by omega,by omega⟩),hd]
 have e1:((([]:List Bool).length:Int)+(us.length:Int))<4294967296:=by simp;omega
 have e2:((([]:List Ans).length:Int)+(an.length:Int))<4294967296:=by simp;omega
 have hloop : ∀d:Chn,A.iter k (zfr A k) ((0:Int),((s,(cf,(ns,(us,(bg,(an,u)))))),(d,((s,(cf,([],(us,(bg,(an,())))))),()))))=some (d,((s,(cf,(ns,(us,(bg,(an,())))))),())):=by
  intro d
  refine (iter_for (A:=A) (f:=zfr A k) (fun i=>((i:Int),((s,(cf,(ns,(us,(bg,(an,u)))))),(d,((s,(cf,(ns.take i,(us,(bg,(an,())))))),()))))) ns.length (d,((s,(cf,(ns,(us,(bg,(an,())))))),())) (fun i hi=>?_) ?_ (by omega)).trans rfl
  ·have hi':(i:Int)<(ns.length:Int):=by omega
   have w:A.wrapI .i64 ((i:Int)+1)=((i+1:Nat):Int):=by rw [zal (by omega) (by omega)];rfl
   have hr:=hc.rep5 (r:=ns.getD i rep0) (by rw [zar hi];exact List.getElem_mem _)
   have e3 : ∀r:Rep,(([r]:List Rep).length:Int)=1:=fun _=>rfl
   have e4:((ns.take i).length:Int)+1<4294967296:=by rw [List.length_take];omega
   simp only [zfr,a_cndS,a_ltI,a_lenL,a_andB,a_le0,hi',Int.natCast_nonneg,decide_true,Bool.and_self,if_true,a_atL,Int.toNat_natCast,l17Copy_eq k (ns.getD i rep0) hr.1 hr.2,a_obind_some,a_addI,e3,a_big,e4,w,a_appL]
   rw [List.take_succ_eq_append_getElem hi,zar hi]
  ·have hn : ¬(ns.length:Int)<(ns.length:Int):=by omega
   simp only [zfr,a_cndS,a_ltI,a_lenL,hn,decide_false,Bool.false_eq_true,if_false,List.take_length]
 simp only [ziq,l10Copy_eq k s (by omega) (by omega),zfh k cf (by omega),hB,a_obind_some,a_cndS,a_ltI,a_addI,a_lenL,a_big,e1,e2,decide_true,if_true,a_appL,List.nil_append,hloop]
theorem CV.short {c:Chn} (h:CV c):StShort c.1:=h.z.1
theorem ChainStep_ok (k:Nat) (hk:2000000≤k) (c:Chn) (e:Evt) (hc:CV c) (he:evtOk e=true):Ok (zgd A k (c,(e,())) ()) (fun q=>CV q.1.1):=by
 have hv:=cv_iff.2 hc
 have hup:c.2.2.2.1.length=5:=hc.u5
 have h1:=stepBag_ok (A:=A) k hk c e hc he
 have h2:=stepMaster_ok (A:=A) k hk c e hc he
 have h3:=stepNode_ok (A:=A) k hk c e hc he
 have he':=he
 simp only [evtOk,Bool.and_eq_true,decide_eq_true_eq] at he'
 obtain ⟨hk12,hn,_⟩:=he'
 have i1:(decide (0≤e.2.1)&&decide (e.2.1<((c.2.2.2.1.length:Nat):Int)))=true:=by simp;omega
 simp only [zgd,zed k hk c hc.short,hv,a_obind_some,a_cndS,a_notB,Bool.not_true,Bool.false_eq_true,if_false,zg9 k (by omega:10≤k),he,a_sumE_inl,l19Copy_eq k hk c hc,a_eqI,a_andB,a_le0,a_ltI,a_lenL,a_atL]
 have fin : ∀ {R T:Type} {x:Option ((Chn×(Bool×Unit))×Unit)} (f:T→Option ((Chn×(Bool×Unit))×Unit)),Ok x (fun q=>CV q.1.1) →
  Ok (A.obind (A.obind x (fun r=>some (Sum.inr (α:=T) ((r.1.1,(r.1.2.1,())),())))) (fun r=>A.sumE r f (fun z=>some z))) (fun q=>CV q.1.1):=fun f h=>
  (Ok.bind (P:=fun z=>∃q,z = .inr q∧CV q.1.1) (h.bind fun q hq=>zac.2 ⟨_,rfl,hq⟩) fun z ⟨q,e,h⟩=>by subst e;rw [a_sumE_inr];exact zac.2 h)
 have hcase:e.1=1∨e.1=2∨e.1=3∨e.1=4∨e.1=5∨e.1=6∨e.1=7∨e.1=8∨e.1=9∨e.1=10∨e.1=11∨e.1=12:=by omega
 rcases hcase with hq|hq|hq|hq|hq|hq|hq|hq|hq|hq|hq|hq
 all_goals simp only [hq,Int.reduceEq,decide_true,decide_false,Bool.false_eq_true,if_true,if_false,a_obind_some,a_sumE_inl,i1]
 all_goals first
  | exact fin (R:=Unit) _ h1
  | exact fin (R:=Unit) _ h2
  | skip
 all_goals cases c.2.2.2.1.getD e.2.1.toNat false with
  | false=>simp only [Bool.not_false,if_true,Bool.false_eq_true,if_false,a_obind_some];exact zac.2 hc
  | true=>
    simp only [Bool.not_true,if_true,Bool.false_eq_true,if_false,a_obind_some]
    exact h3.bind fun q hq=>zac.2 hq
end
end Go.Den.T
namespace Go.Den.T
set_option linter.unusedVariables false
set_option linter.unusedSimpArgs false
set_option linter.unusedSectionVars false
section
variable {A:Atoms} [IsReal A]
theorem zll {kd node place:Int} (h1:2≤kd∧kd≤12) (h2:0≤node∧node≤4) (h3:0≤place∧place≤9):evtOk (kd,(node,(place,(ent0,()))))=true:=by
 have h : ¬kd=1:=by omega
 have h':1≤kd∧kd≤12:=by omega
 simp only [evtOk,h,if_false,h',h2,h3,decide_true,Bool.true_and,and_self]
 decide
theorem evt_sub {node c q:Int} {cmd:Cmd} (h2:0≤node∧node≤4) (h3:0≤c∧c≤3) (h4:1≤q∧q≤999) (h5:cmdOk cmd=true):evtOk (1,(node,(0,((c,(q,(cmd,()))),()))))=true:=by
 simp [evtOk,entOk,h2,h3,h4,h5]
theorem cfg_mem {c:Cfg} (h:cfgOk c=true) {i:Int} (h0:0≤i) (h1:i<c.2.1.length):0≤c.2.1.getD i.toNat 0∧c.2.1.getD i.toNat 0≤4:=by
 have hlt:i.toNat<c.2.1.length:=by omega
 rw [zar hlt]
 exact (zj0.1 (zh3 h)).1 _ (List.getElem_mem _)
theorem l20Event_val (k:Nat) (hk:100≤k) (c:Chn) (seq N:Int) (r:Rd) (hc:CV c) (hs:1≤seq∧seq≤999) (h:RdOk N r) (hp:N≤700000000) :
 Ok (zjl A k ((),(c,(seq,()))) r) (fun q=>RdOk (N+120) q.2∧evtOk q.1.1=true):=by
 have hcf:=hc.cfg
 have hl:=zay hcf
 have hb:=(zgi hc.bag).1
 have w:A.wrapI .i64 (A.subI (A.lenL c.2.1.2.1) 1)=(c.2.1.2.1.length:Int)-1:=by rw [a_subI,a_lenL];exact zal (by omega) (by omega)
 have mh:=cfg_mem hcf (i:=0) (by omega) (by omega)
 have ml:=cfg_mem hcf (i:=(c.2.1.2.1.length:Int)-1) (by omega) (by omega)
 rw [zjl]
 dsimp only
 refine zad.2 ⟨fun _=>?_,fun hb=>(by rw [zge (by omega) (by omega)] at hb;cases hb)⟩
 refine zad.2 ⟨fun _=>?_,fun hb=>(by rw [w,zge (by omega) (by omega)] at hb;cases hb)⟩
 refine (zaf k _ _ _ h (by omega) (by rw [a_lenL];omega)).bind fun q0 h0=>?_
 have a1:=h0.2.1
 have a2:=h0.2.2.2.1 (by rw [a_lenL];omega)
 rw [a_lenL] at a2
 have mm:=cfg_mem hcf a1 a2
 refine zad.2 ⟨fun _=>?_,fun hb=>(by simp at hb;omega)⟩
 refine (zaf k 5 _ _ h0.1 (by omega) (by omega)).bind fun q1 h1=>?_
 have g1:=h1.2.1
 have g2:=h1.2.2.2.1 (by omega)
 rw [w]
 simp only [a_atL]
 refine Ok.bind (P:=fun t:Int×(Int×(Int×(Int×(Int×(Int×(Evt×Rd))))))=>RdOk (N+5) t.2.2.2.2.2.2.2∧t.1=seq∧(0≤t.2.1∧t.2.1≤4)∧(0≤t.2.2.1∧t.2.2.1≤4)∧(0≤t.2.2.2.1∧t.2.2.2.1≤4)∧(0≤t.2.2.2.2.1∧t.2.2.2.2.1≤4)∧(0≤t.2.2.2.2.2.1∧t.2.2.2.2.2.1≤9)) ?_ fun t ht=>?_
 ·refine zad.2 ⟨fun hb0=>?_,fun _=>zac.2 ⟨h1.1.le (by omega),rfl,mh,ml,mm,⟨g1,by show q1.1.1≤4;omega⟩,by simp⟩⟩
  rw [a_ltI,a_lenL,decide_eq_true_eq] at hb0
  refine (zaf k _ _ _ h1.1 (by omega) (by rw [a_lenL];omega)).bind fun q2 h2=>?_
  have e1:=h2.2.1
  have e2:=h2.2.2.2.1 (by rw [a_lenL];omega)
  rw [a_lenL] at e2
  exact zac.2 ⟨h2.1.le (by omega),rfl,mh,ml,mm,⟨g1,by show q1.1.1≤4;omega⟩,⟨e1,by show q2.1.1≤9;omega⟩⟩
 obtain ⟨ht,t1,t2,t3,t4,t5,t6⟩:=ht
 refine (zaf k 3 _ _ ht (by omega) (by omega)).bind fun q4 h4=>?_
 have c1:=h4.2.1
 have c2:=h4.2.2.2.1 (by omega)
 have w4:A.wrapI .i64 (A.addI 1 q4.1.1)=1+q4.1.1:=by rw [a_addI];exact zal (by omega) (by omega)
 rw [w4,t1]
 refine Ok.bind (P:=fun t:(Int×(Int×(Evt×Rd))) ⊕ ((Evt×Unit)×Rd)=>(∀e,t = .inr e→RdOk (N+70) e.2∧evtOk e.1.1=true)∧(∀s,t = .inl s→RdOk (N+70) s.2.2.2∧(0≤s.1∧s.1≤4)∧(0≤s.2.1∧s.2.1≤3))) ?_ fun t2 ht2=>?_
 ·refine (zaf k 24 _ _ h4.1 (by omega) (by omega)).bind fun q5 h5=>?_
  have m5:RdOk (N+70) q5.2:=h5.1.le (by omega)
  have n5:RdOk (N+10) q5.2:=h5.1.le (by omega)
  have leafR : ∀kd node place:Int,(2≤kd∧kd≤12)→(0≤node∧node≤4)→(0≤place∧place≤9)→Ok (some (.inr (((kd,(node,(place,(ent0,())))),()),q5.2)):Option ((Int×(Int×(Evt×Rd))) ⊕ ((Evt×Unit)×Rd)))
   (fun t=>(∀e,t = .inr e→RdOk (N+70) e.2∧evtOk e.1.1=true)∧(∀s,t = .inl s→RdOk (N+70) s.2.2.2∧(0≤s.1∧s.1≤4)∧(0≤s.2.1∧s.2.1≤3))):=fun kd node place p1 p2 p3=>zac.2 ⟨fun e he=>(by injection he with he;subst he;exact ⟨m5,zll p1 p2 p3⟩),fun s hs=>(by cases hs)⟩
  have leafL : ∀(e:Evt),Ok (some (.inl (t.2.1,(1+q4.1.1,(e,q5.2)))):Option ((Int×(Int×(Evt×Rd))) ⊕ ((Evt×Unit)×Rd))) (fun t=>(∀e,t = .inr e→RdOk (N+70) e.2∧evtOk e.1.1=true)∧(∀s,t = .inl s→RdOk (N+70) s.2.2.2∧(0≤s.1∧s.1≤4)∧(0≤s.2.1∧s.2.1≤3))):=
   fun e=>zac.2 ⟨fun e he=>(by cases he),fun s hs=>(by injection hs with hs;subst hs;exact ⟨m5,t2,by show 0≤1+q4.1.1;omega,by show 1+q4.1.1≤3;omega⟩)⟩
  repeat' first
   | exact leafL _
   | exact leafR _ _ _ (by omega) (by omega) (by omega)
   | refine zad.2 ⟨fun _=>?_,fun _=>?_⟩
   | exact (l20Any_val k hk _ _ n5 (by omega)).bind fun q6 h6=>zac.2 ⟨fun e he=>(by injection he with he;subst he;exact ⟨h6.1.le (by omega),evt_sub (by omega) (by omega) hs h6.2⟩),fun s hs=>(by cases hs)⟩
   | exact (l20Cmd_val k hk _ _ n5 (by omega)).bind fun q6 h6=>zac.2 ⟨fun e he=>(by injection he with he;subst he;exact ⟨h6.1.le (by omega),evt_sub (by omega) (by omega) hs h6.2⟩),fun s hs=>(by cases hs)⟩
 ·refine ok_sumE.2 ⟨fun s hs=>?_,fun e he=>zac.2 ⟨(ht2.1 e he).1.le (by omega),(ht2.1 e he).2⟩⟩
  obtain ⟨s1,s2,s3⟩:=ht2.2 s hs
  refine (zaf k 9 _ _ s1 (by omega) (by omega)).bind fun q7 h7=>?_
  have d1:=h7.2.1
  have d2:=h7.2.2.2.1 (by omega)
  have w7:A.wrapI .i64 (A.addI 1 q7.1.1)=1+q7.1.1:=by rw [a_addI];exact zal (by omega) (by omega)
  rw [w7]
  exact (l20Cmd_val k hk _ _ h7.1 (by omega)).bind fun q8 h8=>zac.2 ⟨h8.1.le (by omega),evt_sub s2 s3 (by omega) h8.2⟩
end
end Go.Den.T
namespace Go.Den.T
set_option linter.unusedVariables false
set_option linter.unusedSimpArgs false
set_option linter.unusedSectionVars false
section
variable {A:Atoms} [IsReal A]
def memF (a b j:Nat):Int:=(((a+j*(b+1)) % 5:Nat):Int)
def memL (a b n:Nat):List Int:=(List.range n).map (memF a b)
theorem memL_ok : ∀a,a<5→∀b,b<4→∀c,c<4→cfgOk (1,(memL a b (c+1),(false,())))=true:=by decide
theorem l20Members_val (k:Nat) (hk:2000≤k) (N:Int) (r:Rd) (h:RdOk N r) (hp:N≤600000000):Ok (zii A k ((),(0,())) r) (fun q=>RdOk (N+100) q.2∧cfgOk (1,(q.1.1,(false,())))=true):=by
 rw [zii]
 refine (zaf k 5 _ _ h (by omega) (by omega)).bind fun q0 h0=>?_
 refine (zaf k 4 _ _ h0.1 (by omega) (by omega)).bind fun q1 h1=>?_
 refine (zaf k 4 _ _ h1.1 (by omega) (by omega)).bind fun q2 h2=>?_
 have w1:A.wrapI .i64 (A.addI 1 q1.1.1)=1+q1.1.1:=by rw [a_addI];exact zal (by have:=h1.2.1;omega) (by have:=h1.2.2.1;omega)
 have w2:A.wrapI .i64 (A.addI 1 q2.1.1)=1+q2.1.1:=by rw [a_addI];exact zal (by have:=h2.2.1;omega) (by have:=h2.2.2.1;omega)
 rw [w1,w2]
 have c0:=h0.2.1
 have d0:=h0.2.2.2.1 (by omega)
 have c1:=h1.2.1
 have d1:=h1.2.2.2.1 (by omega)
 have c2:=h2.2.1
 have d2:=h2.2.2.2.1 (by omega)
 obtain ⟨a,ha⟩ : ∃a:Nat,q0.1.1=a:=⟨q0.1.1.toNat,by omega⟩
 obtain ⟨b,hb⟩ : ∃b:Nat,q1.1.1=b:=⟨q1.1.1.toNat,by omega⟩
 obtain ⟨m,hm⟩ : ∃m:Nat,q2.1.1=m:=⟨q2.1.1.toNat,by omega⟩
 rw [ha,hb,hm]
 have ha5:a<5:=by omega
 have hb4:b<4:=by omega
 have hm4:m<4:=by omega
 have loop:A.iter k (zcc A k) ((0:Int),(([]:List Int),((a:Int),(1+(b:Int),(1+(m:Int),q2.2)))))=some ((0:Int),(memL a b (m+1),q2.2)):=by
  refine (congrArg (A.iter k (zcc A k)) ?_).trans (iter_for (A:=A) (f:=zcc A k) (fun i=>((0:Int),(memL a b i,(memF a b i,(1+(b:Int),(((m+1:Nat):Int)-(i:Int),q2.2)))))) (m+1) ((0:Int),(memL a b (m+1),q2.2)) (fun i hi=>?_) ?_ (by omega))
  ·have e1:memF a b 0=(a:Int):=by unfold memF;rw [Nat.zero_mul,Nat.add_zero,Nat.mod_eq_of_lt ha5]
   rw [e1]
   have:((m+1:Nat):Int)-((0:Nat):Int)=1+(m:Int):=by omega
   rw [this];rfl
  ·have hpos:(0:Int)<((m+1:Nat):Int)-(i:Int):=by omega
   have hf:0≤memF a b i∧memF a b i≤4:=by unfold memF;omega
   have e1 : ∀x:Int,(([x]:List Int).length:Int)=1:=fun _=>rfl
   have e2:((memL a b i).length:Int)+1<4294967296:=by simp [memL];omega
   have w3:A.wrapI .i64 (memF a b i+(1+(b:Int)))=memF a b i+(1+(b:Int)):=zal (by omega) (by omega)
   have w4:A.wrapI .i64 (((m+1:Nat):Int)-(i:Int)-1)=((m+1:Nat):Int)-((i+1:Nat):Int):=by rw [zal (by omega) (by omega)];omega
   have e3:(memF a b i+(1+(b:Int))).tmod 5=memF a b (i+1):=by
    rw [Int.tmod_eq_emod_of_nonneg (by omega)]
    unfold memF
    rw [Nat.succ_mul]
    generalize i*(b+1)=y
    omega
   have e4:memL a b i++[memF a b i]=memL a b (i+1):=by simp [memL,List.range_succ]
   simp only [zcc,a_cndS,a_ltI,hpos,decide_true,if_true,a_addI,a_lenL,e1,a_big,e2,a_notB,a_eqI,show decide ((5:Int)=0)=false from rfl,Bool.not_false,a_appL,e4,w3,a_remI,e3,a_subI,w4]
  ·have hn : ¬(0:Int)<((m+1:Nat):Int)-((m+1:Nat):Int):=by omega
   simp only [zcc,a_cndS,a_ltI,hn,decide_false,Bool.false_eq_true,if_false]
 rw [loop,a_obind_some]
 simp only [odd0,a_obind_some,a_cndS,Bool.false_eq_true,if_false]
 exact zac.2 ⟨h2.1.le (by omega),memL_ok a ha5 b hb4 m hm4⟩
theorem ChainPlay_ok (k:Nat) (hk:2000000≤k) (c:Chn) (es:List Evt) (hc:CV c) (hl:es.length≤60) (he : ∀e∈es,evtOk e=true):Ok (zi0 A k (c,(es,())) ()) (fun q=>CV q.1.1):=by
 have hv:=cv_iff.2 hc
 have h60 : ¬(60:Int)<(es.length:Int):=by omega
 simp only [zi0,zed k hk c hc.short,hv,a_obind_some,a_cndS,a_notB,Bool.not_true,Bool.false_eq_true,if_false,a_ltI,a_lenL,h60,decide_false,a_sumE_inl,l19Copy_eq k hk c hc]
 refine Ok.bind (P:=fun z=>∃d c':Chn,z = .inl (d,(c',()))∧CV c') (zbt (fun j s=>∃(i:Nat) (d c':Chn),s=(es,((i:Int),(d,(c',()))))∧CV c'∧i+j=es.length) _ ?_ (n:=es.length) (by omega) ⟨0,_,c,rfl,hc,by omega⟩) fun z ⟨d,c',e,h⟩=>by subst e;rw [a_sumE_inl];exact zac.2 h
 rintro j s ⟨i,d,c',rfl,hc',hij⟩
 by_cases hi:i<es.length
 ·have hi':(i:Int)<(es.length:Int):=by omega
  have hee:evtOk (es.getD i ((0:Int),((0:Int),((0:Int),(ent0,())))))=true:=by rw [zar hi];exact he _ (List.getElem_mem _)
  have w:A.wrapI .i64 ((i:Int)+1)=((i+1:Nat):Int):=by rw [zal (by omega) (by omega)];rfl
  simp only [zi8,a_cndS,a_ltI,a_lenL,a_andB,a_le0,hi',Int.natCast_nonneg,decide_true,Bool.and_self,if_true,a_atL,Int.toNat_natCast,zg9 k (by omega:10≤k),hee,a_obind_some,a_notB,Bool.not_true,Bool.false_eq_true,if_false,a_addI,w]
  refine (ChainStep_ok k hk c' _ hc' hee).bind fun q hq=>zac.2 ⟨fun s' e=>?_,fun e h=>by cases h⟩
  injection e with e
  exact ⟨j-1,by omega,i+1,d,q.1.1,e.symm,hq,by omega⟩
 ·have hi' : ¬(i:Int)<(es.length:Int):=by omega
  simp only [zi8,a_cndS,a_ltI,a_lenL,hi',decide_false,Bool.false_eq_true,if_false]
  exact zac.2 ⟨fun s' e=>(by cases e),fun e h=>by injection h with h;exact ⟨d,c',h.symm,hc'⟩⟩
end
end Go.Den.T
namespace Go.Den.T
set_option linter.unusedVariables false
set_option linter.unusedSimpArgs false
set_option linter.unusedSectionVars false
section
variable {A:Atoms} [IsReal A]
theorem key_ne {s:List UInt8} (h:keyOk s=true):s≠[]:=by
 rintro rfl;simp [keyOk] at h
theorem key_low {s:List UInt8} (h:keyOk s=true):s=[97]∨bless [97] s=true:=by
 cases s with
 | nil=>exact absurd rfl (key_ne h)
 | cons x xs=>
   simp only [keyOk,List.all_cons,Bool.and_eq_true,decide_eq_true_eq,letter] at h
   have hx:=h.2.1.1
   rw [bless_cons,bless_nil]
   by_cases h1:x=97
   ·subst h1
    cases xs with
    | nil=>exact .inl rfl
    | cons y ys=>right;simp
   ·right
    have h2:(97:UInt8)<x:=by
     rw [UInt8.lt_iff_toNat_lt]
     have:x.toNat≠97:=fun e=>h1 (by rw [←UInt8.toNat_inj];simpa using e)
     show 97<x.toNat
     omega
    simp [h2]
theorem itv_a {a:List UInt8} (h:keyOk a=true):itvOk (a,([],()))=true:=by simp [itvOk,keyOrNil,h]
theorem itv_ab {a b:List UInt8} (h:keyOk a=true) (h':keyOk b=true) (hl:bless a b=true):itvOk (a,(b,()))=true:=by
 simp [itvOk,keyOrNil,h,h',lowest,key_ne h,hl]
theorem itv_b {b:List UInt8} (h:keyOk b=true) (hb:b≠[97]):itvOk ([],(b,()))=true:=by
 have:=(key_low h).resolve_left hb
 simp [itvOk,keyOrNil,h,lowest,this]
theorem l20Span_val (k:Nat) (hk:100≤k) (N:Int) (r:Rd) (h:RdOk N r) (hp:N≤800000000):Ok (zes A k ((),(0,())) r) (fun q=>RdOk (N+40) q.2∧itvOk q.1.1=true):=by
 rw [zes,odd0,a_obind_some]
 simp only [a_cndS,Bool.false_eq_true,if_false]
 refine (l20Key_val k hk _ _ h (by omega)).bind fun q1 h1=>?_
 refine (l20Key_val k hk _ _ h1.1 (by omega)).bind fun q2 h2=>?_
 refine Ok.bind (P:=fun t=>(∃r,t = .inr r∧RdOk (N+40) r.2∧itvOk r.1.1=true)∨∃s,t = .inl s∧RdOk (N+40) s.2.2.2∧keyOk s.1=true∧keyOk s.2.1=true) ?_ fun t ht=>?_
 ·refine (zaf k 6 _ _ h2.1 (by omega) (by omega)).bind fun q3 h3=>?_
  have h4:=h3.1.le (M:=N+40) (by omega)
  rw [ok_ite];refine ⟨fun _=>zac.2 (.inl ⟨_,rfl,h4,(by decide:itvOk ([],([],()))=true)⟩),fun _=>?_⟩
  rw [ok_ite];refine ⟨fun _=>zac.2 (.inl ⟨_,rfl,h4,itv_a h1.2⟩),fun _=>?_⟩
  rw [ok_ite];refine ⟨fun _=>?_,fun _=>zac.2 (.inr ⟨_,rfl,h4,h1.2,h2.2⟩)⟩
  rw [ok_ite];exact ⟨fun hb=>zac.2 (.inl ⟨_,rfl,h4,itv_b h2.2 (by simpa using hb)⟩),fun _=>zac.2 (.inr ⟨_,rfl,h4,h1.2,h2.2⟩)⟩
 rcases ht with ⟨r,rfl,hr⟩|⟨s,rfl,hs,ka,kb⟩
 ·rw [a_sumE_inr];exact zac.2 hr
 ·rw [a_sumE_inl,ok_ite];refine ⟨fun hl=>zac.2 ⟨hs,itv_ab ka kb (by simpa [bless] using hl)⟩,fun _=>?_⟩
  rw [ok_ite];exact ⟨fun hl=>zac.2 ⟨hs,itv_ab kb ka (by simpa [bless] using hl)⟩,fun _=>zac.2 ⟨hs,itv_a ka⟩⟩
theorem PairsIn_val (k:Nat) (hk:2000≤k) (l:List Pair) (v:Itv) (hl:pairsOk l=true) (hv:itvOk v=true):Ok (zgm A k (l,(v,())) ()) (fun q=>pairsOk q.1.1=true∧q.1.1.all (fun p=>inside v p.1)=true):=by
 have hlen:=pairs_len hl
 obtain ⟨_,hkv,hpw⟩:=zkt.1 hl
 simp only [zgm,zhg,za9 k (by omega:60≤k),hl,zba k (by omega:10≤k),hv,zc9,a_obind_some,a_cndS,a_notB,Bool.not_true,Bool.false_eq_true,if_false,show decide ((0:Int)≤48∧(48:Int)≤48)=true from by decide,a_sumE_inl]
 refine Ok.bind (P:=fun q:(List Pair×Unit)×Unit=>pairsOk q.1.1=true∧q.1.1.all (fun p=>inside v p.1)=true) (Ok.bind (P:=fun e:List Pair×Unit=>pairsOk e.1=true∧e.1.all (fun p=>inside v p.1)=true) (zbt (fun m s=>∃(i:Nat) (out:List Pair),s=(l,((48:Int),(out,((i:Int),(v,())))))∧i+m=l.length∧out.Sublist (l.take i)∧out.all (fun p=>inside v p.1)=true) _ ?_ (n:=l.length) (by omega) ⟨0,[],rfl,by omega,by simp,rfl⟩) fun e he=>zac.2 he) fun q hq=>zac.2 hq
 rintro m s ⟨i,out,rfl,him,hsub,hin⟩
 have fin : ∀out:List Pair,out.Sublist (l.take i)→pairsOk out=true:=fun out hs=>by
  have hs':out.Sublist l:=hs.trans (List.take_sublist _ _)
  exact zkt.2 ⟨Nat.le_trans hs'.length_le hlen,fun p hp=>hkv p (hs'.subset hp),hpw.sublist hs'⟩
 rw [zj9]
 by_cases hi:i<l.length
 ·have hi':(i:Int)<(l.length:Int):=by omega
  have ho:out.length≤i:=by have:=hsub.length_le;rw [List.length_take] at this;omega
  have ho':(out.length:Int)<48:=by omega
  have w:A.wrapI .i64 ((i:Int)+1)=((i+1:Nat):Int):=by rw [zal (by omega) (by omega)];rfl
  have e1 : ∀p:Pair,(([p]:List Pair).length:Int)=1:=fun _=>rfl
  have e2:(out.length:Int)+1<4294967296:=by omega
  have hkey:keyOk (l.getD i pair0).1=true:=by rw [zar hi];exact (hkv _ (List.getElem_mem _)).1
  simp only [a_cndS,a_ltI,a_lenL,hi',ho',decide_true,if_true,a_obind_some,a_sumE_inl,a_andB,a_le0,Int.natCast_nonneg,Bool.and_self,a_atL,Int.toNat_natCast,zlb k (by omega:10≤k),hv,hkey,Bool.true_and,a_addI,e1,a_big,e2,a_appL,w]
  have htk:l.take (i+1)=l.take i++[l.getD i pair0]:=by rw [List.take_succ_eq_append_getElem hi,zar hi]
  cases hins:inside v (l.getD i pair0).1 with
  | true=>
    simp only [if_true]
    refine zac.2 ⟨fun s' e=>?_,fun e he=>by cases he⟩
    injection e with e
    refine ⟨m-1,by omega,i+1,out++[l.getD i pair0],e.symm,by omega,?_,?_⟩
    ·rw [htk];exact hsub.append (List.Sublist.refl _)
    ·rw [List.all_append,hin];simp only [List.all_cons,List.all_nil,hins,Bool.and_self]
  | false=>
    simp only [Bool.false_eq_true,if_false]
    refine zac.2 ⟨fun s' e=>?_,fun e he=>by cases he⟩
    injection e with e
    exact ⟨m-1,by omega,i+1,out,e.symm,by omega,by rw [htk];exact hsub.trans (List.sublist_append_left _ _),hin⟩
 ·have hi' : ¬(i:Int)<(l.length:Int):=by omega
  simp only [a_cndS,a_ltI,a_lenL,hi',decide_false,Bool.false_eq_true,if_false,a_obind_some,a_sumE_inr]
  exact zac.2 ⟨fun s' e=>(by cases e),fun e he=>by injection he with he;subst he;exact ⟨fin out hsub,hin⟩⟩
theorem l20State_val (k:Nat) (hk:2000≤k) (N:Int) (r:Rd) (h:RdOk N r) (hp:N≤700000000):Ok (zdq A k ((),(0,())) r) (fun q=>RdOk (N+1000) q.2∧itvOk q.1.1.1=true∧pairsOk q.1.1.2.1=true∧sesOk q.1.1.2.2.1=true∧q.1.1.2.1.all (fun p=>inside q.1.1.1 p.1)=true):=by
 rw [zdq]
 refine (l20Span_val (A:=A) k (by omega) _ _ h (by omega)).bind fun q0 h0=>?_
 refine Ok.bind (P:=fun e:Int×(Stt×(Itv×Rd))=>e.1=0∧itvOk e.2.2.1=true∧RdOk (N+41) e.2.2.2) ?_ fun t ht=>?_
 ·refine (zaf k 2 _ _ h0.1 (by omega) (by omega)).bind fun q1 h1=>?_
  rw [zad]
  exact ⟨fun _=>zac.2 ⟨rfl,(by decide:itvOk ([],([],()))=true),h1.1.le (by omega)⟩,fun _=>zac.2 ⟨rfl,h0.2,h1.1.le (by omega)⟩⟩
 obtain ⟨t0,ti,tr⟩:=ht
 refine (l20Pairs_val k hk _ _ tr (by omega)).bind fun q3 h3=>?_
 refine (PairsIn_val (A:=A) k hk _ _ h3.2 ti).bind fun q4 h4=>?_
 refine (l20Sessions_val k hk _ _ h3.1 (by omega)).bind fun q5 h5=>?_
 refine Ok.bind (P:=fun e:Int×(Stt×(Stt×Rd))=>e.1=0∧RdOk (N+500) e.2.2.2∧itvOk e.2.2.1.1=true∧pairsOk e.2.2.1.2.1=true∧sesOk e.2.2.1.2.2.1=true∧e.2.2.1.2.1.all (fun p=>inside e.2.2.1.1 p.1)=true) ?_ fun e he=>?_
 ·refine (zaf k 5 _ _ h5.1 (by omega) (by omega)).bind fun q6 h6=>?_
  rw [zad]
  refine ⟨fun _=>?_,fun _=>zac.2 ⟨t0,h6.1.le (by omega),ti,h4.1,h5.2,h4.2⟩⟩
  rw [zcj k (by omega),a_obind_some,zad]
  refine ⟨fun _=>?_,fun _=>zac.2 ⟨t0,h6.1.le (by omega),ti,h4.1,h5.2,h4.2⟩⟩
  refine (zaf k 2 _ _ h6.1 (by omega) (by omega)).bind fun q8 h8=>?_
  rw [zad]
  exact ⟨fun _=>zac.2 ⟨t0,h8.1.le (by omega),ti,h4.1,h5.2,h4.2⟩,fun _=>zac.2 ⟨t0,h8.1.le (by omega),ti,h4.1,h5.2,h4.2⟩⟩
 ·obtain ⟨e0,e1,e2⟩:=he
  rw [e0,odd0,a_obind_some,zad]
  exact ⟨fun h=>(by cases h),fun _=>zac.2 ⟨e1.le (by omega),e2⟩⟩
theorem l20Base_val (k:Nat) (hk:2000≤k) (N:Int) (r:Rd) (h:RdOk N r) (hp:N≤600000000):Ok (zk7 A k ((),()) r) (fun q=>RdOk (N+2000) q.2∧stOk q.1.1=true):=by
 rw [zk7]
 refine (zaf k 2 _ _ h (by omega) (by omega)).bind fun q hq=>?_
 rw [zad]
 refine ⟨fun _=>?_,fun _=>?_⟩
 ·rw [zmx,zba k (by omega)]
  simp only [show itvOk ([],([],()))=true from by decide,a_obind_some,a_cndS,a_notB,Bool.not_true,Bool.false_eq_true,if_false]
  exact zac.2 ⟨hq.1.le (by omega),(by decide:stOk (([],([],())),([],([],(false,([],())))))=true)⟩
 ·refine (l20State_val k hk (N+1) _ hq.1 (by omega)).bind fun q1 h1=>zac.2 ⟨h1.1.le (by omega),?_⟩
  simp only [stOk,h1.2.1,h1.2.2.1,h1.2.2.2.1,h1.2.2.2.2,Bool.true_and,decide_true,Bool.true_or]
end
end Go.Den.T
namespace Go.Den.T
set_option linter.unusedVariables false
set_option linter.unusedSimpArgs false
set_option linter.unusedSectionVars false
section
variable {A:Atoms} [IsReal A]
abbrev evt0:Evt:=(0,(0,(0,(ent0,()))))
theorem all_app2 {l:List Evt} (h : ∀e∈l,evtOk e=true) {a b:Evt} (ha:evtOk a=true) (hb:evtOk b=true) : ∀e∈l++[a,b],evtOk e=true:=by
 intro e he
 rcases List.mem_append.1 he with he|he
 ·exact h e he
 ·simp only [List.mem_cons,List.not_mem_nil,or_false] at he
  rcases he with rfl|rfl
  ·exact ha
  ·exact hb
theorem l20Flow_val (k:Nat) (hk:2000≤k) (c:Chn) (many:Int) (hc:CV c):Ok (zk6 A k (c,(many,())) ()) (fun q=>q.1.1≠[]∧q.1.1.length≤60∧∀e∈q.1.1,evtOk e=true):=by
 have hcf:=hc.cfg
 have hl:=zay hcf
 have hb:=(zgi hc.bag).1
 obtain ⟨ms,hms⟩ : ∃ms,c.2.1.2.1=ms:=⟨_,rfl⟩
 have hmem : ∀i:Nat,i<ms.length→0≤ms.getD i 0∧ms.getD i 0≤4:=fun i hi=>by
  have:=cfg_mem hcf (i:=(i:Int)) (by omega) (by rw [hms];omega)
  rw [hms] at this;simpa using this
 obtain ⟨pl,hpl⟩ : ∃pl,A.minI (A.lenL c.2.2.2.2.1) 9=pl:=⟨_,rfl⟩
 have hp:0≤pl∧pl≤9:=by rw [←hpl,a_minI,a_lenL];omega
 rw [hms] at hl
 rw [zk6]
 simp only [hms,hpl]
 have e2 : ∀a b:Evt,(([a,b]:List Evt).length:Int)=2:=fun _ _=>rfl
 have e3 : ∀a b d:Evt,(([a,b,d]:List Evt).length:Int)=3:=fun _ _ _=>rfl
 refine Ok.bind (P:=fun e:Int×(List Evt×(List Int×(Int×Unit)))=>e.1=many∧e.2.1.length≤8∧(∀x∈e.2.1,evtOk x=true)∧e.2.2=(ms,(pl,()))) (zbt (fun m s=>∃(i:Nat) (out:List Evt),s=(many,(out,(ms,(pl,((i:Int),())))))∧i+m=ms.length∧out.length≤2*i∧∀x∈out,evtOk x=true) _ ?_ (n:=ms.length) (by omega) ⟨0,[],rfl,by omega,by simp,by simp⟩) fun e he=>?_
 ·rintro m s ⟨i,out,rfl,him,hlen,hall⟩
  have w:A.wrapI .i64 ((i:Int)+1)=((i+1:Nat):Int):=by rw [zal (by omega) (by omega)];rfl
  rw [spec_l20Flow_t_b0]
  by_cases hi:i<ms.length
  ·have hi':(i:Int)<(ms.length:Int):=by omega
   have ebig:(out.length:Int)+2<4294967296:=by omega
   by_cases hmn:(i:Int)<many
   ·simp only [a_cndS,a_ltI,a_lenL,hi',hmn,decide_true,if_true,a_obind_some,a_sumE_inl,a_andB,a_le0,Int.natCast_nonneg,Bool.and_self,a_atL,Int.toNat_natCast,a_addI,e2,a_big,ebig,a_appL,w]
    refine zac.2 ⟨fun s' e=>?_,fun e he=>by cases he⟩
    injection e with e
    exact ⟨m-1,by omega,i+1,_,e.symm,by omega,by simp;omega,all_app2 hall (zll (by omega) (hmem i hi) (by omega)) (zll (by omega) (by omega) hp)⟩
   ·simp only [a_cndS,a_ltI,a_lenL,hi',hmn,decide_true,decide_false,Bool.false_eq_true,if_false,if_true,a_obind_some,a_sumE_inr]
    exact zac.2 ⟨fun s' e=>(by cases e),fun e he=>by injection he with he;subst he;exact ⟨rfl,by show out.length≤8;omega,hall,rfl⟩⟩
  ·have hi' : ¬(i:Int)<(ms.length:Int):=by omega
   simp only [a_cndS,a_ltI,a_lenL,hi',decide_false,Bool.false_eq_true,if_false,a_obind_some,a_sumE_inr]
   exact zac.2 ⟨fun s' e=>(by cases e),fun e he=>by injection he with he;subst he;exact ⟨rfl,by show out.length≤8;omega,hall,rfl⟩⟩
 obtain ⟨n1,o1,r1⟩:=e
 obtain ⟨f1,f2,f3,f4⟩:=he
 simp only at f1 f2 f3 f4
 subst f1;subst f4
 refine Ok.bind (P:=fun e:List Evt×(List Int×(Int×Unit))=>e.1.length≤16∧(∀x∈e.1,evtOk x=true)∧e.2=(ms,(pl,()))) (zbt (fun m s=>∃(i:Nat) (out:List Evt),s=(n1,(out,(ms,(pl,((i:Int),())))))∧i+m=ms.length∧out.length≤8+2*i∧∀x∈out,evtOk x=true) _ ?_ (n:=ms.length) (by omega) ⟨0,o1,rfl,by omega,by omega,f3⟩) fun e he=>?_
 ·rintro m s ⟨i,out,rfl,him,hlen,hall⟩
  have w:A.wrapI .i64 ((i:Int)+1)=((i+1:Nat):Int):=by rw [zal (by omega) (by omega)];rfl
  rw [spec_l20Flow_t_b1]
  by_cases hi:i+1<ms.length
  ·have hi1:((i+1:Nat):Int)<(ms.length:Int):=by omega
   have hi':(i:Int)<(ms.length:Int):=by omega
   have ebig:(out.length:Int)+2<4294967296:=by omega
   by_cases hmn:(i:Int)<n1
   ·simp only [a_cndS,a_addI,w,a_ltI,a_lenL,hi1,hi',hmn,decide_true,if_true,a_obind_some,a_sumE_inl,a_andB,a_le0,Int.natCast_nonneg,Bool.and_self,a_atL,Int.toNat_natCast,e2,a_big,ebig,a_appL]
    refine zac.2 ⟨fun s' e=>?_,fun e he=>by cases he⟩
    injection e with e
    exact ⟨m-1,by omega,i+1,_,e.symm,by omega,by simp;omega,all_app2 hall (zll (by omega) (hmem i (by omega)) (by omega)) (zll (by omega) (by omega) hp)⟩
   ·simp only [a_cndS,a_addI,w,a_ltI,a_lenL,hi1,hmn,decide_true,decide_false,Bool.false_eq_true,if_false,if_true,a_obind_some,a_sumE_inr]
    exact zac.2 ⟨fun s' e=>(by cases e),fun e he=>by injection he with he;subst he;exact ⟨by show out.length≤16;omega,hall,rfl⟩⟩
  ·have hi1 : ¬((i+1:Nat):Int)<(ms.length:Int):=by omega
   simp only [a_cndS,a_addI,w,a_ltI,a_lenL,hi1,decide_false,Bool.false_eq_true,if_false,a_obind_some,a_sumE_inr]
   exact zac.2 ⟨fun s' e=>(by cases e),fun e he=>by injection he with he;subst he;exact ⟨by show out.length≤16;omega,hall,rfl⟩⟩
 obtain ⟨o2,r2⟩:=e
 obtain ⟨g1,g2,g3⟩:=he
 simp only at g1 g2 g3
 subst g3
 have w:A.wrapI .i64 ((ms.length:Int)-1)=(ms.length:Int)-1:=zal (by omega) (by omega)
 have wn:((ms.length:Int)-1).toNat=ms.length-1:=by omega
 have hlast:=hmem (ms.length-1) (by omega)
 have i1:(decide (0≤(ms.length:Int)-1)&&decide ((ms.length:Int)-1<((ms.length:Nat):Int)))=true:=by simp;omega
 have ebig:(o2.length:Int)+3<4294967296:=by omega
 simp only [a_subI,w,a_cndS,a_andB,a_le0,a_ltI,a_lenL,i1,if_true,a_addI,e3,a_big,ebig,decide_true,a_atL,wn,a_appL]
 rw [zac]
 refine ⟨by simp,by simp;omega,fun e he=>?_⟩
 rcases List.mem_append.1 he with he|he
 ·exact g2 e he
 ·simp only [List.mem_cons,List.not_mem_nil,or_false] at he
  rcases he with rfl|rfl|rfl
  ·exact zll (by omega) hlast (by omega)
  ·exact zll (by omega) hlast (by omega)
  ·exact zll (by omega) (by omega) hp
theorem spec_NewChain_cv (k:Nat) (hk:2000000≤k) (s:Stt) (ms:List Int) (hs:stOk s=true) (hm:cfgOk (1,(ms,(false,())))=true) : ∃c,zhu A k (s,(ms,())) ()=some ((c,()),())∧CV c:=by
 have h1:=st_short hs
 have h2:=zay hm
 exact ⟨_,zls k hk s ms ⟨by omega,by omega⟩ (by have:=h2.2.2.2.1;simp only at this;omega),cv_iff.1 (newC_ok (by rw [hs,hm];rfl))⟩
theorem play_in (k:Nat) (hk:2000000≤k) (M:Nat) (hM:M≤60) (list ev0:List Evt) (d st c:Chn) (r:Rd) (hc:CV c) (hne:list≠[]) (hl:list.length≤60) (hall : ∀e∈list,evtOk e=true) (h0:ev0.length<M) (hev : ∀e∈ev0,evtOk e=true) :
 Ok (A.iter k (zko A k) ((M:Int),(ev0,(list,((0:Int),(d,(st,(c,r)))))))) (fun e=>∃(ev:List Evt) (c':Chn),e=((M:Int),(ev,(d,(st,(c',r)))))∧CV c'∧ev0.length<ev.length∧ev.length≤M∧∀e∈ev,evtOk e=true):=by
 have hlp:0<list.length:=List.length_pos_iff.2 hne
 refine zbt (fun m s=>∃(i:Nat) (ev:List Evt) (c':Chn),s=((M:Int),(ev,(list,((i:Int),(d,(st,(c',r)))))))∧CV c'∧i+m=list.length∧ev.length=ev0.length+i∧ev.length≤M∧∀e∈ev,evtOk e=true) _ ?_ (n:=list.length) (by omega) ⟨0,ev0,c,rfl,hc,by omega,rfl,by omega,hev⟩
 rintro m s ⟨i,ev,c',rfl,hc',him,hei,heM,hall'⟩
 have w:A.wrapI .i64 ((i:Int)+1)=((i+1:Nat):Int):=by rw [zal (by omega) (by omega)];rfl
 rw [zko]
 by_cases hi:i<list.length
 ·have hi':(i:Int)<(list.length:Int):=by omega
  by_cases hm:(ev.length:Int)<(M:Int)
  ·have hee:evtOk (list.getD i evt0)=true:=by rw [zar hi];exact hall _ (List.getElem_mem _)
   have e1 : ∀a:Evt,(([a]:List Evt).length:Int)=1:=fun _=>rfl
   have ebig:(ev.length:Int)+1<4294967296:=by omega
   simp only [a_cndS,a_ltI,a_lenL,hi',hm,decide_true,if_true,a_obind_some,a_sumE_inl,a_andB,a_le0,Int.natCast_nonneg,Bool.and_self,a_atL,Int.toNat_natCast,a_addI,e1,a_big,ebig,a_appL,w]
   refine (ChainStep_ok k hk c' _ hc' hee).bind fun q hq=>zac.2 ⟨fun s' e=>?_,fun e he=>by cases he⟩
   injection e with e
   refine ⟨m-1,by omega,i+1,_,_,e.symm,hq,by omega,by simp;omega,by simp;omega,fun x hx=>?_⟩
   rcases List.mem_append.1 hx with hx|hx
   ·exact hall' x hx
   ·rw [List.mem_singleton.1 hx];exact hee
  ·simp only [a_cndS,a_ltI,a_lenL,hi',hm,decide_true,decide_false,Bool.false_eq_true,if_false,if_true,a_obind_some,a_sumE_inr]
   exact zac.2 ⟨fun s' e=>(by cases e),fun e he=>by injection he with he;exact ⟨ev,c',he.symm,hc',by omega,heM,hall'⟩⟩
 ·have hi' : ¬(i:Int)<(list.length:Int):=by omega
  simp only [a_cndS,a_ltI,a_lenL,hi',decide_false,Bool.false_eq_true,if_false,a_obind_some,a_sumE_inr]
  exact zac.2 ⟨fun s' e=>(by cases e),fun e he=>by injection he with he;exact ⟨ev,c',he.symm,hc',by omega,heM,hall'⟩⟩
theorem l20Play_val (k:Nat) (hk:2000000≤k) (M:Nat) (hM:M≤60) (N:Int) (r:Rd) (h:RdOk N r) (hp:N≤500000000):Ok (zlc A k ((),((M:Int),())) r) (fun q=>RdOk (N+20000) q.2∧CV q.1.1∧q.1.2.1.length≤60∧∀e∈q.1.2.1,evtOk e=true):=by
 rw [zlc]
 refine (l20Base_val k (by omega) N r h (by omega)).bind fun q0 h0=>?_
 refine (l20Members_val k (by omega) _ _ h0.1 (by omega)).bind fun q1 h1=>?_
 obtain ⟨c0,hc0,hcv⟩:=spec_NewChain_cv (A:=A) k hk q0.1.1 q1.1.1 h0.2 h1.2
 rw [hc0,a_obind_some]
 refine Ok.bind (P:=fun e:List Evt×(Chn×(Chn×Rd))=>RdOk (N+20000) e.2.2.2∧e.2.2.1=c0∧e.1.length≤60∧∀x∈e.1,evtOk x=true) (zbt (fun m s=>∃(ev:List Evt) (d c:Chn) (rr:Rd),s=((M:Int),(ev,(d,(c0,(c,rr)))))∧CV c∧ev.length+m=M∧(∀e∈ev,evtOk e=true)∧RdOk (N+2100+200*(ev.length:Int)) rr) _ ?_ (n:=M) (by omega) ⟨[],_,c0,q1.2,rfl,hcv,by simp,by simp,h1.1.le (by simp;omega)⟩) fun e he=>zac.2 ⟨he.1,by rw [he.2.1];exact hcv,he.2.2.1,he.2.2.2⟩
 rintro m s ⟨ev,d,c,rr,rfl,hc,hem,hall,hr⟩
 rw [spec_l20Play_t_b1]
 by_cases hm:(ev.length:Int)<(M:Int)
 ·have w:A.wrapI .i64 (1+(ev.length:Int))=1+(ev.length:Int):=zal (by omega) (by omega)
  simp only [a_cndS,a_ltI,a_lenL,hm,decide_true,if_true,a_addI,w]
  refine (l20Event_val k (by omega) c (1+(ev.length:Int)) _ rr hc (by omega) hr (by omega)).bind fun q2 h2=>?_
  refine Ok.bind (P:=fun t:Int×(List Evt×(List Evt×(Chn×(Chn×(Chn×Rd)))))=>∃(list:List Evt) (rr':Rd),t=((M:Int),(ev,(list,(d,(c0,(c,rr'))))))∧list≠[]∧list.length≤60∧(∀e∈list,evtOk e=true)∧RdOk (N+2100+200*(ev.length:Int)+130) rr') ?_ fun t ht=>?_
  ·refine (zaf k 9 _ _ h2.1 (by omega) (by omega)).bind fun q3 h3=>?_
   rw [ok_ite]
   refine ⟨fun _=>?_,fun _=>zac.2 ⟨[q2.1.1],_,rfl,by simp,by simp,fun e he=>by rw [List.mem_singleton.1 he];exact h2.2,h3.1.le (by omega)⟩⟩
   refine (zaf k 4 _ _ h3.1 (by omega) (by omega)).bind fun q4 h4=>?_
   exact (l20Flow_val k (by omega) c _ hc).bind fun q5 h5=>zac.2 ⟨_,_,rfl,h5.1,h5.2.1,h5.2.2,h4.1.le (by omega)⟩
  ·obtain ⟨list,rr',rfl,l1,l2,l3,l4⟩:=ht
   refine (play_in k hk M hM list ev d c0 c rr' hc l1 l2 l3 (by omega) hall).bind fun z hz=>?_
   obtain ⟨ev',c',rfl,z1,z2,z3,z4⟩:=hz
   refine zac.2 ⟨fun s' e=>?_,fun e he=>by cases he⟩
   injection e with e
   exact ⟨M-ev'.length,by omega,ev',d,c',rr',e.symm,z1,by omega,z4,l4.le (by omega)⟩
 ·simp only [a_cndS,a_ltI,a_lenL,hm,decide_false,Bool.false_eq_true,if_false]
  exact zac.2 ⟨fun s' e=>(by cases e),fun e he=>by injection he with he;subst he;exact ⟨hr.le (by omega),rfl,by show ev.length≤60;omega,hall⟩⟩
end
end Go.Den.T
namespace Go.Den.T
set_option linter.unusedVariables false
set_option linter.unusedSimpArgs false
set_option linter.unusedSectionVars false
section
variable {A:Atoms} [IsReal A]
theorem l20Reply_ok (k:Nat) (n N:Int) (r:Rd) (h:RdOk N r) (hp:N≤600000000) (hn:n≤1000000000):Ok (zjo A k ((),(n,())) r) (fun q=>RdOk (N+20) q.2):=by
 rw [zjo]
 refine (odd_ok k n N r h (by omega) (by omega)).bind fun q hq=>?_
 rw [zad]
 refine ⟨fun _=>?_,fun _=>?_⟩
 ·refine (zaf k 2 _ _ hq (by omega) (by omega)).bind fun q1 h1=>?_
  have b1:=h1.2.1
  have b2:=h1.2.2.2.1 (by omega)
  rw [zad]
  exact ⟨fun _=>zac.2 (h1.1.le (by omega)),fun hc=>(by simp at hc;omega)⟩
 ·refine (zaf k 256 _ _ hq (by omega) (by omega)).bind fun q1 h1=>?_
  refine (zaf k 7 _ _ h1.1 (by omega) (by omega)).bind fun q2 h2=>?_
  have b1:=h2.2.1
  have b2:=h2.2.2.2.1 (by omega)
  rw [zad]
  exact ⟨fun _=>zac.2 (h2.1.le (by omega)),fun hc=>(by simp at hc;omega)⟩
theorem repS_z {r:Rep} (h:RepS r):RepZ r:=⟨by have:=h.1;unfold Short at this;omega,by have:=h.2.1;omega⟩
theorem l20Chain_ok (k:Nat) (hk:2000000≤k) (n N:Int) (r:Rd) (h:RdOk N r) (hp:N≤100000000) (hn:n≤1000000000):Ok (zjn A k ((),(n,())) r) (fun q=>ChnZ q.1.1):=by
 rw [zjn]
 refine (zaf k 12 _ _ h (by omega) (by omega)).bind fun q0 h0=>?_
 refine (zaf k 30 _ _ h0.1 (by omega) (by omega)).bind fun q1 h1=>?_
 refine (zaf k 3 _ _ h1.1 (by omega) (by omega)).bind fun q2 h2=>?_
 have a0:=h0.2.1
 have b0:=h0.2.2.2.1 (by omega)
 have a1:=h1.2.1
 have b1:=h1.2.2.2.1 (by omega)
 have a2:=h2.2.1
 have b2:=h2.2.2.2.1 (by omega)
 have w1:A.wrapI .i64 (A.addI 20 q1.1.1)=20+q1.1.1:=by rw [a_addI];exact zal (by omega) (by omega)
 have d1:0≤q2.1.1.tdiv 2:=Int.tdiv_nonneg a2 (by omega)
 have d2:q2.1.1.tdiv 2≤1:=by rw [Int.tdiv_eq_ediv_of_nonneg a2];omega
 have w2:A.wrapI .i64 (A.quoI q2.1.1 2)=q2.1.1.tdiv 2:=by rw [a_quoI];exact zal (by omega) (by omega)
 rw [w1,w2,zad]
 refine ⟨fun _=>?_,fun hc=>by simp at hc⟩
 rw [zad]
 refine ⟨fun _=>?_,fun hc=>by simp at hc;omega⟩
 obtain ⟨M,hM,hM60⟩ : ∃M:Nat,A.atL [q0.1.1,20+q1.1.1] (q2.1.1.tdiv 2) 0=(M:Int)∧M≤60:=by
  have:(fun x:Int=>0≤x∧x≤60) ([q0.1.1,20+q1.1.1].getD (q2.1.1.tdiv 2).toNat 0):=by
   refine at_ok (P:=fun x:Int=>0≤x∧x≤60) ?_ d1 (by simp;omega)
   simp only [List.mem_cons,List.not_mem_nil,or_false,forall_eq_or_imp,forall_eq]
   omega
  rw [a_atL]
  exact ⟨_,(Int.toNat_of_nonneg this.1).symm,by have:=this.2;omega⟩
 rw [hM]
 refine (l20Play_val k hk M hM60 _ _ h2.1 (by omega)).bind fun q3 h3=>?_
 refine (ChainPlay_ok k hk q3.1.1 q3.1.2.1 h3.2.1 h3.2.2.1 h3.2.2.2).bind fun q4 hc=>?_
 refine (odd_ok k n _ _ h3.1 (by omega) (by omega)).bind fun q5 h5=>?_
 have hz:=hc.z
 obtain ⟨z1,z2,z3,z4,z5,z6⟩:=hz
 have hn5:=hc.n5
 have hu5:=hc.u5
 have ha:=hc.a24
 rw [zad]
 refine ⟨fun _=>?_,fun _=>zac.2 hc.z⟩
 refine (zaf k 9 _ _ h5 (by omega) (by omega)).bind fun q6 h6=>?_
 rw [zad];refine ⟨fun _=>?_,fun _=>?_⟩
 ·exact (l20State_ok k (by omega) 1 _ _ h6.1 (by omega) (by omega)).bind fun q7 h7=>zac.2 ⟨⟨Nat.le_trans h7.2.1 (by omega),Nat.le_trans h7.2.2 (by omega)⟩,z2,z3,z4,z5,z6⟩
 rw [zad];refine ⟨fun _=>?_,fun _=>?_⟩
 ·exact (zlm k (by omega) 3 _ _ h6.1 (by omega) (by omega)).bind fun q7 h7=>zac.2 ⟨z1,by have:=h7.2;unfold Short at this;show q7.1.1.2.1.length≤1048576;omega,z3,z4,z5,z6⟩
 have setz : ∀(i:Nat) (x:Rep),RepZ x→(q4.1.1.2.2.1.set i x).length≤1048576∧∀r∈q4.1.1.2.2.1.set i x,RepZ r:=fun i x hx=>⟨by rw [List.length_set];exact z3.1,fun r hr=>by
  rcases List.mem_or_eq_of_mem_set hr with h|rfl
  ·exact z3.2 r h
  ·exact hx⟩
 rw [zad];refine ⟨fun _=>?_,fun _=>?_⟩
 ·refine (zaf k 5 _ _ h6.1 (by omega) (by omega)).bind fun q9 h9=>?_
  have e1:=h9.2.1
  have e2:=h9.2.2.2.1 (by omega)
  refine (l20Replica_ok k (by omega) 3 _ _ h9.1 (by omega) (by omega)).bind fun q10 h10=>?_
  have ib:=zge (A:=A) (l:=q4.1.1.2.2.1) (i:=q9.1.1) e1 (by omega)
  rw [ib]
  simp only [a_cndS,if_true]
  refine zac.2 ⟨z1,z2,?_,z4,z5,z6⟩
  show (A.setL q4.1.1.2.2.1 q9.1.1 q10.1.1).length≤_∧∀r∈A.setL q4.1.1.2.2.1 q9.1.1 q10.1.1,RepZ r
  rw [a_setL];exact setz _ _ (repS_z h10.2)
 rw [zad];refine ⟨fun _=>?_,fun _=>?_⟩
 ·rw [in_bounds' (by omega) (by omega)]
  simp only [a_cndS,if_true,a_dropL]
  exact zac.2 ⟨z1,z2,⟨by have:=z3.1;simp;omega,fun r hr=>z3.2 r (List.mem_of_mem_drop hr)⟩,z4,z5,z6⟩
 rw [zad];refine ⟨fun _=>?_,fun _=>?_⟩
 ·have e:((q4.1.1.2.2.2.1.length:Int)+(([true]:List Bool).length:Int))<4294967296:=by simp;omega
  simp only [a_cndS,a_ltI,a_addI,a_lenL,a_big,e,decide_true,if_true,a_appL]
  exact zac.2 ⟨z1,z2,z3,by simp;omega,z5,z6⟩
 rw [zad];refine ⟨fun _=>?_,fun _=>?_⟩
 ·refine (l20Bag_ok k (by omega) 2 _ _ h6.1 (by omega) (by omega)).bind fun q11 h11=>zac.2 ⟨z1,z2,z3,z4,⟨by have:=h11.2.1;show q11.1.1.length≤1048576;omega,fun m hm=>?_⟩,z6⟩
  obtain ⟨m1,m2⟩:=h11.2.2 m hm
  unfold Short at m1
  refine ⟨?_,?_⟩
  ·omega
  ·have:=m2.1;omega
 rw [zad];refine ⟨fun _=>?_,fun _=>?_⟩
 ·refine (zkn k (by omega) 2 _ _ h6.1 (by omega) (by omega)).bind fun q12 h12=>?_
  refine (l20Reply_ok k 2 _ _ h12.1 (by omega) (by omega)).bind fun q13 h13=>?_
  have e1 : ∀a:Ans,(([a]:List Ans).length:Int)=1:=fun _=>rfl
  have e:(q4.1.1.2.2.2.2.2.1.length:Int)+1<4294967296:=by omega
  simp only [a_cndS,a_ltI,a_addI,a_lenL,e1,a_big,e,decide_true,if_true,a_appL]
  exact zac.2 ⟨z1,z2,z3,z4,z5,by simp;omega⟩
 rw [zad];refine ⟨fun _=>?_,fun _=>?_⟩
 ·refine (zaf k 5 _ _ h6.1 (by omega) (by omega)).bind fun q9 h9=>?_
  have e1:=h9.2.1
  have e2:=h9.2.2.2.1 (by omega)
  refine (l20Log_ok k (by omega) 0 _ _ h9.1 (by omega) (by omega)).bind fun q10 h10=>?_
  have ib:=zge (A:=A) (l:=q4.1.1.2.2.1) (i:=q9.1.1) e1 (by omega)
  rw [ib]
  simp only [a_cndS,if_true,a_setL,a_atL]
  refine zac.2 ⟨z1,z2,setz _ _ ⟨?_,by have:=h10.2.1;show q10.1.1.length≤1048576;omega⟩,z4,z5,z6⟩
  have hlt:q9.1.1.toNat<q4.1.1.2.2.1.length:=by omega
  have:=z3.2 (q4.1.1.2.2.1.getD q9.1.1.toNat rep0) (by rw [zar hlt];exact List.getElem_mem _)
  exact this.1
 ·refine Ok.bind (P:=fun e:Chn×(Chn×Rd)=>ChnZ e.2.1) (zbt (fun m s=>∃(d:Chn) (an:List Ans) (rr:Rd),s=(d,((q4.1.1.1,(q4.1.1.2.1,(q4.1.1.2.2.1,(q4.1.1.2.2.2.1,(q4.1.1.2.2.2.2.1,(an,())))))),rr))∧an.length≤25∧m=26-an.length∧RdOk (N+30000+70*(an.length:Int)) rr) _ ?_ (n:=26-q4.1.1.2.2.2.2.2.1.length) (by omega) ⟨_,q4.1.1.2.2.2.2.2.1,q6.2,rfl,by omega,rfl,h6.1.le (by omega)⟩) fun e he=>zac.2 he
  rintro m s ⟨d,an,rr,rfl,hl,rfl,hr⟩
  rw [zm4]
  refine (zaf k 2 _ _ hr (by omega) (by omega)).bind fun p0 g0=>?_
  have c1:=g0.2.1
  have c2:=g0.2.2.2.1 (by omega)
  have w:A.wrapI .i64 (A.subI 24 p0.1.1)=24-p0.1.1:=by rw [a_subI];exact zal (by omega) (by omega)
  rw [w,zad]
  refine ⟨fun hle=>?_,fun _=>zac.2 ⟨fun s' e=>(by cases e),fun e he=>by injection he with he;subst he;exact ⟨z1,z2,z3,z4,z5,Nat.le_trans hl (by omega)⟩⟩⟩
  rw [a_leI,a_lenL,decide_eq_true_eq] at hle
  have hle:(an.length:Int)≤24-p0.1.1:=hle
  refine (zkn k (by omega) 0 _ _ g0.1 (by omega) (by omega)).bind fun p1 g1=>?_
  have e1 : ∀a:Ans,(([a]:List Ans).length:Int)=1:=fun _=>rfl
  have e:(an.length:Int)+1<4294967296:=by omega
  simp only [a_cndS,a_ltI,a_addI,a_lenL,e1,a_big,e,decide_true,if_true,a_appL]
  refine zac.2 ⟨fun s' e=>?_,fun e he=>by cases he⟩
  injection e with e
  exact ⟨26-(an.length+1),by omega,d,_,_,e.symm,by simp;omega,by simp,g1.1.le (by simp;omega)⟩
end
end Go.Den.T
