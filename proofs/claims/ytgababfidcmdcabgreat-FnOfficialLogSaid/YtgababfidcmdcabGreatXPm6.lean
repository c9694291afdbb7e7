/- Keys, intervals, pairs, sessions, states, checkpoints: what the checks come to. -/
import Derived.Test.YtgababfidcmdcabGreatXDm4
import Derived.Test.YtgababfidcmdcabGreatXPm2
import Derived.Test.YtgababfidcmdcabGreatXPm5

namespace Go.Den.T
set_option linter.unusedVariables false
set_option linter.unusedSimpArgs false
set_option linter.unusedSectionVars false
variable {A:Atoms} [IsReal A]
abbrev Itv:=List UInt8×(List UInt8×Unit)
abbrev Pair:=List UInt8×(Int×Unit)
abbrev Ses:=Int×(Int×(Int×Unit))
abbrev Stt:=Itv×(List Pair×(List Ses×(Bool×(List UInt8×Unit))))
abbrev Chk:=Int×(Stt×Unit)
def keyOrNil (s:List UInt8):Bool:=decide (s=[])||keyOk s
def bless (a b:List UInt8):Bool:=Op.bytesLess a b
def lowest (s:List UInt8):List UInt8:=if s=[] then [97] else s
def itvOk (i:Itv):Bool:=keyOrNil i.1&&(keyOrNil i.2.1&&(decide (i.2.1=[])||bless (lowest i.1) i.2.1))
theorem zep (k:Nat) (hk:10≤k) (i:Itv):zbn A k (i,()) ()=some ((itvOk i,()),()):=by
 obtain ⟨a,b,_⟩:=i
 simp only [zbn,zd7 k hk,a_obind_some,a_cndS,a_notB,a_eqS,itvOk,keyOrNil,lowest,bless]
 by_cases h1:a=[]<;>by_cases h2:b=[]
 ·simp [h1,h2]
 ·cases h3:keyOk b<;>simp [h1,h2,h3,zgg]
 ·cases h3:keyOk a<;>simp [h1,h2,h3,zgg]
 ·cases h3:keyOk a<;>cases h4:keyOk b<;>simp [h1,h2,h3,h4,zgg]
theorem bless_nil (b:List UInt8):bless [] b=decide (b≠[]):=by cases b<;>simp [bless,Op.bytesLess]
theorem zlj (a:List UInt8):bless a []=false:=by cases a<;>simp [bless,Op.bytesLess]
theorem bless_cons (x y:UInt8) (xs ys:List UInt8):bless (x::xs) (y::ys)=(decide (x<y)||(x == y&&bless xs ys)):=by simp [bless,Op.bytesLess]
theorem bless_total : ∀a b:List UInt8,bless a b = !(bless b a||decide (b=a))
 | [],[]=>by simp [bless_nil]
 | [],y::ys=>by simp [bless_nil,zlj]
 | x::xs,[]=>by simp [bless_nil,zlj]
 | x::xs,y::ys=>by
   rw [bless_cons,bless_cons,bless_total xs ys]
   by_cases h:x=y
   ·subst h
    have : ¬x<x:=by rw [UInt8.lt_iff_toNat_lt];omega
    simp [this]
   ·have h' : ¬y=x:=fun e=>h e.symm
    have hn:x.toNat≠y.toNat:=fun e=>h (UInt8.toNat_inj.1 e)
    by_cases hl:x<y
    ·have : ¬y<x:=by rw [UInt8.lt_iff_toNat_lt] at hl ⊢;omega
     simp [hl,this,h,h']
    ·have:y<x:=by rw [UInt8.lt_iff_toNat_lt] at hl ⊢;omega
     simp [hl,this,h,h']
theorem less_a {b:List UInt8} (h:keyOk b=true):bless [97] b = !decide (b=[97]):=by
 unfold keyOk at h
 simp only [Bool.and_eq_true,decide_eq_true_eq] at h
 obtain ⟨⟨h1,h2⟩,h3⟩:=h
 cases b with
 | nil=>simp at h1
 | cons c cs=>
   have hc:letter c=true:=by simp only [List.all_cons,Bool.and_eq_true] at h3;exact h3.1
   simp only [letter,decide_eq_true_eq] at hc
   rw [bless_cons,bless_nil]
   by_cases h:c=97
   ·subst h
    have : ¬(97:UInt8)<97:=by decide
    simp [this]
   ·have hn:c.toNat≠97:=fun e=>h (UInt8.toNat_inj.1 (by rw [e];rfl))
    have:(97:UInt8)<c:=by rw [UInt8.lt_iff_toNat_lt];show 97<c.toNat;omega
    simp [this,h]
theorem zba (k:Nat) (hk:10≤k) (i:Itv):zaz A k (i,()) ()=some ((itvOk i,()),()):=by
 obtain ⟨a,b,_⟩:=i
 simp only [zaz,zbv k hk,a_obind_some,a_cndS,a_notB,a_eqS,a_lessS,itvOk,keyOrNil,lowest]
 by_cases h1:a=[]<;>by_cases h2:b=[]
 ·simp [h1,h2]
 ·cases h3:keyOk b with
  | false=>simp [h1,h2,h3]
  | true=>
    have e1:Op.bytesLess [] b=true:=by have:=bless_nil b;simp only [bless] at this;rw [this];simp [h2]
    have e2:=less_a h3
    simp [h1,h2,h3,e1,e2]
 ·cases h3:keyOk a<;>simp [h1,h2,h3]
 ·cases h3:keyOk a<;>cases h4:keyOk b<;>simp [h1,h2,h3,h4]
  simp only [bless]
  cases Op.bytesLess a b<;>simp
def valOk (v:Int):Bool:=decide (0≤v∧v≤999)
abbrev ses0:Ses:=(0,(0,(0,())))
def pairAt (l:List Pair) (i:Nat):Bool:=keyOk (l.getD i (([]:List UInt8),((0:Int),()))).1&&(valOk (l.getD i (([]:List UInt8),((0:Int),()))).2.1&&(decide (i=0)||bless (l.getD (i-1) (([]:List UInt8),((0:Int),()))).1 (l.getD i (([]:List UInt8),((0:Int),()))).1))
def pairsOk (l:List Pair):Bool:=decide (l.length≤48)&&(List.range l.length).all (pairAt l)
theorem za9 (k:Nat) (hk:60≤k) (l:List Pair):zbg A k (l,()) ()=some ((pairsOk l,()),()):=by
 by_cases hl:(48:Int)<l.length
 ·have : ¬l.length≤48:=by omega
  simp [zbg,hl,pairsOk,this]
 ·have hl':l.length≤48:=by omega
  have h:=zdb (A:=A) (f:=zey A k) (fun i=>(l,((i:Int),()))) l.length (pairAt l) (.inr ((false,()),())) (.inl ())
   (fun i hi=>by
     have hi':(i:Int)<(l.length:Int):=by omega
     have w:A.wrapI .i64 ((i:Int)+1)=(i:Int)+1:=zal (by omega) (by omega)
     simp only [zey,a_cndS,a_ltI,a_lenL,a_le0,a_andB,hi',Int.natCast_nonneg,decide_true,Bool.and_self,if_true,a_atL,Int.toNat_natCast,zbv k (by omega:10≤k),zc9,a_obind_some,a_notB,a_addI,w,pairAt,valOk,a_subI,a_orB,a_lessS,a_eqS]
     rcases Bool.eq_false_or_eq_true (keyOk (l.getD i (([]:List UInt8),((0:Int),()))).1) with hkk|hkk
     case inr=>simp only [hkk];simp
     case inl=>
      by_cases hv:0≤(l.getD i (([]:List UInt8),((0:Int),()))).2.1∧(l.getD i (([]:List UInt8),((0:Int),()))).2.1≤999
      ·by_cases h0:i=0
       ·subst h0;simp only [hkk,hv];simp
       ·have h1:(0:Int)<(i:Int):=by omega
        have w2:A.wrapI .i64 ((i:Int)-1)=(i:Int)-1:=zal (by omega) (by omega)
        have h2:(0:Int)≤(i:Int)-1:=by omega
        have h3:(i:Int)-1<(l.length:Int):=by omega
        have h4:((i:Int)-1).toNat=i-1:=by omega
        have ht:=bless_total (l.getD (i-1) (([]:List UInt8),((0:Int),()))).1 (l.getD i (([]:List UInt8),((0:Int),()))).1
        simp only [bless] at ht
        simp only [hkk,hv,h1,w2,h2,h3,h4,h0,ht,bless,decide_true,decide_false,Bool.and_self,Bool.true_and,Bool.false_or,if_true,Bool.not_true,Bool.false_eq_true,if_false,and_self]
        rcases Bool.eq_false_or_eq_true (Op.bytesLess (l.getD i (([]:List UInt8),((0:Int),()))).1 (l.getD (i-1) (([]:List UInt8),((0:Int),()))).1||decide ((l.getD i (([]:List UInt8),((0:Int),()))).1=(l.getD (i-1) (([]:List UInt8),((0:Int),()))).1)) with hq|hq<;>simp only [hq]<;>simp
      ·simp only [hkk,hv];simp)
   (by simp [zey]) (k:=k) (by omega)
  simp only [Int.natCast_zero,Int.ofNat_zero] at h
  simp only [zbg,a_cndS,a_ltI,a_lenL,hl,decide_false,Bool.false_eq_true,if_false,h,a_obind_some,pairsOk,hl',decide_true,Bool.true_and]
  cases (List.range l.length).all (pairAt l)<;>simp
theorem zjx (k:Nat) (hk:60≤k) (l:List Pair):zfp A k (l,()) ()=some ((pairsOk l,()),()):=by
 by_cases hl:(48:Int)<l.length
 ·have : ¬l.length≤48:=by omega
  simp [zfp,hl,pairsOk,this]
 ·have hl':l.length≤48:=by omega
  have h:=zdb (A:=A) (f:=ze8 A k) (fun i=>(l,(l,((l.length:Int),((i:Int),()))))) l.length (pairAt l) (.inr ((false,()),())) (.inl ())
   (fun i hi=>by
     have hi':(i:Int)<(l.length:Int):=by omega
     have w:A.wrapI .i64 ((i:Int)+1)=(i:Int)+1:=zal (by omega) (by omega)
     simp only [ze8,a_cndS,a_ltI,a_lenL,a_le0,a_andB,hi',Int.natCast_nonneg,decide_true,Bool.and_self,if_true,a_atL,Int.toNat_natCast,zd7 k (by omega:10≤k),valueValid_eq,a_obind_some,a_notB,a_addI,pairAt,valOk,a_subI,a_lessS]
     rcases Bool.eq_false_or_eq_true (keyOk (l.getD i (([]:List UInt8),((0:Int),()))).1) with hkk|hkk
     case inr=>simp only [hkk];simp
     case inl=>
      by_cases hv:0≤(l.getD i (([]:List UInt8),((0:Int),()))).2.1∧(l.getD i (([]:List UInt8),((0:Int),()))).2.1≤999
      ·by_cases h0:i=0
       ·subst h0;simp only [hkk,hv];simp [w];exact w
       ·have h1:(0:Int)<(i:Int):=by omega
        have w2:A.wrapI .i64 ((i:Int)-1)=(i:Int)-1:=zal (by omega) (by omega)
        have h2:(0:Int)≤(i:Int)-1:=by omega
        have h3:(i:Int)-1<(l.length:Int):=by omega
        have h4:((i:Int)-1).toNat=i-1:=by omega
        simp only [hkk,hv,h1,w,w2,h2,h3,h4,h0,bless,decide_true,decide_false,Bool.and_self,Bool.true_and,Bool.false_or,if_true,Bool.not_true,Bool.false_eq_true,if_false,and_self,a_sumE_inl,a_obind_some]
        rcases Bool.eq_false_or_eq_true (Op.bytesLess (l.getD (i-1) (([]:List UInt8),((0:Int),()))).1 (l.getD i (([]:List UInt8),((0:Int),()))).1) with hq|hq<;>simp only [hq]<;>simp
      ·simp only [hkk,hv];simp)
   (by simp [ze8]) (k:=k) (by omega)
  simp only [Int.natCast_zero,Int.ofNat_zero] at h
  simp only [zfp,a_cndS,a_ltI,a_lenL,hl,decide_false,Bool.false_eq_true,if_false,h,a_obind_some,pairsOk,hl',decide_true,Bool.true_and]
  cases (List.range l.length).all (pairAt l)<;>simp
end Go.Den.T
namespace Go.Den.T
set_option linter.unusedVariables false
set_option linter.unusedSimpArgs false
set_option linter.unusedSectionVars false
variable {A:Atoms} [IsReal A]
def sesP (s q:Ses) (i:Nat):Bool:=decide (0≤s.1∧s.1≤3)&&(decide (1≤s.2.1∧s.2.1≤999)&&(decide (-2≤s.2.2.1∧s.2.2.1≤999)&&(decide (i=0) || !decide (s.1≤q.1))))
def sesAt (l:List Ses) (i:Nat):Bool:=sesP (l.getD i ((0:Int),((0:Int),((0:Int),())))) (l.getD (i-1) ((0:Int),((0:Int),((0:Int),())))) i
def sesOk (l:List Ses):Bool:=(List.range l.length).all (sesAt l)
theorem za2 (k:Nat) (l:List Ses) (hk:l.length<k) (hl:l.length≤1000000000):zbo A k (l,()) ()=some ((sesOk l,()),()):=by
 have h:=zdb (A:=A) (f:=zc8 A k) (fun i=>(l,((i:Int),()))) l.length (sesAt l) (.inr ((false,()),())) (.inl ())
  (fun i hi=>by
    have hi':(i:Int)<(l.length:Int):=by omega
    have w:A.wrapI .i64 ((i:Int)+1)=(i:Int)+1:=zal (by omega) (by omega)
    rw [show sesAt l i=sesP (l.getD i ((0:Int),((0:Int),((0:Int),())))) (l.getD (i-1) ((0:Int),((0:Int),((0:Int),())))) i from rfl]
    simp only [zc8,a_atL,Int.toNat_natCast]
    by_cases h0:i=0
    ·generalize l.getD i ((0:Int),((0:Int),((0:Int),())))=s
     subst h0
     obtain ⟨c,q,v,_⟩:=s
     simp only [sesP,zc9,a_obind_some,a_cndS,a_ltI,a_lenL,a_le0,a_andB,hi',a_notB,a_addI,w]
     by_cases h1:0≤c∧c≤3<;>by_cases h2:1≤q∧q≤999<;>by_cases h3 : -2≤v∧v≤999<;>simp [h1,h2,h3,hi]
    ·have g1:(0:Int)<(i:Int):=by omega
     have w2:A.wrapI .i64 (A.subI (i:Int) 1)=(i:Int)-1:=by rw [a_subI];exact zal (by omega) (by omega)
     have g2:(0:Int)≤(i:Int)-1:=by omega
     have g2':(1:Int)≤(i:Int):=by omega
     have g3:(i:Int)-1<(l.length:Int):=by omega
     have g4:((i:Int)-1).toNat=i-1:=by omega
     simp only [w2,g4]
     generalize l.getD i ((0:Int),((0:Int),((0:Int),())))=s
     generalize l.getD (i-1) ((0:Int),((0:Int),((0:Int),())))=s'
     obtain ⟨c,q,v,_⟩:=s
     obtain ⟨c',_⟩:=s'
     simp only [sesP,zc9,a_obind_some,a_cndS,a_ltI,a_lenL,a_le0,a_andB,hi',a_notB,a_addI,w,a_leI]
     by_cases h1:0≤c∧c≤3<;>by_cases h2:1≤q∧q≤999<;>by_cases h3 : -2≤v∧v≤999<;>by_cases h4:c≤c'<;>simp [h1,h2,h3,h4,hi,g1,g2,g2',g3,h0]<;>omega)
  (by simp [zc8]) (k:=k) hk
 simp only [Int.natCast_zero,Int.ofNat_zero] at h
 simp only [zbo,h,a_obind_some,sesOk]
 cases (List.range l.length).all (sesAt l)<;>simp
theorem zhm (k:Nat) (l:List Ses) (hk:l.length<k) (hl:l.length≤1000000000):ze4 A k (l,()) ()=some ((sesOk l,()),()):=by
 have h:=zdb (A:=A) (f:=zdd A k) (fun i=>(l,(l,((l.length:Int),((i:Int),()))))) l.length (sesAt l) (.inr ((false,()),())) (.inl ())
  (fun i hi=>by
    have hi':(i:Int)<(l.length:Int):=by omega
    have w:A.wrapI .i64 ((i:Int)+1)=(i:Int)+1:=zal (by omega) (by omega)
    rw [show sesAt l i=sesP (l.getD i ((0:Int),((0:Int),((0:Int),())))) (l.getD (i-1) ((0:Int),((0:Int),((0:Int),())))) i from rfl]
    simp only [zdd,a_atL,Int.toNat_natCast]
    have hw : ∀j:Int,A.wrapI .i64 (A.subI j 1)=A.wrapI .i64 (j-1):=fun j=>by rw [a_subI]
    by_cases h0:i=0
    ·generalize l.getD i ((0:Int),((0:Int),((0:Int),())))=s
     subst h0
     obtain ⟨c,q,v,_⟩:=s
     simp only [sesP,seqValid_eq,a_obind_some,a_cndS,a_ltI,a_leI,a_lenL,a_le0,a_andB,hi',a_notB]
     by_cases h1:c<0
     ·have : ¬(0≤c∧c≤3):=by omega
      simp [h1,this,hi]
     by_cases h1':4≤c
     ·have : ¬(0≤c∧c≤3):=by omega
      simp [h1,h1',this,hi]
     have h1'':0≤c∧c≤3:=by omega
     by_cases h2:1≤q∧q≤999
     case neg=>simp [h1,h1',h1'',h2,hi]
     by_cases h3:v < -2
     ·have : ¬(-2≤v∧v≤999):=by omega
      simp [h1,h1',h1'',h2,h3,this,hi]
     by_cases h3':999<v
     ·have : ¬(-2≤v∧v≤999):=by omega
      simp [h1,h1',h1'',h2,h3,h3',this,hi]
     have h3'' : -2≤v∧v≤999:=by omega
     simp [h1,h1',h1'',h2,h3,h3',h3'',hi];exact w
    ·have g1:0<i:=by omega
     have w2:A.wrapI .i64 ((i:Int)-1)=(i:Int)-1:=zal (by omega) (by omega)
     have g2':(1:Int)≤(i:Int):=by omega
     have g2:(0:Int)≤(i:Int)-1:=by omega
     have g3:(i:Int)-1<(l.length:Int):=by omega
     have g4:((i:Int)-1).toNat=i-1:=by omega
     generalize hs:l.getD i ((0:Int),((0:Int),((0:Int),())))=s
     generalize hs':l.getD (i-1) ((0:Int),((0:Int),((0:Int),())))=s'
     obtain ⟨c,q,v,_⟩:=s
     obtain ⟨c',_⟩:=s'
     have hs2:l[i-1]?.getD ((0:Int),((0:Int),((0:Int),())))=(c',‹_›):=by simpa [List.getD] using hs'
     simp only [sesP,seqValid_eq,a_obind_some,a_cndS,a_ltI,a_leI,a_lenL,a_le0,a_andB,hi',a_notB]
     by_cases h1:c<0
     ·have : ¬(0≤c∧c≤3):=by omega
      simp [h1,this,hi]
     by_cases h1':4≤c
     ·have : ¬(0≤c∧c≤3):=by omega
      simp [h1,h1',this,hi]
     have h1'':0≤c∧c≤3:=by omega
     by_cases h2:1≤q∧q≤999
     case neg=>simp [h1,h1',h1'',h2,hi]
     by_cases h3:v < -2
     ·have : ¬(-2≤v∧v≤999):=by omega
      simp [h1,h1',h1'',h2,h3,this,hi]
     by_cases h3':999<v
     ·have : ¬(-2≤v∧v≤999):=by omega
      simp [h1,h1',h1'',h2,h3,h3',this,hi]
     have h3'' : -2≤v∧v≤999:=by omega
     by_cases hq:c≤c'
     ·have hq' : ¬c'<c:=by omega
      simp [h1,h1',h1'',h2,h3,h3',h3'',g1,w2,g2,g2',g3,g4,h0,w,hi,hs2,hq,hq']
     ·have hq':c'<c:=by omega
      simp [h1,h1',h1'',h2,h3,h3',h3'',g1,w2,g2,g2',g3,g4,h0,w,hi,hs2,hq,hq']
    )
  (by simp [zdd]) (k:=k) hk
 simp only [Int.natCast_zero,Int.ofNat_zero] at h
 simp only [ze4,a_lenL,h,a_obind_some,sesOk]
 cases (List.range l.length).all (sesAt l)<;>simp
/-! ### intervals -/
def inside (i:Itv) (s:List UInt8):Bool:=!bless s i.1&&(decide (i.2.1=[])||bless s i.2.1)
theorem inside_eq (k:Nat) (i:Itv) (s:List UInt8):zl9 A k (i,(s,())) ()=some ((inside i s,()),()):=by
 have ht:=bless_total s i.1
 simp only [bless] at ht
 simp only [zl9,a_cndS,a_orB,a_lessS,a_eqS,inside,bless,ht,Bool.not_not]
 by_cases h:i.2.1=[]<;>cases (Op.bytesLess i.1 s||decide (i.1=s))<;>simp [h]
theorem zlb (k:Nat) (hk:10≤k) (i:Itv) (s:List UInt8):zbr A k (i,(s,())) ()=some (((itvOk i&&(keyOk s&&inside i s)),()),()):=by
 simp only [zbr,zba k hk,zbv k hk,a_obind_some,a_cndS,a_notB,a_lessS,a_eqS,inside,bless]
 cases itvOk i<;>cases keyOk s<;>cases Op.bytesLess s i.1<;>by_cases h:i.2.1=[]<;>simp [h]
abbrev itv0:Itv:=([],([],()))
def cut (i:Itv) (s:List UInt8):Itv×(Itv×(Bool×Unit)):=
 if (itvOk i&&(keyOk s&&(itvOk (i.1,(s,()))&&itvOk (s,(i.2.1,())))))=true then ((i.1,(s,())),((s,(i.2.1,())),(true,()))) else (itv0,(itv0,(false,())))
theorem zcj (k:Nat) (hk:10≤k) (i:Itv) (s:List UInt8):zc1 A k (i,(s,())) ()=some (cut i s,()):=by
 simp only [zc1,zba k hk,zbv k hk,a_obind_some,a_cndS,a_notB,cut]
 cases itvOk i<;>cases keyOk s<;>cases itvOk (i.1,(s,()))<;>cases itvOk (s,(i.2.1,()))<;>simp
theorem zjf (k:Nat) (hk:10≤k) (i:Itv) (s:List UInt8):zgr A k (i,(s,())) ()=some (cut i s,()):=by
 simp only [zgr,zep k hk,zd7 k hk,a_obind_some,a_cndS,a_notB,cut]
 cases itvOk i<;>cases keyOk s<;>cases h3:itvOk (i.1,(s,()))<;>cases h4:itvOk (s,(i.2.1,()))<;>simp [h3,h4]
/-! ### states -/
def stOk (s:Stt):Bool:=itvOk s.1&&(pairsOk s.2.1&&(sesOk s.2.2.1&&(s.2.1.all (fun p=>inside s.1 p.1)&&(decide (s.2.2.2.2.1=[])||(s.2.2.2.1&&(cut s.1 s.2.2.2.2.1).2.2.1)))))
theorem pairs_keys {l:List Pair} (h:pairsOk l=true):l.length≤48∧∀p∈l,keyOk p.1=true:=by
 simp only [pairsOk,Bool.and_eq_true,decide_eq_true_eq] at h
 refine ⟨h.1,fun p hp=>?_⟩
 obtain ⟨i,hi,rfl⟩:=List.mem_iff_getElem.1 hp
 have:=zcv.1 h.2 i hi
 simp only [pairAt,Bool.and_eq_true] at this
 have:=this.1
 rwa [zar hi] at this
theorem zjs (k:Nat) (hk:60≤k) (s:Stt) (hk2:s.2.2.1.length<k) (hl:s.2.2.1.length≤1000000000):zh8 A k (s,()) ()=some ((stOk s,()),()):=by
 obtain ⟨i,ps,ss,fz,ct,_⟩:=s
 simp only at hk2 hl
 simp only [zh8,zep k (by omega:10≤k),zjx k hk,zhm k ss hk2 hl,a_obind_some,a_cndS,a_notB,stOk]
 cases itvOk i with
 | false=>simp
 | true=>
   cases hp:pairsOk ps with
   | false=>simp
   | true=>
     obtain ⟨hp1,hp2⟩:=pairs_keys hp
     cases sesOk ss with
     | false=>simp
     | true=>
       have h:=zdb (A:=A) (f:=ze6 A k) (fun j=>(ps,((ps.length:Int),((j:Int),((i,(ps,(ss,(fz,(ct,()))))),()))))) ps.length (fun j=>inside i (ps.getD j (([]:List UInt8),((0:Int),()))).1) (.inr ((false,()),())) (.inl ((i,(ps,(ss,(fz,(ct,()))))),()))
        (fun j hj=>by
          have w:A.wrapI .i64 ((j:Int)+1)=(j:Int)+1:=zal (by omega) (by omega)
          simp [ze6,hj,w,inside_eq]
          cases inside i ps[j].1<;>simp)
        (by simp [ze6]) (k:=k) (by omega)
       have e:=zht (xs:=ps) (q:=fun p=>inside i p.1) (d:=(([]:List UInt8),((0:Int),())))
       rw [e] at h
       simp only [Int.natCast_zero,Int.ofNat_zero] at h
       simp only [Bool.not_true,Bool.false_eq_true,if_false,a_sumE_inl,a_lenL,h,a_obind_some,Bool.true_and]
       cases ps.all (fun p=>inside i p.1) with
       | false=>simp
       | true=>
         by_cases hc:ct=[]
         ·simp [hc]
         ·have hcut:=zjf (A:=A) k (by omega:10≤k) i ct
          cases fz<;>simp [hc,hcut]
theorem zcw (k:Nat) (hk:60≤k) (s:Stt) (hk2:s.2.2.1.length<k) (hl:s.2.2.1.length≤1000000000):zcm A k (s,()) ()=some ((stOk s,()),()):=by
 obtain ⟨i,ps,ss,fz,ct,_⟩:=s
 simp only at hk2 hl
 simp only [zcm,zba k (by omega:10≤k),za9 k hk,za2 k ss hk2 hl,a_obind_some,a_cndS,a_notB,stOk]
 cases hi:itvOk i with
 | false=>simp
 | true=>
   cases hp:pairsOk ps with
   | false=>simp
   | true=>
     obtain ⟨hp1,hp2⟩:=pairs_keys hp
     cases sesOk ss with
     | false=>simp
     | true=>
       have h:=zdb (A:=A) (f:=ze0 A k) (fun j=>((j:Int),((i,(ps,(ss,(fz,(ct,()))))),()))) ps.length (fun j=>inside i (ps.getD j (([]:List UInt8),((0:Int),()))).1) (.inr ((false,()),())) (.inl ((i,(ps,(ss,(fz,(ct,()))))),()))
        (fun j hj=>by
          have w:A.wrapI .i64 ((j:Int)+1)=(j:Int)+1:=zal (by omega) (by omega)
          have hkey:=hp2 ps[j] (List.getElem_mem hj)
          simp [ze0,hj,w,zlb k (by omega:10≤k),hi,hkey]
          cases inside i ps[j].1<;>simp)
        (by simp [ze0]) (k:=k) (by omega)
       have e:=zht (xs:=ps) (q:=fun p=>inside i p.1) (d:=(([]:List UInt8),((0:Int),())))
       rw [e] at h
       simp only [Int.natCast_zero,Int.ofNat_zero] at h
       simp only [Bool.not_true,Bool.false_eq_true,if_false,a_sumE_inl,h,a_obind_some,Bool.true_and]
       cases ps.all (fun p=>inside i p.1) with
       | false=>simp
       | true=>
         have hcut:=zcj (A:=A) k (by omega:10≤k) i ct
         by_cases hc:ct=[]
         ·subst hc;simp [hcut]
         ·cases fz<;>simp [hc,hcut]
end Go.Den.T
namespace Go.Den.T
abbrev TCmd:Ty:=.prod (.int .i64) (.prod .str (.prod (.int .i64) (.prod (.int .i64) .unit)))
abbrev TEnt:Ty:=.prod (.int .i64) (.prod (.int .i64) (.prod TCmd .unit))
end Go.Den.T
namespace Go.Den.T
set_option linter.unusedVariables false
set_option linter.unusedSimpArgs false
set_option linter.unusedSectionVars false
section
variable {A:Atoms} [IsReal A]
instance:DecidableEq Pair:=inferInstanceAs (DecidableEq (List UInt8×(Int×Unit)))
instance:DecidableEq Ses:=inferInstanceAs (DecidableEq (Int×(Int×(Int×Unit))))
instance:DecidableEq Itv:=inferInstanceAs (DecidableEq (List UInt8×(List UInt8×Unit)))
set_option synthInstance.maxSize 2000 in
instance:DecidableEq Stt:=inferInstanceAs (DecidableEq (Itv×(List Pair×(List Ses×(Bool×(List UInt8×Unit))))))
instance:DecidableEq Chk:=inferInstanceAs (DecidableEq (Int×(Stt×Unit)))
def StShort (s:Stt):Prop:=s.2.1.length≤1048576∧s.2.2.1.length≤1048576
end
end Go.Den.T
namespace Go.Den.T
set_option linter.unusedVariables false
set_option linter.unusedSimpArgs false
set_option linter.unusedSectionVars false
variable {A:Atoms} [IsReal A]
def LogS (l:List Ent):Prop:=l.length≤30∧∀e∈l,EntS e
theorem LogS.get {l:List Ent} {i:Int} (h : ∀e∈l,EntS e) (h0:0≤i) (h1:i<l.length):EntS (A.atL l i dfE):=by
 rw [a_atL];exact at_ok (P:=EntS) h h0 h1
theorem l20Log_loop0 (k:Nat) (hk:100≤k) (n N m:Int) (r:Rd) (hm:0≤m) (hm9:m<9) (h:RdOk N r) (hp:N≤600000000) :
 Ok (A.iter k (zlv A k) (n,([],(m,r)))) (fun e=>e.1=n∧RdOk (N+1000) e.2.2∧e.2.1.length≤8∧∀x∈e.2.1,EntS x):=by
 refine zbt (fun j s=>(j:Int)=s.2.2.1∧s.1=n∧s.2.2.1≤8∧(s.2.1.length:Int)+s.2.2.1≤8∧(∀x∈s.2.1,EntS x)∧RdOk (N+110*(8-s.2.2.1)) s.2.2.2) _ ?_ (n:=m.toNat) (by omega) ⟨by show ((m.toNat:Nat):Int)=m;omega,rfl,by show m≤8;omega,by show (([]:List Ent).length:Int)+m≤8;simp;omega,by simp,h.le (by show N≤N+110*(8-m);omega)⟩
 rintro j ⟨n',l,m,r⟩ ⟨h1,h2,h3,h4,h5,h6⟩
 simp only at h1 h2 h3 h4 h5 h6
 subst h2
 rw [zlv,zad]
 simp only [a_ltI,decide_eq_true_eq,decide_eq_false_iff_not]
 refine ⟨fun hpos=>?_,fun hneg=>zac.2 ⟨fun s' e=>(by cases e),fun e he=>(by injection he with he;subst he;exact ⟨rfl,h6.le (by omega),by show l.length≤8;omega,h5⟩)⟩⟩
 refine (zkn k hk 0 _ _ h6 (by omega) (by omega)).bind fun q0 hq0=>?_
 refine Ok.bind (P:=fun r3=>r3.1=n'∧r3.2.1=l∧r3.2.2.1=m∧EntS r3.2.2.2.1∧RdOk (N+110*(8-m)+60+31) r3.2.2.2.2) ?_ fun r3 hr3=>?_
 ·rw [zad]
  refine ⟨fun _=>?_,fun _=>zac.2 ⟨rfl,rfl,rfl,hq0.2,hq0.1.le (by omega)⟩⟩
  refine (zaf k 3 _ _ hq0.1 (by omega) (by omega)).bind fun q1 hq1=>?_
  rw [zad]
  refine ⟨fun _=>?_,fun _=>zac.2 ⟨rfl,rfl,rfl,hq0.2,hq1.1.le (by omega)⟩⟩
  exact (l20Cmd_ok k hk 0 _ _ hq1.1 (by omega) (by omega)).bind fun q2 hq2=>zac.2 ⟨rfl,rfl,rfl,hq2.2,hq2.1.le (by omega)⟩
 obtain ⟨g1,g2,g3,g4,g5⟩:=hr3
 refine (zaf k 8 _ _ g5 (by omega) (by omega)).bind fun q4 hq4=>?_
 refine Ok.bind (P:=fun r7=>r7.1=n'∧r7.2.1=l∧r7.2.2.1=m∧EntS r7.2.2.2.1∧RdOk (N+110*(8-m)+60+31+3) r7.2.2.2.2) ?_ fun r7 hr7=>?_
 ·rw [zad]
  simp only [a_lenL,a_ltI,decide_eq_true_eq,decide_eq_false_iff_not]
  refine ⟨fun hlen=>?_,fun _=>zac.2 ⟨g1,g2,g3,g4,hq4.1.le (by omega)⟩⟩
  refine (zaf k 6 _ _ hq4.1 (by omega) (by omega)).bind fun q5 hq5=>?_
  rw [zad]
  refine ⟨fun _=>?_,fun _=>zac.2 ⟨g1,g2,g3,g4,hq5.1.le (by omega)⟩⟩
  refine (zaf k _ _ _ hq5.1 (by omega) (by rw [g2];omega)).bind fun q6 hq6=>?_
  have b1:=hq6.2.1
  have b2:=hq6.2.2.2.1 hlen
  rw [zad]
  refine ⟨fun _=>zac.2 ⟨g1,g2,g3,LogS.get (by rw [g2];exact h5) b1 b2,hq6.1.le (by omega)⟩,fun hc=>?_⟩
  simp at hc;omega
 obtain ⟨f1,f2,f3,f4,f5⟩:=hr7
 have w:A.wrapI .i64 (A.subI r7.2.2.1 1)=m-1:=by rw [a_subI,f3];exact zal (by omega) (by omega)
 rw [zad]
 refine ⟨fun _=>zac.2 ⟨fun s' e=>?_,fun e he=>(by cases he)⟩,fun hc=>?_⟩
 ·injection e with e;subst e
  rw [w,f2,a_appL]
  refine ⟨j-1,by omega,by show ((j-1:Nat):Int)=m-1;omega,f1,by show m-1≤8;omega,by simp;omega,?_,f5.le (by show N+110*(8-m)+60+31+3≤N+110*(8-(m-1));omega)⟩
  intro x hx
  rcases List.mem_append.1 hx with hx|hx
  ·exact h5 x hx
  ·simp at hx;subst hx;exact f4
 ·rw [f2] at hc;simp at hc;omega
theorem l20Log_loop1 (k:Nat) (hk:100≤k) (N:Int) (l:List Ent) (r:Rd) (hl:l.length≤8) (hs : ∀e∈l,EntS e) (h:RdOk N r) (hp:N≤600000000) :
 Ok (A.iter k (zlu A k) (l,r)) (fun e=>RdOk (N+2000) e.2∧LogS e.1):=by
 refine zbt (fun j s=>j+s.1.length=25∧(∀x∈s.1,EntS x)∧RdOk (N+60*(s.1.length:Int)) s.2) _ ?_ (n:=25-l.length) (by omega) ⟨by show 25-l.length+l.length=25;omega,hs,h.le (by show N≤N+60*(l.length:Int);omega)⟩
 rintro j ⟨l,r⟩ ⟨h1,h2,h3⟩
 simp only at h1 h2 h3
 rw [zlu,zad]
 simp only [a_lenL,a_leI,decide_eq_true_eq,decide_eq_false_iff_not]
 refine ⟨fun hle=>?_,fun hgt=>zac.2 ⟨fun s' e=>(by cases e),fun e he=>(by injection he with he;subst he;exact ⟨h3.le (by omega),by show l.length≤30;omega,h2⟩)⟩⟩
 refine (zkn k hk 0 _ _ h3 (by omega) (by omega)).bind fun q0 hq0=>?_
 rw [zad]
 refine ⟨fun _=>zac.2 ⟨fun s' e=>?_,fun e he=>(by cases he)⟩,fun hc=>?_⟩
 ·injection e with e;subst e
  rw [a_appL]
  refine ⟨j-1,by omega,by simp;omega,?_,hq0.1.le (by simp;omega)⟩
  intro x hx
  rcases List.mem_append.1 hx with hx|hx
  ·exact h2 x hx
  ·simp at hx;subst hx;exact hq0.2
 ·simp at hc;omega
theorem l20Log_ok (k:Nat) (hk:100≤k) (n N:Int) (r:Rd) (h:RdOk N r) (hp:N≤500000000) (hn:n≤1000000000):Ok (zeg A k ((),(n,())) r) (fun q=>RdOk (N+4000) q.2∧LogS q.1.1):=by
 rw [zeg]
 refine (zaf k 9 _ _ h (by omega) (by omega)).bind fun q0 hq0=>?_
 have b1:=hq0.2.1
 have b2:=hq0.2.2.2.1 (by omega)
 refine (l20Log_loop0 k hk n _ q0.1.1 q0.2 b1 b2 hq0.1 (by omega)).bind fun q1 hq1=>?_
 obtain ⟨e1,e2,e3,e4⟩:=hq1
 refine (odd_ok k _ _ _ e2 (by omega) (by rw [e1];omega)).bind fun q2 hq2=>?_
 rw [zad]
 refine ⟨fun _=>?_,fun _=>zac.2 ⟨hq2.le (by omega),by show q1.2.1.length≤30;omega,e4⟩⟩
 refine (zaf k 2 _ _ hq2 (by omega) (by omega)).bind fun q3 hq3=>?_
 rw [zad]
 refine ⟨fun _=>?_,fun _=>?_⟩
 ·refine (zkn k hk 1 _ _ hq3.1 (by omega) (by omega)).bind fun q4 hq4=>?_
  rw [zad]
  refine ⟨fun _=>zac.2 ⟨hq4.1.le (by omega),?_⟩,fun hc=>?_⟩
  ·rw [a_appL]
   refine ⟨by simp;omega,fun x hx=>?_⟩
   rcases List.mem_append.1 hx with hx|hx
   ·exact e4 x hx
   ·simp at hx;subst hx;exact hq4.2
  ·simp at hc;omega
 ·exact (l20Log_loop1 k hk _ _ _ e3 e4 hq3.1 (by omega)).bind fun q5 hq5=>zac.2 ⟨hq5.1.le (by omega),hq5.2⟩
def RepS (r:Rep):Prop:=Short r.1∧LogS r.2.2.1
theorem l20Replica_ok (k:Nat) (hk:100≤k) (n N:Int) (r:Rd) (h:RdOk N r) (hp:N≤400000000) (hn:n≤1000000000):Ok (zie A k ((),(n,())) r) (fun q=>RdOk (N+9000) q.2∧RepS q.1.1):=by
 have nilS:LogS []:=⟨by simp,by simp⟩
 have zS:Short (0,([],(false,()))):=by simp [Short]
 rw [zie]
 refine (zlm k (by omega) 0 N r h (by omega) (by omega)).bind fun q0 hq0=>?_
 refine (zaf k 5 _ _ hq0.1 (by omega) (by omega)).bind fun q1 hq1=>?_
 refine Ok.bind (P:=fun r3=>r3.1=n∧RepS r3.2.2.1∧RdOk (N+4200) r3.2.2.2) ?_ fun r3 hr3=>?_
 ·rw [zad]
  refine ⟨fun _=>?_,fun _=>zac.2 ⟨rfl,⟨hq0.2,nilS⟩,hq1.1.le (by omega)⟩⟩
  exact (l20Log_ok k hk 0 _ _ hq1.1 (by omega) (by omega)).bind fun q2 hq2=>zac.2 ⟨rfl,⟨hq0.2,hq2.2⟩,hq2.1.le (by omega)⟩
 refine Ok.bind (P:=fun r5=>r5.1=n∧RepS r5.2.2.1∧RdOk (N+4201) r5.2.2.2) ?_ fun r5 hr5=>?_
 ·refine (zaf k 12 _ _ hr3.2.2 (by omega) (by omega)).bind fun q4 hq4=>?_
  rw [zad]
  exact ⟨fun _=>zac.2 ⟨hr3.1,⟨zS,nilS⟩,hq4.1.le (by omega)⟩,fun _=>zac.2 ⟨hr3.1,hr3.2.1,hq4.1.le (by omega)⟩⟩
 obtain ⟨g1,⟨g2,g3⟩,g4⟩:=hr5
 refine (odd_ok k _ _ _ g4 (by omega) (by rw [g1];omega)).bind fun q6 hq6=>?_
 rw [zad]
 refine ⟨fun _=>?_,fun _=>zac.2 ⟨hq6.le (by omega),g2,g3⟩⟩
 refine (zaf k 4 _ _ hq6 (by omega) (by omega)).bind fun q7 hq7=>?_
 rw [zad]
 refine ⟨fun _=>?_,fun _=>?_⟩
 ·exact (zlm k (by omega) 1 _ _ hq7.1 (by omega) (by omega)).bind fun q8 hq8=>zac.2 ⟨hq8.1.le (by omega),hq8.2,g3⟩
 rw [zad]
 refine ⟨fun _=>?_,fun _=>?_⟩
 ·exact (l20Log_ok k hk 1 _ _ hq7.1 (by omega) (by omega)).bind fun q8 hq8=>zac.2 ⟨hq8.1.le (by omega),g2,hq8.2⟩
 rw [zad]
 refine ⟨fun _=>?_,fun _=>zac.2 ⟨hq7.1.le (by omega),zS,nilS⟩⟩
 refine (zkn k hk 0 _ _ hq7.1 (by omega) (by omega)).bind fun q8 hq8=>zac.2 ⟨hq8.1.le (by omega),g2,⟨by simp,fun x hx=>?_⟩⟩
 simp at hx;subst hx;exact hq8.2
end Go.Den.T
namespace Go.Den.T
theorem code_bytes {a:List Int} (h:InR (.slice (.int .u8)) a) : ∀x∈a,0≤x∧x≤255:=by
 intro x hx
 have:=h.2 x hx
 simp [InR,Lit.wf,IntKind.min,IntKind.max,IntKind.signed,IntKind.bits] at this
 omega
end Go.Den.T
namespace Go.Den.T
end Go.Den.T
namespace Go.Den.T
set_option linter.unusedVariables false
set_option linter.unusedSimpArgs false
set_option linter.unusedSectionVars false
section
variable {A:Atoms} [IsReal A]
theorem zge {α:Type} {l:List α} {i:Int} (h0:0≤i) (h1:i<l.length):A.andB (A.le0 i) (A.ltI i (A.lenL l))=true:=by simp [h0,h1]
theorem in_bounds' {α:Type} {l:List α} {i:Int} (h0:0≤i) (h1:i≤l.length):A.andB (A.le0 i) (A.leI i (A.lenL l))=true:=by simp [h0,h1]
theorem l4Place_ok (k:Nat) (l:List Pair) (s:List UInt8) (hk:l.length<k) (hl:l.length≤1000000000):Ok (zdg A k (l,(s,())) ()) (fun q=>0≤q.1.1∧q.1.1≤l.length):=by
 rw [zdg]
 refine Ok.bind (P:=fun e:Int×Unit=>0≤e.1∧e.1≤l.length) (zbt (fun m (st:List Pair×(List UInt8×(Int×Unit)))=>∃i:Nat,st=(l,(s,((i:Int),())))∧i≤l.length∧m=l.length-i) _ ?_ (n:=l.length) (by omega) ⟨0,rfl,by omega,by omega⟩) fun e he=>zac.2 he
 rintro m st ⟨i,rfl,hi,rfl⟩
 have w:A.wrapI .i64 (A.addI (i:Int) 1)=((i+1:Nat):Int):=by rw [a_addI,zal (by omega) (by omega)];rfl
 rw [zkp,zad]
 simp only [a_ltI,a_lenL,decide_eq_true_eq,decide_eq_false_iff_not]
 have stop : ∀e:(List Pair×(List UInt8×(Int×Unit))) ⊕ (Int×Unit),e = .inr ((i:Int),())→(∀s',e = .inl s'→∃m',m'<l.length-i∧∃j:Nat,s'=(l,(s,((j:Int),())))∧j≤l.length∧m'=l.length-j)∧∀r,e = .inr r→0≤r.1∧r.1≤(l.length:Int):=by
  rintro e rfl
  exact ⟨fun s' e=>(by cases e),fun r e=>(by injection e with e;subst e;exact ⟨by show (0:Int)≤i;omega,by show (i:Int)≤_;omega⟩)⟩
 refine ⟨fun hlt=>?_,fun _=>zac.2 (stop _ rfl)⟩
 rw [zad]
 refine ⟨fun _=>?_,fun hc=>by simp [hlt] at hc⟩
 rw [zad]
 refine ⟨fun _=>zac.2 ⟨fun s' e=>?_,fun r e=>(by cases e)⟩,fun _=>zac.2 (stop _ rfl)⟩
 injection e with e;subst e
 rw [w]
 exact ⟨l.length-(i+1),by omega,i+1,rfl,by omega,rfl⟩
theorem PairPut_ok (k:Nat) (hk:2000≤k) (l:List Pair) (s:List UInt8) (v:Int):Ok (zdf A k (l,(s,(v,()))) ()) (fun q=>q.1.1.length≤l.length+1):=by
 rw [zdf]
 refine Ok.bind (P:=fun t=>t = .inr ((([]:List Pair),(false,())),())∨(t = .inl (l,(s,(v,(([]:List Pair),()))))∧l.length≤48)) ?_ fun t ht=>?_
 ·rw [za9 k (by omega),a_obind_some,zad]
  refine ⟨fun _=>zac.2 (.inl rfl),fun h=>?_⟩
  have hp:pairsOk l=true:=by simpa using h
  rw [zbv k (by omega),a_obind_some,zad]
  refine ⟨fun _=>zac.2 (.inl rfl),fun _=>?_⟩
  rw [zc9,a_obind_some,zad]
  exact ⟨fun _=>zac.2 (.inl rfl),fun _=>zac.2 (.inr ⟨rfl,(pairs_keys hp).1⟩)⟩
 rcases ht with rfl|⟨rfl,hl⟩
 ·rw [a_sumE_inr];exact zac.2 (by simp)
 rw [a_sumE_inl]
 refine (l4Place_ok k l s (by omega) (by omega)).bind fun q hq=>?_
 obtain ⟨⟨i,_⟩,_⟩:=q
 simp only at hq
 have big:(l.length:Int)<4294967296:=by omega
 refine Ok.bind (P:=fun t=>(∃r:(List Pair×(Bool×Unit))×Unit,t = .inr r∧r.1.1.length≤l.length+1)∨t = .inl (l,(s,(v,(([]:List Pair),(i,()))))))  ?_ fun t ht=>?_
 ·rw [zad]
  refine ⟨fun h1=>?_,fun _=>zac.2 (.inr rfl)⟩
  have h1':i<l.length:=by simpa using h1
  have hb:=zge (A:=A) hq.1 h1'
  have hb2:A.andB (A.eqI (A.lenL ([]:List Pair)) 0) (A.ltI (A.lenL l) A.big)=true:=by simp [big]
  rw [zad]
  refine ⟨fun _=>?_,fun hc=>(by rw [hb] at hc;cases hc)⟩
  rw [zad]
  refine ⟨fun _=>?_,fun _=>zac.2 (.inr rfl)⟩
  simp only [a_cndS (A:=A),hb,hb2,if_true]
  exact zac.2 (.inl ⟨_,rfl,by simp⟩)
 rcases ht with ⟨r,rfl,hr⟩|rfl
 ·rw [a_sumE_inr];exact zac.2 hr
 rw [a_sumE_inl,zad]
 refine ⟨fun _=>?_,fun _=>?_⟩
 ·rw [zad]
  exact ⟨fun _=>zac.2 (by simp),fun hc=>(by simp at hc;omega)⟩
 ·have hb:=in_bounds' (A:=A) hq.1 hq.2
  have tl:(l.take i.toNat).length≤48:=by rw [List.length_take];omega
  have dl:(l.drop i.toNat).length≤48:=by rw [List.length_drop];omega
  have t1:((l.take i.toNat).length:Int)<4294967296:=by omega
  have t2:((l.take i.toNat).length:Int)+1<4294967296:=by omega
  have t3:((l.take i.toNat).length:Int)+1+((l.drop i.toNat).length:Int)<4294967296:=by omega
  have e:(l.take i.toNat).length+(l.drop i.toNat).length=l.length:=by rw [List.length_take,List.length_drop];omega
  simp only [a_cndS (A:=A),a_le0,a_leI,a_andB,hq.1,hq.2,Bool.and_self,if_true,a_takeL,a_dropL,a_appL,a_lenL,a_addI,a_ltI,a_big,List.length_append,List.length_nil,List.length_cons,List.nil_append,Nat.zero_add,Int.natCast_add,Int.natCast_zero,Int.ofNat_zero,Int.zero_add,Int.natCast_one,Int.ofNat_one,t1,t2,t3,decide_true]
  refine zac.2 ?_
  simp only [List.length_append,List.length_cons,List.length_nil]
  omega
theorem l1Weight_ok (k:Nat) (i:Int):Ok (zhx A k (i,()) ()) (fun q=>q.1.1≠0):=by
 rw [zhx]
 rw [zad];refine ⟨fun _=>zac.2 (by simp),fun _=>?_⟩
 rw [zad];refine ⟨fun _=>zac.2 (by simp),fun _=>?_⟩
 rw [zad];exact ⟨fun _=>zac.2 (by simp),fun _=>zac.2 (by simp)⟩
theorem KeyAt_ok (k:Nat) (hk:100≤k) (n:Int):Ok (spec_KeyAt_t A k (n,()) ()) (fun _=>True):=by
 rw [spec_KeyAt_t,zc9,a_obind_some,zad]
 refine ⟨fun _=>zac.2 trivial,fun _=>?_⟩
 refine Ok.bind (P:=fun _=>True) (zbt (fun m (st:Int×(List UInt8×(Int×Unit)))=>∃i:Nat,st.2.2.1=(i:Int)∧i≤4∧m=4-i∧st.2.1.length=i) _ ?_ (n:=4) (by omega) ⟨0,rfl,by omega,rfl,rfl⟩) fun e _=>?_
 ·rintro m ⟨x,out,j,_⟩ ⟨i,hj,hi,rfl,hlen⟩
  simp only at hj hlen
  subst hj
  have w:A.wrapI .i64 (A.addI (i:Int) 1)=((i+1:Nat):Int):=by rw [a_addI,zal (by omega) (by omega)];rfl
  rw [spec_KeyAt_t_b0,zad]
  refine ⟨fun h1=>?_,fun _=>zac.2 ⟨fun s' e=>(by cases e),fun r e=>trivial⟩⟩
  have h1':i<4:=by have:(i:Int)<4:=by simpa using h1
                   omega
  refine (l1Weight_ok k _).bind fun q hq=>?_
  rw [zad]
  refine ⟨fun _=>?_,fun hc=>by simp [hq] at hc⟩
  rw [zad]
  refine ⟨fun _=>?_,fun hc=>by simp at hc;omega⟩
  refine (l1Weight_ok k _).bind fun q1 hq1=>?_
  rw [zad]
  refine ⟨fun _=>?_,fun hc=>by simp [hq1] at hc⟩
  rw [zad]
  refine ⟨fun _=>zac.2 ⟨fun s' e=>(by cases e),fun r e=>trivial⟩,fun _=>zac.2 ⟨fun s' e=>?_,fun r e=>(by cases e)⟩⟩
  injection e with e;subst e
  exact ⟨4-(i+1),by omega,i+1,w,by omega,rfl,by simp [hlen]⟩
 ·rw [ok_sumE];exact ⟨fun _ _=>zac.2 trivial,fun _ _=>zac.2 trivial⟩
theorem PairScan_ok (k:Nat) (hk:2000≤k) (l:List Pair) (iv:Itv) (n:Int) (hl:l.length≤1000):Ok (zhg A k (l,(iv,(n,()))) ()) (fun q=>q.1.1.length≤l.length):=by
 rw [zhg]
 refine Ok.bind (P:=fun t=>t = .inr ((([]:List Pair),()),())∨t = .inl (l,(n,(([]:List Pair),(iv,()))))) ?_ fun t ht=>?_
 ·rw [za9 k (by omega),a_obind_some,zad]
  refine ⟨fun _=>zac.2 (.inl rfl),fun h=>?_⟩
  rw [zba k (by omega),a_obind_some,zad]
  refine ⟨fun _=>zac.2 (.inl rfl),fun _=>?_⟩
  rw [zc9,a_obind_some,zad]
  exact ⟨fun _=>zac.2 (.inl rfl),fun _=>zac.2 (.inr rfl)⟩
 rcases ht with rfl|rfl
 ·rw [a_sumE_inr];exact zac.2 (by simp)
 rw [a_sumE_inl]
 refine Ok.bind (P:=fun e:List Pair×Unit=>e.1.length≤l.length) (zbt (fun m (st:List Pair×(Int×(List Pair×(Int×(Itv×Unit)))))=>∃(i:Nat) (out:List Pair),st=(l,(n,(out,((i:Int),(iv,())))))∧i≤l.length∧m=l.length-i∧out.length≤i) _ ?_ (n:=l.length) (by omega) ⟨0,[],rfl,by omega,by omega,by simp⟩) fun e he=>zac.2 he
 rintro m st ⟨i,out,rfl,hi,rfl,ho⟩
 have w:A.wrapI .i64 (A.addI (i:Int) 1)=((i+1:Nat):Int):=by rw [a_addI,zal (by omega) (by omega)];rfl
 rw [zj9]
 refine Ok.bind (P:=fun t=>t = .inr (.inr (out,()))∨(t = .inl (l,(n,(out,((i:Int),(iv,())))))∧i<l.length)) ?_ fun t ht=>?_
 ·rw [zad]
  refine ⟨fun h1=>?_,fun _=>zac.2 (.inl rfl)⟩
  rw [zad]
  refine ⟨fun _=>zac.2 (.inr ⟨rfl,?_⟩),fun _=>zac.2 (.inl rfl)⟩
  have:(i:Int)<l.length:=by simpa using h1
  omega
 rcases ht with rfl|⟨rfl,hlt⟩
 ·rw [a_sumE_inr]
  exact zac.2 ⟨fun s' e=>(by cases e),fun r e=>(by injection e with e;subst e;show out.length≤_;omega)⟩
 rw [a_sumE_inl]
 have hb:=zge (A:=A) (l:=l) (i:=(i:Int)) (by omega) (by omega)
 rw [zad]
 refine ⟨fun _=>?_,fun hc=>(by rw [hb] at hc;cases hc)⟩
 rw [zlb k (by omega),a_obind_some,zad]
 refine ⟨fun _=>?_,fun _=>zac.2 ⟨fun s' e=>?_,fun r e=>(by cases e)⟩⟩
 ·rw [zad]
  refine ⟨fun _=>?_,fun hc=>(by rw [hb] at hc;cases hc)⟩
  rw [zad]
  refine ⟨fun _=>zac.2 ⟨fun s' e=>?_,fun r e=>(by cases e)⟩,fun hc=>(by simp at hc;omega)⟩
  injection e with e;subst e
  exact ⟨l.length-(i+1),by omega,i+1,_,by rw [w],by omega,rfl,by simp;omega⟩
 ·injection e with e;subst e
  exact ⟨l.length-(i+1),by omega,i+1,out,by rw [w],by omega,rfl,by omega⟩
theorem PairsIn_ok (k:Nat) (hk:2000≤k) (l:List Pair) (iv:Itv) (hl:l.length≤1000):Ok (zgm A k (l,(iv,())) ()) (fun q=>q.1.1.length≤l.length):=by
 rw [zgm]
 exact (PairScan_ok k hk l iv 48 hl).bind fun q hq=>zac.2 hq
theorem l20Span_ok (k:Nat) (hk:100≤k) (n N:Int) (r:Rd) (h:RdOk N r) (hp:N≤800000000) (hn:n≤1000000000):Ok (zes A k ((),(n,())) r) (fun q=>RdOk (N+40) q.2):=by
 rw [zes]
 refine (odd_ok k n N r h (by omega) (by omega)).bind fun q hq=>?_
 rw [zad]
 refine ⟨fun _=>?_,fun _=>?_⟩
 ·refine (zaf k 5 _ _ hq (by omega) (by omega)).bind fun q1 h1=>?_
  have b1:=h1.2.1
  have b2:=h1.2.2.2.1 (by omega)
  rw [zad]
  exact ⟨fun _=>zac.2 (h1.1.le (by omega)),fun hc=>(by simp at hc;omega)⟩
 ·refine (l20Key_ok k hk 0 _ _ hq (by omega) (by omega)).bind fun q1 h1=>?_
  refine (l20Key_ok k hk 0 _ _ h1.1 (by omega) (by omega)).bind fun q2 h2=>?_
  refine Ok.bind (P:=fun t=>(∃r,t = .inr r∧RdOk (N+40) r.2)∨∃s,t = .inl s∧RdOk (N+40) s.2.2.2) ?_ fun t ht=>?_
  ·refine (zaf k 6 _ _ h2.1 (by omega) (by omega)).bind fun q3 h3=>?_
   have h4:=h3.1.le (M:=N+40) (by omega)
   rw [zad];refine ⟨fun _=>zac.2 (.inl ⟨_,rfl,h4⟩),fun _=>?_⟩
   rw [zad];refine ⟨fun _=>zac.2 (.inl ⟨_,rfl,h4⟩),fun _=>?_⟩
   rw [zad];refine ⟨fun _=>?_,fun _=>zac.2 (.inr ⟨_,rfl,h4⟩)⟩
   rw [zad];exact ⟨fun _=>zac.2 (.inl ⟨_,rfl,h4⟩),fun _=>zac.2 (.inr ⟨_,rfl,h4⟩)⟩
  rcases ht with ⟨r,rfl,hr⟩|⟨s,rfl,hs⟩
  ·rw [a_sumE_inr];exact zac.2 hr
  ·rw [a_sumE_inl,zad];refine ⟨fun _=>zac.2 hs,fun _=>?_⟩
   rw [zad];exact ⟨fun _=>zac.2 hs,fun _=>zac.2 hs⟩
theorem l20Pairs_ok (k:Nat) (hk:2000≤k) (n N:Int) (r:Rd) (h:RdOk N r) (hp:N≤800000000) (hn:n≤1000000000):Ok (zds A k ((),(n,())) r) (fun q=>RdOk (N+300) q.2∧q.1.1.length≤60):=by
 rw [zds]
 refine (zaf k 9 _ _ h (by omega) (by omega)).bind fun q0 h0=>?_
 have b1:=h0.2.1
 have b2:=h0.2.2.2.1 (by omega)
 refine Ok.bind (P:=fun e:Int×(List Pair×Rd)=>e.1=n∧e.2.1.length≤8∧RdOk (N+200) e.2.2) (zbt (fun j (s:Int×(List Pair×(Int×Rd)))=>s.1=n∧s.2.2.1=(j:Int)∧s.2.1.length+j≤8∧RdOk (N+1+14*(8-(j:Int))) s.2.2.2) _ ?_ (n:=q0.1.1.toNat) (by omega) ⟨rfl,by show q0.1.1=_;omega,by show ([]:List Pair).length+_≤8;simp;omega,h0.1.le (by omega)⟩) fun e he=>?_
 ·rintro j ⟨n',l,x,rr⟩ ⟨g0,g1,g2,g3⟩
  simp only at g0 g1 g2 g3
  subst g0 g1
  rw [zki,zad]
  simp only [a_ltI,decide_eq_true_eq,decide_eq_false_iff_not]
  refine ⟨fun hpos=>?_,fun _=>zac.2 ⟨fun s' e=>(by cases e),fun e he=>(by injection he with he;subst he;exact ⟨rfl,by show l.length≤8;omega,g3.le (by omega)⟩)⟩⟩
  have w':A.wrapI .i64 (A.subI (j:Int) 1)=((j-1:Nat):Int):=by rw [a_subI,zal (by omega) (by omega)];omega
  refine (l20Key_ok k (by omega) 0 _ _ g3 (by omega) (by omega)).bind fun q1 h1=>?_
  refine (l20Value_ok k 0 _ _ h1.1 (by omega) (by omega)).bind fun q2 h2=>?_
  refine (PairPut_ok k (by omega) l q1.1.1 q2.1.1).bind fun q3 h3=>?_
  refine zac.2 ⟨fun s' e=>?_,fun e he=>(by cases he)⟩
  injection e with e;subst e
  exact ⟨j-1,by omega,rfl,w',by show q3.1.1.length+_≤8;omega,h2.1.le (by omega)⟩
 obtain ⟨n1,l1,r1⟩:=e
 obtain ⟨e1,e2,e3⟩:=he
 simp only at e1 e2 e3
 subst e1
 refine Ok.bind (P:=fun e:Int×(List Pair×Rd)=>e.1=n1∧e.2.1.length≤48∧RdOk (N+201) e.2.2) ?_ fun e he=>?_
 ·refine (zaf k 16 _ _ e3 (by omega) (by omega)).bind fun q1 h1=>?_
  rw [zad]
  refine ⟨fun _=>?_,fun _=>zac.2 ⟨rfl,by show l1.length≤48;omega,h1.1.le (by omega)⟩⟩
  refine Ok.bind (P:=fun e:Int×(List Pair×Rd)=>e.1=n1∧e.2.1.length≤48∧RdOk (N+201) e.2.2) (zbt (fun m (s:Int×(List Pair×(Int×Rd)))=>∃i:Nat,s.1=n1∧s.2.2.1=(i:Int)∧i≤200∧m=200-i∧s.2.1.length≤48∧RdOk (N+201) s.2.2.2) _ ?_ (n:=200) (by omega) ⟨0,rfl,rfl,by omega,rfl,by show l1.length≤48;omega,h1.1.le (by omega)⟩) fun e he=>zac.2 he
  rintro m ⟨n',l,x,rr⟩ ⟨i,g0,g1,g2,rfl,g3,g4⟩
  simp only at g0 g1 g3 g4
  subst g0 g1
  rw [zj2]
  refine Ok.bind (P:=fun t=>t = .inr (.inr (n',(l,rr)))∨(t = .inl (n',(l,((i:Int),rr)))∧l.length<48∧i<200)) ?_ fun t ht=>?_
  ·rw [zad]
   refine ⟨fun c1=>?_,fun _=>zac.2 (.inl rfl)⟩
   rw [zad]
   refine ⟨fun c2=>zac.2 (.inr ⟨rfl,?_⟩),fun _=>zac.2 (.inl rfl)⟩
   have c1':(l.length:Int)<48:=by simpa using c1
   have c2':(i:Int)<200:=by simpa using c2
   omega
  rcases ht with rfl|⟨rfl,hl,hi⟩
  ·rw [a_sumE_inr]
   exact zac.2 ⟨fun s' e=>(by cases e),fun r e=>(by injection e with e;subst e;exact ⟨rfl,g3,g4⟩)⟩
  rw [a_sumE_inl]
  refine (KeyAt_ok k (by omega) _).bind fun q2 _=>?_
  refine (PairPut_ok k (by omega) l q2.1.1 _).bind fun q3 h3=>?_
  refine zac.2 ⟨fun s' e=>?_,fun e he=>(by cases he)⟩
  injection e with e;subst e
  have w:A.wrapI .i64 (A.addI (i:Int) 1)=((i+1:Nat):Int):=by rw [a_addI,zal (by omega) (by omega)];rfl
  exact ⟨200-(i+1),by omega,i+1,rfl,w,by omega,rfl,by show q3.1.1.length≤48;omega,g4⟩
 obtain ⟨n2,l2,r2⟩:=e
 obtain ⟨f1,f2,f3⟩:=he
 simp only at f1 f2 f3
 subst f1
 refine (odd_ok k _ _ _ f3 (by omega) (by omega)).bind fun q4 h4=>?_
 rw [zad]
 refine ⟨fun _=>?_,fun _=>zac.2 ⟨h4.le (by omega),by show l2.length≤60;omega⟩⟩
 refine (zaf k 5 _ _ h4 (by omega) (by omega)).bind fun q5 h5=>?_
 have c1:=h5.2.1
 have c2:=h5.2.2.2.1 (by omega)
 rw [zad]
 refine ⟨fun _=>?_,fun hc=>(by simp at hc;omega)⟩
 rw [zad]
 exact ⟨fun _=>zac.2 ⟨h5.1.le (by omega),by simp;omega⟩,fun hc=>(by simp at hc;omega)⟩
end
end Go.Den.T
namespace Go.Den.T
set_option linter.unusedVariables false
set_option linter.unusedSimpArgs false
set_option linter.unusedSectionVars false
section
variable {A:Atoms} [IsReal A]
theorem l20Session_ok (k:Nat) (n N:Int) (r:Rd) (h:RdOk N r) (hp:N≤800000000) (hn:n≤1000000000):Ok (zfb A k ((),(n,())) r) (fun q=>RdOk (N+5) q.2):=by
 rw [zfb]
 refine (odd_ok k n N r h (by omega) (by omega)).bind fun q hq=>?_
 rw [zad]
 refine ⟨fun _=>?_,fun _=>?_⟩
 ·refine (zaf k 6 _ _ hq (by omega) (by omega)).bind fun q1 h1=>?_
  have b1:=h1.2.1
  have b2:=h1.2.2.2.1 (by omega)
  rw [zad]
  exact ⟨fun _=>zac.2 (h1.1.le (by omega)),fun hc=>(by simp at hc;omega)⟩
 ·refine (zaf k 4 _ _ hq (by omega) (by omega)).bind fun q1 h1=>?_
  refine (zaf k 6 _ _ h1.1 (by omega) (by omega)).bind fun q2 h2=>?_
  refine (zaf k 9 _ _ h2.1 (by omega) (by omega)).bind fun q3 h3=>?_
  exact zac.2 (h3.1.le (by omega))
theorem l9Find_ok (k:Nat) (l:List Ses) (v:Int) (hk:l.length<k) (hl:l.length≤1000000000):Ok (zga A k (l,(v,())) ()) (fun _=>True):=by
 rw [zga]
 refine Ok.bind (P:=fun _=>True) (zbt (fun m (st:List Ses×(Int×(Int×(Ses×Unit))))=>∃(i:Nat) (z:Ses),st=(l,(v,((i:Int),(z,()))))∧i≤l.length∧m=l.length-i) _ ?_ (n:=l.length) (by omega) ⟨0,_,rfl,by omega,by omega⟩) fun e _=>?_
 ·rintro m st ⟨i,z,rfl,hi,rfl⟩
  have w:A.wrapI .i64 (A.addI (i:Int) 1)=((i+1:Nat):Int):=by rw [a_addI,zal (by omega) (by omega)];rfl
  rw [zlo,zad]
  refine ⟨fun h1=>?_,fun _=>zac.2 ⟨fun s' e=>(by cases e),fun r e=>trivial⟩⟩
  have hlt:(i:Int)<l.length:=by simpa using h1
  have hb:=zge (A:=A) (l:=l) (i:=(i:Int)) (by omega) hlt
  rw [zad]
  refine ⟨fun _=>?_,fun hc=>(by rw [hb] at hc;cases hc)⟩
  rw [zad]
  refine ⟨fun _=>?_,fun _=>zac.2 ⟨fun s' e=>?_,fun r e=>trivial⟩⟩
  ·rw [zad]
   exact ⟨fun _=>zac.2 ⟨fun s' e=>(by cases e),fun r e=>trivial⟩,fun hc=>(by rw [hb] at hc;cases hc)⟩
  ·injection e with e;subst e
   exact ⟨l.length-(i+1),by omega,i+1,z,by rw [w],by omega,rfl⟩
 ·rw [ok_sumE];exact ⟨fun _ _=>zac.2 trivial,fun _ _=>zac.2 trivial⟩
theorem SessionSeq_ok (k:Nat) (l:List Ses) (v:Int) (hk:l.length<k) (hl:l.length≤1000000000):Ok (zdj A k (l,(v,())) ()) (fun _=>True):=by
 rw [zdj]
 refine Ok.bind (P:=fun t=>t = .inr (((-1:Int),()),())∨t = .inl (l,(v,()))) ?_ fun t ht=>?_
 ·rw [za2 k l hk hl,a_obind_some,zad]
  refine ⟨fun _=>zac.2 (.inl rfl),fun h=>?_⟩
  rw [zc9,a_obind_some,zad]
  exact ⟨fun _=>zac.2 (.inl rfl),fun _=>zac.2 (.inr rfl)⟩
 rcases ht with rfl|rfl
 ·rw [a_sumE_inr];exact zac.2 trivial
 ·rw [a_sumE_inl];exact (l9Find_ok k l v hk hl).bind fun q _=>zac.2 trivial
theorem SessionPut_ok (k:Nat) (hk:2000≤k) (l:List Ses) (s:Ses) (hl:l.length≤1000):Ok (zci A k (l,(s,())) ()) (fun q=>q.1.1.length≤l.length+1):=by
 rw [zci]
 refine Ok.bind (P:=fun t=>t = .inr ((([]:List Ses),(false,())),())∨t = .inl (l,(([]:List Ses),(s,())))) ?_ fun t ht=>?_
 ·rw [za2 k l (by omega) (by omega),a_obind_some,zad]
  refine ⟨fun _=>zac.2 (.inl rfl),fun h=>?_⟩
  rw [za2 k _ (by simp;omega) (by simp),a_obind_some,zad]
  exact ⟨fun _=>zac.2 (.inl rfl),fun _=>zac.2 (.inr rfl)⟩
 rcases ht with rfl|rfl
 ·rw [a_sumE_inr];exact zac.2 (by simp)
 rw [a_sumE_inl]
 refine (SessionSeq_ok k l s.1 (by omega) (by omega)).bind fun q _=>?_
 rw [zad]
 refine ⟨fun _=>?_,fun _=>?_⟩
 ·rw [zad]
  exact ⟨fun _=>zac.2 (by simp),fun hc=>(by simp at hc;omega)⟩
 refine Ok.bind (P:=fun e:List Ses×(Bool×(Ses×Unit))=>(e.2.1=false→e.1.length≤l.length)∧e.1.length≤l.length+1) (zbt (fun m (st:List Ses×(List Ses×(Bool×(Int×(Ses×Unit)))))=>∃(i:Nat) (out:List Ses) (b:Bool),st=(l,(out,(b,((i:Int),(s,())))))∧i≤l.length∧m=l.length-i∧(b=false→out.length≤i)∧out.length≤i+1) _ ?_ (n:=l.length) (by omega) ⟨0,[],false,rfl,by omega,by omega,fun _=>by simp,by simp⟩) fun e he=>?_
 ·rintro m st ⟨i,out,b,rfl,hi,rfl,ho1,ho2⟩
  have w:A.wrapI .i64 (A.addI (i:Int) 1)=((i+1:Nat):Int):=by rw [a_addI,zal (by omega) (by omega)];rfl
  rw [zew,zad]
  refine ⟨fun h1=>?_,fun _=>zac.2 ⟨fun s' e=>(by cases e),fun r e=>(by injection e with e;subst e;exact ⟨fun h=>by have:=ho1 h;show out.length≤_;omega,by show out.length≤_;omega⟩)⟩⟩
  have hlt:(i:Int)<l.length:=by simpa using h1
  have hb:=zge (A:=A) (l:=l) (i:=(i:Int)) (by omega) hlt
  refine Ok.bind (P:=fun t=>∃(out':List Ses) (b':Bool),t=(l,(out',(b',((i:Int),(s,())))))∧(b'=false→out'.length≤i)∧out'.length≤i+1) ?_ fun t ht=>?_
  ·rw [zad]
   have same : ∃(out':List Ses) (b':Bool),((l,(out,(b,((i:Int),(s,()))))):List Ses×(List Ses×(Bool×(Int×(Ses×Unit)))))=(l,(out',(b',((i:Int),(s,())))))∧(b'=false→out'.length≤i)∧out'.length≤i+1:=⟨out,b,rfl,ho1,ho2⟩
   refine ⟨fun hnb=>?_,fun _=>zac.2 same⟩
   have hbf:b=false:=by simpa using hnb
   have ho:=ho1 hbf
   rw [zad]
   refine ⟨fun _=>?_,fun hc=>(by rw [hb] at hc;cases hc)⟩
   rw [zad]
   refine ⟨fun _=>?_,fun _=>zac.2 same⟩
   rw [zad]
   exact ⟨fun _=>zac.2 ⟨out++[s],true,by rw [a_appL],fun h=>(by cases h),by simp;omega⟩,fun hc=>(by simp at hc;omega)⟩
  obtain ⟨out',b',rfl,k1,k2⟩:=ht
  rw [zad]
  refine ⟨fun _=>?_,fun hc=>(by rw [hb] at hc;cases hc)⟩
  rw [zad]
  refine ⟨fun _=>?_,fun _=>zac.2 ⟨fun s' e=>?_,fun r e=>(by cases e)⟩⟩
  ·rw [zad]
   refine ⟨fun _=>?_,fun hc=>(by rw [hb] at hc;cases hc)⟩
   rw [zad]
   refine ⟨fun _=>zac.2 ⟨fun s' e=>?_,fun r e=>(by cases e)⟩,fun hc=>(by simp at hc;omega)⟩
   injection e with e;subst e
   exact ⟨l.length-(i+1),by omega,i+1,_,b',by rw [w],by omega,rfl,fun h=>by have:=k1 h;simp;omega,by simp;omega⟩
  ·injection e with e;subst e
   exact ⟨l.length-(i+1),by omega,i+1,out',b',by rw [w],by omega,rfl,fun h=>by have:=k1 h;omega,by omega⟩
 ·obtain ⟨out,b,s',_⟩:=e
  obtain ⟨h1,h2⟩:=he
  simp only at h1 h2
  rw [zad]
  refine ⟨fun hnb=>?_,fun _=>zac.2 h2⟩
  have hbf:b=false:=by simpa using hnb
  have ho:=h1 hbf
  rw [zad]
  exact ⟨fun _=>zac.2 (by simp;omega),fun hc=>(by simp at hc;omega)⟩
theorem l20Sessions_ok (k:Nat) (hk:2000≤k) (n N:Int) (r:Rd) (h:RdOk N r) (hp:N≤790000000) (hn:n≤1000000000):Ok (zb9 A k ((),(n,())) r) (fun q=>RdOk (N+60) q.2∧q.1.1.length≤20):=by
 rw [zb9]
 refine (zaf k 5 _ _ h (by omega) (by omega)).bind fun q0 h0=>?_
 have b1:=h0.2.1
 have b2:=h0.2.2.2.1 (by omega)
 refine Ok.bind (P:=fun e:Int×(List Ses×Rd)=>e.1=n∧e.2.1.length≤4∧RdOk (N+40) e.2.2) (zbt (fun j (s:Int×(List Ses×(Int×Rd)))=>s.1=n∧s.2.2.1=(j:Int)∧s.2.1.length+j≤4∧RdOk (N+1+5*(4-(j:Int))) s.2.2.2) _ ?_ (n:=q0.1.1.toNat) (by omega) ⟨rfl,by show q0.1.1=_;omega,by show ([]:List Ses).length+_≤4;simp;omega,h0.1.le (by omega)⟩) fun e he=>?_
 ·rintro j ⟨n',l,x,rr⟩ ⟨g0,g1,g2,g3⟩
  simp only at g0 g1 g2 g3
  subst g0 g1
  rw [zhy,zad]
  simp only [a_ltI,decide_eq_true_eq,decide_eq_false_iff_not]
  refine ⟨fun hpos=>?_,fun _=>zac.2 ⟨fun s' e=>(by cases e),fun e he=>(by injection he with he;subst he;exact ⟨rfl,by show l.length≤4;omega,g3.le (by omega)⟩)⟩⟩
  have w':A.wrapI .i64 (A.subI (j:Int) 1)=((j-1:Nat):Int):=by rw [a_subI,zal (by omega) (by omega)];omega
  refine (l20Session_ok k 0 _ _ g3 (by omega) (by omega)).bind fun q1 h1=>?_
  refine (SessionPut_ok k (by omega) l q1.1.1 (by omega)).bind fun q3 h3=>?_
  refine zac.2 ⟨fun s' e=>?_,fun e he=>(by cases he)⟩
  injection e with e;subst e
  exact ⟨j-1,by omega,rfl,w',by show q3.1.1.length+_≤4;omega,h1.le (by omega)⟩
 obtain ⟨n1,l1,r1⟩:=e
 obtain ⟨e1,e2,e3⟩:=he
 simp only at e1 e2 e3
 subst e1
 refine (odd_ok k _ _ _ e3 (by omega) (by omega)).bind fun q4 h4=>?_
 rw [zad]
 refine ⟨fun _=>?_,fun _=>zac.2 ⟨h4.le (by omega),by show l1.length≤20;omega⟩⟩
 refine (zaf k 2 _ _ h4 (by omega) (by omega)).bind fun q5 h5=>?_
 rw [zad]
 refine ⟨fun _=>?_,fun _=>?_⟩
 ·rw [zad]
  exact ⟨fun _=>zac.2 ⟨h5.1.le (by omega),by simp;omega⟩,fun hc=>(by simp at hc;omega)⟩
 ·refine (l20Session_ok k 1 _ _ h5.1 (by omega) (by omega)).bind fun q6 h6=>?_
  rw [zad]
  exact ⟨fun _=>zac.2 ⟨h6.le (by omega),by simp;omega⟩,fun hc=>(by simp at hc;omega)⟩
def StS (s:Stt):Prop:=s.2.1.length≤60∧s.2.2.1.length≤20
theorem l20State_ok (k:Nat) (hk:2000≤k) (n N:Int) (r:Rd) (h:RdOk N r) (hp:N≤700000000) (hn:n≤1000000000):Ok (zdq A k ((),(n,())) r) (fun q=>RdOk (N+1000) q.2∧StS q.1.1):=by
 rw [zdq]
 refine (l20Span_ok k (by omega) 0 _ _ h (by omega) (by omega)).bind fun q0 h0=>?_
 refine Ok.bind (P:=fun e:Int×(Stt×(Itv×Rd))=>e.1=n∧RdOk (N+41) e.2.2.2) ?_ fun t ht=>?_
 ·refine (zaf k 2 _ _ h0 (by omega) (by omega)).bind fun q1 h1=>?_
  rw [zad]
  exact ⟨fun _=>zac.2 ⟨rfl,h1.1.le (by omega)⟩,fun _=>zac.2 ⟨rfl,h1.1.le (by omega)⟩⟩
 obtain ⟨n1,s1,iv,r1⟩:=t
 obtain ⟨e1,e2⟩:=ht
 simp only at e1 e2
 subst e1
 refine (l20Pairs_ok k hk 0 _ _ e2 (by omega) (by omega)).bind fun q3 h3=>?_
 refine (PairsIn_ok k hk q3.1.1 iv (by omega)).bind fun q4 h4=>?_
 refine (l20Sessions_ok k hk 0 _ _ h3.1 (by omega) (by omega)).bind fun q5 h5=>?_
 have h3l:=h3.2
 have h5l:=h5.2
 refine Ok.bind (P:=fun e:Int×(Stt×(Stt×Rd))=>e.1=n1∧StS e.2.2.1∧RdOk (N+450) e.2.2.2) ?_ fun t ht=>?_
 ·refine (zaf k 5 _ _ h5.1 (by omega) (by omega)).bind fun q6 h6=>?_
  have s0 : ∀(b:Bool) (x:List UInt8),StS ((iv,(q4.1.1,(q5.1.1,(b,(x,())))))):=fun b x=>⟨by show q4.1.1.length≤60;omega,h5l⟩
  rw [zad]
  refine ⟨fun _=>?_,fun _=>zac.2 ⟨rfl,s0 _ _,h6.1.le (by omega)⟩⟩
  rw [zcj k (by omega),a_obind_some,zad]
  refine ⟨fun _=>?_,fun _=>zac.2 ⟨rfl,s0 _ _,h6.1.le (by omega)⟩⟩
  refine (zaf k 2 _ _ h6.1 (by omega) (by omega)).bind fun q7 h7=>?_
  rw [zad]
  exact ⟨fun _=>zac.2 ⟨rfl,s0 _ _,h7.1.le (by omega)⟩,fun _=>zac.2 ⟨rfl,s0 _ _,h7.1.le (by omega)⟩⟩
 obtain ⟨n2,s2,s3,r2⟩:=t
 obtain ⟨f1,f2,f3⟩:=ht
 simp only at f1 f2 f3
 subst f1
 refine (odd_ok k _ _ _ f3 (by omega) (by omega)).bind fun q8 h8=>?_
 rw [zad]
 refine ⟨fun _=>?_,fun _=>zac.2 ⟨h8.le (by omega),f2⟩⟩
 refine (zaf k 5 _ _ h8 (by omega) (by omega)).bind fun q9 h9=>?_
 rw [zad]
 refine ⟨fun _=>?_,fun _=>?_⟩
 ·exact (l20Span_ok k (by omega) 1 _ _ h9.1 (by omega) (by omega)).bind fun q10 h10=>zac.2 ⟨h10.le (by omega),f2⟩
 rw [zad]
 refine ⟨fun _=>?_,fun _=>?_⟩
 ·exact (l20Pairs_ok k hk 1 _ _ h9.1 (by omega) (by omega)).bind fun q10 h10=>zac.2 ⟨h10.1.le (by omega),h10.2,f2.2⟩
 rw [zad]
 refine ⟨fun _=>?_,fun _=>?_⟩
 ·exact (l20Sessions_ok k hk 1 _ _ h9.1 (by omega) (by omega)).bind fun q10 h10=>zac.2 ⟨h10.1.le (by omega),f2.1,h10.2⟩
 rw [zad]
 exact ⟨fun _=>zac.2 ⟨h9.1.le (by omega),f2⟩,fun _=>zac.2 ⟨h9.1.le (by omega),by simp [StS];exact f2.2⟩⟩
end
end Go.Den.T
namespace Go.Den.T
set_option linter.unusedVariables false
set_option linter.unusedSimpArgs false
set_option linter.unusedSectionVars false
section
abbrev pair0:Pair:=(([]:List UInt8),((0:Int),()))
def ahead {α:Type} (lt:α→Bool) (l:List α):Nat:=(l.takeWhile lt).length
theorem ahead_cons {α:Type} (lt:α→Bool) (x:α) (l:List α):ahead lt (x::l)=if lt x=true then ahead lt l+1 else 0:=by
 unfold ahead
 rw [List.takeWhile_cons]
 split<;>simp
theorem ahead_le {α:Type} (lt:α→Bool) : ∀l:List α,ahead lt l≤l.length
 | []=>Nat.le_refl _
 | x::l=>by rw [ahead_cons];have:=ahead_le lt l;split<;>simp;omega
theorem ahead_eq {α:Type} {lt:α→Bool} {d:α} : ∀ {l:List α} {n:Nat},n≤l.length→(∀i,i<n→lt (l.getD i d)=true)→(n<l.length→lt (l.getD n d)=false)→ahead lt l=n
 | [],n,h1,_,_=>by simp at h1;subst h1;rfl
 | x::l,0,_,_,h3=>by
   have:=h3 (by simp)
   simp at this
   rw [ahead_cons,this];rfl
 | x::l,n+1,h1,h2,h3=>by
   have h0:=h2 0 (by omega)
   simp at h0
   rw [ahead_cons,h0]
   simp only [if_true]
   rw [ahead_eq (l:=l) (n:=n) (d:=d) (by simpa using h1) (fun i hi=>by simpa using h2 (i+1) (by omega)) (fun h=>by simpa using h3 (by simpa using h))]
theorem ahead_spec {α:Type} {lt:α→Bool} {d:α} : ∀ {l:List α},(∀i,i<ahead lt l→lt (l.getD i d)=true)∧(ahead lt l<l.length→lt (l.getD (ahead lt l) d)=false)
 | []=>⟨fun i h=>by simp [ahead] at h,fun h=>by simp [ahead] at h⟩
 | x::l=>by
   rw [ahead_cons]
   rcases Bool.eq_false_or_eq_true (lt x) with h|h
   ·simp only [h,if_true]
    obtain ⟨k1,k2⟩:=ahead_spec (lt:=lt) (d:=d) (l:=l)
    refine ⟨fun i hi=>?_,fun hl=>by simpa using k2 (by simpa using hl)⟩
    cases i with
    | zero=>simpa using h
    | succ i=>simpa using k1 i (by omega)
   ·simp only [h,Bool.false_eq_true,if_false]
    exact ⟨fun i hi=>by omega,fun _=>by simpa using h⟩
def Mono {α:Type} (lt:α→Bool) (d:α) (l:List α):Prop:=∀i j,i<j→j<l.length→lt (l.getD j d)=true→lt (l.getD i d)=true
theorem bless_trans : ∀ {a b c:List UInt8},bless a b=true→bless b c=true→bless a c=true
 | [],b,[],h1,h2=>by rw [zlj] at h2;cases h2
 | [],b,z::c,h1,h2=>by simp [bless_nil]
 | x::a,[],c,h1,h2=>by rw [zlj] at h1;cases h1
 | x::a,y::b,[],h1,h2=>by rw [zlj] at h2;cases h2
 | x::a,y::b,z::c,h1,h2=>by
   simp only [bless_cons,Bool.or_eq_true,decide_eq_true_eq,Bool.and_eq_true,beq_iff_eq] at h1 h2 ⊢
   rcases h1 with h1|⟨rfl,h1⟩
   ·rcases h2 with h2|⟨rfl,h2⟩
    ·exact .inl (UInt8.lt_trans h1 h2)
    ·exact .inl h1
   ·rcases h2 with h2|⟨rfl,h2⟩
    ·exact .inl h2
    ·exact .inr ⟨rfl,bless_trans h1 h2⟩
theorem chain_all {α:Type} {R:α→α→Prop} (ht : ∀a b c,R a b→R b c→R a c) {l:List α} {d:α} (h : ∀i,1≤i→i<l.length→R (l.getD (i-1) d) (l.getD i d)) : ∀i j,i<j→j<l.length→R (l.getD i d) (l.getD j d):=by
 intro i j hij
 induction j with
 | zero=>omega
 | succ j ih=>
   intro hj
   have h1:=h (j+1) (by omega) hj
   simp only [Nat.add_sub_cancel] at h1
   by_cases e:i=j
   ·subst e;exact h1
   ·exact ht _ _ _ (ih (by omega) (by omega)) h1
theorem pairs_sorted {l:List Pair} (h:pairsOk l=true) : ∀i j,i<j→j<l.length→bless (l.getD i pair0).1 (l.getD j pair0).1=true:=by
 simp only [pairsOk,Bool.and_eq_true,zcv] at h
 refine chain_all (R:=fun a b:Pair=>bless a.1 b.1=true) (fun a b c=>bless_trans) (fun i hi hl=>?_)
 have:=h.2 i hl
 simp only [pairAt,Bool.and_eq_true,Bool.or_eq_true,decide_eq_true_eq] at this
 rcases this.2.2 with h0|h0
 ·omega
 ·exact h0
theorem ses_sorted {l:List Ses} (h:sesOk l=true) : ∀i j,i<j→j<l.length→(l.getD i ses0).1<(l.getD j ses0).1:=by
 simp only [sesOk,zcv] at h
 refine chain_all (R:=fun a b:Ses=>a.1<b.1) (fun a b c h1 h2=>by omega) (fun i hi hl=>?_)
 have:=h i hl
 simp only [sesAt,sesP,Bool.and_eq_true,Bool.or_eq_true,decide_eq_true_eq,Bool.not_eq_true',decide_eq_false_iff_not] at this
 rcases this.2.2.2 with h0|h0
 ·omega
 ·show (l.getD (i-1) ses0).1<(l.getD i ses0).1
  have : ¬(l.getD i ses0).1≤(l.getD (i-1) ses0).1:=h0
  omega
def ltP (s:List UInt8) (p:Pair):Bool:=bless p.1 s
def ltS (c:Int) (s:Ses):Bool:=decide (s.1<c)
def pp (l:List Pair) (s:List UInt8):Nat:=ahead (ltP s) l
def ph (l:List Pair) (s:List UInt8):Bool:=decide (pp l s<l.length)&&decide ((l.getD (pp l s) pair0).1=s)
def sp (l:List Ses) (c:Int):Nat:=ahead (ltS c) l
def sh (l:List Ses) (c:Int):Bool:=decide (sp l c<l.length)&&decide ((l.getD (sp l c) ses0).1=c)
variable {A:Atoms} [IsReal A]
theorem l4Place_eq (k:Nat) (l:List Pair) (s:List UInt8) (hk:l.length<k) (hl:l.length≤1000000000):zdg A k (l,(s,())) ()=some (((pp l s:Int),()),()):=by
 rw [←ok_eq,zdg]
 refine Ok.bind (P:=fun e:Int×Unit=>e=((pp l s:Int),())) (zbt (fun m (st:List Pair×(List UInt8×(Int×Unit)))=>∃i:Nat,st=(l,(s,((i:Int),())))∧i≤l.length∧m=l.length-i∧∀t,t<i→ltP s (l.getD t pair0)=true) _ ?_ (n:=l.length) (by omega) ⟨0,rfl,by omega,by omega,fun t ht=>by omega⟩) fun e he=>zac.2 (by rw [he])
 rintro m st ⟨i,rfl,hi,rfl,ha⟩
 have w:A.wrapI .i64 (A.addI (i:Int) 1)=((i+1:Nat):Int):=by rw [a_addI,zal (by omega) (by omega)];rfl
 rw [zkp,zad]
 refine ⟨fun h1=>?_,fun h1=>zac.2 ⟨fun s' e=>(by cases e),fun r e=>?_⟩⟩
 ·have hlt:(i:Int)<l.length:=by simpa using h1
  have hb:=zge (A:=A) (l:=l) (i:=(i:Int)) (by omega) hlt
  rw [zad]
  refine ⟨fun _=>?_,fun hc=>(by rw [hb] at hc;cases hc)⟩
  rw [zad]
  refine ⟨fun h2=>zac.2 ⟨fun s' e=>?_,fun r e=>(by cases e)⟩,fun h2=>zac.2 ⟨fun s' e=>(by cases e),fun r e=>?_⟩⟩
  ·injection e with e;subst e
   have h2':ltP s (l.getD i pair0)=true:=by simpa [ltP,bless] using h2
   exact ⟨l.length-(i+1),by omega,i+1,by rw [w],by omega,rfl,fun t ht=>by
    rcases Nat.lt_or_ge t i with h|h
    ·exact ha t h
    ·have:t=i:=by omega
     subst this;exact h2'⟩
  ·injection e with e;subst e
   have h2':ltP s (l.getD i pair0)=false:=by simpa [ltP,bless] using h2
   have:pp l s=i:=ahead_eq (d:=pair0) hi ha (fun _=>h2')
   rw [this]
 ·injection e with e;subst e
  have hge : ¬(i:Int)<l.length:=by simpa using h1
  have:pp l s=i:=ahead_eq (d:=pair0) hi ha (fun h=>by omega)
  rw [this]
structure Halves {α:Type} (lt:α→Bool) (d:α) (l:List α) (i j:Nat):Prop where
 le:i≤j
 len:j≤l.length
 below : ∀t,t<i→lt (l.getD t d)=true
 above : ∀t,j≤t→t<l.length→lt (l.getD t d)=false
theorem Halves.start {α:Type} (lt:α→Bool) (d:α) (l:List α):Halves lt d l 0 l.length:=⟨by omega,Nat.le_refl _,fun t h=>by omega,fun t h1 h2=>by omega⟩
theorem Halves.up {α:Type} {lt:α→Bool} {d:α} {l:List α} {i j:Nat} (hm:Mono lt d l) (h:Halves lt d l i j) (hij:i<j) (ht:lt (l.getD ((i+j) / 2) d)=true):Halves lt d l ((i+j) / 2+1) j:=
 ⟨by omega,h.len,fun t htl=>by
   rcases Nat.lt_or_ge t ((i+j) / 2) with h1|h1
   ·exact hm t _ h1 (by have:=h.len;omega) ht
   ·have:t=(i+j) / 2:=by omega
    rw [this];exact ht,h.above⟩
theorem Halves.done {α:Type} {lt:α→Bool} {d:α} {l:List α} {i:Nat} (h:Halves lt d l i i):ahead lt l=i:=ahead_eq h.len h.below (fun hl=>h.above i (Nat.le_refl _) hl)
end
end Go.Den.T
namespace Go.Den.T
set_option linter.unusedVariables false
set_option linter.unusedSimpArgs false
set_option linter.unusedSectionVars false
section
variable {A:Atoms} [IsReal A]
/-! ### pairs -/
def pget (l:List Pair) (s:List UInt8):Int:=if (pairsOk l&&ph l s)=true then (l.getD (pp l s) pair0).2.1 else -1
def pdrop (l:List Pair) (s:List UInt8):List Pair×(Bool×Unit):=if pairsOk l=true then (if ph l s=true then (l.take (pp l s)++l.drop (pp l s+1),(true,())) else (l,(false,()))) else ([],(false,()))
def pput (l:List Pair) (s:List UInt8) (v:Int):List Pair×(Bool×Unit):=
 if (pairsOk l&&(keyOk s&&valOk v))=true then (if ph l s=true then (l.take (pp l s)++[(s,(v,()))]++l.drop (pp l s+1),(true,())) else if 48≤l.length then (l,(false,())) else (l.take (pp l s)++[(s,(v,()))]++l.drop (pp l s),(true,()))) else ([],(false,()))
theorem ph_lt {l:List Pair} {s:List UInt8} (h:ph l s=true):pp l s<l.length∧(l.getD (pp l s) pair0).1=s:=by
 simpa [ph] using h
theorem pp_le (l:List Pair) (s:List UInt8):pp l s≤l.length:=ahead_le ..
theorem pairs_len {l:List Pair} (h:pairsOk l=true):l.length≤48:=(pairs_keys h).1
theorem zmi (k:Nat) (hk:100≤k) (l:List Pair) (s:List UInt8) (hkl:l.length<k) (hl:l.length≤1000000000):zle A k (l,(s,())) ()=some ((pget l s,()),()):=by
 have hle:=pp_le l s
 simp only [zle,l4Place_eq k l s hkl hl,za9 k (by omega:60≤k),a_obind_some,a_cndS,a_notB,pget,a_eqI,a_lenL]
 rcases Bool.eq_false_or_eq_true (pairsOk l) with hp|hp
 case inr=>simp [hp]
 simp only [hp,Bool.not_true,Bool.false_eq_true,if_false,Bool.true_and]
 by_cases he:pp l s=l.length
 ·have he':(pp l s:Int)=l.length:=by omega
  have:ph l s=false:=by simp [ph,he]
  simp [he',this]
 ·have he' : ¬(pp l s:Int)=l.length:=by omega
  have h1:pp l s<l.length:=by omega
  have h1':(pp l s:Int)<l.length:=by omega
  by_cases hq:(l.getD (pp l s) pair0).1=s
  ·have hph:ph l s=true:=by simp only [ph,h1,hq,decide_true,Bool.and_self]
   simp only [he',decide_false,Bool.false_eq_true,if_false,a_le0,Int.natCast_nonneg,a_ltI,h1',decide_true,a_andB,Bool.and_self,if_true,a_atL,Int.toNat_natCast,a_eqS,hq,Bool.not_true,a_obind_some,a_sumE_inl,hph]
  ·have hph:ph l s=false:=by simp only [ph,h1,hq,decide_true,decide_false,Bool.and_false]
   simp only [he',decide_false,Bool.false_eq_true,if_false,a_le0,Int.natCast_nonneg,a_ltI,h1',decide_true,a_andB,Bool.and_self,if_true,a_atL,Int.toNat_natCast,a_eqS,hq,Bool.not_false,a_obind_some,a_sumE_inr,hph]
theorem zlp (k:Nat) (hk:100≤k) (l:List Pair) (s:List UInt8):zjj A k (l,(s,())) ()=some (pdrop l s,()):=by
 have hle:=pp_le l s
 simp only [zjj,za9 k (by omega:60≤k),a_obind_some,a_cndS,a_notB,pdrop,a_eqI,a_lenL]
 rcases Bool.eq_false_or_eq_true (pairsOk l) with hp|hp
 case inr=>simp [hp]
 have hl:=pairs_len hp
 have hb:(l.length:Int)<4294967296:=by omega
 simp only [hp,l4Place_eq k l s (by omega) (by omega),a_obind_some,Bool.not_true,Bool.false_eq_true,if_false,if_true]
 by_cases he:pp l s=l.length
 ·have he':(pp l s:Int)=l.length:=by omega
  have:ph l s=false:=by simp [ph,he]
  simp [he',this,hb]
 ·have he' : ¬(pp l s:Int)=l.length:=by omega
  have h1:pp l s<l.length:=by omega
  have h1':(pp l s:Int)<l.length:=by omega
  by_cases hq:(l.getD (pp l s) pair0).1=s
  ·have hph:ph l s=true:=by simp only [ph,h1,hq,decide_true,Bool.and_self]
   have w:A.wrapI .i64 ((pp l s:Int)+1)=((pp l s+1:Nat):Int):=by rw [zal (by omega) (by omega)];rfl
   have g1:(pp l s:Int)≤l.length:=by omega
   have g2:((pp l s+1:Nat):Int)≤l.length:=by omega
   have tl:(l.take (pp l s)).length=pp l s:=by rw [List.length_take];omega
   have dl:(l.drop (pp l s+1)).length=l.length-(pp l s+1):=List.length_drop
   have g3:(pp l s:Int)<4294967296:=by omega
   have g4:(pp l s:Int)+((l.length-(pp l s+1):Nat):Int)<4294967296:=by omega
   simp only [he',decide_false,Bool.false_eq_true,if_false,a_le0,Int.natCast_nonneg,a_ltI,h1',decide_true,a_andB,Bool.and_self,if_true,a_atL,Int.toNat_natCast,a_eqS,hq,Bool.not_true,a_obind_some,a_sumE_inl,hph,a_leI,g1,a_addI,w,g2,a_takeL,a_dropL,a_appL,List.nil_append,List.length_nil,Int.natCast_zero,Int.ofNat_zero,Int.zero_add,tl,dl,a_big,g3,g4]
  ·have hph:ph l s=false:=by simp only [ph,h1,hq,decide_true,decide_false,Bool.and_false]
   simp only [he',decide_false,Bool.false_eq_true,if_false,a_le0,Int.natCast_nonneg,a_ltI,h1',decide_true,a_andB,Bool.and_self,if_true,a_atL,Int.toNat_natCast,a_eqS,hq,Bool.not_false,a_obind_some,a_sumE_inr,hph,List.length_nil,Int.natCast_zero,Int.ofNat_zero,a_addI,Int.zero_add,a_big,hb,a_appL,List.nil_append]
theorem zhi (k:Nat) (hk:100≤k) (l:List Pair) (s:List UInt8) (v:Int):zdf A k (l,(s,(v,()))) ()=some (pput l s v,()):=by
 have hle:=pp_le l s
 simp only [zdf,za9 k (by omega:60≤k),zbv k (by omega:10≤k),zc9,a_obind_some,a_cndS,a_notB,pput]
 rcases Bool.eq_false_or_eq_true (pairsOk l) with hp|hp
 case inr=>simp [hp]
 rcases Bool.eq_false_or_eq_true (keyOk s) with hs|hs
 case inr=>simp [hp,hs]
 rcases Bool.eq_false_or_eq_true (valOk v) with hv|hv
 case inr=>
  have hv' : ¬(0≤v∧v≤999):=by simpa [valOk] using hv
  simp [hp,hs,hv,hv']
 have hv':0≤v∧v≤999:=by simpa [valOk] using hv
 have hl:=pairs_len hp
 have hb:(l.length:Int)<4294967296:=by omega
 simp only [hp,hs,hv,hv',and_self,decide_true,l4Place_eq k l s (by omega) (by omega),a_obind_some,a_sumE_inl,Bool.not_true,Bool.false_eq_true,if_false,if_true,Bool.and_self]
 by_cases he:pp l s<l.length∧(l.getD (pp l s) pair0).1=s
 ·obtain ⟨h1,hq⟩:=he
  have h1':(pp l s:Int)<l.length:=by omega
  have hph:ph l s=true:=by simp only [ph,h1,hq,decide_true,Bool.and_self]
  simp only [hph,a_ltI,a_lenL,h1',decide_true,if_true,a_le0,Int.natCast_nonneg,a_andB,Bool.and_self,a_atL,Int.toNat_natCast,a_eqS,hq,a_eqI,List.length_nil,Int.natCast_zero,Int.ofNat_zero,a_big,hb,a_setL,a_obind_some,a_sumE_inr]
  rw [List.set_eq_take_append_cons_drop,if_pos h1]
  simp
 ·have hph:ph l s=false:=by
    simp only [ph]
    by_cases h1:pp l s<l.length
    ·have : ¬(l.getD (pp l s) pair0).1=s:=fun hq=>he ⟨h1,hq⟩
     simp only [this,decide_false,Bool.and_false]
    ·simp [h1]
  have g1:(pp l s:Int)≤l.length:=by omega
  have tl:(l.take (pp l s)).length=pp l s:=by rw [List.length_take];omega
  have dl:(l.drop (pp l s)).length=l.length-pp l s:=List.length_drop
  have g3:(pp l s:Int)<4294967296:=by omega
  have g4:(pp l s:Int)+1<4294967296:=by omega
  have g5:(pp l s:Int)+1+((l.length-pp l s:Nat):Int)<4294967296:=by omega
  have fin:(if decide ((48:Int)≤(l.length:Int))=true then (if decide ((l.length:Int)<4294967296)=true then some ((l,(false,())),()) else none) else some ((l.take (pp l s)++[(s,(v,()))]++l.drop (pp l s),(true,())),()):Option ((List Pair×(Bool×Unit))×Unit))=some ((if ph l s=true then (l.take (pp l s)++[(s,(v,()))]++l.drop (pp l s+1),(true,())) else if 48≤l.length then (l,(false,())) else (l.take (pp l s)++[(s,(v,()))]++l.drop (pp l s),(true,()))),()):=by
   by_cases h48:48≤l.length
   ·have:(48:Int)≤l.length:=by omega
    simp [hph,h48,this,hb]
   ·have : ¬(48:Int)≤l.length:=by omega
    simp [hph,h48,this]
  by_cases h1:pp l s<l.length
  ·have h1':(pp l s:Int)<l.length:=by omega
   have hq : ¬(l.getD (pp l s) pair0).1=s:=fun hq=>he ⟨h1,hq⟩
   simp only [a_ltI,a_lenL,h1',decide_true,if_true,a_le0,Int.natCast_nonneg,a_andB,Bool.and_self,a_atL,Int.toNat_natCast,a_eqS,hq,decide_false,Bool.false_eq_true,if_false,a_obind_some,a_sumE_inl,a_leI,List.length_nil,Int.natCast_zero,Int.ofNat_zero,a_addI,Int.zero_add,a_big,a_appL,List.nil_append,g1,a_takeL,a_dropL,tl,dl,g3,List.length_cons,Nat.zero_add,Int.natCast_one,Int.ofNat_one,g4,List.length_append,Int.natCast_add,g5]
   exact fin
  ·have h1' : ¬(pp l s:Int)<l.length:=by omega
   simp only [a_ltI,a_lenL,h1',decide_true,if_true,a_le0,Int.natCast_nonneg,a_andB,Bool.and_self,a_atL,Int.toNat_natCast,a_eqS,decide_false,Bool.false_eq_true,if_false,a_obind_some,a_sumE_inl,a_leI,List.length_nil,Int.natCast_zero,Int.ofNat_zero,a_addI,Int.zero_add,a_big,a_appL,List.nil_append,g1,a_takeL,a_dropL,tl,dl,g3,List.length_cons,Nat.zero_add,Int.natCast_one,Int.ofNat_one,g4,List.length_append,Int.natCast_add,g5]
   exact fin
end
end Go.Den.T
