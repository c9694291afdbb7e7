/- The printed words, plainly, and what a reading comes to. -/
import Derived.Test.YtgababfidcmdcabGreatXDm4
import Derived.Test.YtgababfidcmdcabGreatXPm1

namespace Go.Den
class IsReal (A:Atoms):Prop where
 eq:A=real
instance isReal_real:IsReal real:=⟨rfl⟩
section
variable {A:Atoms} [R:IsReal A] {α β γ σ ρ:Type}
@[simp] theorem a_cndS (c:Bool) (x y:α):A.cndS c x y=if c=true then x else y:=by obtain rfl:=R.eq;cases c<;>rfl
@[simp] theorem a_obind_some (a:α) (f:α→Option β):A.obind (some a) f=f a:=by obtain rfl:=R.eq;rfl
@[simp] theorem a_obind_none (f:α→Option β):A.obind none f=none:=by obtain rfl:=R.eq;rfl
@[simp] theorem a_sumE_inl (a:α) (f:α→γ) (g:β→γ):A.sumE (.inl a) f g=f a:=by obtain rfl:=R.eq;rfl
@[simp] theorem a_sumE_inr (b:β) (f:α→γ) (g:β→γ):A.sumE (.inr b) f g=g b:=by obtain rfl:=R.eq;rfl
theorem a_iter (k:Nat) (f:σ→Option (σ ⊕ ρ)) (s:σ):A.iter k f s=iter k f s:=by obtain rfl:=R.eq;rfl
@[simp] theorem a_le0 (n:Int):A.le0 n=decide (0≤n):=by obtain rfl:=R.eq;rfl
@[simp] theorem a_leI (a b:Int):A.leI a b=decide (a≤b):=by obtain rfl:=R.eq;rfl
@[simp] theorem a_ltI (a b:Int):A.ltI a b=decide (a<b):=by obtain rfl:=R.eq;rfl
@[simp] theorem a_lenL (xs:List α):A.lenL xs=(xs.length:Int):=by obtain rfl:=R.eq;rfl
@[simp] theorem a_takeL (xs:List α) (n:Int):A.takeL xs n=xs.take n.toNat:=by obtain rfl:=R.eq;rfl
@[simp] theorem a_dropL (xs:List α) (n:Int):A.dropL xs n=xs.drop n.toNat:=by obtain rfl:=R.eq;rfl
@[simp] theorem a_atL (xs:List α) (n:Int) (d:α):A.atL xs n d=xs.getD n.toNat d:=by obtain rfl:=R.eq;rfl
@[simp] theorem a_setL (xs:List α) (n:Int) (x:α):A.setL xs n x=xs.set n.toNat x:=by obtain rfl:=R.eq;rfl
@[simp] theorem a_appL (xs ys:List α):A.appL xs ys=xs++ys:=by obtain rfl:=R.eq;rfl
@[simp] theorem a_repL (n:Int) (d:α):A.repL n d=List.replicate n.toNat d:=by obtain rfl:=R.eq;rfl
@[simp] theorem a_u8i (b:UInt8):A.u8i b=(b.toNat:Int):=by obtain rfl:=R.eq;rfl
@[simp] theorem a_eqI (a b:Int):A.eqI a b=decide (a=b):=by obtain rfl:=R.eq;rfl
@[simp] theorem a_eqB (a b:Bool):A.eqB a b=(a == b):=by obtain rfl:=R.eq;rfl
@[simp] theorem a_eqS (a b:List UInt8):A.eqS a b=decide (a=b):=by obtain rfl:=R.eq;rfl
@[simp] theorem a_lessS (a b:List UInt8):A.lessS a b=Op.bytesLess a b:=by obtain rfl:=R.eq;rfl
@[simp] theorem a_notB (b:Bool):A.notB b = !b:=by obtain rfl:=R.eq;rfl
@[simp] theorem a_andB (a b:Bool):A.andB a b=(a&&b):=by obtain rfl:=R.eq;rfl
@[simp] theorem a_orB (a b:Bool):A.orB a b=(a||b):=by obtain rfl:=R.eq;rfl
@[simp] theorem a_addI (a b:Int):A.addI a b=a+b:=by obtain rfl:=R.eq;rfl
@[simp] theorem a_subI (a b:Int):A.subI a b=a-b:=by obtain rfl:=R.eq;rfl
@[simp] theorem a_mulI (a b:Int):A.mulI a b=a*b:=by obtain rfl:=R.eq;rfl
@[simp] theorem a_quoI (a b:Int):A.quoI a b=a.tdiv b:=by obtain rfl:=R.eq;rfl
@[simp] theorem a_remI (a b:Int):A.remI a b=a.tmod b:=by obtain rfl:=R.eq;rfl
@[simp] theorem a_shrI (a b:Int):A.shrI a b=a.fdiv (2 ^ b.toNat):=by obtain rfl:=R.eq;rfl
@[simp] theorem a_minI (a b:Int):A.minI a b=if b<a then b else a:=by obtain rfl:=R.eq;rfl
@[simp] theorem a_maxI (a b:Int):A.maxI a b=if a<b then b else a:=by obtain rfl:=R.eq;rfl
theorem a_wrapI (k:IntKind) (n:Int):A.wrapI k n=k.wrap n:=by obtain rfl:=R.eq;rfl
theorem a_xorI (k:IntKind) (a b:Int):A.xorI k a b=k.wrap (BitVec.ofInt k.bits a ^^^ BitVec.ofInt k.bits b).toNat:=by obtain rfl:=R.eq;rfl
@[simp] theorem a_byteList (xs:List Int):A.byteList xs=xs.map fun n=>UInt8.ofNat n.toNat:=by obtain rfl:=R.eq;rfl
@[simp] theorem a_intList (s:List UInt8):A.intList s=s.map fun b=>(b.toNat:Int):=by obtain rfl:=R.eq;rfl
@[simp] theorem a_big:A.big=4294967296:=by obtain rfl:=R.eq;rfl
theorem wrap_i64 {n:Int} (h1 : -9223372036854775808≤n) (h2:n≤9223372036854775807):IntKind.i64.wrap n=n:=by
 have e:IntKind.i64.wrap n=if (decide (n % 18446744073709551616 ≥ 9223372036854775808))=true then n % 18446744073709551616-18446744073709551616 else n % 18446744073709551616:=rfl
 rw [e]
 by_cases hn:0≤n
 ·have:n % 18446744073709551616=n:=Int.emod_eq_of_lt hn (by omega)
  rw [this,if_neg (by simp;omega)]
 ·have:n % 18446744073709551616=n+18446744073709551616:=by omega
  rw [this,if_pos (by simp;omega)];omega
theorem zal {n:Int} (h1 : -9223372036854775808≤n) (h2:n≤9223372036854775807):A.wrapI .i64 n=n:=by rw [a_wrapI,wrap_i64 h1 h2]
/-! ### what a reading comes to -/
def Ok (x:Option α) (Q:α→Prop):Prop:=∃r,x=some r∧Q r
theorem Ok.mono {x:Option α} {Q Q':α→Prop} (h:Ok x Q) (k : ∀r,Q r→Q' r):Ok x Q':=by obtain ⟨r,e,q⟩:=h;exact ⟨r,e,k r q⟩
theorem zac {r:α} {Q:α→Prop} : Ok (some r) Q↔Q r:=⟨fun ⟨_,e,q⟩=>(by cases e;exact q),fun q=>⟨r,rfl,q⟩⟩
theorem ok_ite {c:Prop} [Decidable c] {x y:Option α} {Q:α→Prop} : Ok (if c then x else y) Q↔(c→Ok x Q)∧(¬c→Ok y Q):=by
 by_cases h:c<;>simp [h]
theorem zad {c:Bool} {x y:Option α} {Q:α→Prop} : Ok (A.cndS c x y) Q↔(c=true→Ok x Q)∧(c=false→Ok y Q):=by
 rw [a_cndS];cases c<;>simp
theorem ok_obind {x:Option α} {f:α→Option β} {Q:β→Prop} : Ok (A.obind x f) Q↔Ok x (fun r=>Ok (f r) Q):=by
 obtain rfl:=R.eq
 cases x with
 | none=>exact ⟨fun ⟨_,e,_⟩=>(by cases e),fun ⟨_,e,_⟩=>(by cases e)⟩
 | some a=>exact ⟨fun h=>⟨a,rfl,h⟩,fun ⟨r,e,h⟩=>(by cases e;exact h)⟩
theorem ok_sumE {e:α ⊕ β} {f:α→Option γ} {g:β→Option γ} {Q:γ→Prop} : Ok (A.sumE e f g) Q↔(∀a,e = .inl a→Ok (f a) Q)∧(∀b,e = .inr b→Ok (g b) Q):=by
 obtain rfl:=R.eq
 cases e with
 | inl a=>exact ⟨fun h=>⟨fun b e=>(by cases e;exact h),fun b e=>(by cases e)⟩,fun h=>h.1 a rfl⟩
 | inr a=>exact ⟨fun h=>⟨fun b e=>(by cases e),fun b e=>(by cases e;exact h)⟩,fun h=>h.2 a rfl⟩
theorem ok_eq {x:Option α} {v:α} : Ok x (· = v)↔x=some v:=⟨fun ⟨r,e,q⟩=>(by rw [e,q]),fun h=>⟨v,h,rfl⟩⟩
theorem Ok.bind {x:Option α} {f:α→Option β} {P:α→Prop} {Q:β→Prop} (h:Ok x P) (k : ∀r,P r→Ok (f r) Q):Ok (A.obind x f) Q:=ok_obind.2 (h.mono k)
/-! ### loops -/
theorem zbt {f:σ→Option (σ ⊕ ρ)} (I:Nat→σ→Prop) (Q:ρ→Prop)
 (h : ∀n s,I n s→Ok (f s) (fun r=>(∀s',r = .inl s'→∃m,m<n∧I m s')∧∀e,r = .inr e→Q e)) :
 ∀ {k n:Nat} {s:σ},n<k→I n s→Ok (A.iter k f s) Q:=by
 intro k
 rw [show (A.iter k f:σ→Option ρ)=iter k f from funext (a_iter k f)]
 induction k with
 | zero=>intro n s hn;omega
 | succ k ih=>
   intro n s hn hI
   obtain ⟨r,h1,h2,h3⟩:=h n s hI
   cases r with
   | inl s'=>
     obtain ⟨m,h4,h5⟩:=h2 s' rfl
     obtain ⟨r,h6,h7⟩:=ih (by omega) h5
     exact ⟨r,(by simp only [iter,h1];exact h6),h7⟩
   | inr r=>exact ⟨r,(by simp only [iter,h1]),h3 r rfl⟩
theorem iter_walk {f:σ→Option (σ ⊕ ρ)} (St:Nat→σ) (n:Nat) (stop:Nat→Option ρ) (d:ρ)
 (hs : ∀i,i<n→f (St i)=some (match stop i with|none=>.inl (St (i+1))|some e=>.inr e))
 (hd:f (St n)=some (.inr d)) : ∀ {k:Nat},n<k→A.iter k f (St 0)=some (((List.range n).findSome? stop).getD d):=by
 have main : ∀m i k,n-i=m→i≤n→m<k→iter k f (St i)=some (((List.range' i m).findSome? stop).getD d):=by
  intro m
  induction m with
  | zero=>
    intro i k hm hi hk
    obtain ⟨k,rfl⟩ : ∃q,k=q+1:=⟨k-1,by omega⟩
    have:i=n:=by omega
    subst this
    simp [iter,hd]
  | succ m ih=>
    intro i k hm hi hk
    obtain ⟨k,rfl⟩ : ∃q,k=q+1:=⟨k-1,by omega⟩
    have e:=hs i (by omega)
    simp only [iter,e,List.range'_succ,List.findSome?_cons]
    cases h:stop i with
    | none=>exact ih (i+1) k (by omega) (by omega) (by omega)
    | some r=>rfl
 intro k hk
 rw [a_iter,main n 0 k (by omega) (by omega) hk,List.range_eq_range']
theorem iter_for {f:σ→Option (σ ⊕ ρ)} (St:Nat→σ) (n:Nat) (d:ρ) (hs : ∀i,i<n→f (St i)=some (.inl (St (i+1)))) (hd:f (St n)=some (.inr d)) {k:Nat} (hk:n<k) :
 A.iter k f (St 0)=some d:=by
 rw [iter_walk St n (fun _=>none) d hs hd hk]
 have : ∀l:List Nat,l.findSome? (fun _=>(none:Option ρ))=none:=by intro l;induction l<;>simp_all
 rw [this];rfl
theorem zdb {f:σ→Option (σ ⊕ ρ)} (St:Nat→σ) (n:Nat) (p:Nat→Bool) (e d:ρ) (hs : ∀i,i<n→f (St i)=some (if p i=true then .inl (St (i+1)) else .inr e)) (hd:f (St n)=some (.inr d)) {k:Nat} (hk:n<k) :
 A.iter k f (St 0)=some (if (List.range n).all p=true then d else e):=by
 rw [iter_walk St n (fun i=>if p i=true then none else some e) d (fun i hi=>by rw [hs i hi];cases p i<;>rfl) hd hk]
 congr 1
 induction (List.range n) with
 | nil=>rfl
 | cons x xs ih=>
   simp only [List.findSome?_cons,List.all_cons]
   by_cases h:p x=true
   ·simp only [h,if_true,Bool.true_and];exact ih
   ·have h':p x=false:=by simpa using h
    simp [h']
theorem range_find {n:Nat} {f:Nat→Option α} : ((List.range n).findSome? f=none∧∀i,i<n→f i=none)∨∃i x,i<n∧f i=some x∧(∀j,j<i→f j=none)∧(List.range n).findSome? f=some x:=by
 induction n with
 | zero=>exact .inl ⟨rfl,fun i hi=>by omega⟩
 | succ n ih=>
   rw [List.range_succ,List.findSome?_append]
   rcases ih with ⟨e,h⟩|⟨i,x,h1,h2,h3,e⟩
   ·rw [e]
    cases hf:f n with
    | none=>exact .inl ⟨by simp [hf],fun i hi=>by by_cases hin:i=n;· rw [hin];exact hf
                                                  ·exact h i (by omega)⟩
    | some x=>exact .inr ⟨n,x,by omega,hf,h,by simp [hf]⟩
   ·exact .inr ⟨i,x,by omega,h2,h3,by rw [e];rfl⟩
theorem findSome_map (l:List Nat) (p:Nat→Prop) [DecidablePred p] (f:Nat→α) (g:α→β):l.findSome? (fun i=>if p i then some (g (f i)) else none)=(l.findSome? fun i=>if p i then some (f i) else none).map g:=by
 induction l with
 | nil=>rfl
 | cons x l ih=>
   simp only [List.findSome?_cons]
   by_cases h:p x
   ·simp only [if_pos h];rfl
   ·simp only [if_neg h];exact ih
theorem zcv {p:Nat→Bool} {n:Nat} : (List.range n).all p=true↔∀i,i<n→p i=true:=by simp [List.all_eq_true]
theorem zar {xs:List α} {n:Nat} {d:α} (h:n<xs.length):xs.getD n d=xs[n]:=by simp [h]
theorem zht {xs:List α} {q:α→Bool} {d:α} : (List.range xs.length).all (fun i=>q (xs.getD i d))=xs.all q:=by
 rw [Bool.eq_iff_iff,zcv,List.all_eq_true]
 constructor
 ·intro h x hx
  obtain ⟨i,hi,rfl⟩:=List.mem_iff_getElem.1 hx
  have:=h i hi
  rwa [zar hi] at this
 ·intro h i hi
  rw [zar hi];exact h _ (List.getElem_mem hi)
end
end Go.Den
namespace Go.Den.T
set_option linter.unusedVariables false
set_option linter.unusedSimpArgs false
variable {A:Atoms} [IsReal A]
abbrev Cfg:=Int×(List Int×(Bool×Unit))
theorem zhq (k:Nat) (v:Int):zd6 A k (v,()) ()=some ((decide (0≤v∧v≤4),()),()):=by
 simp only [zd6,a_cndS,a_leI,a_ltI,if_true,decide_eq_true_eq]
 by_cases h:0≤v<;>simp [h];omega
theorem zc9 (k:Nat) (v a b:Int):zam A k (v,(a,(b,()))) ()=some ((decide (a≤v∧v≤b),()),()):=by
 simp only [zam,a_cndS,a_leI,if_true,decide_eq_true_eq]
 by_cases h:a≤v<;>simp [h]
def idx (xs:List Int) (v:Int):Int:=((List.range xs.length).findSome? fun i=>if v=xs.getD i 0 then some (i:Int) else none).getD (-1)
theorem idx_cases (xs:List Int) (v:Int):(idx xs v = -1∧v∉xs)∨∃i:Nat,idx xs v=i∧i<xs.length∧xs.getD i 0=v∧∀j,j<i→xs.getD j 0≠v:=by
 rcases range_find (n:=xs.length) (f:=fun i=>if v=xs.getD i 0 then some (i:Int) else none) with ⟨e,h⟩|⟨i,x,h1,h2,h3,e⟩
 ·refine .inl ⟨by rw [idx,e];rfl,fun hm=>?_⟩
  obtain ⟨i,hi,rfl⟩:=List.mem_iff_getElem.1 hm
  have:=h i hi
  rw [zar hi,if_pos rfl] at this;cases this
 ·by_cases hv:v=xs.getD i 0
  ·rw [if_pos hv] at h2;cases h2
   exact .inr ⟨i,by rw [idx,e];rfl,h1,hv.symm,fun j hj hjv=>by have:=h3 j hj;rw [if_pos hjv.symm] at this;cases this⟩
  ·rw [if_neg hv] at h2;cases h2
theorem idx_mem {xs:List Int} {v:Int} : 0≤idx xs v↔v∈xs:=by
 rcases idx_cases xs v with ⟨e,h⟩|⟨i,e,h1,h2,_⟩
 ·simp [e,h]
 ·rw [e];simp only [Int.natCast_nonneg,true_iff];rw [←h2,zar h1];exact List.getElem_mem h1
theorem slices_Index_eq (k:Nat) (xs:List Int) (v:Int) (hk:xs.length<k) (hl:xs.length≤1000000000000):zgv A k (xs,(v,())) ()=some ((idx xs v,()),()):=by
 have h:=iter_walk (A:=A) (f:=zel A k) (fun i=>(xs,(v,((xs.length:Int),((i:Int),()))))) xs.length (fun i=>if v=xs.getD i 0 then some (.inr (((i:Int),()),())) else none) (.inl ())
  (fun i hi=>by
    simp (disch:=omega) [zel,hi,zal]
    by_cases hv:v=xs[i]<;>simp [hv])
  (by simp [zel]) hk
 simp only [zgv,a_lenL]
 rw [show ((0:Int))=((0:Nat):Int) from rfl,h,idx]
 rw [findSome_map (List.range xs.length) (fun i=>v=xs.getD i 0) (fun i=>(i:Int)) (fun i=>Sum.inr (α:=Unit) ((i,()),()))]
 cases (List.range xs.length).findSome? fun i=>if v=xs.getD i 0 then some (i:Int) else none<;>simp
theorem slices_Contains_eq (k:Nat) (xs:List Int) (v:Int) (hk:xs.length<k) (hl:xs.length≤1000000000000):zeo A k (xs,(v,())) ()=some ((decide (v∈xs),()),()):=by
 simp [zeo,slices_Index_eq k xs v hk hl,idx_mem]
theorem zkq (k:Nat) (c:Cfg) (v:Int) (hk:c.2.1.length<k) (hl:c.2.1.length≤1000000000000):zb5 A k (c,(v,())) ()=some ((idx c.2.1 v,()),()):=by
 obtain ⟨ep,xs,fr,_⟩:=c
 simp only at hk hl
 have h:=iter_walk (A:=A) (f:=zha A k) (fun i=>(v,((i:Int),((ep,(xs,(fr,()))),())))) xs.length (fun i=>if v=xs.getD i 0 then some (.inr (((i:Int),()),())) else none) (.inl ())
  (fun i hi=>by
    simp (disch:=omega) [zha,hi,zal]
    by_cases hv:v=xs[i]
    ·simp [hv]
    ·simp [hv,Ne.symm hv])
  (by simp [zha]) hk
 simp only [zb5]
 rw [show ((0:Int))=((0:Nat):Int) from rfl,h,idx]
 rw [findSome_map (List.range xs.length) (fun i=>v=xs.getD i 0) (fun i=>(i:Int)) (fun i=>Sum.inr (α:=Unit) ((i,()),()))]
 cases (List.range xs.length).findSome? fun i=>if v=xs.getD i 0 then some (i:Int) else none<;>simp
/-! ### valid configurations -/
def membersOk (xs:List Int):Bool:=(List.range xs.length).all fun i=>decide (0≤xs.getD i 0∧xs.getD i 0≤4) && !decide (xs.getD i 0∈xs.take i)
def cfgOk (c:Cfg):Bool:=decide (1≤c.1∧c.1≤60)&&(decide (1≤c.2.1.length∧c.2.1.length≤4)&&(!(c.2.2.1&&decide (c.2.1.length<2))&&membersOk c.2.1))
theorem zbj (k:Nat) (hk:10≤k) (c:Cfg):zbz A k (c,()) ()=some ((cfgOk c,()),()):=by
 obtain ⟨ep,xs,fr,_⟩:=c
 have h:xs.length≤4→A.iter k (zcp A k) (xs,((xs.length:Int),(((0:Nat):Int),((ep,(xs,(fr,()))),()))))=some (if membersOk xs=true then .inl () else .inr ((false,()),())):=fun hl=>
  zdb (A:=A) (f:=zcp A k) (fun i=>(xs,((xs.length:Int),((i:Int),((ep,(xs,(fr,()))),()))))) xs.length (fun i=>decide (0≤xs.getD i 0∧xs.getD i 0≤4) && !decide (xs.getD i 0∈xs.take i)) (.inr ((false,()),())) (.inl ())
  (fun i hi=>by
    have hle:(i:Int)≤(xs.length:Int):=by omega
    simp (disch:=omega) [zcp,hi,hle,zal,zhq]
    rw [slices_Contains_eq k (xs.take i) xs[i] (by simp;omega) (by simp;omega)]
    by_cases h1:0≤xs[i]∧xs[i]≤4
    ·by_cases h2:xs[i]∈xs.take i<;>simp [h1,h2]
    ·simp [h1])
  (by simp [zcp]) (by omega)
 have h':=fun hl=>h hl
 simp only [Int.natCast_zero,Int.ofNat_zero] at h'
 simp only [zbz,cfgOk,a_cndS,a_ltI,a_lenL,decide_eq_true_eq,Bool.false_eq_true,if_true,if_false]
 by_cases h1:ep<1
 ·simp [h1];omega
 by_cases h2:60<ep
 ·simp [h1,h2];omega
 by_cases h3:(xs.length:Int)<1
 ·simp [h1,h2,h3];omega
 by_cases h4:(4:Int)<(xs.length:Int)
 ·simp [h1,h2,h3,h4];omega
 have e1:(1≤ep∧ep≤60):=by omega
 have e2:(1≤xs.length∧xs.length≤4):=by omega
 by_cases h5:fr=true
 ·by_cases h6:(xs.length:Int)<2
  ·have:xs.length<2:=by omega
   simp [h1,h2,h3,h4,h5,h6,this]
  ·have : ¬xs.length<2:=by omega
   subst h5
   simp [h1,h2,h3,h4,h6,this,e1,e2]
   rw [h' (by omega)]
   cases membersOk xs<;>simp
 ·have h5:fr=false:=by simpa using h5
  subst h5
  simp [h1,h2,h3,h4,e1,e2]
  rw [h' (by omega)]
  cases membersOk xs<;>simp
theorem not_mem_take {xs:List Int} {i:Nat} (hi:i<xs.length) {v:Int} : (List.range i).all (fun j=>!decide (xs.getD j 0=v)) = !decide (v∈xs.take i):=by
 rw [Bool.eq_iff_iff,zcv]
 simp only [Bool.not_eq_true',decide_eq_false_iff_not]
 constructor
 ·intro h hm
  obtain ⟨j,hj,he⟩:=List.mem_iff_getElem.1 hm
  simp at hj he
  exact h j (by omega) (by rw [zar (by omega)];exact he)
 ·intro h j hj he
  refine h (List.mem_iff_getElem.2 ⟨j,by simp;omega,?_⟩)
  rw [zar (by omega)] at he
  simpa using he
theorem zav (k:Nat) (hk:10≤k) (c:Cfg):zas A k (c,()) ()=some ((cfgOk c,()),()):=by
 obtain ⟨ep,xs,fr,_⟩:=c
 have h0:xs.length≤4→∀i,i<xs.length→A.iter k (zcs A k) ((i:Int),(((0:Nat):Int),((ep,(xs,(fr,()))),())))=some (if (!decide (xs.getD i 0∈xs.take i))=true then .inl ((i:Int),((ep,(xs,(fr,()))),())) else .inr (.inr (.inr ((false,()),())))):=fun hl i hi=>by
  rw [←not_mem_take hi]
  exact zdb (A:=A) (f:=zcs A k) (fun j=>((i:Int),((j:Int),((ep,(xs,(fr,()))),())))) i (fun j=>!decide (xs.getD j 0=xs.getD i 0)) (.inr (.inr (.inr ((false,()),())))) (.inl ((i:Int),((ep,(xs,(fr,()))),())))
   (fun j hj=>by
     have h1:j<xs.length:=by omega
     simp (disch:=omega) [zcs,hi,hj,h1,zal]
     by_cases hv:xs[j]=xs[i]<;>simp [hv])
   (by simp [zcs]) (by omega)
 have h:xs.length≤4→A.iter k (zcu A k) (((0:Nat):Int),((ep,(xs,(fr,()))),()))=some (if membersOk xs=true then .inl () else .inr ((false,()),())):=fun hl=>
  zdb (A:=A) (f:=zcu A k) (fun i=>((i:Int),((ep,(xs,(fr,()))),()))) xs.length (fun i=>decide (0≤xs.getD i 0∧xs.getD i 0≤4) && !decide (xs.getD i 0∈xs.take i)) (.inr ((false,()),())) (.inl ())
  (fun i hi=>by
    have h0:=h0 hl i hi
    simp only [Int.ofNat_zero,Int.natCast_zero] at h0
    simp (disch:=omega) [zcu,hi,zal,zc9]
    rw [h0]
    by_cases h1:0≤xs[i]∧xs[i]≤4
    ·by_cases h2:xs[i]∈xs.take i<;>simp (disch:=omega) [h1,h2,hi,zal]
    ·simp [h1])
  (by simp [zcu]) (by omega)
 have h':=fun hl=>h hl
 simp only [Int.natCast_zero,Int.ofNat_zero] at h'
 simp only [zas,cfgOk,zc9,a_obind_some,a_cndS,a_ltI,a_lenL,a_notB,decide_eq_true_eq,Bool.false_eq_true,if_true,if_false,Bool.not_eq_true',decide_eq_false_iff_not]
 by_cases h1:1≤ep∧ep≤60
 case neg=>simp [h1]
 by_cases h2:1≤(xs.length:Int)∧(xs.length:Int)≤4
 case neg=>simp [h1,h2];omega
 have e2:(1≤xs.length∧xs.length≤4):=by omega
 by_cases h5:fr=true
 ·by_cases h6:(xs.length:Int)<2
  ·have:xs.length<2:=by omega
   simp [h1,h2,h5,h6,this]
  ·have : ¬xs.length<2:=by omega
   subst h5
   simp [h1,h2,h6,this,e2]
   rw [h' (by omega)]
   cases membersOk xs<;>simp
 ·have h5:fr=false:=by simpa using h5
  subst h5
  simp [h1,h2,e2]
  rw [h' (by omega)]
  cases membersOk xs<;>simp
/-! ### the other functions -/
def zeroC:Cfg:=(0,([],(false,())))
theorem zay {c:Cfg} (h:cfgOk c=true):1≤c.1∧c.1≤60∧1≤c.2.1.length∧c.2.1.length≤4∧(c.2.2.1=true→2≤c.2.1.length):=by
 simp only [cfgOk,Bool.and_eq_true,decide_eq_true_eq,Bool.not_eq_true',Bool.and_eq_false_iff,decide_eq_false_iff_not] at h
 refine ⟨h.1.1,h.1.2,h.2.1.1,h.2.1.2,fun hf=>?_⟩
 rcases h.2.2.1 with h|h
 ·rw [h] at hf;cases hf
 ·omega
theorem zfh (k:Nat) (c:Cfg) (h:c.2.1.length≤1000000000):za7 A k (c,()) ()=some ((c,()),()):=by
 have:(c.2.1.length:Int)<4294967296:=by omega
 simp [za7,this]
def complete (c:Cfg):List Int:=if c.2.2.1=true then c.2.1.take (c.2.1.length-1) else c.2.1
theorem zfw (k:Nat) (hk:10≤k) (c:Cfg):zd2 A k (c,()) ()=some (((if cfgOk c=true then complete c else []),()),()):=by
 simp only [zd2,zav k hk,a_obind_some,a_cndS,a_notB]
 cases h:cfgOk c with
 | false=>simp
 | true=>
   have hl:=zay h
   have h1:(c.2.1.length:Int)<4294967296:=by omega
   have e:((c.2.1.length:Int)-1).toNat=c.2.1.length-1:=by omega
   by_cases hf:c.2.2.1=true
   ·have h2:0≤(c.2.1.length:Int)-1:=by omega
    simp (disch:=omega) [h1,h2,hf,zal,complete,e]
    omega
   ·simp [h1,hf,complete]
theorem zg5 (k:Nat) (hk:10≤k) (c:Cfg):zfg A k (c,()) ()=some (((if cfgOk c=true then (c.1,(c.2.1,(false,()))) else zeroC),()),()):=by
 simp only [zfg,zav k hk,a_obind_some,a_cndS,a_notB]
 cases h:cfgOk c with
 | false=>simp [zeroC]
 | true=>
   have hl:=zay h
   simp [zfh k c (by omega)]
def mayAdd (c:Cfg) (n:Int):Bool:=!c.2.2.1&&(!decide (n∈c.2.1)&&(!decide (c.2.1.length=4) && !decide (c.1=60)))
def withMember (c:Cfg) (n:Int):Cfg×(Bool×Unit):=
 if (cfgOk c&&decide (0≤n∧n≤4))=true then if mayAdd c n=true then ((c.1+1,(c.2.1++[n],(true,()))),(true,())) else (c,(false,())) else (zeroC,(false,()))
theorem zg1 (k:Nat) (hk:10≤k) (c:Cfg) (n:Int):zfi A k (c,(n,())) ()=some (withMember c n,()):=by
 simp only [zfi,zav k hk,zc9,a_obind_some,a_cndS,a_notB,withMember]
 cases h:cfgOk c with
 | false=>simp [zeroC]
 | true=>
   have hl:=zay h
   by_cases hn:0≤n∧n≤4
   case neg=>simp [hn,zeroC]
   simp only [hn,and_self,decide_true,Bool.not_true,Bool.false_eq_true,if_false,if_true,a_sumE_inl,zfh k c (by omega),a_obind_some,Bool.and_self,mayAdd]
   by_cases hf:c.2.2.1=true
   ·simp [hf]
   have hf':c.2.2.1=false:=by simpa using hf
   simp only [hf',zkq k c n (by omega) (by omega),a_obind_some,a_leI,idx_mem,Bool.false_eq_true,if_false,decide_eq_true_eq]
   by_cases hm:n∈c.2.1
   ·simp [hm]
   by_cases h4:(c.2.1.length:Int)=4
   ·have h4':c.2.1.length=4:=by omega
    simp [hm,h4,h4']
   have h4' : ¬c.2.1.length=4:=by omega
   by_cases h60:c.1=60
   ·simp [hm,h4,h4',h60]
   have h1:(c.2.1.length:Int)+1<4294967296:=by omega
   simp (disch:=omega) [hm,h4,h4',h60,h1,zal]
def without (c:Cfg) (i:Nat):Cfg:=(c.1+1,(c.2.1.take i++c.2.1.drop (i+1),((c.2.2.1 && !decide (i=c.2.1.length-1)),())))
def mayDrop (c:Cfg) (n:Int):Bool:=decide (n∈c.2.1)&&(!decide (c.1=60) && !(decide ((complete c).length=1)&&(!c.2.2.1 || !decide (idx c.2.1 n=(c.2.1.length:Int)-1))))
def withoutMember (c:Cfg) (n:Int):Cfg×(Bool×Unit):=
 if cfgOk c=true then if mayDrop c n=true then (without c (idx c.2.1 n).toNat,(true,())) else (c,(false,())) else (zeroC,(false,()))
theorem zef (k:Nat) (hk:10≤k) (c:Cfg) (n:Int):zc4 A k (c,(n,())) ()=some (withoutMember c n,()):=by
 simp only [zc4,zav k hk,a_obind_some,a_cndS,a_notB,withoutMember]
 cases h:cfgOk c with
 | false=>simp [zeroC]
 | true=>
   have hl:=zay h
   simp only [zkq k c n (by omega) (by omega),zfw k hk,zfh k c (by omega),h,a_obind_some,if_true,Bool.not_true,Bool.false_eq_true,if_false,mayDrop]
   rcases idx_cases c.2.1 n with ⟨e,hm⟩|⟨i,e,hi,hv,_⟩
   ·simp [e,hm]
   have hm:n∈c.2.1:=idx_mem.1 (by rw [e];omega)
   have h0 : ¬((i:Int)<0):=by omega
   by_cases h60:c.1=60
   ·simp [e,h0,h60]
   have e1:((i:Int)+1).toNat=i+1:=by omega
   have q1:(i:Int)≤(c.2.1.length:Int):=by omega
   have q2:(i:Int)+1≤(c.2.1.length:Int):=by omega
   have q3:(((c.2.1.take i).length:Nat):Int)<4294967296:=by simp;omega
   have q4:((min i c.2.1.length:Nat):Int)+((c.2.1.length-(i+1):Nat):Int)<4294967296:=by omega
   have q5:((i:Int)=(c.2.1.length:Int)-1)↔i=c.2.1.length-1:=by omega
   have q6:((min i c.2.1.length:Nat):Int)<4294967296:=by omega
   have q7:(0:Int)≤(i:Int)+1:=by omega
   have q5':(A.wrapI .i64 ((c.2.1.length:Int)-1))=(c.2.1.length:Int)-1:=zal (by omega) (by omega)
   have w1:A.wrapI .i64 (c.1+1)=c.1+1:=zal (by omega) (by omega)
   have w2:A.wrapI .i64 ((i:Int)+1)=(i:Int)+1:=zal (by omega) (by omega)
   have hx:decide (((i:Int)=(c.2.1.length:Int)-1))=decide (i=c.2.1.length-1):=decide_eq_decide.2 q5
   simp only [a_eqI,a_ltI,a_lenL,e,h0,h60,a_subI,q5',hx,decide_false,Bool.false_eq_true,if_false,if_true,without,Int.toNat_natCast,hm,decide_true,Bool.true_and,Bool.not_false]
   have hi':(i:Int)<c.2.1.length:=by omega
   generalize decide (i=c.2.1.length-1)=b
   by_cases hc:(complete c).length=1
   ·have hc':((complete c).length:Int)=1:=by omega
    by_cases hf:c.2.2.1=true
    ·cases b<;>simp [e1,q1,q2,q3,q4,q5,q6,q7,hc,hc',hf,w1,w2]
    ·have hf:c.2.2.1=false:=by simpa using hf
     cases b<;>simp [e1,q1,q2,q3,q4,q5,q6,q7,hc,hc',hf,w1,w2]
   ·have hc' : ¬((complete c).length:Int)=1:=by omega
    by_cases hf:c.2.2.1=true
    ·cases b<;>simp [e1,q1,q2,q3,q4,q5,q6,q7,hc,hc',hf,w1,w2]
    ·have hf:c.2.2.1=false:=by simpa using hf
     cases b<;>simp [e1,q1,q2,q3,q4,q5,q6,q7,hc,hc',hf,w1,w2]
end Go.Den.T
namespace Go.Den.T
set_option linter.unusedVariables false
set_option linter.unusedSimpArgs false
variable {A:Atoms} [IsReal A]
abbrev Rd:=List Int×(Int×Unit)
def RdOk (N:Int) (r:Rd):Prop:=(∀x∈r.1,0≤x∧x≤255)∧r.1.length≤2000∧0≤r.2.1∧r.2.1≤N
theorem RdOk.le {N M:Int} {r:Rd} (h:RdOk N r) (hm:N≤M):RdOk M r:=⟨h.1,h.2.1,h.2.2.1,Int.le_trans h.2.2.2 hm⟩
theorem xor_bound {a b:Int} (ha:0≤a) (ha':a<4611686018427387904) (hb:0≤b) (hb':b<4611686018427387904):0≤A.xorI .i64 a b∧A.xorI .i64 a b<4611686018427387904:=by
 have e:A.xorI .i64 a b=IntKind.i64.wrap ((BitVec.ofInt 64 a ^^^ BitVec.ofInt 64 b).toNat:Int):=a_xorI _ _ _
 have h1:(BitVec.ofInt 64 a).toNat=a.toNat:=by rw [BitVec.toNat_ofInt];omega
 have h2:(BitVec.ofInt 64 b).toNat=b.toNat:=by rw [BitVec.toNat_ofInt];omega
 have h3:(BitVec.ofInt 64 a ^^^ BitVec.ofInt 64 b).toNat<2 ^ 62:=by
  rw [BitVec.toNat_xor,h1,h2]
  exact Nat.xor_lt_two_pow (by omega) (by omega)
 rw [e,wrap_i64 (by omega) (by omega)]
 omega
def PickOk (N n:Int) (q:(Int×Unit)×Rd):Prop:=RdOk (N+1) q.2∧0≤q.1.1∧q.1.1≤1000000000∧(1≤n→q.1.1<n)∧(n<1→q.1.1=0)
theorem zaf (k:Nat) (n N:Int) (r:Rd) (h:RdOk N r) (hp:N≤1000000000) (hn0:n≤1000000000):Ok (zab A k ((),(n,())) r) (PickOk N n):=by
 obtain ⟨rb,rp,_⟩:=r
 obtain ⟨hb,h4,h2,h3⟩:=h
 simp only at hb h2 h3 h4
 have w1:A.wrapI .i64 (rp+1)=rp+1:=zal (by omega) (by omega)
 have w2:A.wrapI .i64 (rp+1-1)=rp:=by rw [show rp+1-1=rp by omega];exact zal (by omega) (by omega)
 have hq:RdOk (N+1) (rb,(rp+1,())):=⟨hb,h4,by show 0≤rp+1;omega,by show rp+1≤N+1;omega⟩
 by_cases hn:n<1
 ·exact ⟨((0,()),(rb,(rp+1,()))),by simp [zab,hn,w1],hq,by simp,by simp,fun h=>by omega,fun _=>rfl⟩
 by_cases hl:(rb.length:Int)=0
 ·have hl':rb=[]:=List.eq_nil_of_length_eq_zero (by omega)
  subst hl'
  exact ⟨((0,()),([],(rp+1,()))),by simp [zab,hn,w1],hq,by simp,by simp,fun h=>by show (0:Int)<n;omega,fun _=>rfl⟩
 have hn0 : ¬n=0:=by omega
 by_cases hlt:rp<(rb.length:Int)
 ·have hx:=hb (rb.getD rp.toNat 0) (by
    have:rp.toNat<rb.length:=by omega
    rw [zar this];exact List.getElem_mem this)
  have w3:A.wrapI .i64 (rb.getD rp.toNat 0)=rb.getD rp.toNat 0:=zal (by omega) (by omega)
  refine ⟨(((rb.getD rp.toNat 0).tmod n,()),(rb,(rp+1,()))),?_,hq,?_,?_,fun _=>?_,fun h=>by omega⟩
  ·simp only [zab,a_cndS,a_ltI,a_eqI,a_lenL,a_andB,a_le0,a_notB,a_atL,a_remI,a_subI,a_addI,a_obind_some,a_sumE_inl,hn,hl,hn0,hlt,h2,w1,w2,w3,decide_true,decide_false,Bool.false_eq_true,Bool.not_false,Bool.and_self,if_true,if_false]
  ·exact Int.tmod_nonneg _ hx.1
  ·show (rb.getD rp.toNat 0).tmod n≤1000000000
   have:=Int.tmod_lt_of_pos (rb.getD rp.toNat 0) (b:=n) (by omega);omega
  ·exact Int.tmod_lt_of_pos _ (by omega)
 ·have hL:0<(rb.length:Int):=by omega
  have hLn : ¬(rb.length:Int)=0:=hl
  have w7:A.wrapI .i64 (rp*7)=rp*7:=zal (by omega) (by omega)
  have w8:A.wrapI .i64 (rp*7+3)=rp*7+3:=zal (by omega) (by omega)
  have i1:0≤rp.tmod rb.length:=Int.tmod_nonneg _ h2
  have i2:rp.tmod rb.length<rb.length:=Int.tmod_lt_of_pos _ hL
  have i3:0≤(rp*7+3).tmod rb.length:=Int.tmod_nonneg _ (by omega)
  have i4:(rp*7+3).tmod rb.length<rb.length:=Int.tmod_lt_of_pos _ hL
  have at' : ∀i:Int,0≤i→i<rb.length→0≤rb.getD i.toNat 0∧rb.getD i.toNat 0≤255:=fun i hi1 hi2=>hb _ (by
   have:i.toNat<rb.length:=by omega
   rw [zar this];exact List.getElem_mem this)
  have x1:=at' _ i1 i2
  have x2:=at' _ i3 i4
  have d1:0≤rp.tdiv rb.length:=Int.tdiv_nonneg h2 (by omega)
  have d2:rp.tdiv rb.length≤rp:=by
   rw [Int.tdiv_eq_ediv_of_nonneg h2];exact Int.ediv_le_self _ h2
  have key : ∀X Y D:Int,0≤X∧X≤255→0≤Y∧Y≤255→0≤D→D≤rp→rb.getD (rp.tmod rb.length).toNat 0=X→rb.getD ((rp*7+3).tmod rb.length).toNat 0=Y→rp.tdiv rb.length=D →
   Ok (zab A k ((),(n,())) (rb,(rp,()))) (PickOk N n):=by
   intro X Y D x1 x2 d1 d2 hX hY hD
   have v1:A.wrapI .i64 X=X:=zal (by omega) (by omega)
   have v2:A.wrapI .i64 Y=Y:=zal (by omega) (by omega)
   have v3:A.wrapI .i64 (X*131)=X*131:=zal (by omega) (by omega)
   have v4:A.wrapI .i64 (Y*1117)=Y*1117:=zal (by omega) (by omega)
   have v5:A.wrapI .i64 (X*131+Y*1117)=X*131+Y*1117:=zal (by omega) (by omega)
   have v6:A.wrapI .i64 (rp*29)=rp*29:=zal (by omega) (by omega)
   have v7:A.wrapI .i64 (X*131+Y*1117+rp*29)=X*131+Y*1117+rp*29:=zal (by omega) (by omega)
   have v8:A.wrapI .i64 D=D:=zal (by omega) (by omega)
   have v9:A.wrapI .i64 (D*53)=D*53:=zal (by omega) (by omega)
   have v10:A.wrapI .i64 (X*131+Y*1117+rp*29+D*53)=X*131+Y*1117+rp*29+D*53:=zal (by omega) (by omega)
   have q0:0≤(X*131+Y*1117+rp*29+D*53).tdiv 64:=Int.tdiv_nonneg (by omega) (by omega)
   have q1:(X*131+Y*1117+rp*29+D*53).tdiv 64≤X*131+Y*1117+rp*29+D*53:=by
    rw [Int.tdiv_eq_ediv_of_nonneg (by omega)];exact Int.ediv_le_self _ (by omega)
   have v11:A.wrapI .i64 ((X*131+Y*1117+rp*29+D*53).tdiv 64)=(X*131+Y*1117+rp*29+D*53).tdiv 64:=zal (by omega) (by omega)
   have hz:=xor_bound (A:=A) (a:=X*131+Y*1117+rp*29+D*53) (b:=(X*131+Y*1117+rp*29+D*53).tdiv 64) (by omega) (by omega) q0 (by omega)
   have h64 : ¬(64:Int)=0:=by decide
   refine ⟨(((A.xorI .i64 (X*131+Y*1117+rp*29+D*53) ((X*131+Y*1117+rp*29+D*53).tdiv 64)).tmod n,()),(rb,(rp+1,()))),?_,hq,?_,?_,fun _=>?_,fun h=>by omega⟩
   ·simp only [zab,a_cndS,a_ltI,a_eqI,a_lenL,a_andB,a_le0,a_notB,a_atL,a_remI,a_subI,a_mulI,a_quoI,a_addI,a_obind_some,a_sumE_inl,hn,hl,hn0,hlt,h64,i1,i2,i3,i4,h2,w1,w2,w7,w8,hX,hY,hD,v1,v2,v3,v4,v5,v6,v7,v8,v9,v10,v11,decide_true,decide_false,Bool.false_eq_true,Bool.not_false,Bool.and_self,if_true,if_false]
   ·exact Int.tmod_nonneg _ hz.1
   ·show Int.tmod _ n≤1000000000
    have:=Int.tmod_lt_of_pos (A.xorI .i64 (X*131+Y*1117+rp*29+D*53) ((X*131+Y*1117+rp*29+D*53).tdiv 64)) (b:=n) (by omega);omega
   ·exact Int.tmod_lt_of_pos _ (by omega)
  exact key _ _ _ x1 x2 d1 d2 rfl rfl rfl
theorem odd_ok (k:Nat) (n N:Int) (r:Rd) (h:RdOk N r) (hp:N≤1000000000) (hn:n≤1000000000):Ok (zan A k ((),(n,())) r) (fun q=>RdOk (N+1) q.2):=by
 simp only [zan,zad,a_ltI,ok_obind,zac]
 exact ⟨fun _=>(zaf k n N r h hp hn).mono fun q hq=>hq.1,fun _=>h.le (by omega)⟩
theorem open_ok (k:Nat) (a:List Int) (hb : ∀x∈a,0≤x∧x≤255):Ok (zir A k (a,()) ()) (fun q=>RdOk 0 q.1):=by
 by_cases h:(2000:Int)<(a.length:Int)
 ·have h2:(2000:Int)≤(a.length:Int):=by omega
  exact ⟨((a.take 2000,((0:Int),())),()),by simp [zir,h,h2],fun x hx=>hb x (List.mem_of_mem_take hx),by simp;omega,Int.le_refl _,Int.le_refl _⟩
 ·exact ⟨((a,((0:Int),())),()),by simp [zir,h],hb,by show a.length≤2000;omega,Int.le_refl _,Int.le_refl _⟩
end Go.Den.T
namespace Go.Den.T
set_option linter.unusedVariables false
set_option linter.unusedSimpArgs false
variable {A:Atoms} [IsReal A]
theorem withMember_len (c:Cfg) (n:Int):(withMember c n).1.2.1.length≤5∧((withMember c n).2.1=true→cfgOk c=true):=by
 unfold withMember
 by_cases h:cfgOk c=true
 ·have hl:=zay h
  split
  ·split
   ·simp;exact ⟨by omega,h⟩
   ·simp;omega
  ·simp [zeroC]
 ·simp [h,zeroC]
theorem without_len (c:Cfg) (i:Nat):(without c i).2.1.length≤c.2.1.length+c.2.1.length:=by
 simp [without];omega
theorem withoutMember_len (c:Cfg) (n:Int):(withoutMember c n).1.2.1.length≤8:=by
 unfold withoutMember
 by_cases h:cfgOk c=true
 ·have hl:=zay h
  have:=without_len c (idx c.2.1 n).toNat
  simp only [h,if_true]
  split<;>simp<;>omega
 ·simp [h,zeroC]
def Short (c:Cfg):Prop:=c.2.1.length≤100
theorem l20Config_loop (k:Nat) (hk:10≤k) (n N:Int) (hp:N≤900000000) : ∀m c z r,0≤m→m≤6→RdOk (N+2) r→Short c→Short z→Ok (A.iter k (zjg A k) (n,(m,(z,(c,r))))) (fun e=>e.1=n∧Short e.2.2.1∧RdOk (N+50) e.2.2.2):=by
 intro m c z r hm hm6 hr hc hz
 refine zbt (fun j s=>(j:Int)=s.2.1∧s.1=n∧0≤s.2.1∧s.2.1≤6∧Short s.2.2.1∧Short s.2.2.2.1∧RdOk (N+2+6*(6-s.2.1)) s.2.2.2.2) _ ?_ (n:=m.toNat) (by omega) ⟨by simp;omega,rfl,hm,hm6,hz,hc,hr.le (by show N+2≤N+2+6*(6-m);omega)⟩
 rintro j ⟨n',m,z,c,r⟩ ⟨h1,h2,h3,h4,h5,h6,h7⟩
 simp only at h1 h2 h3 h4 h5 h6 h7
 subst h2
 have wm:A.wrapI .i64 (m-1)=m-1:=zal (by omega) (by omega)
 rw [zjg,zad,a_ltI]
 simp only [decide_eq_true_eq,decide_eq_false_iff_not]
 refine ⟨fun hpos=>?_,fun hneg=>zac.2 ⟨fun s' e=>(by cases e),fun e he=>(by cases he;exact ⟨rfl,h6,h7.le (by omega)⟩)⟩⟩
 refine (zaf k 5 _ r h7 (by omega) (by omega)).bind fun q hq=>?_
 rw [zg1 k hk,a_obind_some]
 have L1:=withMember_len c q.1.1
 refine Ok.bind (P:=fun r5=>r5.1=n'∧r5.2.1=m∧Short r5.2.2.2.1∧Short r5.2.2.2.2.1∧Short r5.2.2.2.2.2.1∧RdOk (N+2+6*(6-m)+3) r5.2.2.2.2.2.2) ?_ fun r5 h5'=>?_
 ·refine (zaf k 4 _ q.2 hq.1 (by omega) (by omega)).bind fun q2 hq2=>?_
  rw [zad]
  refine ⟨fun e0=>?_,fun e0=>zac.2 ⟨rfl,rfl,h5,h6,by simp only [Short];omega,hq2.1.le (by omega)⟩⟩
  refine (zaf k 5 _ q2.2 hq2.1 (by omega) (by omega)).bind fun q3 hq3=>?_
  rw [zef k hk,a_obind_some]
  have L2:=withoutMember_len c q3.1.1
  exact zac.2 ⟨rfl,rfl,h5,h6,by simp only [Short];omega,hq3.1.le (by omega)⟩
 obtain ⟨g1,g2,g3,g4,g5,g6⟩:=h5'
 refine Ok.bind (P:=fun r6=>r6.1=n'∧r6.2.1=m∧Short r6.2.2.1∧Short r6.2.2.2.1∧RdOk (N+2+6*(6-m)+3) r6.2.2.2.2) ?_ fun r6 h6'=>?_
 ·rw [zad]
  exact ⟨fun _=>zac.2 ⟨g1,g2,g3,g5,g6⟩,fun _=>zac.2 ⟨g1,g2,g3,g4,g6⟩⟩
 obtain ⟨f1,f2,f3,f4,f5⟩:=h6'
 refine (zaf k 3 _ _ f5 (by omega) (by omega)).bind fun q4 hq4=>?_
 have hq5:RdOk (N+2+6*(6-(m-1))) q4.2:=hq4.1.le (by omega)
 rw [zad]
 simp only [a_subI,f2,wm,f1]
 refine ⟨fun e2=>?_,fun e2=>zac.2 ⟨fun s' e=>?_,fun e he=>(by cases he)⟩⟩
 ·rw [zg5 k hk,a_obind_some]
  refine zac.2 ⟨fun s' e=>?_,fun e he=>(by cases he)⟩
  cases e
  refine ⟨(m-1).toNat,by omega,by simp;omega,rfl,by simp;omega,by simp;omega,f3,?_,hq5⟩
  simp only [Short] at f4 ⊢
  split
  ·exact f4
  ·simp [zeroC]
 ·cases e
  exact ⟨(m-1).toNat,by omega,by simp;omega,rfl,by simp;omega,by simp;omega,f3,f4,hq5⟩
theorem zlm (k:Nat) (hk:10≤k) (n N:Int) (r:Rd) (h:RdOk N r) (hp:N≤900000000) (hn:n≤1000000000):Ok (zcd A k ((),(n,())) r) (fun q=>RdOk (N+100) q.2∧Short q.1.1):=by
 rw [zcd]
 refine (zaf k 5 _ r h (by omega) (by omega)).bind fun q hq=>?_
 refine (zaf k 6 _ _ hq.1 (by omega) (by omega)).bind fun q1 hq1=>?_
 refine (l20Config_loop k hk n N hp q1.1.1 (1,([q.1.1],(false,()))) (0,([],(false,()))) q1.2 hq1.2.1 (by have:=hq1.2.2.2.1 (by omega);omega) (hq1.1.le (by omega)) (by simp [Short]) (by simp [Short])).bind fun e he=>?_
 refine Ok.bind (P:=fun r5=>r5.1=n∧Short r5.2.2.1∧RdOk (N+60) r5.2.2.2) ?_ fun r5 h5=>?_
 ·refine (zaf k 12 _ _ he.2.2 (by omega) (by omega)).bind fun q3 hq3=>?_
  rw [zad]
  refine ⟨fun _=>?_,fun _=>zac.2 ⟨he.1,he.2.1,hq3.1.le (by omega)⟩⟩
  refine (zaf k 2 _ _ hq3.1 (by omega) (by omega)).bind fun q4 hq4=>?_
  have b1:=hq4.2.1
  have b2:=hq4.2.2.2.1 (by omega)
  rw [zad]
  refine ⟨fun _=>zac.2 ⟨he.1,he.2.1,hq4.1.le (by omega)⟩,fun hc=>?_⟩
  simp at hc;omega
 refine (odd_ok k _ _ _ h5.2.2 (by omega) (by rw [h5.1];omega)).bind fun q6 hq6=>?_
 rw [zad]
 refine ⟨fun _=>?_,fun _=>zac.2 ⟨hq6.le (by omega),h5.2.1⟩⟩
 refine (zaf k 8 _ _ hq6 (by omega) (by omega)).bind fun q7 hq7=>?_
 have b1:=hq7.2.1
 have b2:=hq7.2.2.2.1 (by omega)
 rw [zad]
 refine ⟨fun _=>zac.2 ⟨hq7.1.le (by omega),?_⟩,fun hc=>?_⟩
 ·rw [a_atL]
  have : ∀i:Nat,i<8→Short (([(0,([],(false,()))),(1,([],(false,()))),(0,([1],(false,()))),(61,([1],(false,()))),(1,([5],(false,()))),(1,([1,2,1],(false,()))),(1,([1],(true,()))),(1,([0,1,2,3,4],(false,())))]:List Cfg).getD i (0,([],(false,())))):=by
   intro i hi
   rcases i with _|_|_|_|_|_|_|_|i<;>simp [Short]
  exact this _ (by omega)
 ·simp at hc;omega
theorem keyRank_aa (k:Nat):zit real (k+10) ([97,97],()) ()=some ((1,()),()):=by rfl
theorem keyRank_nil (k:Nat):zit real (k+10) ([],()) ()=some ((-1,()),()):=by rfl
theorem alive_eq (k:Nat) (hk:10≤k):zhl A k () ()=some ((true,()),()):=by
 obtain ⟨k,rfl⟩ : ∃q,k=q+10:=⟨k-10,by omega⟩
 have e1:=keyRank_aa k
 have e2:=keyRank_nil k
 rw [←IsReal.eq (A:=A)] at e1 e2
 simp [zhl,e1,e2]
end Go.Den.T
namespace Go.Den.T
set_option linter.unusedVariables false
set_option linter.unusedSimpArgs false
variable {A:Atoms} [IsReal A]
theorem fill_step {α:Type} (xs:List α) (d e:α) (i n:Nat) (hn:n=xs.length) (h:i<n):(xs.take i++List.replicate (n-i) d).set i (xs.getD i e)=xs.take (i+1)++List.replicate (n-(i+1)) d:=by
 subst hn
 rw [List.set_append_right _ _ (by simp;omega)]
 have e1:i-(xs.take i).length=0:=by simp;omega
 have e2:xs.length-i=(xs.length-(i+1))+1:=by omega
 rw [e1,e2,List.replicate_succ,List.set_cons_zero,List.take_succ_eq_append_getElem h,zar h,List.append_assoc]
 rfl
def marks (n:Int) (m:Nat):List Int:=(List.range m).map fun i:Nat=>n+(i:Int)
@[simp] theorem marks_len (n:Int) (m:Nat):(marks n m).length=m:=by simp [marks]
end Go.Den.T
namespace Go.Den.T
set_option linter.unusedVariables false
set_option linter.unusedSimpArgs false
variable {A:Atoms} [IsReal A]
theorem copyOf_int_eq (k:Nat) (xs:List Int) (h:xs.length≤1000000000):zfj A k (xs,()) ()=some ((xs,()),()):=by
 have:(xs.length:Int)<4294967296:=by omega
 simp [zfj,this]
def after (c:Cfg) (n:Int):Int:=if (cfgOk c&&(decide (n∈c.2.1) && !decide (idx c.2.1 n=(c.2.1.length:Int)-1)))=true then c.2.1.getD (idx c.2.1 n+1).toNat 0 else -1
theorem idx_lt (xs:List Int) (n:Int):idx xs n<xs.length∧-1≤idx xs n:=by
 rcases idx_cases xs n with ⟨e,_⟩|⟨i,e,hi,_⟩<;>omega
theorem idx_neg {xs:List Int} {n:Int} : idx xs n<0↔n∉xs:=by rw [←idx_mem];omega
theorem zjb (k:Nat) (hk:10≤k) (c:Cfg) (n:Int) (hl0:c.2.1.length<k) (hl1:c.2.1.length≤1000000000):zgu A k (c,(n,())) ()=some ((after c n,()),()):=by
 simp only [zgu,zkq k c n hl0 (by omega),zav k hk,a_obind_some,a_cndS,a_notB,after]
 cases h:cfgOk c with
 | false=>simp
 | true=>
   have hl:=zay h
   have hx:=idx_lt c.2.1 n
   by_cases hm:n∈c.2.1
   case neg=>simp [hm,idx_neg]
   have h0:=idx_mem.2 hm
   by_cases he:idx c.2.1 n=(c.2.1.length:Int)-1
   ·have h1 : ¬(c.2.1.length:Int)-1<0:=by omega
    simp (disch:=omega) [hm,he,h1,zal]
   ·have h1 : ¬idx c.2.1 n<0:=by omega
    have h2:0≤idx c.2.1 n+1:=by omega
    have h3:idx c.2.1 n+1<(c.2.1.length:Int):=by omega
    simp (disch:=omega) [hm,he,h1,h2,h3,zal]
def completeOr (c:Cfg):List Int:=if cfgOk c=true then complete c else []
theorem zfv (k:Nat) (hk:10≤k) (c:Cfg):zd0 A k (c,()) ()=some ((completeOr c,()),()):=by
 simp only [zd0,zbj k hk,a_obind_some,a_cndS,a_notB,completeOr]
 cases h:cfgOk c with
 | false=>simp
 | true=>
   have hl:=zay h
   have e:((c.2.1.length:Int)-1).toNat=c.2.1.length-1:=by omega
   by_cases hf:c.2.2.1=true
   ·have h2:0≤(c.2.1.length:Int)-1:=by omega
    have e3:=copyOf_int_eq (A:=A) k (c.2.1.take (c.2.1.length-1)) (by simp;omega)
    simp (disch:=omega) [h2,hf,zal,complete,e,e3]
    omega
   ·simp [hf,complete,copyOf_int_eq (A:=A) k c.2.1 (by omega)]
/-! ### a member taken away -/
theorem zj0 {xs:List Int} : membersOk xs=true↔(∀x∈xs,0≤x∧x≤4)∧xs.Nodup:=by
 rw [membersOk,zcv]
 simp only [Bool.and_eq_true,decide_eq_true_eq,Bool.not_eq_true',decide_eq_false_iff_not]
 constructor
 ·intro h
  refine ⟨fun x hx=>?_,?_⟩
  ·obtain ⟨i,hi,rfl⟩:=List.mem_iff_getElem.1 hx
   have:=(h i hi).1
   rwa [zar hi] at this
  ·rw [List.nodup_iff_pairwise_ne,List.pairwise_iff_getElem]
   intro i j hi hj hij e
   refine (h j hj).2 ?_
   rw [zar hj,←e]
   exact List.mem_iff_getElem.2 ⟨i,by simp;omega,by simp⟩
 ·rintro ⟨h1,h2⟩ i hi
  rw [zar hi]
  refine ⟨h1 _ (List.getElem_mem hi),fun hm=>?_⟩
  obtain ⟨j,hj,e⟩:=List.mem_iff_getElem.1 hm
  simp at hj e
  rw [List.nodup_iff_pairwise_ne,List.pairwise_iff_getElem] at h2
  exact h2 j i (by omega) hi (by omega) e
theorem membersOk_drop {xs:List Int} {i:Nat} (h:membersOk xs=true):membersOk (xs.take i++xs.drop (i+1))=true:=by
 rw [←List.eraseIdx_eq_take_drop_succ]
 rw [zj0] at h ⊢
 exact ⟨fun x hx=>h.1 x (List.mem_of_mem_eraseIdx hx),h.2.sublist (List.eraseIdx_sublist _ _)⟩
theorem zh3 {c:Cfg} (h:cfgOk c=true):membersOk c.2.1=true:=by
 simp only [cfgOk,Bool.and_eq_true] at h;exact h.2.2.2
theorem without_ok {c:Cfg} {i:Nat} (h:cfgOk c=true) (hi:i<c.2.1.length) (h60 : ¬c.1=60) :
 cfgOk (without c i) = !(decide ((complete c).length=1)&&(!c.2.2.1 || !decide ((i:Int)=(c.2.1.length:Int)-1))):=by
 obtain ⟨ep,xs,fr,_⟩:=c
 have hl:=zay h
 have hm:=membersOk_drop (i:=i) (zh3 h)
 simp only at hi hl h60 hm
 have e1:1≤ep+1∧ep+1≤60:=by omega
 have e2:min i xs.length+(xs.length-(i+1))=xs.length-1:=by omega
 have e3:xs.length-1≤4:=by omega
 cases fr with
 | false=>
   simp [cfgOk,without,complete,e1,hm,e2,e3]
   by_cases hx:xs.length=1
   ·simp [hx]
   ·have:1≤xs.length-1:=by omega
    simp [hx,this]
 | true=>
   have h2:=hl.2.2.2.2 rfl
   have h1:1≤xs.length-1:=by omega
   have e4:min (xs.length-1) xs.length=xs.length-1:=by omega
   simp [cfgOk,without,complete,e1,hm,e2,e3,h1]
   by_cases hx:i=xs.length-1
   ·have:(i:Int)=(xs.length:Int)-1:=by omega
    simp [hx]
    omega
   ·have : ¬(i:Int)=(xs.length:Int)-1:=by omega
    simp [hx,this]
    by_cases hy:xs.length-1=1
    ·simp [hy];omega
    ·have : ¬xs.length-1<2:=by omega
     simp [hy,this];omega
/-! ### exact laws -/
end Go.Den.T
namespace Go.Den.T
set_option linter.unusedVariables false
set_option linter.unusedSimpArgs false
set_option linter.unusedSectionVars false
variable {A:Atoms} [IsReal A]
abbrev Cmd:=Int×(List UInt8×(Int×(Int×Unit)))
abbrev Ent:=Int×(Int×(Cmd×Unit))
abbrev Evt:=Int×(Int×(Int×(Ent×Unit)))
def letter (b:UInt8):Bool:=decide (97≤b.toNat∧b.toNat≤122)
def keyOk (s:List UInt8):Bool:=decide (1≤s.length∧s.length≤4)&&s.all letter
theorem lettersOnly_eq : ∀(k:Nat) (s:List UInt8),s.length<k→zbs A k (s,()) ()=some ((s.all letter,()),())
 | 0,_,h=>by omega
 | k+1,[],_=>by simp [zbs]
 | k+1,b::s,h=>by
   have ih:=lettersOnly_eq k s (by simpa using h)
   simp only [List.length_cons] at h
   have h1:(0:Int)<(s.length:Int)+1:=by omega
   have h2:(1:Int)≤(s.length:Int)+1:=by omega
   by_cases q1:97≤b.toNat
   ·have q1':(97:Int)≤(b.toNat:Int):=by omega
    by_cases q2:b.toNat≤122
    ·have q2':(b.toNat:Int)≤122:=by omega
     simp [zbs,h1,h2,q1,q1',q2,q2',ih,letter]
    ·have q2' : ¬(b.toNat:Int)≤122:=by omega
     simp [zbs,h1,h2,q1,q1',q2,q2',letter]
   ·have q1' : ¬(97:Int)≤(b.toNat:Int):=by omega
    simp [zbs,h1,h2,q1,q1',letter]
theorem zd7 (k:Nat) (hk:10≤k) (s:List UInt8):zbe A k (s,()) ()=some ((keyOk s,()),()):=by
 by_cases h1:(s.length:Int)<1
 ·have : ¬(1≤s.length∧s.length≤4):=by omega
  simp only [zbe,a_cndS,a_ltI,a_lenL,h1,decide_true,if_true,keyOk,this,decide_false,Bool.false_and]
 ·by_cases h2:(4:Int)<(s.length:Int)
  ·have : ¬(1≤s.length∧s.length≤4):=by omega
   simp only [zbe,a_cndS,a_ltI,a_lenL,h1,h2,decide_true,decide_false,Bool.false_eq_true,if_true,if_false,keyOk,this,Bool.false_and]
  ·have:(1≤s.length∧s.length≤4):=by omega
   simp only [zbe,a_cndS,a_ltI,a_lenL,h1,h2,decide_true,decide_false,Bool.false_eq_true,if_true,if_false,keyOk,this,lettersOnly_eq k s (by omega),a_obind_some,Bool.true_and,and_self]
theorem zbv (k:Nat) (hk:10≤k) (s:List UInt8):zbk A k (s,()) ()=some ((keyOk s,()),()):=by
 have h:s.length≤4→A.iter k (zb2 A k) (s,(((0:Nat):Int),()))=some (if (List.range s.length).all (fun i=>letter (s.getD i 0))=true then .inl () else .inr ((false,()),())):=fun hl=>
  zdb (A:=A) (f:=zb2 A k) (fun i=>(s,((i:Int),()))) s.length (fun i=>letter (s.getD i 0)) (.inr ((false,()),())) (.inl ())
   (fun i hi=>by
     by_cases q1:s[i].toNat<97
     ·have q1' : ¬97≤s[i].toNat:=by omega
      simp (disch:=omega) [zb2,hi,zal,letter,q1,q1']
      omega
     ·have q1':97≤s[i].toNat:=by omega
      have q3 : ¬(s[i].toNat:Int)<97:=by omega
      by_cases q2:122<s[i].toNat
      ·have q2' : ¬s[i].toNat≤122:=by omega
       have q4:(122:Int)<(s[i].toNat:Int):=by omega
       simp (disch:=omega) [zb2,hi,zal,letter,q1',q2',q3,q4]
      ·have q2':s[i].toNat≤122:=by omega
       have q4 : ¬(122:Int)<(s[i].toNat:Int):=by omega
       simp (disch:=omega) [zb2,hi,zal,letter,q1',q2',q3,q4])
   (by simp [zb2]) (by omega)
 rw [zht] at h
 simp only [Int.natCast_zero,Int.ofNat_zero] at h
 simp only [zbk,zc9,a_obind_some,a_cndS,a_notB,keyOk,a_lenL]
 by_cases hl:1≤s.length∧s.length≤4
 ·have hl':(1:Int)≤(s.length:Int)∧(s.length:Int)≤4:=by omega
  simp only [hl,hl',and_self,decide_true,Bool.not_true,Bool.false_eq_true,if_false,h hl.2,a_obind_some,Bool.true_and]
  cases s.all letter<;>simp
 ·have hl' : ¬((1:Int)≤(s.length:Int)∧(s.length:Int)≤4):=by omega
  simp only [hl,hl',decide_false,Bool.not_false,if_true,Bool.false_and]
def cmdOk (c:Cmd):Bool:=(keyOk c.2.1||(decide (c.1=5)&&decide (c.2.1=[]))) &&
 (if c.1=1∨c.1=3∨c.1=5 then decide (c.2.2.1=0∧c.2.2.2.1=0) else if c.1=2 then decide ((0≤c.2.2.1∧c.2.2.1≤999)∧c.2.2.2.1=0)
   else if c.1=4 then decide ((0≤c.2.2.1∧c.2.2.1≤999)∧-1≤c.2.2.2.1∧c.2.2.2.1≤999) else false)
theorem valueValid_eq (k:Nat) (v:Int):zcg A k (v,()) ()=some ((decide (0≤v∧v≤999),()),()):=by
 simp only [zcg,a_cndS,a_leI,if_true,decide_eq_true_eq]
 by_cases h:0≤v<;>simp [h]
theorem seqValid_eq (k:Nat) (v:Int):zhf A k (v,()) ()=some ((decide (1≤v∧v≤999),()),()):=by
 simp only [zhf,a_cndS,a_leI,if_true,decide_eq_true_eq]
 by_cases h:1≤v<;>simp [h]
theorem zez (k:Nat) (hk:10≤k) (c:Cmd):zdv A k (c,()) ()=some ((cmdOk c,()),()):=by
 obtain ⟨op,s,v,o,_⟩:=c
 simp only [zdv,zbv k hk,zc9,a_obind_some,a_cndS,a_notB,a_eqI,a_eqS,cmdOk]
 by_cases h5:op=5
 ·subst h5
  cases hb:keyOk s with
  | true=>
    by_cases hv:v=0<;>by_cases ho:o=0<;>simp [hv,ho]
  | false=>
    by_cases hs:s=[]
    ·by_cases hv:v=0<;>by_cases ho:o=0<;>simp [hs,hv,ho]
    ·simp [hs]
 ·cases hb:keyOk s with
  | false=>simp [h5]
  | true=>
    by_cases h1:op=1
    ·subst h1;by_cases hv:v=0<;>by_cases ho:o=0<;>simp [hv,ho]
    by_cases h3:op=3
    ·subst h3;by_cases hv:v=0<;>by_cases ho:o=0<;>simp [hv,ho]
    by_cases h2:op=2
    ·subst h2;by_cases hv:0≤v∧v≤999<;>by_cases ho:o=0<;>simp [hv,ho]
    by_cases h4:op=4
    ·subst h4;by_cases hv:0≤v∧v≤999<;>simp [hv]
    simp [h1,h2,h3,h4,h5]
theorem zim (k:Nat) (hk:10≤k) (c:Cmd):zf2 A k (c,()) ()=some ((cmdOk c,()),()):=by
 obtain ⟨op,s,v,o,_⟩:=c
 simp only [zf2,zd7 k hk,valueValid_eq,a_obind_some,a_cndS,a_notB,a_eqI,a_eqS,a_ltI,cmdOk]
 by_cases hlo:op<1
 ·have h1 : ¬op=1:=by omega
  have h2 : ¬op=2:=by omega
  have h3 : ¬op=3:=by omega
  have h4 : ¬op=4:=by omega
  have h5 : ¬op=5:=by omega
  simp [hlo,h1,h2,h3,h4,h5]
 by_cases hhi:5<op
 ·have h1 : ¬op=1:=by omega
  have h2 : ¬op=2:=by omega
  have h3 : ¬op=3:=by omega
  have h4 : ¬op=4:=by omega
  have h5 : ¬op=5:=by omega
  simp [hlo,hhi,h1,h2,h3,h4,h5]
 by_cases h5:op=5
 ·subst h5
  cases hb:keyOk s with
  | true=>by_cases hv:v=0<;>by_cases ho:o=0<;>simp [hb,hv,ho]
  | false=>
    by_cases hs:s=[]
    ·subst hs
     by_cases hv:v=0<;>by_cases ho:o=0<;>simp [hb,hv,ho]
    ·simp [hb,hs]
 ·cases hb:keyOk s with
  | false=>simp [hb,h5,hlo,hhi]
  | true=>
    by_cases h1:op=1
    ·subst h1;by_cases hv:v=0<;>by_cases ho:o=0<;>simp [hb,hv,ho]
    by_cases h3:op=3
    ·subst h3;by_cases hv:v=0<;>by_cases ho:o=0<;>simp [hb,hv,ho]
    by_cases h2:op=2
    ·subst h2;by_cases hv:0≤v∧v≤999<;>by_cases ho:o=0<;>simp [hb,hv,ho]
    have h4:op=4:=by omega
    subst h4
    by_cases hv:0≤v∧v≤999
    ·by_cases ho:o = -1
     ·subst ho;simp [hb,hv]
     ·have e:decide (-1≤o∧o≤999)=decide (0≤o∧o≤999):=by
        rw [Bool.eq_iff_iff];simp;omega
      have e2:(decide (-1≤o)&&decide (o≤999))=(decide (0≤o)&&decide (o≤999)):=by simpa using e
      simp [hb,hv,ho,e2]
    ·simp [hb,hv]
def entOk (e:Ent):Bool:=decide (0≤e.1∧e.1≤3)&&(decide (1≤e.2.1∧e.2.1≤999)&&cmdOk e.2.2.1)
theorem zbq (k:Nat) (hk:10≤k) (e:Ent):zbx A k (e,()) ()=some ((entOk e,()),()):=by
 simp only [zbx,zc9,zez k hk,a_obind_some,a_cndS,entOk]
 by_cases h1:0≤e.1∧e.1≤3<;>by_cases h2:1≤e.2.1∧e.2.1≤999<;>simp [h1,h2]
theorem zg2 (k:Nat) (hk:10≤k) (e:Ent):zfl A k (e,()) ()=some ((entOk e,()),()):=by
 simp only [zfl,seqValid_eq,zim k hk,a_obind_some,a_cndS,a_leI,a_ltI,entOk]
 by_cases h1:0≤e.1
 ·by_cases h3:e.1<4
  ·have:e.1≤3:=by omega
   by_cases h2:1≤e.2.1∧e.2.1≤999<;>simp [h1,h2,h3,this]
  ·have : ¬e.1≤3:=by omega
   simp [h1,h3,this]
 ·simp [h1]
def entZero (e:Ent):Bool:=decide (e.1=0)&&(decide (e.2.1=0)&&((decide (e.2.2.1.1=0)&&(decide (e.2.2.1.2.1=[])&&(decide (e.2.2.1.2.2.1=0)&&(decide (e.2.2.1.2.2.2.1=0)&&true))))&&true))
def evtOk (e:Evt):Bool:=decide (1≤e.1∧e.1≤12)&&(decide (0≤e.2.1∧e.2.1≤4)&&(decide (0≤e.2.2.1∧e.2.2.1≤9)&&(if e.1=1 then entOk e.2.2.2.1 else entZero e.2.2.2.1)))
theorem zg9 (k:Nat) (hk:10≤k) (e:Evt):zfk A k (e,()) ()=some ((evtOk e,()),()):=by
 simp only [zfk,zc9,zbq k hk,a_obind_some,a_cndS,a_notB,a_eqI,a_eqS,a_andB,evtOk,entZero]
 by_cases h1:1≤e.1∧e.1≤12
 ·by_cases h2:0≤e.2.1∧e.2.1≤4
  ·by_cases h3:0≤e.2.2.1∧e.2.2.1≤9
   ·by_cases h4:e.1=1<;>simp [h1,h2,h3,h4]
   ·simp [h1,h2,h3]
  ·simp [h1,h2]
 ·simp [h1]
/-! ### exact -/
end Go.Den.T
namespace Go.Den.T
set_option linter.unusedVariables false
set_option linter.unusedSimpArgs false
set_option linter.unusedSectionVars false
variable {A:Atoms} [IsReal A]
theorem at_ok {α:Type} {xs:List α} {d:α} {i:Int} {P:α→Prop} (h : ∀x∈xs,P x) (h0:0≤i) (h1:i<xs.length):P (xs.getD i.toNat d):=by
 have:i.toNat<xs.length:=by omega
 rw [zar this];exact h _ (List.getElem_mem this)
def KeyS (x:List UInt8):Prop:=x.length≤8
def ValS (x:Int):Prop:=-1≤x∧x≤1000
theorem l20Key_ok (k:Nat) (hk:100≤k) (n N:Int) (r:Rd) (h:RdOk N r) (hp:N≤900000000) (hn:n≤1000000000):Ok (zcn A k ((),(n,())) r) (fun q=>RdOk (N+10) q.2∧q.1.1.length≤8):=by
 rw [zcn]
 refine (odd_ok k n N r h (by omega) (by omega)).bind fun q hq=>?_
 rw [zad]
 refine ⟨fun _=>?_,fun _=>?_⟩
 ·refine (zaf k 6 _ _ hq (by omega) (by omega)).bind fun q1 hq1=>?_
  have b1:=hq1.2.1
  have b2:=hq1.2.2.2.1 (by omega)
  rw [zad]
  refine ⟨fun _=>zac.2 ⟨hq1.1.le (by omega),?_⟩,fun hc=>?_⟩
  ·rw [a_atL];refine at_ok (P:=KeyS) ?_ b1 ?_
   ·simp [KeyS]
   ·simpa using b2
  ·simp at hc;omega
 ·refine (zaf k 12 _ _ hq (by omega) (by omega)).bind fun q1 hq1=>?_
  rw [zad]
  refine ⟨fun _=>?_,fun _=>?_⟩
  ·refine (zaf k 5 _ _ hq1.1 (by omega) (by omega)).bind fun q2 hq2=>?_
   have b1:=hq2.2.1
   have b2:=hq2.2.2.2.1 (by omega)
   rw [zad]
   refine ⟨fun _=>zac.2 ⟨hq2.1.le (by omega),?_⟩,fun hc=>?_⟩
   ·rw [a_atL];refine at_ok (P:=KeyS) ?_ b1 ?_
    ·simp [KeyS]
    ·simpa using b2
   ·simp at hc;omega
  ·refine (zaf k 2 _ _ hq1.1 (by omega) (by omega)).bind fun q2 hq2=>?_
   have b1:=hq2.2.1
   have b2:=hq2.2.2.2.1 (by omega)
   have w:A.wrapI .i64 (A.addI 1 q2.1.1)=1+q2.1.1:=by rw [a_addI];exact zal (by omega) (by omega)
   rw [w]
   refine Ok.bind (P:=fun e=>RdOk (N+10) e.2∧e.1.length≤8) (zbt (fun j s=>(j:Int)=s.2.1∧s.2.1≤2∧(s.1.length:Int)+s.2.1≤2∧RdOk (N+6-s.2.1) s.2.2) _ ?_ (n:=(1+q2.1.1).toNat) (by omega) ⟨by show (((1+q2.1.1).toNat:Nat):Int)=1+q2.1.1;omega,by show 1+q2.1.1≤2;omega,by show (([]:List UInt8).length:Int)+(1+q2.1.1)≤2;simp;omega,hq2.1.le (by show N+1+1+1≤N+6-(1+q2.1.1);omega)⟩) fun e he=>zac.2 he
   rintro j ⟨s,m,rr⟩ ⟨h1,h2,h3,h4⟩
   simp only at h1 h2 h3 h4
   rw [zlr,zad]
   simp only [a_ltI,decide_eq_true_eq,decide_eq_false_iff_not]
   refine ⟨fun hpos=>?_,fun hneg=>zac.2 ⟨fun s' e=>(by cases e),fun e he=>(by injection he with he;subst he;exact ⟨h4.le (by omega),by show s.length≤8;omega⟩)⟩⟩
   refine (zaf k 4 _ _ h4 (by omega) (by omega)).bind fun q4 hq4=>?_
   have w2:A.wrapI .i64 (A.subI m 1)=m-1:=by rw [a_subI];exact zal (by omega) (by omega)
   rw [zad]
   refine ⟨fun _=>zac.2 ⟨fun s' e=>?_,fun e he=>(by cases he)⟩,fun hc=>?_⟩
   ·injection e with e;subst e
    rw [w2]
    refine ⟨j-1,by omega,by show ((j-1:Nat):Int)=m-1;omega,by show m-1≤2;omega,?_,hq4.1.le (by show N+6-m+1≤N+6-(m-1);omega)⟩
    simp;omega
   ·simp at hc;omega
theorem l20Value_ok (k:Nat) (n N:Int) (r:Rd) (h:RdOk N r) (hp:N≤900000000) (hn:n≤1000000000):Ok (zdp A k ((),(n,())) r) (fun q=>RdOk (N+4) q.2∧-1≤q.1.1∧q.1.1≤1000):=by
 rw [zdp]
 refine (odd_ok k n N r h (by omega) (by omega)).bind fun q hq=>?_
 rw [zad]
 refine ⟨fun _=>?_,fun _=>?_⟩
 ·refine (zaf k 2 _ _ hq (by omega) (by omega)).bind fun q1 hq1=>?_
  have b1:=hq1.2.1
  have b2:=hq1.2.2.2.1 (by omega)
  rw [zad]
  refine ⟨fun _=>zac.2 ⟨hq1.1.le (by omega),?_⟩,fun hc=>?_⟩
  ·rw [a_atL];refine at_ok (P:=ValS) ?_ b1 ?_
   ·simp [ValS]
   ·simpa using b2
  ·simp at hc;omega
 ·refine (zaf k 20 _ _ hq (by omega) (by omega)).bind fun q1 hq1=>?_
  have b1:=hq1.2.1
  have b2:=hq1.2.2.2.1 (by omega)
  refine (zaf k 9 _ _ hq1.1 (by omega) (by omega)).bind fun q2 hq2=>?_
  have c1:=hq2.2.1
  have c2:=hq2.2.2.2.1 (by omega)
  have d1:0≤q2.1.1.tdiv 8:=Int.tdiv_nonneg c1 (by omega)
  have d2:q2.1.1.tdiv 8≤1:=by rw [Int.tdiv_eq_ediv_of_nonneg c1];omega
  have w:A.wrapI .i64 (A.quoI q2.1.1 8)=q2.1.1.tdiv 8:=by rw [a_quoI];exact zal (by omega) (by omega)
  rw [w,zad]
  refine ⟨fun _=>?_,fun hc=>by simp at hc⟩
  rw [zad]
  refine ⟨fun _=>zac.2 ⟨hq2.1.le (by omega),?_⟩,fun hc=>?_⟩
  ·rw [a_atL];refine at_ok (P:=ValS) ?_ d1 ?_
   ·simp [ValS];omega
   ·simp;omega
  ·simp at hc;omega
def CmdS (c:Cmd):Prop:=c.2.1.length≤8
theorem l20Cmd_ok (k:Nat) (hk:100≤k) (n N:Int) (r:Rd) (h:RdOk N r) (hp:N≤800000000) (hn:n≤1000000000):Ok (zco A k ((),(n,())) r) (fun q=>RdOk (N+30) q.2∧CmdS q.1.1):=by
 rw [zco]
 refine (odd_ok k n N r h (by omega) (by omega)).bind fun q hq=>?_
 rw [zad]
 refine ⟨fun _=>?_,fun _=>?_⟩
 ·refine (zaf k 10 _ _ hq (by omega) (by omega)).bind fun q1 hq1=>?_
  have b1:=hq1.2.1
  have b2:=hq1.2.2.2.1 (by omega)
  rw [zad]
  refine ⟨fun _=>zac.2 ⟨hq1.1.le (by omega),?_⟩,fun hc=>?_⟩
  ·rw [a_atL];refine at_ok (P:=CmdS) ?_ b1 ?_
   ·simp [CmdS]
   ·simpa using b2
  ·simp at hc;omega
 ·refine (l20Key_ok k hk 0 _ _ hq (by omega) (by omega)).bind fun q1 hq1=>?_
  refine Ok.bind (P:=fun r5=>RdOk (N+14) r5.2.2∧r5.1.length≤8) ?_ fun r5 h5=>?_
  ·refine (zaf k 2 _ _ hq1.1 (by omega) (by omega)).bind fun q2 hq2=>?_
   rw [zad]
   refine ⟨fun _=>?_,fun _=>zac.2 ⟨hq2.1.le (by omega),hq1.2⟩⟩
   refine (zaf k 4 _ _ hq2.1 (by omega) (by omega)).bind fun q3 hq3=>?_
   have b1:=hq3.2.1
   have b2:=hq3.2.2.2.1 (by omega)
   rw [zad]
   refine ⟨fun _=>zac.2 ⟨hq3.1.le (by omega),?_⟩,fun hc=>?_⟩
   ·rw [a_atL];refine at_ok (P:=KeyS) ?_ b1 ?_
    ·simp [KeyS]
    ·simpa using b2
   ·simp at hc;omega
  ·refine (zaf k 8 _ _ h5.1 (by omega) (by omega)).bind fun q6 hq6=>?_
   rw [zad]
   refine ⟨fun _=>zac.2 ⟨hq6.1.le (by omega),h5.2⟩,fun _=>?_⟩
   rw [zad]
   refine ⟨fun _=>zac.2 ⟨hq6.1.le (by omega),h5.2⟩,fun _=>?_⟩
   rw [zad]
   refine ⟨fun _=>?_,fun _=>?_⟩
   ·refine (zaf k 5 _ _ hq6.1 (by omega) (by omega)).bind fun q7 hq7=>?_
    exact (zaf k 5 _ _ hq7.1 (by omega) (by omega)).bind fun q8 hq8=>zac.2 ⟨hq8.1.le (by omega),h5.2⟩
   ·refine (l20Value_ok k 0 _ _ hq6.1 (by omega) (by omega)).bind fun q9 hq9=>?_
    rw [zad]
    exact ⟨fun _=>zac.2 ⟨hq9.1.le (by omega),h5.2⟩,fun hc=>by simp at hc⟩
theorem l20Any_ok (k:Nat) (hk:100≤k) (n N:Int) (r:Rd) (h:RdOk N r) (hp:N≤800000000-100) (hn:n≤1000000000):Ok (zem A k ((),(n,())) r) (fun q=>RdOk (N+50) q.2∧CmdS q.1.1):=by
 rw [zem]
 refine (l20Cmd_ok k hk n N r h (by omega) hn).bind fun q hq=>?_
 refine (zaf k 5 _ _ hq.1 (by omega) (by omega)).bind fun q1 hq1=>?_
 rw [zad]
 refine ⟨fun _=>?_,fun _=>zac.2 ⟨hq1.1.le (by omega),hq.2⟩⟩
 refine (l20Key_ok k hk 0 _ _ hq1.1 (by omega) (by omega)).bind fun q2 hq2=>?_
 refine (zaf k 4 _ _ hq2.1 (by omega) (by omega)).bind fun q3 hq3=>?_
 have b1:=hq3.2.1
 have b2:=hq3.2.2.2.1 (by omega)
 rw [zad]
 refine ⟨fun _=>zac.2 ⟨hq3.1.le (by omega),?_⟩,fun hc=>?_⟩
 ·rw [a_atL];refine at_ok (P:=KeyS) ?_ b1 ?_
  ·simp [KeyS];exact hq2.2
  ·simpa using b2
 ·simp at hc;omega
def EntS (e:Ent):Prop:=CmdS e.2.2.1
theorem zkn (k:Nat) (hk:100≤k) (n N:Int) (r:Rd) (h:RdOk N r) (hp:N≤700000000) (hn:n≤1000000000):Ok (zb1 A k ((),(n,())) r) (fun q=>RdOk (N+60) q.2∧EntS q.1.1):=by
 rw [zb1]
 refine (zaf k 4 _ _ h (by omega) (by omega)).bind fun q0 hq0=>?_
 refine (zaf k 6 _ _ hq0.1 (by omega) (by omega)).bind fun q1 hq1=>?_
 refine (l20Any_ok k hk 0 _ _ hq1.1 (by omega) (by omega)).bind fun q2 hq2=>?_
 refine (odd_ok k n _ _ hq2.1 (by omega) (by omega)).bind fun q3 hq3=>?_
 rw [zad]
 refine ⟨fun _=>?_,fun _=>zac.2 ⟨hq3.le (by omega),hq2.2⟩⟩
 refine (zaf k 6 _ _ hq3 (by omega) (by omega)).bind fun q4 hq4=>?_
 have b1:=hq4.2.1
 have b2:=hq4.2.2.2.1 (by omega)
 rw [zad]
 refine ⟨fun _=>zac.2 ⟨hq4.1.le (by omega),?_⟩,fun hc=>?_⟩
 ·rw [a_atL];refine at_ok (P:=EntS) ?_ b1 ?_
  ·simp [EntS,CmdS];exact hq2.2
  ·simpa using b2
 ·simp at hc;omega
end Go.Den.T
namespace Go.Den.T
set_option linter.unusedVariables false
set_option linter.unusedSimpArgs false
set_option linter.unusedSectionVars false
section
variable {A:Atoms} [IsReal A]
theorem odd0 (k:Nat) (r:Rd):zan A k ((),(0,())) r=some ((false,()),r):=by
 simp [zan]
def KeyV (x:List UInt8):Prop:=keyOk x=true
def ValV (x:Int):Prop:=0≤x∧x≤999
theorem keyOk_snoc {s:List UInt8} {b:UInt8} (h:s.all letter=true) (hb:letter b=true):(s++[b]).all letter=true:=by
 simp [List.all_append,h,hb]
theorem letter_of {n:Int} (h0:0≤n) (h1:n<4):letter (UInt8.ofNat ((A.wrapI .u8 (A.wrapI .i64 (A.addI 97 n))).toNat))=true:=by
 have:n=0∨n=1∨n=2∨n=3:=by omega
 rcases this with rfl|rfl|rfl|rfl<;>simp only [a_addI,a_wrapI]<;>decide
theorem l20Key_val (k:Nat) (hk:100≤k) (N:Int) (r:Rd) (h:RdOk N r) (hp:N≤900000000):Ok (zcn A k ((),(0,())) r) (fun q=>RdOk (N+10) q.2∧keyOk q.1.1=true):=by
 rw [zcn,odd0,a_obind_some]
 simp only [a_cndS,Bool.false_eq_true,if_false]
 refine (zaf k 12 _ _ h (by omega) (by omega)).bind fun q1 hq1=>?_
 rw [ok_ite]
 refine ⟨fun _=>?_,fun _=>?_⟩
 ·refine (zaf k 5 _ _ hq1.1 (by omega) (by omega)).bind fun q2 hq2=>?_
  have b1:=hq2.2.1
  have b2:=hq2.2.2.2.1 (by omega)
  rw [ok_ite]
  refine ⟨fun _=>zac.2 ⟨hq2.1.le (by omega),?_⟩,fun hc=>?_⟩
  ·rw [a_atL];refine at_ok (P:=KeyV) ?_ b1 ?_
   ·simp only [List.mem_cons,List.not_mem_nil,or_false,forall_eq_or_imp,forall_eq,KeyV];decide
   ·simpa using b2
  ·simp at hc;omega
 ·refine (zaf k 2 _ _ hq1.1 (by omega) (by omega)).bind fun q2 hq2=>?_
  have b1:=hq2.2.1
  have b2:=hq2.2.2.2.1 (by omega)
  have w:A.wrapI .i64 (A.addI 1 q2.1.1)=1+q2.1.1:=by rw [a_addI];exact zal (by omega) (by omega)
  rw [w]
  refine Ok.bind (P:=fun e=>RdOk (N+10) e.2∧keyOk e.1=true) (zbt (fun j s=>(j:Int)=s.2.1∧s.2.1≤2∧(s.1.length:Int)+s.2.1≤2∧1≤(s.1.length:Int)+s.2.1∧s.1.all letter=true∧RdOk (N+6-s.2.1) s.2.2) _ ?_ (n:=(1+q2.1.1).toNat) (by omega)
   ⟨by show (((1+q2.1.1).toNat:Nat):Int)=1+q2.1.1;omega,by show 1+q2.1.1≤2;omega,by show ((([]:List UInt8).length:Nat):Int)+(1+q2.1.1)≤2;simp;omega,by show 1≤((([]:List UInt8).length:Nat):Int)+(1+q2.1.1);simp;omega,rfl,hq2.1.le (by show N+1+1≤N+6-(1+q2.1.1);omega)⟩) fun e he=>zac.2 he
  rintro j ⟨s,m,rr⟩ ⟨h1,h2,h3,h3',hal,h4⟩
  simp only at h1 h2 h3 h3' hal h4
  rw [zlr,zad]
  simp only [a_ltI,decide_eq_true_eq,decide_eq_false_iff_not]
  refine ⟨fun hpos=>?_,fun hneg=>zac.2 ⟨fun s' e=>(by cases e),fun e he=>(by injection he with he;subst he;exact ⟨h4.le (by omega),by simp only [keyOk,hal,Bool.and_true,decide_eq_true_eq];omega⟩)⟩⟩
  refine (zaf k 4 _ _ h4 (by omega) (by omega)).bind fun q4 hq4=>?_
  have c1:=hq4.2.1
  have c2:=hq4.2.2.2.1 (by omega)
  have w2:A.wrapI .i64 (A.subI m 1)=m-1:=by rw [a_subI];exact zal (by omega) (by omega)
  rw [zad]
  refine ⟨fun _=>zac.2 ⟨fun s' e=>?_,fun e he=>(by cases he)⟩,fun hc=>?_⟩
  ·injection e with e;subst e
   rw [w2]
   refine ⟨j-1,by omega,by show ((j-1:Nat):Int)=m-1;omega,by show m-1≤2;omega,?_,?_,?_,hq4.1.le (by show N+6-m+1≤N+6-(m-1);omega)⟩
   ·simp;omega
   ·simp;omega
   ·simp only [a_appL,a_byteList,List.map_cons,List.map_nil]
    exact keyOk_snoc hal (letter_of c1 c2)
  ·simp at hc;omega
theorem l20Value_val (k:Nat) (N:Int) (r:Rd) (h:RdOk N r) (hp:N≤900000000):Ok (zdp A k ((),(0,())) r) (fun q=>RdOk (N+4) q.2∧0≤q.1.1∧q.1.1≤999):=by
 rw [zdp,odd0,a_obind_some]
 simp only [a_cndS,Bool.false_eq_true,if_false]
 refine (zaf k 20 _ _ h (by omega) (by omega)).bind fun q1 hq1=>?_
 have b1:=hq1.2.1
 have b2:=hq1.2.2.2.1 (by omega)
 refine (zaf k 9 _ _ hq1.1 (by omega) (by omega)).bind fun q2 hq2=>?_
 have c1:=hq2.2.1
 have c2:=hq2.2.2.2.1 (by omega)
 have d1:0≤q2.1.1.tdiv 8:=Int.tdiv_nonneg c1 (by omega)
 have d2:q2.1.1.tdiv 8≤1:=by rw [Int.tdiv_eq_ediv_of_nonneg c1];omega
 have w:A.wrapI .i64 (A.quoI q2.1.1 8)=q2.1.1.tdiv 8:=by rw [a_quoI];exact zal (by omega) (by omega)
 rw [w,ok_ite]
 refine ⟨fun _=>?_,fun hc=>by simp at hc⟩
 rw [ok_ite]
 refine ⟨fun _=>zac.2 ⟨hq2.1.le (by omega),?_⟩,fun hc=>?_⟩
 ·rw [a_atL];refine at_ok (P:=ValV) ?_ d1 ?_
  ·simp [ValV];omega
  ·simp;omega
 ·simp at hc;omega
theorem cmd_of {kd:Int} {key:List UInt8} {v o:Int} {u:Unit} (hkey:keyOk key=true) (h:(kd=1∨kd=3∨kd=5)∧v=0∧o=0∨kd=2∧(0≤v∧v≤999)∧o=0∨kd=4∧(0≤v∧v≤999)∧-1≤o∧o≤999):cmdOk (kd,(key,(v,(o,u))))=true:=by
 simp only [cmdOk,hkey,Bool.true_or,Bool.true_and]
 rcases h with ⟨h1,h2,h3⟩|⟨h1,h2,h3⟩|⟨h1,h2,h3⟩
 ·rw [if_pos h1];simp [h2,h3]
 ·subst h1;simp [h2,h3]
 ·subst h1;simp [h2,h3]
theorem l20Cmd_val (k:Nat) (hk:100≤k) (N:Int) (r:Rd) (h:RdOk N r) (hp:N≤800000000):Ok (zco A k ((),(0,())) r) (fun q=>RdOk (N+30) q.2∧cmdOk q.1.1=true):=by
 rw [zco,odd0,a_obind_some]
 rw [zad]
 refine ⟨fun h=>(by cases h),fun _=>?_⟩
 refine (l20Key_val k hk _ _ h (by omega)).bind fun q1 hq1=>?_
 refine Ok.bind (P:=fun r5=>RdOk (N+14) r5.2.2∧keyOk r5.1=true) ?_ fun r5 h5=>?_
 ·refine (zaf k 2 _ _ hq1.1 (by omega) (by omega)).bind fun q2 hq2=>?_
  rw [zad]
  refine ⟨fun _=>?_,fun _=>zac.2 ⟨hq2.1.le (by omega),hq1.2⟩⟩
  refine (zaf k 4 _ _ hq2.1 (by omega) (by omega)).bind fun q3 hq3=>?_
  have b1:=hq3.2.1
  have b2:=hq3.2.2.2.1 (by omega)
  rw [zad]
  refine ⟨fun _=>zac.2 ⟨hq3.1.le (by omega),?_⟩,fun hc=>?_⟩
  ·rw [a_atL];refine at_ok (P:=KeyV) ?_ b1 ?_
   ·simp only [List.mem_cons,List.not_mem_nil,or_false,forall_eq_or_imp,forall_eq,KeyV];decide
   ·simpa using b2
  ·simp at hc;omega
 ·refine (zaf k 8 _ _ h5.1 (by omega) (by omega)).bind fun q6 hq6=>?_
  rw [zad]
  refine ⟨fun _=>zac.2 ⟨hq6.1.le (by omega),cmd_of h5.2 (.inl ⟨.inl rfl,rfl,rfl⟩)⟩,fun _=>?_⟩
  rw [zad]
  refine ⟨fun _=>zac.2 ⟨hq6.1.le (by omega),cmd_of h5.2 (.inl ⟨.inr (.inl rfl),rfl,rfl⟩)⟩,fun _=>?_⟩
  rw [zad]
  refine ⟨fun _=>?_,fun _=>?_⟩
  ·refine (zaf k 5 _ _ hq6.1 (by omega) (by omega)).bind fun q7 hq7=>?_
   have c1:=hq7.2.1
   have c2:=hq7.2.2.2.1 (by omega)
   refine (zaf k 5 _ _ hq7.1 (by omega) (by omega)).bind fun q8 hq8=>?_
   have d1:=hq8.2.1
   have d2:=hq8.2.2.2.1 (by omega)
   have w:A.wrapI .i64 (A.subI q7.1.1 1)=q7.1.1-1:=by rw [a_subI];exact zal (by omega) (by omega)
   exact zac.2 ⟨hq8.1.le (by omega),cmd_of h5.2 (.inr (.inr ⟨rfl,⟨d1,by omega⟩,by rw [w];omega,by rw [w];omega⟩))⟩
  ·refine (l20Value_val k _ _ hq6.1 (by omega)).bind fun q9 hq9=>?_
   have w:A.remI q9.1.1 1000=q9.1.1:=by rw [a_remI];exact Int.tmod_eq_of_lt hq9.2.1 (by omega)
   rw [zad]
   exact ⟨fun _=>zac.2 ⟨hq9.1.le (by omega),cmd_of h5.2 (.inr (.inl ⟨rfl,by rw [w];exact hq9.2,rfl⟩))⟩,fun hc=>by simp at hc⟩
theorem l20Any_val (k:Nat) (hk:100≤k) (N:Int) (r:Rd) (h:RdOk N r) (hp:N≤800000000-100):Ok (zem A k ((),(0,())) r) (fun q=>RdOk (N+50) q.2∧cmdOk q.1.1=true):=by
 rw [zem]
 refine (l20Cmd_val k hk N r h (by omega)).bind fun q hq=>?_
 refine (zaf k 5 _ _ hq.1 (by omega) (by omega)).bind fun q1 hq1=>?_
 rw [zad]
 refine ⟨fun _=>?_,fun _=>zac.2 ⟨hq1.1.le (by omega),hq.2⟩⟩
 refine (l20Key_val k hk _ _ hq1.1 (by omega)).bind fun q2 hq2=>?_
 refine (zaf k 4 _ _ hq2.1 (by omega) (by omega)).bind fun q3 hq3=>?_
 have b1:=hq3.2.1
 have b2:=hq3.2.2.2.1 (by omega)
 rw [zad]
 refine ⟨fun _=>zac.2 ⟨hq3.1.le (by omega),?_⟩,fun hc=>?_⟩
 ·rw [a_atL]
  have hkey:(fun x:List UInt8=>x=[]∨keyOk x=true) ([[],[98],[99],q2.1.1].getD q3.1.1.toNat []):=by
   refine at_ok (P:=fun x:List UInt8=>x=[]∨keyOk x=true) ?_ b1 (by simpa using b2)
   simp only [List.mem_cons,List.not_mem_nil,or_false,forall_eq_or_imp,forall_eq]
   exact ⟨.inl trivial,.inr (by decide),.inr (by decide),.inr hq2.2⟩
  rcases hkey with h0|h0
  ·simp only [cmdOk];rw [h0];rfl
  ·exact cmd_of h0 (.inl ⟨.inr (.inr rfl),rfl,rfl⟩)
 ·simp at hc;omega
end
end Go.Den.T
namespace Go.Den.T
set_option linter.unusedVariables false
set_option linter.unusedSimpArgs false
set_option linter.unusedSectionVars false
variable {A:Atoms} [IsReal A]
/-! ### loops over lists -/
theorem eq_loop {α:Type} [DecidableEq α] {f:List α×(List α×(Int×Unit))→Option ((List α×(List α×(Int×Unit))) ⊕ (Unit ⊕ ((Bool×Unit)×Unit)))} {k:Nat} (d:α) (xs ys:List α) (hk:xs.length<k) (he:xs.length=ys.length)
 (hs : ∀i:Nat,i<xs.length→f (xs,(ys,((i:Int),())))=some (if (decide (xs.getD i d=ys.getD i d))=true then .inl (xs,(ys,(((i+1:Nat):Int),()))) else .inr (.inr ((false,()),()))))
 (hd:f (xs,(ys,(((xs.length:Nat):Int),())))=some (.inr (.inl ()))):A.iter k f (xs,(ys,(0,())))=some (if xs=ys then .inl () else .inr ((false,()),())):=by
 have h:=zdb (A:=A) (f:=f) (fun i=>(xs,(ys,((i:Int),())))) xs.length (fun i=>decide (xs.getD i d=ys.getD i d)) (.inr ((false,()),())) (.inl ()) hs hd hk
 have e:(List.range xs.length).all (fun i=>decide (xs.getD i d=ys.getD i d))=decide (xs=ys):=by
  rw [Bool.eq_iff_iff,zcv,decide_eq_true_eq]
  constructor
  ·intro hh
   refine List.ext_getElem he fun i h1 h2=>?_
   have:=hh i h1
   rw [zar h1,zar h2] at this;simpa using this
  ·intro e i _;subst e;simp
 rw [e] at h
 simpa using h
/-! ### entries -/
instance:DecidableEq Cmd:=inferInstanceAs (DecidableEq (Int×(List UInt8×(Int×(Int×Unit)))))
instance:DecidableEq Ent:=inferInstanceAs (DecidableEq (Int×(Int×(Cmd×Unit))))
abbrev ent0:Ent:=(0,(0,((0,([],(0,(0,())))),())))
/-! ### replicas -/
abbrev Rep:=Cfg×(Bool×(List Ent×Unit))
abbrev Msg:=Int×(Int×(Int×(Cfg×(List Ent×Unit))))
instance:DecidableEq Cfg:=inferInstanceAs (DecidableEq (Int×(List Int×(Bool×Unit))))
instance:DecidableEq Rep:=inferInstanceAs (DecidableEq (Cfg×(Bool×(List Ent×Unit))))
set_option synthInstance.maxSize 1000 in
instance:DecidableEq Msg:=inferInstanceAs (DecidableEq (Int×(Int×(Int×(Cfg×(List Ent×Unit))))))
def noCfg (c:Cfg):Bool:=decide (c.1=0)&&(decide (c.2.1.length=0) && !c.2.2.1)
theorem l17None_eq (k:Nat) (c:Cfg):zgl A k (c,()) ()=some ((noCfg c,()),()):=by
 simp only [zgl,a_cndS,a_eqI,a_lenL,a_notB,noCfg]
 by_cases h1:c.1=0
 ·by_cases h2:c.2.1.length=0
  ·simp [h1,h2]
  ·simp [h1,h2]
 ·simp [h1]
theorem noConfig_eq (k:Nat) (c:Cfg):zfc A k (c,()) ()=some ((noCfg c,()),()):=by
 simp only [zfc,a_cndS,a_eqI,a_lenL,a_notB,noCfg]
 by_cases h1:c.1=0
 ·by_cases h2:c.2.1.length=0
  ·simp [h1,h2]
  ·simp [h1,h2]
 ·simp [h1]
def logOk (l:List Ent):Bool:=decide (l.length≤24)&&l.all entOk
theorem zmw (k:Nat) (hk:30≤k) (l:List Ent):zcl A k (l,()) ()=some ((logOk l,()),()):=by
 by_cases hl:(24:Int)<l.length
 ·have : ¬l.length≤24:=by omega
  simp [zcl,hl,logOk,this]
 ·have hl':l.length≤24:=by omega
  have h:=zdb (A:=A) (f:=zdz A k) (fun i=>(l,((l.length:Int),((i:Int),())))) l.length (fun i=>entOk (l.getD i ent0)) (.inr ((false,()),())) (.inl ())
   (fun i hi=>by
     simp (disch:=omega) [zdz,hi,zal,zg2 k (by omega)]
     cases entOk l[i]<;>simp)
   (by simp [zdz]) (k:=k) (by omega)
  rw [zht] at h
  simp only [Int.natCast_zero,Int.ofNat_zero] at h
  simp only [zcl,a_cndS,a_ltI,a_lenL,hl,decide_false,Bool.false_eq_true,if_false,h,a_obind_some,logOk,hl',decide_true,Bool.true_and]
  cases l.all entOk<;>simp
theorem l10Log_eq (k:Nat) (hk:30≤k) (l:List Ent):zf8 A k (l,()) ()=some ((logOk l,()),()):=by
 have h:Ok (A.iter k (zd5 A k) (l,(0,()))) (fun r=>r=if logOk l=true then .inl () else .inr ((false,()),())):=by
  refine zbt (fun j s=>∃i:Nat,s=(l,((i:Int),()))∧i+j=24∧i≤l.length∧(l.take i).all entOk=true) _ ?_ (n:=24) (by omega) ⟨0,rfl,by omega,by omega,rfl⟩
  rintro j s ⟨i,rfl,hij,hil,hall⟩
  by_cases hi:i<l.length
  ·have hi':(i:Int)<(l.length:Int):=by omega
   by_cases h24:(24:Int)≤(i:Int)
   ·have : ¬l.length≤24:=by omega
    refine ⟨.inr (.inr ((false,()),())),by simp [zd5,hi,h24],fun s' e=>(by cases e),fun e he=>?_⟩
    injection he with he;subst he
    simp [logOk,this]
   ·have w:A.wrapI .i64 ((i:Int)+1)=(i:Int)+1:=zal (by omega) (by omega)
    by_cases hv:entOk l[i]=true
    ·refine ⟨.inl (l,(((i+1:Nat):Int),())),by simp [zd5,hi,h24,w,zbq k (by omega:10≤k),hv],fun s' e=>?_,fun e he=>(by cases he)⟩
     injection e with e;subst e
     refine ⟨j-1,by omega,i+1,rfl,by omega,by omega,?_⟩
     rw [List.take_succ_eq_append_getElem hi,List.all_append,hall];simp [hv]
    ·refine ⟨.inr (.inr ((false,()),())),by simp [zd5,hi,h24,w,zbq k (by omega:10≤k),hv],fun s' e=>(by cases e),fun e he=>?_⟩
     injection he with he;subst he
     have:l.all entOk=false:=by
      rw [←Bool.not_eq_true,List.all_eq_true]
      exact fun h=>hv (h _ (List.getElem_mem hi))
     simp [logOk,this]
  ·have:i=l.length:=by omega
   subst this
   rw [List.take_length] at hall
   refine ⟨.inr (.inl ()),by simp [zd5],fun s' e=>(by cases e),fun e he=>?_⟩
   injection he with he;subst he
   have:l.length≤24:=by omega
   simp only [logOk,this,hall,decide_true,Bool.and_self,if_true]
 rw [ok_eq] at h
 rw [zf8,h]
 cases logOk l<;>simp
def repOk (r:Rep):Bool:=if noCfg r.1=true then !r.2.1&&decide (r.2.2.1.length=0) else cfgOk r.1&&(logOk r.2.2.1&&(r.2.1||decide (r.2.2.1.length=0)))
theorem zil (k:Nat) (hk:30≤k) (r:Rep):zf9 A k (r,()) ()=some ((repOk r,()),()):=by
 simp only [zf9,noConfig_eq,zbj k (by omega:10≤k),zmw k hk,a_obind_some,a_cndS,a_notB,a_eqI,a_lenL,repOk]
 cases noCfg r.1<;>cases cfgOk r.1<;>cases logOk r.2.2.1<;>cases r.2.1<;>simp
theorem zbi (k:Nat) (hk:30≤k) (r:Rep):zbc A k (r,()) ()=some ((repOk r,()),()):=by
 simp only [zbc,l17None_eq,zav k (by omega:10≤k),l10Log_eq k hk,a_obind_some,a_cndS,a_notB,a_eqI,a_lenL,repOk]
 cases noCfg r.1<;>cases cfgOk r.1<;>cases logOk r.2.2.1<;>cases r.2.1<;>simp
theorem zmm {r:Rep} (h:repOk r=true) (hr:r.2.1=true):cfgOk r.1=true:=by
 unfold repOk at h
 cases hn:noCfg r.1 with
 | true=>simp [hn,hr] at h
 | false=>simp [hn] at h;exact h.1
def isTail (r:Rep) (n:Int):Bool:=repOk r&&(r.2.1&&decide (r.1.2.1.getD (r.1.2.1.length-1) 0=n))
theorem spec_IsTail_eq (k:Nat) (hk:30≤k) (r:Rep) (n:Int):zke A k (r,(n,())) ()=some ((isTail r n,()),()):=by
 simp only [zke,zbi k hk,a_obind_some,a_cndS,isTail]
 cases h:repOk r with
 | false=>simp
 | true=>
   cases hr:r.2.1 with
   | false=>simp
   | true=>
     have hl:=zay (zmm h hr)
     have w:A.wrapI .i64 ((r.1.2.1.length:Int)-1)=(r.1.2.1.length:Int)-1:=zal (by omega) (by omega)
     have h1:0≤(r.1.2.1.length:Int)-1:=by omega
     have h2:(r.1.2.1.length:Int)-1<(r.1.2.1.length:Int):=by omega
     have h3:((r.1.2.1.length:Int)-1).toNat=r.1.2.1.length-1:=by omega
     have h4:(1:Int)≤(r.1.2.1.length:Int):=by omega
     simp [w,h1,h2,h3,h4]
def copyTarget (r:Rep) (n:Int):Int:=if (repOk r&&r.2.1)=true then after r.1 n else -1
theorem zj4 (k:Nat) (hk:30≤k) (r:Rep) (n:Int) (h1:r.1.2.1.length<k) (h2:r.1.2.1.length≤1000000000):zig A k (r,(n,())) ()=some ((copyTarget r n,()),()):=by
 simp only [zig,zbi k hk,a_obind_some,a_cndS,a_notB,copyTarget]
 cases repOk r<;>cases r.2.1<;>simp [zjb k (by omega:10≤k) r.1 n h1 h2]
def msgOk (m:Msg):Bool:=
 if m.1=1 then decide (1≤m.2.2.1∧m.2.2.1≤60)&&(decide (0≤m.2.1∧m.2.1≤4)&&(cfgOk m.2.2.2.1&&(decide (m.2.2.2.1.1=m.2.2.1)&&decide (m.2.2.2.2.1.length=0))))
 else if m.1=2 then decide (1≤m.2.2.1∧m.2.2.1≤60)&&(decide (0≤m.2.1∧m.2.1≤4)&&(noCfg m.2.2.2.1&&logOk m.2.2.2.2.1))
 else if m.1=3 then decide (1≤m.2.2.1∧m.2.2.1≤60)&&(decide (m.2.1 = -1)&&(noCfg m.2.2.2.1&&decide (m.2.2.2.2.1.length=0)))
 else false
theorem zc5 (k:Nat) (hk:30≤k) (m:Msg):zdo A k (m,()) ()=some ((msgOk m,()),()):=by
 obtain ⟨kd,nd,ep,c,l,_⟩:=m
 simp only [zdo,zc9,l17None_eq,zav k (by omega:10≤k),l10Log_eq k hk,a_obind_some,a_cndS,a_eqI,a_lenL,msgOk]
 by_cases h1:kd=1
 ·by_cases h2:0≤nd∧nd≤4
  ·cases hc:cfgOk c with
   | false=>simp [h1,h2]
   | true=>
     have hl:=zay hc
     by_cases h3:c.1=ep
     ·have:1≤ep∧ep≤60:=by omega
      by_cases h4:l.length=0
      ·simp [h1,h2,h3,h4,this]
      ·simp [h1,h2,h3,h4,this]
     ·simp [h1,h2,h3]
  ·simp [h1,h2]
 by_cases h1':kd=2
 ·subst h1'
  by_cases h2:0≤nd∧nd≤4<;>by_cases h3:1≤ep∧ep≤60<;>cases noCfg c<;>simp [h2,h3]
 by_cases h1'':kd=3
 ·subst h1''
  by_cases h2:nd = -1<;>by_cases h3:1≤ep∧ep≤60<;>cases noCfg c<;>simp [h2,h3]
 simp [h1,h1',h1'']
theorem zip (k:Nat) (hk:30≤k) (m:Msg):zft A k (m,()) ()=some ((msgOk m,()),()):=by
 obtain ⟨kd,nd,ep,c,l,_⟩:=m
 simp only [zft,zhq,noConfig_eq,zbj k (by omega:10≤k),zmw k hk,a_obind_some,a_cndS,a_eqI,a_lenL,a_ltI,msgOk]
 by_cases hlo:ep<1
 ·have : ¬(1≤ep∧ep≤60):=by omega
  simp [hlo,this]
 by_cases hhi:60<ep
 ·have : ¬(1≤ep∧ep≤60):=by omega
  simp [hlo,hhi,this]
 have hep:1≤ep∧ep≤60:=by omega
 by_cases h1:kd=1
 ·subst h1
  by_cases h2:0≤nd∧nd≤4
  ·cases hc:cfgOk c with
   | false=>simp [hlo,hhi,h2,hep,hc,zhq,zbj k (by omega:10≤k)]
   | true=>
     by_cases h3:c.1=ep<;>simp [hlo,hhi,h2,hep,hc,h3,zhq,zbj k (by omega:10≤k)]
  ·simp [hlo,hhi,h2,hep,zhq]
 by_cases h1':kd=2
 ·subst h1'
  by_cases h2:0≤nd∧nd≤4
  ·cases hc:noCfg c<;>simp [hlo,hhi,h2,hep,hc,zhq,noConfig_eq,zmw k hk]
  ·simp [hlo,hhi,h2,hep,zhq]
 by_cases h1'':kd=3
 ·subst h1''
  by_cases h2:nd = -1
  ·cases hc:noCfg c<;>simp [hlo,hhi,h2,hep,hc,noConfig_eq]
  ·simp [hlo,hhi,h2,hep]
 simp [hlo,hhi,h1,h1',h1'']
end Go.Den.T
