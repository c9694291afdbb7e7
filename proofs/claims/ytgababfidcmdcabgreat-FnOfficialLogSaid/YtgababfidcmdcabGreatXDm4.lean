/- Trees of one's own are given up at a function's end. -/
import Derived.Below
import Derived.ChangeOld
import Derived.Deep.LoopGhost
import Derived.OpenShut
import Derived.ProofKit
import Derived.SizedLaws
import Derived.Test.YtgababfidcmdcabGreatXDm3
set_option linter.unusedVariables false
set_option linter.unusedSimpArgs false
namespace Go.Den
section
variable {P:Program} {tab:Tab} {G:Gam} {w0:Base} {lim0:Lim} {rb:Option Nat} {n:Nat}
variable {st st':St} {a:Act} {w:World} {lim:Lim} {β:Mp}
theorem XRep.blk : ∀ {t:Ty} {x:t.val} {cs:List Value} {B:Nat→Prop} {p:List Nat} {e:Ty} {v:Value} {g:Nat},XRep w t x cs B→typeAt t p=some (.slice e)→cs[offs t p]?=some v→blockOf v=some g→B g:=by
 intro t
 induction t with
 | slice u _=>
   intro x cs B p e v g h ht hv hg
   cases p with
   | cons i p=>cases (zb4 ht).1
   | nil=>
     rcases h with ⟨h1,_,_⟩|⟨g',c,arr,e',fr,Bs,h1,_,_,_,_,h5,_⟩
     ·rw [h1] at hv;simp [offs] at hv;subst hv;cases hg
     ·rw [h1] at hv;simp [offs] at hv;subst hv;injection hg with hg;exact (h5 g).2 (.inl hg.symm)
 | prod p' q' ihp ihq=>
   intro x cs B p e v g h ht hv hg
   obtain ⟨c1,c2,B1,B2,rfl,h2,h3,h4,h5⟩:=h
   have l1:=h4.length
   cases p with
   | nil=>simp [typeAt] at ht
   | cons i p=>
     cases i with
     | zero=>
       simp only [typeAt] at ht
       simp only [offs] at hv
       have hlt:=zbf ht
       have hs:(Ty.slice e).size=1:=rfl
       rw [List.getElem?_append_left (by omega)] at hv
       exact (h2 g).2 (.inl (ihp h4 ht hv hg))
     | succ i=>
       simp only [typeAt] at ht
       simp only [offs] at hv
       rw [List.getElem?_append_right (by omega),l1,show p'.size+offs q' (i::p)-p'.size=offs q' (i::p) by omega] at hv
       exact (h2 g).2 (.inr (ihq h5 ht hv hg))
 | int k=>intro x cs B p e v g h ht;cases p<;>simp [typeAt] at ht
 | bool=>intro x cs B p e v g h ht;cases p<;>simp [typeAt] at ht
 | str=>intro x cs B p e v g h ht;cases p<;>simp [typeAt] at ht
 | unit=>intro x cs B p e v g h ht;cases p<;>simp [typeAt] at ht
theorem XRep.inj : ∀ {t:Ty} {x:t.val} {cs:List Value} {B:Nat→Prop} {p q:List Nat} {e e':Ty} {u v:Value} {g:Nat},XRep w t x cs B→typeAt t p=some (.slice e)→typeAt t q=some (.slice e') →
 cs[offs t p]?=some u→cs[offs t q]?=some v→blockOf u=some g→blockOf v=some g→p=q:=by
 intro t
 induction t with
 | slice d _=>
   intro x cs B p q e e' u v g h hp hq _ _ _ _
   rw [(zb4 hp).1,(zb4 hq).1]
 | prod p' q' ihp ihq=>
   intro x cs B p q e e' u v g h hp hq hu hv hgu hgv
   obtain ⟨c1,c2,B1,B2,rfl,h2,h3,h4,h5⟩:=h
   have l1:=h4.length
   have left : ∀ {r:List Nat} {f:Ty} {z:Value},typeAt (.prod p' q') (0::r)=some (.slice f)→(c1++c2)[offs (.prod p' q') (0::r)]?=some z→typeAt p' r=some (.slice f)∧c1[offs p' r]?=some z:=by
    intro r f z ht hz
    simp only [typeAt] at ht
    simp only [offs] at hz
    have hlt:=zbf ht
    have hs:(Ty.slice f).size=1:=rfl
    rw [List.getElem?_append_left (by omega)] at hz
    exact ⟨ht,hz⟩
   have right : ∀ {i:Nat} {r:List Nat} {f:Ty} {z:Value},typeAt (.prod p' q') ((i+1)::r)=some (.slice f)→(c1++c2)[offs (.prod p' q') ((i+1)::r)]?=some z→typeAt q' (i::r)=some (.slice f)∧c2[offs q' (i::r)]?=some z:=by
    intro i r f z ht hz
    simp only [typeAt] at ht
    simp only [offs] at hz
    rw [List.getElem?_append_right (by omega),l1,show p'.size+offs q' (i::r)-p'.size=offs q' (i::r) by omega] at hz
    exact ⟨ht,hz⟩
   cases p with
   | nil=>simp [typeAt] at hp
   | cons i p=>
     cases q with
     | nil=>simp [typeAt] at hq
     | cons j q=>
       cases i with
       | zero=>
         obtain ⟨a1,a2⟩:=left hp hu
         cases j with
         | zero=>
           obtain ⟨b1,b2⟩:=left hq hv
           rw [ihp h4 a1 b1 a2 b2 hgu hgv]
         | succ j=>
           obtain ⟨b1,b2⟩:=right hq hv
           exact absurd (h5.blk b1 b2 hgv) (h3 g (h4.blk a1 a2 hgu))
       | succ i=>
         obtain ⟨a1,a2⟩:=right hp hu
         cases j with
         | zero=>
           obtain ⟨b1,b2⟩:=left hq hv
           exact absurd (h5.blk a1 a2 hgu) (h3 g (h4.blk b1 b2 hgv))
         | succ j=>
           obtain ⟨b1,b2⟩:=right hq hv
           have:=ihq h5 a1 b1 a2 b2 hgu hgv
           injection this with e1 e2
           rw [e1,e2]
 | int k=>intro x cs B p q e e' u v g h hp;cases p<;>simp [typeAt] at hp
 | bool=>intro x cs B p q e e' u v g h hp;cases p<;>simp [typeAt] at hp
 | str=>intro x cs B p q e e' u v g h hp;cases p<;>simp [typeAt] at hp
 | unit=>intro x cs B p q e e' u v g h hp;cases p<;>simp [typeAt] at hp
def SeenIn (w:World):(t:Ty)→List Value→Nat→Nat→Prop
 | .prod a b,cs,g,k=>SeenIn w a (cs.take a.size) g k∨SeenIn w b (cs.drop a.size) g k
 | .slice t,cs,g,k=>∃g' m c arr el fr,cs=[.slice (some ⟨g',0,none⟩) m c]∧w.heap[g']?=some (.cells arr el fr)∧((g=g'∧k=m*t.size)∨∃i,i<m∧SeenIn w t ((arr.toList.drop (i*t.size)).take t.size) g k)
 | _,_,_,_=>False
theorem seg {ds:List Value} {arr:Array Value} {i s:Nat} (hl:ds.length=s) (h : ∀j v,ds[j]?=some v→arr[i*s+j]?=some v):(arr.toList.drop (i*s)).take s=ds:=by
 apply List.ext_getElem?
 intro j
 by_cases hj:j<s
 ·rw [List.getElem?_take_of_lt hj,List.getElem?_drop,Array.getElem?_toList,h j _ (List.getElem?_eq_getElem (by omega)),List.getElem?_eq_getElem (by omega)]
 ·rw [List.getElem?_eq_none (by rw [List.length_take];omega),List.getElem?_eq_none (by omega)]
theorem XRep.seen_blk : ∀ {t:Ty} {x:t.val} {cs:List Value} {B:Nat→Prop} {g k:Nat},XRep w t x cs B→SeenIn w t cs g k→B g
 | .int _,_,_,_,_,_,_,hs=>hs.elim
 | .bool,_,_,_,_,_,_,hs=>hs.elim
 | .str,_,_,_,_,_,_,hs=>hs.elim
 | .unit,_,_,_,_,_,_,hs=>hs.elim
 | .prod a b,_,_,_,_,_,h,hs=>by
   obtain ⟨c1,c2,B1,B2,rfl,h2,h3,h4,h5⟩:=h
   have l1:=h4.length
   rcases hs with hs|hs
   ·rw [←l1,List.take_left] at hs
    exact (h2 _).2 (.inl (XRep.seen_blk h4 hs))
   ·rw [←l1,List.drop_left] at hs
    exact (h2 _).2 (.inr (XRep.seen_blk h5 hs))
 | .slice t,xs,_,_,_,_,h,hs=>by
   obtain ⟨g',m,c',arr',el',fr',q1,q2,q3⟩:=hs
   rcases h with ⟨h1,_,_⟩|⟨g0,c,arr,e,fr,Bs,h1,h2,h3,h4,hf,h5,h6,h7,h8⟩
   ·rw [h1] at q1;cases q1
   ·rw [h1] at q1;injection q1 with q1 _;injection q1 with e1 e2 e3;injection e1 with e1;injection e1 with e1 _
    subst e1
    rw [h4] at q2;injection q2 with q2;injection q2 with e4 _ _;subst e4
    rcases q3 with ⟨q3,_⟩|⟨i,hi,q3⟩
    ·exact (h5 _).2 (.inl q3)
    ·obtain ⟨ds,k1,k2⟩:=h8 i _ (List.getElem?_eq_getElem (by show i<List.length (α:=t.val) xs;omega))
     rw [seg k1.length k2] at q3
     exact (h5 _).2 (.inr ⟨i,XRep.seen_blk k1 q3⟩)
theorem XRep.seen_inj : ∀ {t:Ty} {x:t.val} {cs:List Value} {B:Nat→Prop} {g k k':Nat},XRep w t x cs B→SeenIn w t cs g k→SeenIn w t cs g k'→k=k'
 | .int _,_,_,_,_,_,_,_,hs,_=>hs.elim
 | .bool,_,_,_,_,_,_,_,hs,_=>hs.elim
 | .str,_,_,_,_,_,_,_,hs,_=>hs.elim
 | .unit,_,_,_,_,_,_,_,hs,_=>hs.elim
 | .prod a b,_,_,_,_,_,_,h,hs,hs'=>by
   obtain ⟨c1,c2,B1,B2,rfl,h2,h3,h4,h5⟩:=h
   have l1:=h4.length
   simp only [SeenIn] at hs hs'
   rw [←l1,List.take_left,List.drop_left] at hs hs'
   rcases hs with hs|hs<;>rcases hs' with hs'|hs'
   ·exact XRep.seen_inj h4 hs hs'
   ·exact absurd (XRep.seen_blk h5 hs') (h3 _ (XRep.seen_blk h4 hs))
   ·exact absurd (XRep.seen_blk h5 hs) (h3 _ (XRep.seen_blk h4 hs'))
   ·exact XRep.seen_inj h5 hs hs'
 | .slice t,xs,_,_,_,_,_,h,hs,hs'=>by
   obtain ⟨g',m,c',arr',el',fr',q1,q2,q3⟩:=hs
   obtain ⟨g2,m2,c2,arr2,el2,fr2,p1,p2,p3⟩:=hs'
   rcases h with ⟨h1,_,_⟩|⟨g0,c,arr,e,fr,Bs,h1,h2,h3,h4,hf,h5,h6,h7,h8⟩
   ·rw [h1] at q1;cases q1
   ·rw [h1] at q1;injection q1 with q1 _;injection q1 with e1 e2 e3;injection e1 with e1;injection e1 with e1 _
    rw [h1] at p1;injection p1 with p1 _;injection p1 with f1 f2 f3;injection f1 with f1;injection f1 with f1 _
    subst e1;subst f1
    rw [h4] at q2;injection q2 with q2;injection q2 with e4 _ _;subst e4
    rw [h4] at p2;injection p2 with p2;injection p2 with f4 _ _;subst f4
    rcases q3 with ⟨q3,q4⟩|⟨i,hi,q3⟩<;>rcases p3 with ⟨p3,p4⟩|⟨i',hi',p3⟩
    ·rw [q4,p4,←e2,←f2]
    ·obtain ⟨ds,k1,k2⟩:=h8 i' _ (List.getElem?_eq_getElem (by show i'<List.length (α:=t.val) xs;omega))
     rw [seg k1.length k2] at p3
     exact absurd q3 (h6 i' _ (XRep.seen_blk k1 p3)).2
    ·obtain ⟨ds,k1,k2⟩:=h8 i _ (List.getElem?_eq_getElem (by show i<List.length (α:=t.val) xs;omega))
     rw [seg k1.length k2] at q3
     exact absurd p3 (h6 i _ (XRep.seen_blk k1 q3)).2
    ·obtain ⟨ds,k1,k2⟩:=h8 i _ (List.getElem?_eq_getElem (by show i<List.length (α:=t.val) xs;omega))
     rw [seg k1.length k2] at q3
     obtain ⟨ds',k1',k2'⟩:=h8 i' _ (List.getElem?_eq_getElem (by show i'<List.length (α:=t.val) xs;omega))
     rw [seg k1'.length k2'] at p3
     have:=h7 i i' _ (XRep.seen_blk k1 q3) (XRep.seen_blk k1' p3)
     subst this
     have hd:ds'=ds:=by rw [←seg k1.length k2,←seg k1'.length k2']
     subst hd
     exact XRep.seen_inj k1 q3 p3
theorem XRep.crep2 : ∀ {t:Ty} {x:t.val} {cs:List Value} {B:Nat→Prop},XRep w t x cs B→(∀g k,SeenIn w t cs g k→lim g=some k)→CRep w lim t x cs
 | .int _,_,_,_,h,_=>h.1
 | .bool,_,_,_,h,_=>h.1
 | .str,_,_,_,h,_=>h.1
 | .unit,_,_,_,h,_=>h.1
 | .prod a b,_,_,_,h,hl=>by
   obtain ⟨c1,c2,B1,B2,rfl,h2,_,h4,h5⟩:=h
   have l1:=h4.length
   exact ⟨c1,c2,rfl,XRep.crep2 h4 (fun g k hs=>hl g k (.inl (by rw [←l1,List.take_left];exact hs))),XRep.crep2 h5 (fun g k hs=>hl g k (.inr (by rw [←l1,List.drop_left];exact hs)))⟩
 | .slice t,xs,cs,B,h,hl=>by
   rcases h with ⟨h1,h2,_⟩|⟨g,c,arr,e,fr,Bs,h1,h2,h3,h4,_,h5,h6,h7,h8⟩
   ·exact ⟨none,0,by rw [h1,h2],by omega,.inl (List.eq_nil_of_length_eq_zero h2)⟩
   ·refine ⟨some ⟨g,0,none⟩,c,h1,h2,.inr ⟨g,0,rfl,(Array.getElem?_eq_some_iff.1 h4).1,(by
      intro m hm
      have:=hl g (List.length (α:=t.val) xs*t.size) ⟨g,_,c,arr,e,fr,h1,h4,.inl ⟨rfl,rfl⟩⟩
      rw [hm] at this;injection this with this;rw [this];omega),fun i x hx=>?_⟩⟩
    obtain ⟨ds,k1,k2⟩:=h8 i x hx
    refine ⟨ds,XRep.crep2 k1 (fun g' k' hs=>hl g' k' ⟨g,_,c,arr,e,fr,h1,h4,.inr ⟨i,(List.getElem?_eq_some_iff.1 hx).1,by rw [seg k1.length k2];exact hs⟩⟩),fun j v hv=>?_⟩
    have:=k2 j v hv
    simp only [World.cell?,h4]
    simpa using this
theorem XRep.seen_at : ∀ {t:Ty} {x:t.val} {cs:List Value} {B:Nat→Prop} {p:List Nat} {e:Ty} {g m c:Nat},XRep w t x cs B→typeAt t p=some (.slice e)→cs[offs t p]?=some (.slice (some ⟨g,0,none⟩) m c)→SeenIn w t cs g (m*e.size):=by
 intro t
 induction t with
 | slice u _=>
   intro x cs B p e g m c h ht hv
   cases p with
   | cons i p=>cases (zb4 ht).1
   | nil=>
     simp only [typeAt] at ht;injection ht with ht;injection ht with ht;subst ht
     rcases h with ⟨h1,_,_⟩|⟨g',c',arr,e',fr,Bs,h1,_,_,h4,_⟩
     ·rw [h1] at hv;simp [offs] at hv
     ·rw [h1] at hv;simp [offs] at hv
      obtain ⟨e1,e2,e3⟩:=hv
      subst e1
      exact ⟨g',_,c',arr,e',fr,h1,h4,.inl ⟨rfl,by rw [←e2]⟩⟩
 | prod p' q' ihp ihq=>
   intro x cs B p e g m c h ht hv
   obtain ⟨c1,c2,B1,B2,rfl,h2,h3,h4,h5⟩:=h
   have l1:=h4.length
   cases p with
   | nil=>simp [typeAt] at ht
   | cons i p=>
     cases i with
     | zero=>
       simp only [typeAt] at ht
       simp only [offs] at hv
       have hlt:=zbf ht
       have hs:(Ty.slice e).size=1:=rfl
       rw [List.getElem?_append_left (by omega)] at hv
       exact .inl (by rw [←l1,List.take_left];exact ihp h4 ht hv)
     | succ i=>
       simp only [typeAt] at ht
       simp only [offs] at hv
       rw [List.getElem?_append_right (by omega),l1,show p'.size+offs q' (i::p)-p'.size=offs q' (i::p) by omega] at hv
       exact .inr (by rw [←l1,List.drop_left];exact ihq h5 ht hv)
 | int k=>intro x cs B p e g m c h ht;cases p<;>simp [typeAt] at ht
 | bool=>intro x cs B p e g m c h ht;cases p<;>simp [typeAt] at ht
 | str=>intro x cs B p e g m c h ht;cases p<;>simp [typeAt] at ht
 | unit=>intro x cs B p e g m c h ht;cases p<;>simp [typeAt] at ht
theorem XRep.tip : ∀ {t:Ty} {x:t.val} {cs:List Value} {B:Nat→Prop} {p:List Nat} {e:Ty},XRep w t x cs B→typeAt t p=some (.slice e)→∃v,cs[offs t p]?=some v ∧
 (v = .slice none 0 0∨∃g m c arr el fr,v = .slice (some ⟨g,0,none⟩) m c∧w.heap[g]?=some (.cells arr el fr)∧(∀o,o<arr.size→¬(fr.1≤o∧o<fr.2))∧m≤c∧c*e.size≤arr.size∧B g):=by
 intro t
 induction t with
 | slice u _=>
   intro x cs B p e h ht
   cases p with
   | cons i p=>cases (zb4 ht).1
   | nil=>
     simp only [typeAt] at ht;injection ht with ht;injection ht with ht;subst ht
     rcases h with ⟨h1,h2,_⟩|⟨g',c,arr,e',fr,Bs,h1,h2,h3,h4,hf,h5,_⟩
     ·exact ⟨_,by rw [h1];simp [offs],.inl rfl⟩
     ·exact ⟨_,by rw [h1];simp [offs],.inr ⟨g',_,c,arr,e',fr,rfl,h4,hf,h2,h3,(h5 g').2 (.inl rfl)⟩⟩
 | prod p' q' ihp ihq=>
   intro x cs B p e h ht
   obtain ⟨c1,c2,B1,B2,rfl,h2,h3,h4,h5⟩:=h
   have l1:=h4.length
   cases p with
   | nil=>simp [typeAt] at ht
   | cons i p=>
     cases i with
     | zero=>
       simp only [typeAt] at ht
       obtain ⟨v,k1,k2⟩:=ihp h4 ht
       refine ⟨v,by simp only [offs];rw [List.getElem?_append_left (List.getElem?_eq_some_iff.1 k1).1];exact k1,?_⟩
       rcases k2 with k2|⟨g,m,c,arr,el,fr,k2,k3,k4,k5,k6,k7⟩
       ·exact .inl k2
       ·exact .inr ⟨g,m,c,arr,el,fr,k2,k3,k4,k5,k6,(h2 g).2 (.inl k7)⟩
     | succ i=>
       simp only [typeAt] at ht
       obtain ⟨v,k1,k2⟩:=ihq h5 ht
       refine ⟨v,by simp only [offs];rw [List.getElem?_append_right (by omega),l1,show p'.size+offs q' (i::p)-p'.size=offs q' (i::p) by omega];exact k1,?_⟩
       rcases k2 with k2|⟨g,m,c,arr,el,fr,k2,k3,k4,k5,k6,k7⟩
       ·exact .inl k2
       ·exact .inr ⟨g,m,c,arr,el,fr,k2,k3,k4,k5,k6,(h2 g).2 (.inr k7)⟩
 | int k=>intro x cs B p e h ht;cases p<;>simp [typeAt] at ht
 | bool=>intro x cs B p e h ht;cases p<;>simp [typeAt] at ht
 | str=>intro x cs B p e h ht;cases p<;>simp [typeAt] at ht
 | unit=>intro x cs B p e h ht;cases p<;>simp [typeAt] at ht
theorem getF_paths : ∀ {t:Ty} {x:t.val} {i:Nat} {d:Dat} {p:List Nat},getF t x i=some d→p∈slicePaths d.1→(i::p)∈slicePaths t:=by
 intro t
 induction t with
 | prod a b _ ihb=>
   intro x i d p hf hp
   cases i with
   | zero=>
     simp only [getF] at hf;injection hf with hf;subst hf
     simp only [slicePaths]
     exact List.mem_append_left _ (List.mem_map.2 ⟨p,hp,rfl⟩)
   | succ i=>
     simp only [getF] at hf
     have:=ihb hf hp
     cases b with
     | prod u v=>rw [slicePaths];exact List.mem_append_right _ (List.mem_map.2 ⟨i::p,this,rfl⟩)
     | _=>cases hf
 | _=>intro x i d p hf;cases hf
theorem getP_paths : ∀ {q:List Nat} {t:Ty} {x:t.val} {y:Dat} {p:List Nat},getP t x q=some y→p∈slicePaths y.1→(q++p)∈slicePaths t
 | [],t,x,y,p,h,hp=>by simp only [getP] at h;injection h with h;subst h;exact hp
 | i::q,t,x,y,p,h,hp=>by
   simp only [getP] at h
   cases hf:getF t x i with
   | none=>rw [hf] at h;cases h
   | some d=>
     rw [hf] at h
     exact getF_paths hf (getP_paths h hp)
theorem XRep.el : ∀ {u:Ty} {xs:(Ty.slice u).val} {cs:List Value} {B:Nat→Prop} {v:Value},XRep w (.slice u) xs cs B→cs[0]?=some v→∀ {i:Nat} {q:List Nat} {e':Ty} {z:Value},typeAt u q=some (.slice e')→elemAt w u v i q=some z →
 ∃(x:u.val) (ds:List Value) (Bi:Nat→Prop),XRep w u x ds Bi∧ds[offs u q]?=some z∧(∀g,Bi g→B g∧blockOf v≠some g)∧(∀g k,SeenIn w u ds g k→SeenIn w (.slice u) cs g k) ∧
  ∀ {j:Nat} {r:List Nat} {e'':Ty} {z':Value},typeAt u r=some (.slice e'')→elemAt w u v j r=some z'→∀g,Bi g→blockOf z'=some g→i=j∧ds[offs u r]?=some z':=by
 intro u xs cs B v h hv i q e' z hq hz
 rcases h with ⟨h1,_,_⟩|⟨g,c,arr,el,fr,Bs,h1,h2,h3,h4,hf,h5,h6,h7,h8⟩
 ·rw [h1] at hv;simp at hv;subst hv;cases hz
 ·rw [h1] at hv;simp at hv;subst hv
  have get : ∀ {j:Nat} {r:List Nat} {e'':Ty} {z':Value},typeAt u r=some (.slice e'')→elemAt w u (.slice (some ⟨g,0,none⟩) (List.length (α:=u.val) xs) c) j r=some z'→∃(x:u.val) (ds:List Value),XRep w u x ds (Bs j)∧ds[offs u r]?=some z'∧j<List.length (α:=u.val) xs∧(arr.toList.drop (j*u.size)).take u.size=ds:=by
   intro j r e'' z' hr hz'
   have hlt:=zbf hr
   have hs1:(Ty.slice e'').size=1:=rfl
   simp only [elemAt] at hz'
   split at hz'
   ·rename_i hj
    obtain ⟨ds,k1,k2⟩:=h8 j _ (List.getElem?_eq_getElem (by show j<List.length (α:=u.val) xs;exact hj))
    have hdl:=k1.length
    have k3:=k2 (offs u r) _ (List.getElem?_eq_getElem (by omega))
    refine ⟨_,ds,k1,?_,hj,seg k1.length k2⟩
    simp only [World.cell?,h4,Option.isSome_none,Bool.false_eq_true,if_false,Nat.zero_add] at hz'
    rw [hz'] at k3;injection k3 with k3
    rw [List.getElem?_eq_getElem (by omega),←k3]
   ·cases hz'
  obtain ⟨x,ds,a1,a2,a3,a4⟩:=get hq hz
  refine ⟨x,ds,Bs i,a1,a2,fun g' hg'=>⟨(h5 g').2 (.inr ⟨i,hg'⟩),fun hb=>(h6 i g' hg').2 (by injection hb with hb;exact hb.symm)⟩,fun g' k hs=>⟨g,_,c,arr,el,fr,h1,h4,.inr ⟨i,a3,by rw [a4];exact hs⟩⟩,fun {j r e'' z'} hr hz' g' hg' hb=>?_⟩
  obtain ⟨x',ds',b1,b2,b3,b4⟩:=get hr hz'
  have:=h7 i j g' hg' (b1.blk hr b2 hb)
  subst this
  rw [a4] at b4;subst b4
  exact ⟨rfl,b2⟩
theorem XRep.blkT : ∀ {t:Ty} {x:t.val} {cs:List Value} {B:Nat→Prop} {p:List Nat} {T:Ty} {v:Value} {g:Nat},XRep w t x cs B→typeAt t p=some T→cs[offs t p]?=some v→Blk w T v g→B g:=by
 intro t
 induction t with
 | slice u _=>
   intro x cs B p T v g h ht hv hg
   rcases zce ht with ⟨rfl,rfl⟩|⟨rfl,rfl⟩
   ·exact h.blk (p:=[]) rfl hv hg
   ·have hv:cs[0]?=some v:=hv
    obtain ⟨i,q,e',z,a1,a2,a3⟩:=hg
    obtain ⟨y,ds,Bi,b1,b2,b3,_,_⟩:=h.el hv a1 a2
    exact (b3 g (b1.blk a1 b2 a3)).1
 | prod p' q' ihp ihq=>
   intro x cs B p T v g h ht hv hg
   obtain ⟨c1,c2,B1,B2,rfl,h2,h3,h4,h5⟩:=h
   have l1:=h4.length
   cases p with
   | nil=>
     simp only [typeAt] at ht;injection ht with ht;subst ht
     have ho:=hg.oty
     cases p' with
     | slice e=>
       cases q' with
       | unit=>
         have hs:(Ty.slice e).size=1:=rfl
         rw [show offs (.prod (.slice e) .unit) []=0 from rfl,List.getElem?_append_left (by omega)] at hv
         exact (h2 g).2 (.inl (ihp (p:=[0]) h4 rfl hv hg))
       | _=>cases ho
     | _=>cases ho
   | cons i p=>
     cases i with
     | zero=>
       simp only [typeAt] at ht
       simp only [offs] at hv
       have hlt:=zbf ht
       have hs:T.size=1:=oty_size hg.oty
       rw [List.getElem?_append_left (by omega)] at hv
       exact (h2 g).2 (.inl (ihp h4 ht hv hg))
     | succ i=>
       simp only [typeAt] at ht
       simp only [offs] at hv
       rw [List.getElem?_append_right (by omega),l1,show p'.size+offs q' (i::p)-p'.size=offs q' (i::p) by omega] at hv
       exact (h2 g).2 (.inr (ihq h5 ht hv hg))
 | int k=>intro x cs B p T v g h ht hv hg;cases p<;>simp [typeAt] at ht;subst ht;cases hg
 | bool=>intro x cs B p T v g h ht hv hg;cases p<;>simp [typeAt] at ht;subst ht;cases hg
 | str=>intro x cs B p T v g h ht hv hg;cases p<;>simp [typeAt] at ht;subst ht;cases hg
 | unit=>intro x cs B p T v g h ht hv hg;cases p<;>simp [typeAt] at ht;subst ht;cases hg
theorem XRep.sepT : ∀ {t:Ty} {x:t.val} {cs:List Value} {B:Nat→Prop} {p q:List Nat} {T T':Ty} {u v:Value} {g:Nat},XRep w t x cs B→p∈slicePaths t→q∈slicePaths t→typeAt t p=some T→typeAt t q=some T' →
 cs[offs t p]?=some u→cs[offs t q]?=some v→Blk w T u g→Blk w T' v g→p=q:=by
 intro t
 induction t with
 | slice d _=>
   intro x cs B p q T T' u v g h hp hq ht ht' hu hv hgu hgv
   have key : ∀ {u v:Value},cs[0]?=some u→cs[0]?=some v→Blk w (.slice d) u g→Blk w (.prod (.slice d) .unit) v g→False:=by
    intro u v hu hv hgu hgv
    rw [hu] at hv;injection hv with hv;subst hv
    obtain ⟨i,q,e',z,a1,a2,a3⟩:=hgv
    obtain ⟨y,ds,Bi,b1,b2,b3,_,_⟩:=h.el hu a1 a2
    exact (b3 g (b1.blk a1 b2 a3)).2 hgu
   rcases zce ht with ⟨rfl,rfl⟩|⟨rfl,rfl⟩<;>rcases zce ht' with ⟨rfl,rfl⟩|⟨rfl,rfl⟩
   ·rfl
   ·exact (key hu hv hgu hgv).elim
   ·exact (key hv hu hgv hgu).elim
   ·rfl
 | prod p' q' ihp ihq=>
   intro x cs B p q T T' u v g h hp hq ht ht' hu hv hgu hgv
   obtain ⟨c1,c2,B1,B2,rfl,h2,h3,h4,h5⟩:=h
   have l1:=h4.length
   have part : ∀ {r:List Nat},r∈slicePaths (.prod p' q')→(∃s,r=0::s∧s∈slicePaths p')∨∃i s,r=(i+1)::s∧(i::s)∈slicePaths q':=by
    intro r hr
    simp only [slicePaths,List.mem_append,List.mem_map] at hr
    rcases hr with ⟨s,hs,rfl⟩|hr
    ·exact .inl ⟨s,rfl,hs⟩
    ·cases q' with
     | prod c d=>
       obtain ⟨i,s,e,hs⟩:=mem_bump hr (fun s hs=>(zaw hs).2 rfl)
       exact .inr ⟨i,s,e,hs⟩
     | _=>simp at hr
   have left : ∀ {r:List Nat} {S:Ty} {z:Value},Blk w S z g→typeAt (.prod p' q') (0::r)=some S→(c1++c2)[offs (.prod p' q') (0::r)]?=some z→typeAt p' r=some S∧c1[offs p' r]?=some z:=by
    intro r S z hg ht hz
    simp only [typeAt] at ht
    simp only [offs] at hz
    have hlt:=zbf ht
    have hs:S.size=1:=oty_size hg.oty
    rw [List.getElem?_append_left (by omega)] at hz
    exact ⟨ht,hz⟩
   have right : ∀ {i:Nat} {r:List Nat} {S:Ty} {z:Value},typeAt (.prod p' q') ((i+1)::r)=some S→(c1++c2)[offs (.prod p' q') ((i+1)::r)]?=some z→typeAt q' (i::r)=some S∧c2[offs q' (i::r)]?=some z:=by
    intro i r S z ht hz
    simp only [typeAt] at ht
    simp only [offs] at hz
    rw [List.getElem?_append_right (by omega),l1,show p'.size+offs q' (i::r)-p'.size=offs q' (i::r) by omega] at hz
    exact ⟨ht,hz⟩
   rcases part hp with ⟨s,rfl,hs⟩|⟨i,s,rfl,hs⟩<;>rcases part hq with ⟨s',rfl,hs'⟩|⟨j,s',rfl,hs'⟩
   ·obtain ⟨a1,a2⟩:=left hgu ht hu
    obtain ⟨b1,b2⟩:=left hgv ht' hv
    rw [ihp h4 hs hs' a1 b1 a2 b2 hgu hgv]
   ·obtain ⟨a1,a2⟩:=left hgu ht hu
    obtain ⟨b1,b2⟩:=right ht' hv
    exact absurd (h5.blkT b1 b2 hgv) (h3 g (h4.blkT a1 a2 hgu))
   ·obtain ⟨a1,a2⟩:=right ht hu
    obtain ⟨b1,b2⟩:=left hgv ht' hv
    exact absurd (h5.blkT a1 a2 hgu) (h3 g (h4.blkT b1 b2 hgv))
   ·obtain ⟨a1,a2⟩:=right ht hu
    obtain ⟨b1,b2⟩:=right ht' hv
    have:=ihq h5 hs hs' a1 b1 a2 b2 hgu hgv
    injection this with e1 e2
    rw [e1,e2]
 | int k=>intro x cs B p q T T' u v g h hp;simp [slicePaths] at hp
 | bool=>intro x cs B p q T T' u v g h hp;simp [slicePaths] at hp
 | str=>intro x cs B p q T T' u v g h hp;simp [slicePaths] at hp
 | unit=>intro x cs B p q T T' u v g h hp;simp [slicePaths] at hp
theorem XRep.ownT {base:Nat→Prop} : ∀ {t:Ty} {x:t.val} {cs:List Value} {B:Nat→Prop} {p:List Nat} {T:Ty},XRep w t x cs B→(∀g k,SeenIn w t cs g k→lim g=some k)→(∀g,B g→base g)→typeAt t p=some T→OTy T=true →
 ∃v,cs[offs t p]?=some v∧OwnT w lim base T v:=by
 intro t
 induction t with
 | slice u ihu=>
   intro x cs B p T h hl hb ht ho
   rcases zce ht with ⟨rfl,rfl⟩|⟨rfl,rfl⟩
   ·obtain ⟨v,k1,k2⟩:=h.tip (p:=[]) rfl
    refine ⟨v,k1,?_⟩
    rcases k2 with k2|⟨g,m,c,arr,el,fr,q1,q2,q3,q4,q5,q6⟩
    ·exact .inl k2
    ·exact .inr ⟨g,m,c,arr,el,fr,q1,hb g q6,q2,q3,q4,q5,hl g _ (h.seen_at (p:=[]) rfl (by rw [k1,q1]))⟩
   ·obtain ⟨v,k1,k2⟩:=h.tip (p:=[]) rfl
    have hv:cs[0]?=some v:=k1
    refine ⟨v,k1,fun i q e' z hq hz=>?_,fun i q e' z j r e'' z' g hq hr hz hz' hg hg'=>?_⟩
    ·obtain ⟨y,ds,Bi,b1,b2,b3,b4,_⟩:=h.el hv hq hz
     obtain ⟨v',c1,c2⟩:=ihu b1 (fun g k hs=>hl g k (b4 g k hs)) (fun g hg=>hb g (b3 g hg).1) hq rfl
     rw [b2] at c1;injection c1 with c1;subst c1
     exact c2
    ·obtain ⟨y,ds,Bi,b1,b2,b3,b4,b5⟩:=h.el hv hq hz
     obtain ⟨c1,c2⟩:=b5 hr hz' g (b1.blk hq b2 hg) hg'
     exact ⟨c1,b1.inj hq hr b2 c2 hg hg'⟩
 | prod p' q' ihp ihq=>
   intro x cs B p T h hl hb ht ho
   obtain ⟨c1,c2,B1,B2,rfl,h2,h3,h4,h5⟩:=h
   have l1:=h4.length
   have hl1 : ∀g k,SeenIn w p' c1 g k→lim g=some k:=fun g k hs=>hl g k (.inl (by rw [←l1,List.take_left];exact hs))
   have hl2 : ∀g k,SeenIn w q' c2 g k→lim g=some k:=fun g k hs=>hl g k (.inr (by rw [←l1,List.drop_left];exact hs))
   cases p with
   | nil=>
     simp only [typeAt] at ht;injection ht with ht;subst ht
     cases p' with
     | slice e=>
       cases q' with
       | unit=>
         obtain ⟨v,k1,k2⟩:=ihp (p:=[0]) h4 hl1 (fun g hg=>hb g ((h2 g).2 (.inl hg))) rfl rfl
         have k1:c1[0]?=some v:=k1
         exact ⟨v,by rw [show offs (.prod (.slice e) .unit) []=0 from rfl,List.getElem?_append_left (List.getElem?_eq_some_iff.1 k1).1];exact k1,k2⟩
       | _=>cases ho
     | _=>cases ho
   | cons i p=>
     cases i with
     | zero=>
       simp only [typeAt] at ht
       obtain ⟨v,k1,k2⟩:=ihp h4 hl1 (fun g hg=>hb g ((h2 g).2 (.inl hg))) ht ho
       exact ⟨v,by simp only [offs];rw [List.getElem?_append_left (List.getElem?_eq_some_iff.1 k1).1];exact k1,k2⟩
     | succ i=>
       simp only [typeAt] at ht
       obtain ⟨v,k1,k2⟩:=ihq h5 hl2 (fun g hg=>hb g ((h2 g).2 (.inr hg))) ht ho
       refine ⟨v,?_,k2⟩
       simp only [offs]
       rw [List.getElem?_append_right (by omega),l1,show p'.size+offs q' (i::p)-p'.size=offs q' (i::p) by omega];exact k1
 | int k=>intro x cs B p T h _ _ ht ho;cases p<;>simp [typeAt] at ht;subst ht;cases ho
 | bool=>intro x cs B p T h _ _ ht ho;cases p<;>simp [typeAt] at ht;subst ht;cases ho
 | str=>intro x cs B p T h _ _ ht ho;cases p<;>simp [typeAt] at ht;subst ht;cases ho
 | unit=>intro x cs B p T h _ _ ht ho;cases p<;>simp [typeAt] at ht;subst ht;cases ho
theorem soleIn_inj {r t u:Tmp} {q q':List Nat} (h1:(st.env t).av = .xf r q) (h2:(st.env u).av = .xf r q') : ∀ {rs:List ResultVar},soleIn st r t rs=true→soleIn st r u rs=true→t=u
 | [],h,_=>by cases h
 | .cell _ _::rs,h,k=>soleIn_inj h1 h2 (rs:=rs) h k
 | .tmp x::rs,h,k=>by
   simp only [soleIn] at h k
   cases ht:Nat.beq x t with
   | true=>
     have et:=nbeq ht
     rw [ht] at h;simp only [cnd_true] at h
     have hr:rootIn st r rs=false:=by cases hq:rootIn st r rs with
      | false=>rfl
      | true=>rw [hq] at h;cases h
     cases hu:Nat.beq x u with
     | true=>rw [←et,nbeq hu]
     | false=>
       rw [hu] at k;simp only [cnd_false] at k
       rw [et,h1] at k
       simp only [] at k
       have:Nat.beq r r=true:=Nat.beq_refl r
       rw [this] at k;cases k
   | false=>
     rw [ht] at h;simp only [cnd_false] at h
     cases hu:Nat.beq x u with
     | true=>
       have eu:=nbeq hu
       rw [eu,h2] at h
       simp only [] at h
       have:Nat.beq r r=true:=Nat.beq_refl r
       rw [this] at h;cases h
     | false=>
       rw [hu] at k;simp only [cnd_false] at k
       split at h
       ·rename_i c p hav
        rw [hav] at k;simp only [] at k
        cases hc:Nat.beq c r with
        | true=>rw [hc] at h;cases h
        | false=>rw [hc] at h k;exact soleIn_inj h1 h2 (rs:=rs) h k
       ·rename_i hno
        split at k
        ·rename_i c p hav;exact absurd hav (hno c p)
        ·exact soleIn_inj h1 h2 (rs:=rs) h k
def seenTo (st:St) (β:Mp) (w:World) (g k:Nat):Prop:=∃r d,st.io r=some d∧SeenIn w d.1 (flatV (β.V r)) g k
open Classical in
noncomputable def limF (st:St) (β:Mp) (w:World) (lim:Lim):Lim:=fun g=>if h : ∃k,seenTo st β w g k then some h.choose else lim g
theorem seen_tree (h:Sim w0 lim0 rb n st a w lim β) {g k:Nat} (hs:seenTo st β w g k):isTree st β g:=by
 obtain ⟨r,d,h1,h2⟩:=hs
 exact .inl ⟨r,d,h1,(h.xs.io r d h1).seen_blk h2⟩
theorem limF_of (h:Sim w0 lim0 rb n st a w lim β) {g k:Nat} (hs:seenTo st β w g k):limF st β w lim g=some k:=by
 unfold limF
 have hex : ∃k,seenTo st β w g k:=⟨k,hs⟩
 rw [dif_pos hex]
 obtain ⟨r,d,h1,h2⟩:=hs
 obtain ⟨r',d',k1,k2⟩:=hex.choose_spec
 have X:=h.xs.io r d h1
 have X':=h.xs.io r' d' k1
 have:=h.xs.dis r d r' d' g h1 k1 (X.seen_blk h2) (X'.seen_blk k2)
 subst this
 rw [h1] at k1;injection k1 with k1;subst k1
 rw [X.seen_inj k2 h2]
theorem limF_off (h:Sim w0 lim0 rb n st a w lim β) {g:Nat} (hs : ¬isTree st β g):limF st β w lim g=lim g:=by
 unfold limF
 rw [dif_neg (fun ⟨k,hk⟩=>hs (seen_tree h hk))]
theorem ext_limF (h:Sim w0 lim0 rb n st a w lim β):Ext w lim w (limF st β w lim):=
 ⟨Nat.le_refl _,fun _ _ _ _ _ h=>h,fun b m _ hu k hk=>by
   by_cases ht:isTree st β b
   ·have:=hu 0 (h.xs.lt ht).2.2
    omega
   ·rw [limF_off h ht] at hk;exact hu k hk⟩
theorem flat_wrap {t:Ty} {x:t.val} {cs:List Value} (h:CRep w lim t x cs):flatV (wrapV t cs)=cs:=by
 rw [zdl (t:=t) (x:=x) (w:=w) (lim:=lim) ⟨cs,h,rfl⟩,za6 h]
theorem Sim.frz (h:Sim w0 lim0 rb n st a w lim β) (rs:List ResultVar) (hrb : ∀k,some k=rb→k<w0.heap.size):Sim w0 lim0 rb n (Den.frz rs st) a w (limF st β w lim) β:=by
 have hnr : ∀g,isTree st β g→w0.fr g:=fun g hg=>(h.xs.lt hg).2.1
 have hext:=ext_limF h
 have xval : ∀t r q,(st.env t).av = .xf r q→∀y,st.atX r q=some y→∃d cs,st.io r=some d∧getP d.1 d.2 q=some y∧CRep w (limF st β w lim) y.1 y.2 cs∧tmpOf a t=wrapV y.1 cs∧∀k v,cs[k]?=some v→(flatV (β.V r))[offs d.1 q+k]?=some v:=by
  intro t r q hav y hy
  obtain ⟨d,hio,hv⟩:=xf_val h (x:=.tmp t) hav hy
  obtain ⟨d2,Bu,m1,m2,m3,m6,m7,m8⟩:=h.atX hy
  rw [hio] at m1;injection m1 with m1;subst m1
  have hw:=((h.xs.io r d hio).crep2 (lim:=limF st β w lim) (fun g k hs=>limF_of h ⟨r,d,hio,hs⟩))
  obtain ⟨c1,c2,c3,q1,q2,q3,_⟩:=hw.part m2
  have hc2:((flatV (β.V r)).drop (offs d.1 q)).take y.1.size=c2:=by
   rw [q1,←q2,List.drop_left,←q3.length,List.take_left]
  refine ⟨d,c2,hio,m2,q3,by rw [←hc2];exact hv,fun k v hk=>?_⟩
  rw [q1,←q2,List.getElem?_append_right (by omega),show c1.length+k-c1.length=k by omega,List.getElem?_append_left (List.getElem?_eq_some_iff.1 hk).1];exact hk
 -- what is owned then
 have ownc : ∀l,(Den.frz rs st).own l=true→(st.own l=true∧locTy (Den.frz rs st) l=locTy st l∧locV (Den.frz rs st) a w β l=locV st a w β l) ∨
  ∃t p r q y d,l = .tmp t p∧(st.env t).av = .xf r q∧st.atX r q=some y∧st.io r=some d∧soleIn st r t rs=true∧(q++p)∈slicePaths d.1∧(∃T v,typeAt d.1 (q++p)=some T∧OTy T=true∧(flatV (β.V r))[offs d.1 (q++p)]?=some v∧locTy (Den.frz rs st) l=some T∧locV (Den.frz rs st) a w β l=some v):=by
  intro l hl
  cases l with
  | box b p=>exact .inl ⟨hl,rfl,rfl⟩
  | tmp t p=>
    simp only [Den.frz] at hl
    split at hl
    ·rename_i r q hav
     split at hl
     ·rename_i y hy
      cases hso:soleIn st r t rs with
      | false=>rw [hso] at hl;cases hl
      | true=>
        rw [hso] at hl
        have hp:=zhe.1 hl
        obtain ⟨⟨e,he,hoe⟩,_⟩:=zaw hp
        obtain ⟨d,cs,k1,k2,k3,k4,k5⟩:=xval t r q hav y hy
        obtain ⟨g1,g2⟩:=getP_app k2 p he
        obtain ⟨v,hv,_⟩:=(h.xs.io r d k1).ownT (lim:=limF st β w lim) (base:=w0.fr) (fun g k hs=>limF_of h ⟨r,d,k1,hs⟩) (fun g hg=>hnr g (.inl ⟨r,d,k1,hg⟩)) g1 hoe
        have hcv:cs[offs y.1 p]?=some v:=by
         have hlt:=zbf he
         have hs:e.size=1:=oty_size hoe
         have hl':=k3.length
         have:=k5 (offs y.1 p) _ (List.getElem?_eq_getElem (by omega))
         rw [←g2,hv] at this;injection this with this
         rw [List.getElem?_eq_getElem (by omega),←this]
        refine .inr ⟨t,p,r,q,y,d,rfl,hav,hy,k1,hso,getP_paths k2 hp,e,v,g1,hoe,hv,?_,?_⟩
        ·have:((Den.frz rs st).env t).av = .dat y.1 y.2:=by simp only [Den.frz,frzAV,hav,hy]
         simp only [locTy,this];exact he
        ·have:((Den.frz rs st).env t).av = .dat y.1 y.2:=by simp only [Den.frz,frzAV,hav,hy]
         simp only [locV,this,k4,flat_wrap k3];exact hcv
     ·cases hl
    ·rename_i hno
     obtain ⟨e,v,k1,_⟩:=h.own _ hl
     have hav:((Den.frz rs st).env t).av=(st.env t).av:=by
      simp only [Den.frz]
      simp only [locTy] at k1
      cases hq:(st.env t).av with
      | xf r q=>exact absurd hq (hno r q)
      | xp _ _ _ _=>rw [hq] at k1;cases k1
      | xt _=>rw [hq] at k1;cases k1
      | xe _ _=>rw [hq] at k1;cases k1
      | mx _ _ _=>rw [hq] at k1;cases k1
      | cx _ _=>rw [hq] at k1;cases k1
      | _=>rfl
     exact .inl ⟨hl,by simp only [locTy,hav],by simp only [locV,hav]⟩
 -- and what stands behind it
 have hasc : ∀l g,(Den.frz rs st).own l=true→HasL (Den.frz rs st) a w β l g→(st.own l=true∧HasL st a w β l g) ∨
  ∃t p r q d T v,l = .tmp t p∧(st.env t).av = .xf r q∧st.io r=some d∧soleIn st r t rs=true∧(q++p)∈slicePaths d.1∧typeAt d.1 (q++p)=some T∧(flatV (β.V r))[offs d.1 (q++p)]?=some v∧Blk w T v g∧β.B r g:=by
  intro l g hl hg
  obtain ⟨T,v,m1,m2,m3⟩:=hg
  rcases ownc l hl with ⟨k1,k2,k3⟩|⟨t,p,r,q,y,d,rfl,k1,k2,k3,k4,kp,T',v',k5,ko,k6,k7,k8⟩
  ·exact .inl ⟨k1,T,v,by rw [←k2];exact m1,by rw [←k3];exact m2,m3⟩
  ·rw [k7] at m1;injection m1 with m1;subst m1
   rw [k8] at m2;injection m2 with m2;subst m2
   exact .inr ⟨t,p,r,q,d,T',v',rfl,k1,k3,k4,kp,k5,k6,m3,(h.xs.io r d k3).blkT k5 k6 m3⟩
 refine ⟨h.size,h.defers,h.grow,fun b hb hX=>?_,h.xrb,h.rdk,fun t=>?_,fun b d hb=>?_,h.inj,fun l hl=>?_,fun l g hl hg b d' hb=>?_,fun l l' g hl hl' hg hg'=>?_,fun t l ht=>(by cases ht),fun d hd=>?_,?_⟩
 ·rw [limF_off h (fun ht=>by
    rcases hnr b ht with h1|h1
    ·omega
    ·exact hX h1)]
  exact h.limOld b hb hX
 ·have ht:=h.env t
  have hm : ∀ {av:AV},(∀r p,av≠.xf r p)→(∀r p k q,av≠.xp r p k q)→(∀k q,av≠.xe k q)→(∀t x ps,av≠.mx t x ps)→(∀r,av≠.xt r)→(∀b p,av≠.cx b p)→ERep st w lim β rb av (tmpOf a t)→ERep (Den.frz rs st) w (limF st β w lim) β rb av (tmpOf a t):=by
   intro av n1 n2 n5 n6 n3 n4 hv
   cases av with
   | xf r p=>exact absurd rfl (n1 r p)
   | xp r p k q=>exact absurd rfl (n2 r p k q)
   | xe k q=>exact absurd rfl (n5 k q)
   | mx t x ps=>exact absurd rfl (n6 t x ps)
   | xt r=>exact absurd rfl (n3 r)
   | cx b p=>exact absurd rfl (n4 b p)
   | dat ty x=>exact TRep.mono hext hv
   | ref ty x=>
     obtain ⟨b,o,cs,e1,e2,e3,e4,e5⟩:=hv
     exact ⟨b,o,cs,e1,e2,e3.mono hext,hext.lim _ _ e2 e4,e5⟩
   | tup ty x=>
     obtain ⟨vs,e1,e2⟩:=hv
     exact ⟨vs,e1,e2.mono hext⟩
   | _=>exact hv
  have hav:((Den.frz rs st).env t).av=frzAV st (st.env t).av:=rfl
  rw [hav]
  cases hq:(st.env t).av with
  | xf r q=>
    simp only [frzAV]
    cases hy:st.atX r q with
    | none=>trivial
    | some y=>
      obtain ⟨d,cs,_,_,k3,k4,_⟩:=xval t r q hq y hy
      exact ⟨cs,k3,k4⟩
  | xp _ _ _ _=>trivial
  | xe _ _=>trivial
  | mx _ _ _=>trivial
  | xt _=>trivial
  | cx _ _=>trivial
  | _=>rw [hq] at ht;exact hm (fun _ _ e=>by cases e) (fun _ _ _ _ e=>by cases e) (fun _ _ e=>by cases e) (fun _ _ _ e=>by cases e) (fun _ e=>by cases e) (fun _ _ e=>by cases e) ht
 ·obtain ⟨cells,e,h1,h2,h3,h4⟩:=h.box b d hb
  exact ⟨cells,e,h1,h2.mono hext,h3,(limF_off h (h.xs.offb hb)).trans h4⟩
 ·rcases ownc l hl with ⟨k1,k2,k3⟩|⟨t,p,r,q,y,d,rfl,k1,k2,k3,k4,kp,T,v,k5,ko,k6,k7,k8⟩
  ·obtain ⟨T,v,m1,m2,m3⟩:=h.own l k1
   exact ⟨T,v,k2.trans m1,k3.trans m2,m3.relim fun g hg=>limF_off h (h.xs.off k1 ⟨T,v,m1,m2,hg⟩)⟩
  ·obtain ⟨v',m1,m2⟩:=(h.xs.io r d k3).ownT (lim:=limF st β w lim) (base:=w0.fr) (fun g k hs=>limF_of h ⟨r,d,k3,hs⟩) (fun g hg=>hnr g (.inl ⟨r,d,k3,hg⟩)) k5 ko
   rw [k6] at m1;injection m1 with m1;subst m1
   exact ⟨T,v,k7,k8,m2⟩
 ·rcases hasc l g hl hg with ⟨k1,k2⟩|⟨t,p,r,q,d,T,v,rfl,k1,k2,k3,k4,k5,k6,k7,k8⟩
  ·exact h.ownb l g k1 k2 b d' hb
  ·exact h.xs.box r d g k2 k8 b d' hb
 ·rcases hasc l g hl hg with ⟨k1,k2⟩|⟨t,p,r,q,d,T,v,rfl,k1,k2,k3,k4,k5,k6,k7,k8⟩<;>rcases hasc l' g hl' hg' with ⟨j1,j2⟩|⟨t',p',r',q',d',T',v',rfl,j1,j2,j3,j4,j5,j6,j7,j8⟩
  ·exact h.sep l l' g k1 j1 k2 j2
  ·exact absurd k2 (h.xs.own r' d' g j2 j8 l k1)
  ·exact absurd j2 (h.xs.own r d g k2 k8 l' j1)
  ·have er:=h.xs.dis r d r' d' g k2 j2 k8 j8
   subst er
   have et:=soleIn_inj k1 j1 k3 j3
   subst et
   rw [k1] at j1;injection j1 with _ j1;subst j1
   rw [k2] at j2;injection j2 with j2;subst j2
   have:=(h.xs.io r d k2).sepT k4 j4 k5 j5 k6 j6 k7 j7
   rw [List.append_cancel_left this]
 ·obtain ⟨b,cells,e,k1,k2,k3,k4,k5⟩:=h.rd d hd
  exact ⟨b,cells,e,k1,k2,k3,k4.mono hext,(limF_off h (fun ht=>h.fr_rb (hnr b ht) k1.symm (hrb b k1.symm))).trans k5⟩
 ·exact ⟨fun _ _ hr=>(by cases hr),fun _ _ _ hr=>(by cases hr),fun _ _ _ hr=>(by cases hr),fun _ _ _ hr=>(by cases hr),fun _ _ _ _ _ hr=>(by cases hr),fun _ _ _ hb=>(by cases hb),fun _ _ _ hb=>(by cases hb),fun _ _ _ _ _ _ hb=>(by cases hb),fun _ hd=>(by cases hd),fun _ hd=>(by cases hd),fun _ _ _ hb=>(by cases hb)⟩
end
end Go.Den
namespace Go.Den
section
variable {P:Program} {tab:Tab} {G:Gam} {w0:Base} {lim0:Lim} {rb:Option Nat} {n:Nat}
variable {st st':St} {a:Act} {w:World} {lim:Lim} {β β':Mp}
/-! ### a record becomes one tree -/
/-! ### a tree becomes a record -/
/-! ### all trees are given up -/
theorem limF_not (h:Sim w0 lim0 rb n st a w lim β) {g:Nat} (hs : ∀r d,st.io r=some d→¬β.B r g):limF st β w lim g=lim g:=by
 unfold limF
 rw [dif_neg (fun ⟨k,r,d,h1,h2⟩=>hs r d h1 ((h.xs.io r d h1).seen_blk h2))]
theorem whole_cells' {w:World} {g:Nat} {cells:Array Value} {e:TypeId} (hg:w.heap[g]?=some (.cells cells e (0,0))) (j:Nat):w.cell? ⟨g,j,none⟩=cells.toList[j]?:=by
 simp [World.cell?,hg]
theorem no_trees {w0:Base} {rb:Option Nat} {st:St} {a:Act} {w:World} {lim:Lim} {β:Mp} (h1 : ∀r,st.io r=none) (h2 : ∀b,st.xb b=none) (h3 : ∀b,st.rb b=none):Own w0 rb st a w lim β:=
 ⟨fun r _ hr=>(by rw [h1] at hr;cases hr),fun r _ _ hr=>(by rw [h1] at hr;cases hr),fun r _ _ hr=>(by rw [h1] at hr;cases hr),fun r _ _ hr=>(by rw [h1] at hr;cases hr),fun r _ _ _ _ hr=>(by rw [h1] at hr;cases hr),fun b _ _ hb=>(by rw [h2] at hb;cases hb),fun b _ _ hb=>(by rw [h2] at hb;cases hb),fun b _ _ _ _ _ hb=>(by rw [h2] at hb;cases hb),fun _ hd=>(by rw [h1] at hd;cases hd),fun _ hd=>(by rw [h1] at hd;cases hd),fun b d ps hb=>(by rw [h3] at hb;cases hb)⟩
theorem zkw {c:Tmp} {y:Dat} (hy:frzBox st c=some y):(∃r q,st.xb c=some (y.1,some (r,q))∧st.atX r q=some y)∨(st.xb c=none∧st.box c=some y):=by
 unfold frzBox at hy
 split at hy
 ·rename_i t r q hx
  cases ha:st.atX r q with
  | none=>rw [ha] at hy;cases hy
  | some z=>
    rw [ha] at hy
    simp only [] at hy
    cases hb:Ty.beq z.1 t with
    | false=>rw [hb] at hy;cases hy
    | true=>
      rw [hb] at hy
      injection hy with hy;subst hy
      have:=Ty.of_beq hb
      subst this
      exact .inl ⟨r,q,hx,ha⟩
 ·cases hy
 ·rename_i hx;exact .inr ⟨hx,hy⟩
def frzM (st:St) (β:Mp):Mp:={β with b:=fun c=>match st.xb c with|some _=>β.c c|none=>β.b c}
theorem trFrz_ok (h:Sim w0 lim0 rb n st a w lim β) (hrb : ∀k,some k=rb→k<w0.heap.size) {b:Tmp} (ht:trFrz b st=some st') : ∃lim' β',Sim w0 lim0 rb n st' a w lim' β':=by
 unfold trFrz at ht
 split at ht
 rotate_left
 ·injection ht with ht;subst ht;exact ⟨lim,β,h⟩
 rotate_left
 ·rename_i ty R yb hxb hyb
  injection ht with ht
  have hnr : ∀g,isTree st β g→w0.fr g:=fun g hg=>(h.xs.lt hg).2.1
  have hext:=ext_limF h
  obtain ⟨hxb2,hX0⟩:st.xb b=some (yb.1,some (R,[]))∧st.atX R []=some yb:=by
   rcases zkw hyb with ⟨r,q,k1,k2⟩|⟨k1,_⟩
   ·rw [hxb] at k1;injection k1 with k1;injection k1 with e1 e2;injection e2 with e2;injection e2 with e2 e3
    subst e1;subst e2;subst e3
    exact ⟨hxb,k2⟩
   ·rw [hxb] at k1;cases k1
  rw [hxb] at hxb2;injection hxb2 with hxb2;injection hxb2 with ety _
  subst ety
  obtain ⟨dR,hio,m8⟩:=atX_some hX0
  have m8:dR=yb:=Option.some.inj (show some dR=some yb from m8)
  subst m8
  have hlive:=atX_live hX0 hio
  have hXR:=h.xs.io R _ hio
  -- a box's value, seen
  have bval : ∀c y r q,st.xb c=some (y.1,some (r,q))→st.atX r q=some y→∃cells e,w.heap[β.c c]?=some (.cells cells e (0,0))∧CRep w (limF st β w lim) y.1 y.2 cells.toList∧w0.heap.size≤β.c c∧limF st β w lim (β.c c)=some 0:=by
   intro c y r q hx hy
   obtain ⟨cells,e,k1,k2,k3,k4,k5⟩:=h.xs.xb c _ _ hx
   obtain ⟨d,m1,m2⟩:=k5 r q rfl
   obtain ⟨d2,n1,n2⟩:=atX_some hy
   rw [m1] at n1;injection n1 with n1;subst n1
   obtain ⟨m3,m4⟩:=m2.resolve_left (atX_live hy m1)
   have hw:=((h.xs.io r d m1).crep2 (lim:=limF st β w lim) (fun g k hs=>limF_of h ⟨r,d,m1,hs⟩))
   obtain ⟨c1,c2,c3,q1,q2,q3,_⟩:=hw.part n2
   have hc2:((flatV (β.V r)).drop (offs d.1 q)).take y.1.size=c2:=by
    rw [q1,←q2,List.drop_left,←q3.length,List.take_left]
   refine ⟨cells,e,k1,by rw [m4,hc2];exact q3,k3,?_⟩
   rw [limF_not h (h.xs.xbox c _ _ hx).2.2];exact k4
  have hβ1 : ∀c t o,st.xb c=some (t,o)→(frzM st β).b c=β.c c:=fun c t o hx=>by simp only [frzM,hx]
  have hβ2 : ∀c,st.xb c=none→(frzM st β).b c=β.b c:=fun c hx=>by simp only [frzM,hx]
  refine ⟨limF st β w lim,(frzM st β),?_⟩
  subst ht
  -- what is owned then
  have oc : ∀l,frzOwn b dR.1 st l=true→(st.own l=true∧∀c p,l = .box c p→st.xb c=none)∨∃p,l = .box b p∧p∈slicePaths dR.1:=by
   intro l hl
   cases l with
   | tmp t p=>exact .inl ⟨hl,fun c p' e=>by cases e⟩
   | box c p=>
     simp only [frzOwn] at hl
     cases hx:st.xb c with
     | none=>rw [hx] at hl;exact .inl ⟨hl,fun c' p' e=>by injection e with e1 e2;subst e1;exact hx⟩
     | some z=>
       rw [hx] at hl
       cases hq:Nat.beq c b with
       | false=>rw [hq] at hl;cases hl
       | true=>
         rw [hq] at hl
         have:=nbeq hq;subst this
         exact .inr ⟨p,rfl,zhe.1 hl⟩
  obtain ⟨bcells,be,bh,bcr,bge,blim⟩:=bval b dR R [] hxb hX0
  have hcl:bcells.toList=flatV (β.V R):=by
   obtain ⟨cells,e,k1,k2,k3,k4,k5⟩:=h.xs.xb b _ _ hxb
   rw [bh] at k1;injection k1 with k1;injection k1 with k1;subst k1
   obtain ⟨d0,m1,m2⟩:=k5 R [] rfl
   rw [hio] at m1;injection m1 with m1;subst m1
   obtain ⟨_,m4⟩:=m2.resolve_left hlive
   rw [m4,offs0,List.drop_zero,←hXR.length,List.take_length]
  have envd : ∀t,(∃p T,typeAV p (st.env t).av=some T)→((frzEnt st (st.env t)).av=(st.env t).av):=by
   intro t ⟨p,T,hp⟩
   unfold frzEnt
   cases hav:(st.env t).av with
   | dat ty x=>simp only [dropX,hav]
   | tup ty x=>simp only [dropX,hav]
   | _=>rw [hav] at hp;cases hp
  -- places that were owned before
  have keepl : ∀l,st.own l=true→(∀c p,l = .box c p→st.xb c=none)→locTy (frzS b dR.1 st) l=locTy st l∧locV (frzS b dR.1 st) a w (frzM st β) l=locV st a w β l:=by
   intro l hl hx
   obtain ⟨T,v,k1,_⟩:=h.own l hl
   cases l with
   | tmp t p=>
     rw [zbb] at k1
     have e:=envd t ⟨p,T,k1⟩
     exact ⟨by rw [zbb,zbb];show typeAV p (frzEnt st (st.env t)).av=_;rw [e],by rw [zda,zda];show partAV _ p (frzEnt st (st.env t)).av=_;rw [e]⟩
   | box c p=>
     have hxc:=hx c p rfl
     have e:frzBox st c=st.box c:=by simp only [frzBox,hxc]
     refine ⟨by simp only [locTy,frzS,e],?_⟩
     simp only [locV,frzS,frzM,e,hxc]
  have newl : ∀p,p∈slicePaths dR.1→∃T v,typeAt dR.1 p=some T∧OTy T=true∧(flatV (β.V R))[offs dR.1 p]?=some v∧locTy (frzS b dR.1 st) (.box b p)=some T∧locV (frzS b dR.1 st) a w (frzM st β) (.box b p)=some v∧OwnT w (limF st β w lim) w0.fr T v∧∀g,Blk w T v g→β.B R g:=by
   intro p hp
   obtain ⟨⟨T,ht,ho⟩,_⟩:=zaw hp
   obtain ⟨v,k1,k2⟩:=hXR.ownT (lim:=limF st β w lim) (base:=w0.fr) (fun g k hs=>limF_of h ⟨R,dR,hio,hs⟩) (fun g hg=>hnr g (.inl ⟨R,dR,hio,hg⟩)) ht ho
   refine ⟨T,v,ht,ho,k1,by simp only [locTy,frzS,hyb];exact ht,?_,k2,fun g hg=>hXR.blkT ht k1 hg⟩
   simp only [locV,frzS,frzM,hyb,hxb]
   rw [whole_cells' bh,hcl];exact k1
  have hasc : ∀l g,frzOwn b dR.1 st l=true→HasL (frzS b dR.1 st) a w (frzM st β) l g→(st.own l=true∧HasL st a w β l g) ∨
   ∃p T v,l = .box b p∧p∈slicePaths dR.1∧typeAt dR.1 p=some T∧(flatV (β.V R))[offs dR.1 p]?=some v∧Blk w T v g∧β.B R g:=by
   intro l g hl hg
   obtain ⟨T,v,m1,m2,m3⟩:=hg
   rcases oc l hl with ⟨k1,k2⟩|⟨p,rfl,hp⟩
   ·obtain ⟨e1,e2⟩:=keepl l k1 k2
    exact .inl ⟨k1,T,v,e1.symm.trans m1,e2.symm.trans m2,m3⟩
   ·obtain ⟨T',v',j1,j2,j3,j4,j5,j6,j7⟩:=newl p hp
    rw [j4] at m1;injection m1 with m1;subst m1
    rw [j5] at m2;injection m2 with m2;subst m2
    exact .inr ⟨p,_,_,rfl,hp,j1,j3,m3,j7 g m3⟩
  refine ⟨h.size,h.defers,h.grow,fun k hk hX=>?_,h.xrb,h.rdk,fun t=>?_,fun c y hy=>?_,fun c c' y y' hy hy' he=>?_,fun l hl=>?_,fun l g hl hg c y hy he=>?_,fun l l' g hl hl' hg hg'=>?_,fun t l ht=>?_,fun d hd=>?_,no_trees (fun _=>rfl) (fun _=>rfl) (fun _=>rfl)⟩
  ·rw [limF_off h (fun ht=>by
     rcases hnr k ht with h1|h1
     ·omega
     ·exact hX h1)]
   exact h.limOld k hk hX
  ·have ht:=h.env t
   show ERep _ w (limF st β w lim) _ rb (frzEnt st (st.env t)).av (tmpOf a t)
   cases hav:(st.env t).av with
   | cel c p=>
     rw [hav] at ht
     obtain ⟨d,k1,k2⟩:=ht
     simp only [frzEnt,hav]
     cases hx:st.xb c with
     | some _=>trivial
     | none=>
       exact ⟨d,by show frzBox st c=some d;simp only [frzBox,hx];exact k1,by rw [k2];show _=Value.pointer (some ⟨(frzM st β).b c,_,_⟩);rw [hβ2 c hx]⟩
   | cx c p=>
     rw [hav] at ht
     obtain ⟨t',o,k1,k2⟩:=ht
     simp only [frzEnt,hav]
     cases hy:frzBox st c with
     | none=>rw [k1];trivial
     | some y=>
       rw [k1]
       rcases zkw hy with ⟨r,q,m1,m2⟩|⟨m1,_⟩
       ·rw [k1] at m1;injection m1 with m1;injection m1 with e1 e2;subst e1
        exact ⟨y,hy,by rw [k2];show _=Value.pointer (some ⟨(frzM st β).b c,_,_⟩);rw [hβ1 c _ _ k1]⟩
       ·rw [k1] at m1;cases m1
   | xf r p=>simp only [frzEnt,dropX,hav];trivial
   | xp r p k q=>simp only [frzEnt,dropX,hav];trivial
   | xt r=>simp only [frzEnt,dropX,hav];trivial
   | xe k q=>simp only [frzEnt,dropX,hav];trivial
   | mx ty x ps=>simp only [frzEnt,dropX,hav];trivial
   | dat ty x=>rw [hav] at ht;simp only [frzEnt,dropX,hav];exact TRep.mono hext ht
   | ref ty x=>
     rw [hav] at ht
     obtain ⟨b',o,cs,e1,e2,e3,e4,e5⟩:=ht
     simp only [frzEnt,dropX,hav]
     exact ⟨b',o,cs,e1,e2,e3.mono hext,hext.lim _ _ e2 e4,e5⟩
   | tup ty x=>
     rw [hav] at ht
     obtain ⟨vs,e1,e2⟩:=ht
     simp only [frzEnt,dropX,hav]
     exact ⟨vs,e1,e2.mono hext⟩
   | _=>rw [hav] at ht;simp only [frzEnt,dropX,hav];exact ht
  ·have hy:frzBox st c=some y:=hy
   show ∃cells e,w.heap[(frzM st β).b c]?=_∧_∧w0.heap.size≤(frzM st β).b c∧limF st β w lim ((frzM st β).b c)=_
   rcases zkw hy with ⟨r,q,k1,k2⟩|⟨k1,k2⟩
   ·rw [hβ1 c _ _ k1];exact bval c y r q k1 k2
   ·rw [hβ2 c k1]
    obtain ⟨cells,e,h1,h2,h3,h4⟩:=h.box c y k2
    exact ⟨cells,e,h1,h2.mono hext,h3,(limF_off h (h.xs.offb k2)).trans h4⟩
  ·have hy:frzBox st c=some y:=hy
   have hy':frzBox st c'=some y':=hy'
   have he:(frzM st β).b c=(frzM st β).b c':=he
   rcases zkw hy with ⟨r,q,k1,k2⟩|⟨k1,k2⟩<;>rcases zkw hy' with ⟨r',q',k1',k2'⟩|⟨k1',k2'⟩
   ·rw [hβ1 c _ _ k1,hβ1 c' _ _ k1'] at he;exact h.xs.xinj c c' _ _ _ _ k1 k1' he
   ·rw [hβ1 c _ _ k1,hβ2 c' k1'] at he;exact absurd he.symm ((h.xs.xbox c _ _ k1).1 c' y' k2')
   ·rw [hβ2 c k1,hβ1 c' _ _ k1'] at he;exact absurd he ((h.xs.xbox c' _ _ k1').1 c y k2)
   ·rw [hβ2 c k1,hβ2 c' k1'] at he;exact h.inj c c' y y' k2 k2' he
  ·rcases oc l hl with ⟨k1,k2⟩|⟨p,rfl,hp⟩
   ·obtain ⟨e1,e2⟩:=keepl l k1 k2
    obtain ⟨T,v,m1,m2,m3⟩:=h.own l k1
    exact ⟨T,v,e1.trans m1,e2.trans m2,m3.relim fun g hg=>limF_off h (h.xs.off k1 ⟨T,v,m1,m2,hg⟩)⟩
   ·obtain ⟨T',v',j1,j2,j3,j4,j5,j6,j7⟩:=newl p hp
    exact ⟨T',v',j4,j5,j6⟩
  ·have hy:frzBox st c=some y:=hy
   have he:(frzM st β).b c=g:=he
   rcases hasc l g hl hg with ⟨k1,k2⟩|⟨p,T,v,_,_,_,_,_,hB⟩<;>rcases zkw hy with ⟨r',q',j1,j2⟩|⟨j1,j2⟩
   ·rw [hβ1 c _ _ j1] at he;subst he;exact (h.xs.xbox c _ _ j1).2.1 l k1 k2
   ·rw [hβ2 c j1] at he;exact h.ownb l g k1 k2 c y j2 he
   ·rw [hβ1 c _ _ j1] at he;subst he;exact (h.xs.xbox c _ _ j1).2.2 R dR hio hB
   ·rw [hβ2 c j1] at he;exact h.xs.box R dR g hio hB c y j2 he
  ·rcases hasc l g hl hg with ⟨k1,k2⟩|⟨p,T,v,rfl,hp,q1,q2,q3,hB⟩<;>rcases hasc l' g hl' hg' with ⟨j1,j2⟩|⟨p',T',v',rfl,hp',q1',q2',q3',hB'⟩
   ·exact h.sep l l' g k1 j1 k2 j2
   ·exact absurd k2 (h.xs.own R dR g hio hB' l k1)
   ·exact absurd j2 (h.xs.own R dR g hio hB l' j1)
   ·rw [hXR.sepT hp hp' q1 q1' q2 q2' q3 q3']
  ·exfalso
   have ht:(frzEnt st (st.env t)).tag=some (true,l):=ht
   unfold frzEnt at ht
   split at ht
   ·split at ht<;>cases ht
   ·split at ht<;>cases ht
   ·cases ht
  ·obtain ⟨b',cells,e,k1,k2,k3,k4,k5⟩:=h.rd d hd
   exact ⟨b',cells,e,k1,k2,k3,k4.mono hext,(limF_off h (fun ht=>h.fr_rb (hnr b' ht) k1.symm (hrb b' k1.symm))).trans k5⟩
 ·cases ht
/-! ### what a box owns becomes a tree -/
theorem CRep.relimFX {lim':Lim} : ∀ {t:Ty} {x:t.val} {cs:List Value},CRep w lim t x cs→flatT t=true→(∀p e v g,typeAt t p=some (.slice e)→cs[offs t p]?=some v→blockOf v=some g→lim' g=lim g)→CRep w lim' t x cs:=by
 intro t
 induction t with
 | int k=>intro x cs h _ _;exact h
 | bool=>intro x cs h _ _;exact h
 | str=>intro x cs h _ _;exact h
 | unit=>intro x cs h _ _;exact h
 | slice e _=>
   intro x cs h hf hl
   obtain ⟨ad,c,h1,h2,h3⟩:=h
   subst h1
   refine ⟨ad,c,rfl,h2,?_⟩
   rcases h3 with h3|⟨b,o,q1,q2,q3,q4⟩
   ·exact .inl h3
   ·subst q1
    have hb:=hl [] e _ b rfl (by simp [offs];rfl) rfl
    exact .inr ⟨b,o,rfl,q2,by unfold under;rw [hb];exact q3,fun i y hy=>by
     obtain ⟨ds,k1,k2⟩:=q4 i y hy
     exact ⟨ds,(za3 hf).2 ((za3 hf).1 k1),k2⟩⟩
 | prod a b iha ihb=>
   intro x cs h hf hl
   obtain ⟨c1,c2,rfl,h1,h2⟩:=h
   obtain ⟨f1,f2⟩:=flat_prod hf
   have l1:=h1.length
   refine ⟨c1,c2,rfl,iha h1 f1 (fun p e v g hp hv hg=>hl (0::p) e v g (by simpa [typeAt] using hp) (by simp only [offs];rw [List.getElem?_append_left (List.getElem?_eq_some_iff.1 hv).1];exact hv) hg),?_⟩
   rcases f2 with ⟨p',q',rfl,f2⟩|rfl
   ·refine ihb h2 f2 (fun p e v g hp hv hg=>?_)
    cases p with
    | nil=>simp [typeAt] at hp
    | cons i p=>exact hl ((i+1)::p) e v g (by simpa [typeAt] using hp) (by simp only [offs];rw [List.getElem?_append_right (by omega),l1,show a.size+offs (.prod p' q') (i::p)-a.size=offs (.prod p' q') (i::p) by omega];exact hv) hg
   ·exact h2
theorem CRep.relimX {lim':Lim} : ∀ {t:Ty} {x:t.val} {cs:List Value},CRep w lim t x cs→nestT t=true→(∀p∈slicePaths t,∀T v g,typeAt t p=some T→cs[offs t p]?=some v→Blk w T v g→lim' g=lim g)→CRep w lim' t x cs:=by
 intro t
 induction t with
 | int k=>intro x cs h _ _;exact h
 | bool=>intro x cs h _ _;exact h
 | str=>intro x cs h _ _;exact h
 | unit=>intro x cs h _ _;exact h
 | slice e _=>
   intro x cs h hf hl
   obtain ⟨ad,c,h1,h2,h3⟩:=h
   subst h1
   refine ⟨ad,c,rfl,h2,?_⟩
   rcases h3 with h3|⟨b,o,q1,q2,q3,q4⟩
   ·exact .inl h3
   ·subst q1
    have hb:=hl [] (zc3 e) (.slice e) (.slice (some ⟨b,o,none⟩) (List.length (α:=e.val) x) c) b rfl (by simp [offs]) (show blockOf (.slice (some ⟨b,o,none⟩) (List.length (α:=e.val) x) c)=some b from rfl)
    refine .inr ⟨b,o,rfl,q2,by unfold under;rw [hb];exact q3,fun i y hy=>?_⟩
    obtain ⟨ds,k1,k2⟩:=q4 i y hy
    refine ⟨ds,?_,k2⟩
    cases hns:noSl e with
    | true=>exact (za3 hns).2 ((za3 hns).1 k1)
    | false=>
      have hfl:flatT e=true:=by simp only [nestT,hns] at hf;exact hf
      refine k1.relimFX hfl (fun p e' v g hp hv hg=>?_)
      refine hl [0] (by simp [slicePaths,hns,hfl]) (.prod (.slice e) .unit) _ g rfl (by simp [offs];rfl) ⟨i,p,e',v,hp,?_,hg⟩
      have hi:i<List.length (α:=e.val) x:=(List.getElem?_eq_some_iff.1 hy).1
      simp only [elemAt,hi,if_true]
      exact k2 _ v hv
 | prod a b iha ihb=>
   intro x cs h hf hl
   obtain ⟨c1,c2,rfl,h1,h2⟩:=h
   obtain ⟨f1,f2⟩:=nest_prod hf
   have l1:=h1.length
   refine ⟨c1,c2,rfl,iha h1 f1 (fun p hp T v g ht hv hg=>?_),?_⟩
   ·refine hl (0::p) ?_ T v g (by simpa [typeAt] using ht) (by simp only [offs];rw [List.getElem?_append_left (List.getElem?_eq_some_iff.1 hv).1];exact hv) hg
    simp only [slicePaths]
    exact List.mem_append_left _ (List.mem_map.2 ⟨p,hp,rfl⟩)
   ·rcases f2 with ⟨p',q',rfl,f2⟩|rfl
    ·refine ihb h2 f2 (fun p hp T v g ht hv hg=>?_)
     cases p with
     | nil=>exact absurd rfl ((zaw hp).2 rfl)
     | cons i p=>
       refine hl ((i+1)::p) ?_ T v g (by simpa [typeAt] using ht) (by simp only [offs];rw [List.getElem?_append_right (by omega),l1,show a.size+offs (.prod p' q') (i::p)-a.size=offs (.prod p' q') (i::p) by omega];exact hv) hg
       rw [show slicePaths (.prod a (.prod p' q'))=(slicePaths a).map (0 :: ·)++(slicePaths (.prod p' q')).map bump from rfl]
       exact List.mem_append_right _ (List.mem_map.2 ⟨i::p,hp,rfl⟩)
    ·exact h2
theorem deepOwn_spec {f:List Nat→Loc} {t:Ty} (h:deepOwn st f t=true):noSl t=true∨(nestT t=true∧∀p∈slicePaths t,st.own (f p)=true):=by
 unfold deepOwn at h
 cases hn:noSl t with
 | true=>exact .inl rfl
 | false=>
   rw [hn] at h
   cases hs:nestT t with
   | false=>rw [hs] at h;cases h
   | true=>rw [hs] at h;exact .inr ⟨rfl,fun p hp=>allOwn_mem h p hp⟩
theorem zen {b c:Tmp} {d:Dat} (h:thawBox st b c=some d):c≠b∧st.box c=some d∧deepOwn st (.box c ·) d.1=true:=by
 unfold thawBox at h
 cases hq:Nat.beq c b with
 | true=>rw [hq] at h;cases h
 | false=>
   rw [hq] at h
   simp only [cnd_false] at h
   cases hb:st.box c with
   | none=>rw [hb] at h;cases h
   | some d0=>
     rw [hb] at h
     simp only [] at h
     cases hd:deepOwn st (.box c ·) d0.1 with
     | false=>rw [hd] at h;cases h
     | true=>rw [hd] at h;injection h with h;subst h;exact ⟨fun e=>(by subst e;simp at hq),rfl,hd⟩
open Classical in
theorem trThaw_ok (h:Sim w0 lim0 rb n st a w lim β) (hrb : ∀k,some k=rb→k<w0.heap.size) {b R:Tmp} (ht:trThaw b R st=some st') : ∃lim' β',Sim w0 lim0 rb n st' a w lim' β':=by
 unfold trThaw at ht
 split at ht
 ·rename_i d hbx hR hxbn
  cases hR0:Nat.beq R 0 with
  | true=>rw [hR0] at ht;cases ht
  | false=>
  cases hnt:nestT d.1 with
  | false=>rw [hR0,hnt] at ht;cases ht
  | true=>
  cases hao:allOwn st.own (.box b ·) (slicePaths d.1) with
  | false=>rw [hR0,hnt,hao] at ht;cases ht
  | true=>
  cases hrdn:rdNoSl st.rd with
  | false=>rw [hR0,hnt,hao,hrdn] at ht;cases ht
  | true=>
  rw [hR0,hnt,hao,hrdn] at ht
  simp only [cnd_true,cnd_false] at ht
  injection ht with ht
  have hR0':R≠0:=fun e=>by subst e;cases hR0
  have hown : ∀p∈slicePaths d.1,st.own (.box b p)=true:=fun p hp=>allOwn_mem hao p hp
  obtain ⟨cells,e0,hh,hcr,hge,hl0⟩:=h.box b d hbx
  have hcell : ∀j,w.cell? ⟨β b,j,none⟩=cells.toList[j]?:=fun j=>whole_cells' hh j
  have oloc : ∀p∈slicePaths d.1,∃T v,typeAt d.1 p=some T∧cells.toList[offs d.1 p]?=some v∧OwnT w lim w0.fr T v:=by
   intro p hp
   obtain ⟨T,v,k1,k2,k3⟩:=h.own _ (hown p hp)
   simp only [locTy,hbx] at k1
   simp only [locV,hbx] at k2
   rw [hcell] at k2
   exact ⟨T,v,k1,k2,k3⟩
  have hasb : ∀p T v g,typeAt d.1 p=some T→cells.toList[offs d.1 p]?=some v→Blk w T v g→HasL st a w β (.box b p) g:=fun p T v g k1 k2 k3=>
   ⟨T,v,by simp only [locTy,hbx];exact k1,by simp only [locV,hbx];rw [hcell];exact k2,k3⟩
  have hX:=XRep.of_own w0.fr hcr hnt oloc (fun p hp q hq T T' u v g h1 h2 h3 h4 h5 h6=>by
   have:=h.sep _ _ g (hown p hp) (hown q hq) (hasb p T u g h1 h3 h5) (hasb q T' v g h2 h4 h6)
   injection this)
  let Bx:Nat→Prop:=fun g=>∃p∈slicePaths d.1,∃T v,typeAt d.1 p=some T∧cells.toList[offs d.1 p]?=some v∧Blk w T v g
  have hX:XRep w d.1 d.2 cells.toList Bx:=hX
  have bxl : ∀g,Bx g→∃p,st.own (.box b p)=true∧HasL st a w β (.box b p) g:=fun g ⟨p,hp,T,v,k1,k2,k3⟩=>⟨p,hown p hp,hasb p T v g k1 k2 k3⟩
  have bfr : ∀g,Bx g→w0.fr g:=fun g hg=>by
   obtain ⟨p,k1,k2⟩:=bxl g hg
   exact (h.lt k1 k2).2
  let lim':Lim:=fun g=>if Bx g then some 0 else lim g
  have l0 : ∀g,lim g=some 0→lim' g=some 0:=fun g hg=>by simp only [lim'];split;rfl;exact hg
  have lb : ∀g,Bx g→lim' g=some 0:=fun g hg=>by simp only [lim',hg,if_true]
  have ln : ∀g,¬Bx g→lim' g=lim g:=fun g hg=>by simp only [lim',hg,if_false]
  have nsl : ∀ {t:Ty} {x:t.val} {cs:List Value},noSl t=true→CRep w lim t x cs→CRep w lim' t x cs:=fun hn hc=>(za3 hn).2 ((za3 hn).1 hc)
  have hfl:flatV (wrapV d.1 cells.toList)=cells.toList:=flat_wrap hcr
  have other : ∀l g,st.own l=true→(∀p,l≠.box b p)→HasL st a w β l g→¬Bx g:=by
   intro l g hl hne hg hb
   obtain ⟨p,k1,k2⟩:=bxl g hb
   exact hne p (h.sep _ _ g hl k1 hg k2)
  have bne : ∀c,c≠b→Nat.beq c b=false:=fun c hc=>by
   cases hq:Nat.beq c b with
   | true=>exact absurd (nbeq hq) hc
   | false=>rfl
  have rne : ∀r,r≠R→Nat.beq r R=false:=fun r hr=>by
   cases hq:Nat.beq r R with
   | true=>exact absurd (nbeq hq) hr
   | false=>rfl
  have ioO : ∀r,r≠R→(thawS b R d st).io r=st.io r:=fun r hr=>by simp only [thawS,rne r hr,cnd_false]
  have ioR:(thawS b R d st).io R=some d:=by simp [thawS]
  have xbO : ∀c,c≠b→(thawS b R d st).xb c=st.xb c:=fun c hc=>by simp only [thawS,bne c hc,cnd_false]
  have xbB:(thawS b R d st).xb b=some (d.1,some (R,[])):=by simp [thawS]
  have xne : ∀c t o,st.xb c=some (t,o)→c≠b:=fun c t o hc e=>by subst e;rw [hxbn] at hc;cases hc
  have ine : ∀r x,st.io r=some x→r≠R:=fun r x hr e=>by subst e;rw [hR] at hr;cases hr
  refine ⟨lim',{β with c:=fun k=>if k=b then β.b b else β.c k,V:=fun r=>if r=R then wrapV d.1 cells.toList else β.V r,B:=fun r=>if r=R then Bx else β.B r},?_⟩
  subst ht
  have oc : ∀l,(thawS b R d st).own l=true→∃c p d',l = .box c p∧c≠b∧st.box c=some d'∧(thawS b R d st).box c=some d'∧st.own l=true:=by
   intro l hl
   cases l with
   | tmp t p=>cases hl
   | box c p=>
     simp only [thawS] at hl
     cases hq:thawBox st b c with
     | none=>rw [hq] at hl;cases hl
     | some d'=>
       rw [hq] at hl
       obtain ⟨k1,k2,k3⟩:=zen hq
       exact ⟨c,p,d',rfl,k1,k2,hq,hl⟩
  have lts : ∀l,(thawS b R d st).own l=true→locTy (thawS b R d st) l=locTy st l∧locV (thawS b R d st) a w {β with c:=fun k=>if k=b then β.b b else β.c k,V:=fun r=>if r=R then wrapV d.1 cells.toList else β.V r,B:=fun r=>if r=R then Bx else β.B r} l=locV st a w β l:=by
   intro l hl
   obtain ⟨c,p,d',rfl,k1,k2,k3,k4⟩:=oc l hl
   exact ⟨by simp only [locTy,k2,k3],by simp only [locV,k2,k3]⟩
  have lh : ∀l g,(thawS b R d st).own l=true→HasL (thawS b R d st) a w {β with c:=fun k=>if k=b then β.b b else β.c k,V:=fun r=>if r=R then wrapV d.1 cells.toList else β.V r,B:=fun r=>if r=R then Bx else β.B r} l g→st.own l=true∧HasL st a w β l g∧¬Bx g:=by
   intro l g hl hg
   obtain ⟨e1,e2⟩:=lts l hl
   obtain ⟨c,p,d',e,k1,k2,k3,k4⟩:=oc l hl
   have hg':HasL st a w β l g:=by unfold HasL at hg ⊢;rw [←e1,←e2];exact hg
   exact ⟨k4,hg',other l g k4 (fun q e'=>by rw [e] at e';injection e' with e' _;exact k1 e') hg'⟩
  have cas : ∀r x,(thawS b R d st).io r=some x→(r=R∧x=d)∨(r≠R∧st.io r=some x):=fun r x hr=>by
   by_cases e:r=R
   ·subst e;rw [ioR] at hr;injection hr with hr;exact .inl ⟨rfl,hr.symm⟩
   ·rw [ioO r e] at hr;exact .inr ⟨e,hr⟩
  have hxm : ∀r x,st.io r=some x→∃x',(thawS b R d st).io r=some x'∧(x'.1 = .unit∨(x'.1=x.1∧(if r=R then wrapV d.1 cells.toList else β.V r)=β.V r)):=fun r x hr=>
   ⟨x,by rw [ioO r (ine r x hr)];exact hr,.inr ⟨rfl,by simp [ine r x hr]⟩⟩
  refine ⟨h.size,h.defers,h.grow,fun k hk hXk=>?_,h.xrb,h.rdk,fun t=>?_,fun c d' hc=>?_,fun c c' d' d'' hc hc' he=>?_,fun l hl=>?_,fun l g hl hg c d' hc he=>?_,fun l l' g hl hl' hg hg'=>?_,fun t l htg=>?_,fun dr hdr=>?_,?_⟩
  ·rw [ln k (fun hb=>by
     rcases bfr k hb with h1|h1
     ·omega
     ·exact hXk h1)]
   exact h.limOld k hk hXk
  ·have ht:=h.env t
   show ERep _ w lim' _ rb (thawEnt st b (st.env t)).av (tmpOf a t)
   cases hav:(st.env t).av with
   | dat ty x=>
     rw [hav] at ht
     simp only [thawEnt,hav]
     cases hn:noSl ty with
     | false=>trivial
     | true=>
       obtain ⟨cs,k1,k2⟩:=ht
       exact ⟨cs,nsl hn k1,k2⟩
   | tup ty x=>simp only [thawEnt,hav];trivial
   | ref ty x=>simp only [thawEnt,hav];trivial
   | cel c p=>
     rw [hav] at ht
     obtain ⟨d',k1,k2⟩:=ht
     simp only [thawEnt,hav]
     cases hq:Nat.beq c b with
     | true=>
       have:=nbeq hq;subst this
       rw [hbx] at k1;injection k1 with k1;subst k1
       exact ⟨d.1,_,xbB,by rw [k2];simp⟩
     | false=>
       simp only [cnd_false]
       cases hb:thawBox st b c with
       | none=>trivial
       | some d2=>
         obtain ⟨m1,m2,m3⟩:=zen hb
         rw [k1] at m2;injection m2 with m2;subst m2
         exact ⟨d',hb,k2⟩
   | cx c p=>
     rw [hav] at ht
     simp only [thawEnt,hav]
     obtain ⟨t',o,k1,k2⟩:=ht
     have hne:=xne c t' o k1
     exact ⟨t',o,by rw [xbO c hne];exact k1,by rw [k2];simp [hne]⟩
   | xf r p=>
     rw [hav] at ht
     simp only [thawEnt,hav]
     obtain ⟨x,k1,k2⟩:=ht
     exact ⟨x,by rw [ioO r (ine r x k1)];exact k1,by simp only [ine r x k1,if_false];exact k2⟩
   | xp r p m q=>
     rw [hav] at ht
     simp only [thawEnt,hav]
     obtain ⟨x,k1,k2⟩:=ht
     exact ⟨x,by rw [ioO r (ine r x k1)];exact k1,by simp only [ine r x k1,if_false];exact k2⟩
   | xt r=>
     rw [hav] at ht
     simp only [thawEnt,hav]
     obtain ⟨x,k1,k2⟩:=ht
     exact ⟨x,by rw [ioO r (ine r x k1)];exact k1,by simp only [ine r x k1,if_false];exact k2⟩
   | xe m q=>
     rw [hav] at ht
     simp only [thawEnt,hav]
     obtain ⟨x,k1,k2,k3,k4⟩:=ht
     exact ⟨x,by rw [ioO 0 (ine 0 x k1)];exact k1,k2,k3,by simp only [ine 0 x k1,if_false];exact k4⟩
   | mx ty x ps=>
     rw [hav] at ht
     simp only [thawEnt,hav]
     obtain ⟨cs,k1,k2,k3,k5,k4⟩:=ht
     exact ⟨cs,k1,k2,k3,k5,k4.mono hxm⟩
   | _=>rw [hav] at ht;simp only [thawEnt,hav];exact ht
  ·obtain ⟨k1,k2,k3⟩:=zen hc
   obtain ⟨cs,e,m1,m2,m3,m4⟩:=h.box c d' k2
   refine ⟨cs,e,m1,?_,m3,l0 _ m4⟩
   rcases deepOwn_spec k3 with k3|⟨k3,k4⟩
   ·exact nsl k3 m2
   ·refine m2.relimX k3 (fun p hp T v g hT hv hg=>ln g ?_)
    refine other (.box c p) g (k4 p hp) (fun q e=>by injection e with e _;exact k1 e) ⟨T,v,by simp only [locTy,k2];exact hT,by simp only [locV,k2];rw [whole_cells' m1];exact hv,hg⟩
  ·exact h.inj c c' d' d'' (zen hc).2.1 (zen hc').2.1 he
  ·obtain ⟨e1,e2⟩:=lts l hl
   obtain ⟨c,p,d',e,k1,k2,k3,k4⟩:=oc l hl
   obtain ⟨T,v,m1,m2,m3⟩:=h.own l k4
   refine ⟨T,v,e1.trans m1,e2.trans m2,m3.relim fun g hg=>ln g ?_⟩
   exact other l g k4 (fun q e'=>by rw [e] at e';injection e' with e' _;exact k1 e') ⟨T,v,m1,m2,hg⟩
  ·obtain ⟨k1,k2,k3⟩:=lh l g hl hg
   exact h.ownb l g k1 k2 c d' (zen hc).2.1 he
  ·obtain ⟨k1,k2,k3⟩:=lh l g hl hg
   obtain ⟨j1,j2,j3⟩:=lh l' g hl' hg'
   exact h.sep l l' g k1 j1 k2 j2
  ·exfalso
   have htg:(thawEnt st b (st.env t)).tag=some (true,l):=htg
   unfold thawEnt at htg
   split at htg
   ·rename_i ty x _;cases hn:noSl ty<;>rw [hn] at htg<;>cases htg
   ·cases htg
   ·cases htg
   ·rename_i c p _
    cases hq:Nat.beq c b with
    | true=>rw [hq] at htg;cases htg
    | false=>rw [hq] at htg;simp only [cnd_false] at htg;split at htg<;>cases htg
   ·cases htg
  ·obtain ⟨b',cs,e,k1,k2,k3,k4,k5⟩:=h.rd dr hdr
   have hn:noSl dr.1=true:=by
    have hdr:st.rd=some dr:=hdr
    rw [hdr] at hrdn;exact hrdn
   exact ⟨b',cs,e,k1,k2,k3,nsl hn k4,l0 _ k5⟩
  ·refine ⟨fun k z hz=>?_,fun k z g hz hg=>?_,fun k z g hz hg c d' hc he=>?_,fun k z g hz hg l hl hgz=>?_,fun k z k' z' g hz hz' hg hg'=>?_,fun c t o hc=>?_,fun c t o hc=>?_,fun c c' t o t' o' hc hc' he=>?_,fun z hz hm=>?_,?_,fun c d' ps hc=>?_⟩
   ·rcases cas k z hz with ⟨rfl,rfl⟩|⟨k1,k2⟩
    ·simp only [if_true,hfl];exact hX
    ·simp only [k1,if_false];exact h.xs.io k z k2
   ·rcases cas k z hz with ⟨rfl,rfl⟩|⟨k1,k2⟩
    ·simp only [if_true] at hg
     exact ⟨bfr g hg,fun hr=>h.fr_rb (bfr g hg) hr (hrb g hr),lb g hg⟩
    ·simp only [k1,if_false] at hg
     obtain ⟨m1,m2,m3⟩:=h.xs.base k z g k2 hg
     exact ⟨m1,m2,l0 g m3⟩
   ·have hc2:=(zen hc).2.1
    rcases cas k z hz with ⟨rfl,rfl⟩|⟨k1,k2⟩
    ·simp only [if_true] at hg
     obtain ⟨p,m1,m2⟩:=bxl g hg
     exact h.ownb _ g m1 m2 c d' hc2 he
    ·simp only [k1,if_false] at hg;exact h.xs.box k z g k2 hg c d' hc2 he
   ·obtain ⟨j1,j2,j3⟩:=lh l g hl hgz
    rcases cas k z hz with ⟨rfl,rfl⟩|⟨k1,k2⟩
    ·simp only [if_true] at hg;exact j3 hg
    ·simp only [k1,if_false] at hg;exact h.xs.own k z g k2 hg l j1 j2
   ·rcases cas k z hz with ⟨rfl,rfl⟩|⟨k1,k2⟩<;>rcases cas k' z' hz' with ⟨rfl,rfl⟩|⟨k1',k2'⟩
    ·rfl
    ·simp only [if_true] at hg
     simp only [k1',if_false] at hg'
     obtain ⟨p,m1,m2⟩:=bxl g hg
     exact absurd m2 (h.xs.own k' z' g k2' hg' _ m1)
    ·simp only [if_true] at hg'
     simp only [k1,if_false] at hg
     obtain ⟨p,m1,m2⟩:=bxl g hg'
     exact absurd m2 (h.xs.own k z g k2 hg _ m1)
    ·simp only [k1,if_false] at hg
     simp only [k1',if_false] at hg'
     exact h.xs.dis k z k' z' g k2 k2' hg hg'
   ·by_cases e:c=b
    ·subst e
     rw [xbB] at hc;injection hc with hc;injection hc with e1 e2;subst e1;subst e2
     simp only [if_true]
     refine ⟨cells,e0,hh,by simpa using hcr.length,hge,l0 _ hl0,fun r q hrq=>?_⟩
     injection hrq with hrq;injection hrq with e1 e2;subst e1;subst e2
     refine ⟨d,ioR,.inr ⟨by cases d.1<;>rfl,?_⟩⟩
     simp only [if_true,hfl,offs0,List.drop_zero]
     rw [←hcr.length,List.take_length]
    ·rw [xbO c e] at hc
     obtain ⟨cs,e1,k1,k2,k3,k4,k5⟩:=h.xs.xb c t o hc
     simp only [e,if_false]
     refine ⟨cs,e1,k1,k2,k3,l0 _ k4,fun r q hrq=>?_⟩
     obtain ⟨x,m1,m2⟩:=k5 r q hrq
     exact ⟨x,by rw [ioO r (ine r x m1)];exact m1,by simp only [ine r x m1,if_false];exact m2⟩
   ·by_cases e:c=b
    ·subst e
     simp only [if_true]
     refine ⟨fun c' d' hc' he=>?_,fun l hl hgz=>?_,fun k z hz hg=>?_⟩
     ·obtain ⟨m1,m2,_⟩:=zen hc'
      exact m1 (h.inj c' c d' d m2 hbx he)
     ·obtain ⟨j1,j2,_⟩:=lh l _ hl hgz
      exact h.ownb l _ j1 j2 c d hbx rfl
     ·rcases cas k z hz with ⟨rfl,rfl⟩|⟨k1,k2⟩
      ·simp only [if_true] at hg
       obtain ⟨p,m1,m2⟩:=bxl _ hg
       exact h.ownb _ _ m1 m2 c z hbx rfl
      ·simp only [k1,if_false] at hg;exact h.xs.box k z _ k2 hg c d hbx rfl
    ·rw [xbO c e] at hc
     obtain ⟨k1,k2,k3⟩:=h.xs.xbox c t o hc
     simp only [e,if_false]
     refine ⟨fun c' d' hc'=>k1 c' d' (zen hc').2.1,fun l hl hgz=>?_,fun k z hz hg=>?_⟩
     ·obtain ⟨j1,j2,_⟩:=lh l _ hl hgz
      exact k2 l j1 j2
     ·rcases cas k z hz with ⟨rfl,rfl⟩|⟨m1,m2⟩
      ·simp only [if_true] at hg
       obtain ⟨p,j1,j2⟩:=bxl _ hg
       exact k2 _ j1 j2
      ·simp only [m1,if_false] at hg;exact k3 k z m2 hg
   ·by_cases e:c=b<;>by_cases e':c'=b
    ·rw [e,e']
    ·subst e
     rw [xbO c' e'] at hc'
     simp only [if_true,e',if_false] at he
     exact absurd he ((h.xs.xbox c' t' o' hc').1 c d hbx)
    ·subst e'
     rw [xbO c e] at hc
     simp only [if_true,e,if_false] at he
     exact absurd he.symm ((h.xs.xbox c t o hc).1 c' d hbx)
    ·rw [xbO c e] at hc
     rw [xbO c' e'] at hc'
     simp only [e,e',if_false] at he
     exact h.xs.xinj c c' t o t' o' hc hc' he
   ·have e0':(0:Tmp)≠R:=fun e=>hR0' e.symm
    rw [ioO 0 e0'] at hz
    simp only [e0',if_false];exact h.xs.fix z hz hm
   ·have e0':(0:Tmp)≠R:=fun e=>hR0' e.symm
    exact h.xs.kx.keep (fun z hz=>h.xs.io 0 z hz) (fun z hz _=>⟨z,by rw [ioO 0 e0'] at hz;exact hz,rfl,by simp [e0']⟩) rfl (fun _ _ _ _=>rfl)
   ·have hc:st.rb c=some (d',ps):=hc
    obtain ⟨k1,cs,e1,k2,k3⟩:=h.xs.rbx c d' ps hc
    have hne:=xne c _ _ k1
    exact ⟨by rw [xbO c hne];exact k1,cs,e1,by simp only [hne,if_false];exact k2,k3.mono hxm⟩
 ·cases ht
end
end Go.Den
namespace Go.Den
section
variable {P:Program} {tab:Tab} {G:Gam} {w0:Base} {lim0:Lim} {rb:Option Nat} {n:Nat}
variable {st st':St} {a:Act} {w:World} {lim:Lim} {β:Mp}
theorem trAll_ok (hrb : ∀k,some k=rb→k<w0.heap.size) : ∀ {ts:List Tr} {st st':St} {lim:Lim} {β:Mp},Sim w0 lim0 rb n st a w lim β→trAll st ts=some st'→∃lim' β',Sim w0 lim0 rb n st' a w lim' β'
 | [],st,st',lim,β,h,ht=>by injection ht with ht;subst ht;exact ⟨lim,β,h⟩
 | t::ts,st,st',lim,β,h,ht=>by
   simp only [trAll] at ht
   cases h1:trOne st t with
   | none=>rw [h1] at ht;cases ht
   | some s=>
     rw [h1] at ht
     have : ∃lim' β',Sim w0 lim0 rb n s a w lim' β':=by
      cases t with
      | join b R=>cases h1
      | split b N=>cases h1
      | frz b=>exact trFrz_ok h hrb h1
      | thaw b R=>exact trThaw_ok h hrb h1
     obtain ⟨l2,b2,h2⟩:=this
     exact trAll_ok hrb h2 ht
theorem Sim.packedT (h:Sim w0 lim0 rb n st a w lim β) (hrb : ∀k,some k=rb→k<w0.heap.size) {ts:List Tr} {S:Shp} {x:S.ty.val} (hp:packT ts S st=some x) : ∃lim' β',Sim w0 lim0 rb n (unpack S x) a w lim' β':=by
 unfold packT at hp
 cases ht:trAll st ts with
 | none=>rw [ht] at hp;cases hp
 | some s=>
   rw [ht] at hp
   obtain ⟨l,b,hs⟩:=trAll_ok hrb h ht
   obtain ⟨b2,hs2⟩:=hs.packed hp
   exact ⟨l,b2,hs2⟩
def EvOk (P:Program) (tab:Tab) (G:Gam) (w0:Base) (lim0:Lim) (rb:Option Nat) (n:Nat) (ann:Ann) (fuel m:Nat) (c:Code):Prop:=
    ∀(R:Type) (st:St) (kn kr:St→Option R) (ke:Nat→St→Option R) (r:R),dstsOk m c=true→evalK tab G ann fuel c R st kn kr ke=some r →
    ∀(Q:Exit→Act→World→Prop) a w lim β,Sim w0 lim0 rb n st a w lim β→(∀st',kn st'=some r→∀a' w' lim' β',Sim w0 lim0 rb n st' a' w' lim' β'→Q .normal a' w') →
    (∀st',kr st'=some r→∀a' w' lim' β',Sim w0 lim0 rb n st' a' w' lim' β'→Q .ret a' w')→(∀i st',ke i st'=some r→∀a' w' lim' β',Sim w0 lim0 rb n st' a' w' lim' β'→Q (.exit i) a' w')→c.wp P Q a w
theorem eval_sound (hT:TabOk P tab) (hG:GamOk P G) (hm:P.follows .mixedOrders=true) (hrb : ∀k,some k=rb→k<w0.heap.size) {ann:Ann} {fuel m:Nat} (hmn:m≤n) (c:Code):EvOk P tab G w0 lim0 rb n ann fuel m c:=by
 have both:EvOk P tab G w0 lim0 rb n ann fuel m c∧∀b,c = .loop b→EvOk P tab G w0 lim0 rb n ann fuel m b:=by
  induction c with
  | skip=>
    refine ⟨?_,fun b hb=>by cases hb⟩
    intro R st kn kr ke r hd he Q a w lim β h hn hr hx
    unfold evalK at he
    exact wp_skip (hn st he a w lim β h)
  | region id ops draw=>
    refine ⟨?_,fun b hb=>by cases hb⟩
    intro R st kn kr ke r hd he Q a w lim β h hn hr hx
    unfold evalK at he
    have h:=h.marks ann.mkt
    cases htr:trAll {st with mkt:=ann.mkt} (ann.pre id) with
    | none=>rw [htr] at he;cases he
    | some st1=>
    rw [htr] at he
    obtain ⟨lim1,β1,h⟩:=trAll_ok hrb h htr
    simp only [] at he
    have hd' : ∀o∈ops.toList,∀d,o.dst=some d→d<n:=fun o ho d hod=>Nat.lt_of_lt_of_le (opsDst_mem (m:=m) hd o ho d hod) hmn
    cases draw with
    | true=>
      obtain ⟨st',fs,st3,h1,hal,h2⟩:=drawK_runT (Alike.refl st1) (by exact he)
      rw [List.nil_append] at h2
      cases hE:edgesOk ops.toList 0 with
      | false=>rw [hE] at h2;cases h2
      | true=>
        cases hP:pairsOk (masks ops.toList []) [] fs 0 with
        | false=>rw [hE,hP] at h2;cases h2
        | true=>
          rw [hE,hP] at h2
          exact draw_sound hT hG hm hrb hd' h1 hE hP h (fun a' w' lim' β' hs=>hn st3 h2 a' w' lim' β' (hs.alike hal))
    | false=>
      obtain ⟨st',fs,st3,h1,hal,h2⟩:=opsK_runT (Alike.refl st1) (by exact he)
      exact wp_region_list (run_sound hT hG hrb h1 hd' h (fun a' w' lim' β' hs=>hn st3 h2 a' w' lim' β' (hs.alike hal)))
  | seq x y ihx ihy=>
    refine ⟨?_,fun b hb=>by cases hb⟩
    intro R st kn kr ke r hd he Q a w lim β h hn hr hx
    unfold evalK at he
    have hd1:dstsOk m x=true∧dstsOk m y=true:=by
     simp only [dstsOk] at hd
     cases hq:dstsOk m x with
     | false=>rw [hq] at hd;cases hd
     | true=>rw [hq] at hd;exact ⟨rfl,hd⟩
    split at he
    ·refine wp_seq (ihx.1 R st _ kr ke r hd1.1 he _ a w lim β h (fun st' hk a' w' lim' β' hs=>?_) hr hx)
     exact ihy.1 R st' kn kr ke r hd1.2 hk Q a' w' lim' β' hs hn hr hx
    ·rename_i S hcut
     obtain ⟨s,h1,h2⟩:=obind_some he
     refine wp_seq (ihx.1 S.ty.val st _ _ _ s hd1.1 h1 _ a w lim β h (fun st' hk a' w' lim' β' hs=>?_) (fun st' hk=>by cases hk) (fun i st' hk=>by cases hk))
     obtain ⟨lim2,β2,hs⟩:=hs.packedT hrb hk
     exact ihy.1 R (unpack S s) kn kr ke r hd1.2 h2 Q a' w' lim2 β2 hs hn hr hx
    ·rename_i S hcut
     obtain ⟨e,h1,h2⟩:=obind_some he
     refine wp_seq (ihx.1 (S.ty.val ⊕ R) st _ _ _ e hd1.1 h1 _ a w lim β h (fun st' hk a' w' lim' β' hs=>?_) (fun st' hk a' w' lim' β' hs=>?_) (fun i st' hk a' w' lim' β' hs=>?_))
     ·obtain ⟨s,k1,k2⟩:=map_inl (β:=R) (γ:=R) hk
      subst k2
      obtain ⟨lim2,β2,hs⟩:=hs.packedT hrb k1
      exact ihy.1 R (unpack S s) kn kr ke r hd1.2 h2 Q a' w' lim2 β2 hs hn hr hx
     ·obtain ⟨s,k1,k2⟩:=map_inr hk
      subst k2
      injection h2 with h2;subst h2
      exact hr st' k1 a' w' lim' β' hs
     ·obtain ⟨s,k1,k2⟩:=map_inr hk
      subst k2
      injection h2 with h2;subst h2
      exact hx i st' k1 a' w' lim' β' hs
  | cond c x y ihx ihy=>
    refine ⟨?_,fun b hb=>by cases hb⟩
    intro R st kn kr ke r hd he Q a w lim β h hn hr hx
    unfold evalK at he
    have hd1:dstsOk m x=true∧dstsOk m y=true:=by
     simp only [dstsOk] at hd
     cases hq:dstsOk m x with
     | false=>rw [hq] at hd;cases hd
     | true=>rw [hq] at hd;exact ⟨rfl,hd⟩
    split at he
    ·rename_i b hav
     have hc:=h.ent c
     rw [hav] at hc
     have hc:=bool_rep hc
     have b':Bool:=b
     have he:cond (α:=Option R) b (evalK tab G ann fuel x R st kn kr ke) (evalK tab G ann fuel y R st kn kr ke)=some r:=(cnd_cond (st.knX c) (show Bool from b) _ _).symm.trans he
     revert hc he
     generalize (show Bool from b)=t
     intro hc he
     refine wp_cond hc ?_
     cases t with
     | true=>exact ihx.1 R st kn kr ke r hd1.1 he Q a w lim β h hn hr hx
     | false=>exact ihy.1 R st kn kr ke r hd1.2 he Q a w lim β h hn hr hx
    ·cases he
  | block id c ihc=>
    refine ⟨?_,fun b hb=>by cases hb⟩
    intro R st kn kr ke r hd he Q a w lim β h hn hr hx
    by_cases hl : ∃b,c = .loop b
    ·obtain ⟨b,rfl⟩:=hl
     have ihb:=ihc.2 b rfl
     unfold evalK at he
     have hdb:dstsOk m b=true:=hd
     split at he
     ·rename_i S T hann
      split at he
      ·cases he
      ·rename_i s0 hp
       obtain ⟨t,h1,h2⟩:=obind_some he
       obtain ⟨limp,βp,hsp⟩:=h.packedT hrb hp
       refine wp_block (loop_sound (U:=unpack S) (r:=t) ?_ h1 hsp)
       intro s e hf k a w lim β hs hk hrt
       refine ihb _ (unpack S s) _ _ _ e hdb hf _ a w lim β hs (fun st' hk' a' w' lim' β' hs'=>?_) (fun st' hk'=>by cases hk') (fun i st' hk' a' w' lim' β' hs'=>?_)
       ·obtain ⟨s',k1,k2⟩:=map_inl (β:=T.ty.val) (γ:=R) hk'
        obtain ⟨β2,hs2⟩:=hs'.packed k1
        exact ⟨s',lim',β2,hk s' k2,hs2⟩
       ·cases hq:Nat.beq i id with
        | false=>rw [hq] at hk';cases hk'
        | true=>
          rw [hq] at hk'
          obtain ⟨t',k1,k2⟩:=map_inr hk'
          have:=hrt t' k2;subst this
          show (if i=id then Q .normal a' w' else Q (.exit i) a' w')
          rw [if_pos (nbeq hq)]
          obtain ⟨β2,hs2⟩:=hs'.packed k1
          exact hn _ h2 a' w' lim' β2 hs2
     ·rename_i S T hann
      split at he
      ·cases he
      ·rename_i s0 hp
       obtain ⟨t,h1,h2⟩:=obind_some he
       obtain ⟨limp,βp,hsp⟩:=h.packedT hrb hp
       refine wp_block (loop_sound (U:=unpack S) (r:=t) ?_ h1 hsp)
       intro s e hf k a w lim β hs hk hrt
       refine ihb _ (unpack S s) _ _ _ e hdb hf _ a w lim β hs (fun st' hk' a' w' lim' β' hs'=>?_) (fun st' hk' a' w' lim' β' hs'=>?_) (fun i st' hk' a' w' lim' β' hs'=>?_)
       ·obtain ⟨s',k1,k2⟩:=map_inl (β:=T.ty.val ⊕ R) (γ:=R) hk'
        obtain ⟨β2,hs2⟩:=hs'.packed k1
        exact ⟨s',lim',β2,hk s' k2,hs2⟩
       ·have hk':(kr st').map (fun r=>(Sum.inr (Sum.inr r):S.ty.val ⊕ (T.ty.val ⊕ R)))=some e:=hk'
        cases hq:kr st' with
        | none=>rw [hq] at hk';cases hk'
        | some r'=>
          rw [hq] at hk'
          injection hk' with hk'
          have:=hrt _ hk'.symm
          subst this
          injection h2 with h2;subst h2
          exact hr st' hq a' w' lim' β' hs'
       ·show (if i=id then Q .normal a' w' else Q (.exit i) a' w')
        cases hq:Nat.beq i id with
        | false=>
          have hne : ¬i=id:=by intro e;subst e;rw [Nat.beq_refl] at hq;cases hq
          rw [if_neg hne]
          have hk':(ke i st').map (fun r=>(Sum.inr (Sum.inr r):S.ty.val ⊕ (T.ty.val ⊕ R)))=some e:=by rw [hq] at hk';exact hk'
          cases hq2:ke i st' with
          | none=>rw [hq2] at hk';cases hk'
          | some r'=>
            rw [hq2] at hk'
            injection hk' with hk'
            have:=hrt _ hk'.symm
            subst this
            injection h2 with h2;subst h2
            exact hx i st' hq2 a' w' lim' β' hs'
        | true=>
          rw [if_pos (nbeq hq)]
          have hk':(pack T st').map (fun t=>(Sum.inr (Sum.inl t):S.ty.val ⊕ (T.ty.val ⊕ R)))=some e:=by rw [hq] at hk';exact hk'
          cases hq2:pack T st' with
          | none=>rw [hq2] at hk';cases hk'
          | some t'=>
            rw [hq2] at hk'
            injection hk' with hk'
            have:=hrt _ hk'.symm
            subst this
            obtain ⟨β2,hs2⟩:=hs'.packed hq2
            exact hn _ h2 a' w' lim' β2 hs2
     ·cases he
    ·have he:evalK tab G ann fuel c R st kn kr (fun i st'=>cnd (Nat.beq i id) (kn st') (ke i st'))=some r:=by
       cases c<;>first|exact he|(exfalso;exact hl ⟨_,rfl⟩)
     refine wp_block (ihc.1 R st kn kr _ r hd he _ a w lim β h hn hr (fun i st' hk a' w' lim' β' hs=>?_))
     show (if i=id then Q .normal a' w' else Q (.exit i) a' w')
     cases hq:Nat.beq i id with
     | true=>
       rw [hq] at hk
       rw [if_pos (nbeq hq)]
       exact hn st' hk a' w' lim' β' hs
     | false=>
       have hne : ¬i=id:=by intro e;subst e;rw [Nat.beq_refl] at hq;cases hq
       rw [hq] at hk
       rw [if_neg hne]
       exact hx i st' hk a' w' lim' β' hs
  | exit id=>
    refine ⟨?_,fun b hb=>by cases hb⟩
    intro R st kn kr ke r hd he Q a w lim β h hn hr hx
    unfold evalK at he
    exact wp_exit (hx id st he a w lim β h)
  | ret=>
    refine ⟨?_,fun b hb=>by cases hb⟩
    intro R st kn kr ke r hd he Q a w lim β h hn hr hx
    unfold evalK at he
    exact wp_ret (hr st he a w lim β h)
  | loop c ihc=>
    refine ⟨?_,fun b hb=>by injection hb with hb;subst hb;exact ihc.1⟩
    intro R st kn kr ke r hd he Q a w lim β h hn hr hx
    unfold evalK at he;cases he
  | goto l=>
    refine ⟨?_,fun b hb=>by cases hb⟩
    intro R st kn kr ke r hd he Q a w lim β h hn hr hx
    unfold evalK at he;cases he
  | label l=>
    refine ⟨?_,fun b hb=>by cases hb⟩
    intro R st kn kr ke r hd he
    unfold evalK at he;cases he
  | refuse l=>
    refine ⟨?_,fun b hb=>by cases hb⟩
    intro R st kn kr ke r hd he
    unfold evalK at he;cases he
  | scope c ihc=>
    refine ⟨?_,fun b hb=>by cases hb⟩
    intro R st kn kr ke r hd he
    unfold evalK at he;cases he
  | rangeFunc f ps x y ihx ihy=>
    refine ⟨?_,fun b hb=>by cases hb⟩
    intro R st kn kr ke r hd he
    unfold evalK at he;cases he
 exact both.1
end
end Go.Den
namespace Go.Den
section
variable {P:Program} {tab:Tab} {G:Gam} {w0:Base} {lim0:Lim} {rb:Option Nat} {n:Nat}
variable {st st':St} {a:Act} {w:World} {lim:Lim} {β:Mp}
theorem putArgs_env {w:World} {lim:Lim} {rb:Option Nat} : ∀ {t:Ty} {x:t.val} {vals:List Value} {i:Nat},ArgsRep w lim rb t x vals→∀j,((putArgs t x i).env j).av = .any ∨
 ∃k v,j=i+k∧vals[k]?=some v∧((∃b y,((putArgs t x i).env j).av = .dat b y∧TRep w lim b y v)∨(((putArgs t x i).env j).av = .rdr []∧∃g,rb=some g∧v = .pointer (some ⟨g,0,none⟩))):=by
 intro t
 induction t with
 | prod p q ihp ihq=>
   intro x vals i h j
   cases vals with
   | nil=>exact h.elim
   | cons v vals=>
     obtain ⟨h1,h2⟩:=h
     have he:(putArgs (.prod p q) x i).env j=cnd (Nat.beq j i) ⟨argAV p x.1,none⟩ ((putArgs q x.2 (Nat.succ i)).env j):=rfl
     rw [he]
     cases hq:Nat.beq j i with
     | true=>
       have:=nbeq hq;subst this
       refine .inr ⟨0,v,rfl,rfl,?_⟩
       rcases h1 with ⟨h1,h3⟩|⟨h1,h3⟩
       ·have:argAV p x.1 = .dat p x.1:=by cases p<;>first|rfl|exact absurd rfl h1
        exact .inl ⟨p,x.1,this,h3⟩
       ·subst h1;exact .inr ⟨rfl,h3⟩
     | false=>
       rcases ihq (i:=Nat.succ i) h2 j with h3|⟨k,v',h3,h4,h5⟩
       ·exact .inl h3
       ·exact .inr ⟨k+1,v',h3.trans (Nat.succ_add_eq_add_succ i k),by simpa using h4,h5⟩
 | unit=>intro x vals i _ j;exact .inl rfl
 | int k=>intro x vals i h;cases vals<;>exact h.elim
 | bool=>intro x vals i h;cases vals<;>exact h.elim
 | str=>intro x vals i h;cases vals<;>exact h.elim
 | slice t=>intro x vals i h;cases vals<;>exact h.elim
theorem putArgs_rest : ∀ {t:Ty} {x:t.val} {i:Nat},(∀j,((putArgs t x i).env j).tag=none)∧(∀b,(putArgs t x i).box b=none)∧(∀l,(putArgs t x i).own l=false)∧(putArgs t x i).rd=none:=by
 intro t
 induction t with
 | prod p q ihp ihq=>
   intro x i
   obtain ⟨h1,h2,h3,h4⟩:=ihq (x:=x.2) (i:=Nat.succ i)
   refine ⟨fun j=>?_,h2,fun l=>?_,h4⟩
   ·have he:(putArgs (.prod p q) x i).env j=cnd (Nat.beq j i) ⟨argAV p x.1,none⟩ ((putArgs q x.2 (Nat.succ i)).env j):=rfl
    rw [he]
    cases Nat.beq j i with
    | true=>rfl
    | false=>exact h1 j
   ·cases l with
    | box b p=>exact h3 _
    | tmp u r=>
      have he:(putArgs (.prod p q) x i).own (.tmp u r)=cnd (Nat.beq u i) (inPaths r []) ((putArgs q x.2 (Nat.succ i)).own (.tmp u r)):=rfl
      rw [he]
      cases Nat.beq u i with
      | true=>rfl
      | false=>exact h3 _
 | _=>intro x i;exact ⟨fun _=>rfl,fun _=>rfl,fun _=>rfl,rfl⟩
theorem putArgs_trees : ∀ {t:Ty} {x:t.val} {i:Nat},(∀r,(putArgs t x i).io r=none)∧∀b,(putArgs t x i).xb b=none:=by
 intro t
 induction t with
 | prod p q ihp ihq=>
   intro x i
   obtain ⟨h1,h2⟩:=ihq (x:=x.2) (i:=Nat.succ i)
   exact ⟨h1,h2⟩
 | _=>intro x i;exact ⟨fun _=>rfl,fun _=>rfl⟩
theorem putArgs_rb : ∀ {t:Ty} {x:t.val} {i:Nat} (b:Tmp),(putArgs t x i).rb b=none:=by
 intro t
 induction t with
 | prod p q ihp ihq=>intro x i b;exact ihq (x:=x.2) (i:=Nat.succ i) b
 | _=>intro x i b;rfl
def base0 (w:World):Base:={w with X:=fun _=>False,mu:=false,V0:=undef}
theorem base0_grown {w w':World} {rb:Option Nat} (h:(base0 w).grownBy w' rb):w.grownBy w' rb:=
 ⟨h.os,h.tape,h.output,h.size,fun i hi hne=>h.block i hi hne id⟩
theorem offs_nil (t:Ty):offs t []=0:=by cases t<;>rfl
theorem whole_cells {w:World} {g:Nat} {cells:Array Value} {e:TypeId} (hg:w.heap[g]?=some (.cells cells e (0,0))) : ∀(j:Nat),w.cell? ⟨g,j,none⟩=cells.toList[j]?:=by
 intro j
 simp [World.cell?,hg]
theorem resVal_ok (hT:TabOk P tab) (h:Sim w0 lim0 rb n st a w lim β) {ty:Ty} {r:ResultVar} {x:ty.val} (hr:resVal tab st ty r=some x) :
 ∃v,(match r with | .tmp t=>pure (a.tmps.getD t undef) | .cell c t=>do loadVar t (←asAddr (a.tmps.getD c undef)):Sem Value).run P w = .ok v w∧TRep w lim ty x v ∧
  ∀p l,resLoc st p r=some l→st.own l=true→typeAt ty p=locTy st l∧v.cells.toList[offs ty p]?=locV st a w β l:=by
 cases r with
 | tmp t=>
   simp only [resVal] at hr
   refine ⟨_,Sem.run_pure _ _ _,as_rep hr (h.env t),fun p l hl ho=>?_⟩
   injection hl with hl;subst hl
   obtain ⟨e,v,k1,k2,_⟩:=h.own _ ho
   have hav:(st.env t).av = .dat ty x:=by
    rcases as_dat hr with h1|h1
    ·exact h1
    ·simp only [locTy,h1] at k1;cases k1
   have ht:=h.env t
   rw [hav] at ht
   refine ⟨by simp only [locTy,hav],?_⟩
   simp only [locV,hav]
   rw [zdl ht];rfl
 | cell c t=>
   simp only [resVal] at hr
   split at hr
   ·rename_i b hav
    have hc:=h.env c
    rw [hav] at hc
    obtain ⟨d,k1,k2⟩:=hc
    rw [k1] at hr
    simp only [] at hr
    cases hty:tyIs (tab t) d.1 with
    | false=>rw [hty] at hr;cases hr
    | true=>
      rw [hty] at hr
      obtain ⟨e1,e2⟩:=zbm hr
      obtain ⟨dt,dv⟩:=d
      simp only at e1 e2 k1 k2 hty
      subst e1;subst e2
      obtain ⟨cells,e,m1,m2,m3,m4⟩:=h.box b _ k1
      have hcell:=whole_cells m1
      have hload:=zkr (P:=P) (hT _ _ (zax hty)) m2 (b:=β b) (o:=0) (w:=w) (fun j u hu=>by rw [Nat.zero_add,hcell];exact hu)
      have hp:a.tmps.getD c undef = .pointer (some ⟨β b,0,none⟩):=by
       have:offs dt []=0:=by cases dt<;>rfl
       rw [this] at k2;exact k2
      refine ⟨_,?_,⟨_,m2,rfl⟩,fun p l hl ho=>?_⟩
      ·simp only [hp,asAddr,Sem.run_bind,Sem.run_pure,Result.andThen_ok]
       exact hload
      ·simp only [resLoc,hav] at hl
       injection hl with hl;subst hl
       refine ⟨by simp only [locTy,k1],?_⟩
       simp only [locV,k1,hcell]
       rw [za6 m2]
   ·cases hr
theorem resVals_ok (hT:TabOk P tab) (h:Sim w0 lim0 rb n st a w lim β) :
 ∀ {ty:Ty} {rs:List ResultVar} {x:ty.val},resVals tab st ty rs=some x→∃vs:List Value,(∀(f:ResultVar→Sem Value) (_ : ∀u,f (.tmp u)=pure (a.tmps.getD u undef)) (_ : ∀c t,f (.cell c t)=(do loadVar t (←asAddr (a.tmps.getD c undef)))),(rs.mapM f).run P w = .ok vs w)∧TupRep w lim ty x vs∧vs.length=rs.length ∧
   ∀i r p l,nthR rs i=some r→resLoc st p r=some l→st.own l=true→typeAt ty (i::p)=locTy st l∧(vs.flatMap fun v=>v.cells.toList)[offs ty (i::p)]?=locV st a w β l:=by
 intro ty
 induction ty with
 | prod p q ihp ihq=>
   intro rs x hr
   cases rs with
   | nil=>cases hr
   | cons r rs=>
     simp only [resVals] at hr
     cases h1:resVal tab st p r with
     | none=>rw [h1] at hr;cases hr
     | some y=>
       cases h2:resVals tab st q rs with
       | none=>rw [h1,h2] at hr;cases hr
       | some z=>
         rw [h1,h2] at hr
         injection hr with hr;subst hr
         obtain ⟨v,k1,k2,k3⟩:=resVal_ok hT h h1
         obtain ⟨vs,m1,m2,m3,m4⟩:=ihq h2
         refine ⟨v::vs,fun f hf hc=>?_,⟨v,vs,rfl,k2,m2⟩,by simp [m3],fun i r' pp l hi hl ho=>?_⟩
         ·have hfr:(f r).run P w = .ok v w:=by
            cases r with
            | tmp u=>rw [hf];exact k1
            | cell c t=>rw [hc];exact k1
          simp [List.mapM_cons,hfr,m1 f hf hc]
         have hlen:=k2.cells.length
         cases i with
         | zero=>
           injection hi with hi;subst hi
           obtain ⟨e1,e2⟩:=k3 pp l hl ho
           refine ⟨e1,?_⟩
           obtain ⟨e,u,_,k5,_⟩:=h.own _ ho
           simp only [offs,List.flatMap_cons]
           rw [k5] at e2 ⊢
           rw [List.getElem?_append_left (List.getElem?_eq_some_iff.1 e2).1];exact e2
         | succ i=>
           obtain ⟨e1,e2⟩:=m4 i r' pp l hi hl ho
           refine ⟨e1,?_⟩
           simp only [offs,List.flatMap_cons]
           rw [List.getElem?_append_right (by omega),hlen,show p.size+offs q (i::pp)-p.size=offs q (i::pp) by omega];exact e2
 | unit=>
   intro rs x hr
   cases rs with
   | nil=>exact ⟨[],fun _ _ _=>by simp,rfl,rfl,fun i r p l hi=>by cases hi⟩
   | cons r rs=>cases hr
 | int k=>intro rs x hr;cases rs<;>cases hr
 | bool=>intro rs x hr;cases rs<;>cases hr
 | str=>intro rs x hr;cases rs<;>cases hr
 | slice t=>intro rs x hr;cases rs<;>cases hr
theorem zhh {rs:List ResultVar} : ∀ {ps:List (List Nat)} {ls:List Loc},resLocs st rs ps=some ls→∀p∈ps,∃i q r l,p=i::q∧nthR rs i=some r∧resLoc st q r=some l∧st.own l=true∧l∈ls
 | [],ls,h,p,hp=>by cases hp
 | []::ps,ls,h,p,hp=>by cases h
 | (i::q)::ps,ls,h,p,hp=>by
   simp only [resLocs] at h
   cases h1:nthR rs i with
   | none=>rw [h1] at h;cases h
   | some r=>
     rw [h1] at h;simp only [] at h
     cases h2:resLoc st q r with
     | none=>rw [h2] at h;cases h
     | some l=>
       rw [h2] at h;simp only [] at h
       cases h3:resLocs st rs ps with
       | none=>rw [h3] at h;cases h
       | some ls'=>
         rw [h3] at h;simp only [] at h
         cases h4:st.own l with
         | false=>rw [h4] at h;cases h
         | true=>
           cases h5:inLocs l ls' with
           | true=>rw [h4,h5] at h;cases h
           | false=>
             rw [h4,h5] at h
             injection h with h;subst h
             rcases List.mem_cons.1 hp with rfl|hp
             ·exact ⟨i,q,r,l,rfl,h1,h2,h4,by simp⟩
             ·obtain ⟨i',q',r',l',k1,k2,k3,k4,k5⟩:=zhh h3 p hp
              exact ⟨i',q',r',l',k1,k2,k3,k4,by simp [k5]⟩
theorem resLocs_inj {rs:List ResultVar} : ∀ {ps:List (List Nat)} {ls:List Loc},resLocs st rs ps=some ls→∀i q r l i' q' r',(i::q)∈ps→(i'::q')∈ps→nthR rs i=some r→nthR rs i'=some r'→resLoc st q r=some l→resLoc st q' r'=some l→i::q=i'::q'
 | [],ls,h,i,q,r,l,i',q',r',hp,_,_,_,_,_=>by cases hp
 | []::ps,ls,h,_,_,_,_,_,_,_,hp,_,_,_,_,_=>by cases h
 | (j::s)::ps,ls,h,i,q,r,l,i',q',r',hp,hp',hr,hr',hl,hl'=>by
   simp only [resLocs] at h
   cases h1:nthR rs j with
   | none=>rw [h1] at h;cases h
   | some rj=>
     rw [h1] at h;simp only [] at h
     cases h2:resLoc st s rj with
     | none=>rw [h2] at h;cases h
     | some lj=>
       rw [h2] at h;simp only [] at h
       cases h3:resLocs st rs ps with
       | none=>rw [h3] at h;cases h
       | some ls'=>
         rw [h3] at h;simp only [] at h
         cases h4:st.own lj with
         | false=>rw [h4] at h;cases h
         | true=>
           cases h5:inLocs lj ls' with
           | true=>rw [h4,h5] at h;cases h
           | false=>
             have clash : ∀ {i q r},(i::q)∈ps→nthR rs i=some r→resLoc st q r=some lj→False:=by
              intro i q r hm hi hq
              obtain ⟨i2,q2,r2,l2,k1,k2,k3,k4,k5⟩:=zhh h3 _ hm
              injection k1 with k1 k1';subst k1;subst k1'
              rw [hi] at k2;injection k2 with k2;subst k2
              rw [hq] at k3;injection k3 with k3;subst k3
              rw [zmh.2 k5] at h5;cases h5
             rcases List.mem_cons.1 hp with hp|_
             ·injection hp with e1 e2;subst e1;subst e2
              rw [h1] at hr;injection hr with hr;subst hr
              rw [h2] at hl;injection hl with hl;subst hl
              rcases List.mem_cons.1 hp' with hp'|hp'
              ·injection hp' with e1 e2;subst e1;subst e2;rfl
              ·exact (clash hp' hr' hl').elim
             ·rename_i hpm
              rcases List.mem_cons.1 hp' with hp'|hp'
              ·injection hp' with e1 e2;subst e1;subst e2
               rw [h1] at hr';injection hr' with hr';subst hr'
               rw [h2] at hl';injection hl' with hl';subst hl'
               exact (clash hpm hr hl).elim
              ·exact resLocs_inj h3 i q r l i' q' r' hpm hp' hr hr' hl hl'
theorem one_rep {t:Ty} {y:t.val} {v:Value} (m2:TupRep w lim t y [v]):ERep st00 w lim mp0 none (resAV t true y) v:=by
 cases t with
 | prod p q'=>
   obtain ⟨v',vs',hv,t1,t2⟩:=m2
   injection hv with hv hvs;subst hv;subst hvs
   cases q' with
   | unit=>exact t1
   | prod _ _=>obtain ⟨v',vs',hv,_⟩:=t2;cases hv
   | _=>exact t2.elim
 | unit=>cases m2
 | _=>exact m2.elim
theorem one_part {t:Ty} {y:t.val} {v:Value} (m2:TupRep w lim t y [v]) {q:List Nat} {lt:Option Ty} {lv:Option Value} (e1:typeAt t (0::q)=lt) (e2:([v].flatMap fun v=>v.cells.toList)[offs t (0::q)]?=lv) :
 typeAV q (resAV t true y)=lt∧partAV v q (resAV t true y)=lv:=by
 cases t with
 | prod p q'=>
   obtain ⟨v',vs',hv,t1,t2⟩:=m2
   injection hv with hv hvs;subst hv;subst hvs
   cases q' with
   | unit=>
     simp only [resAV,typeAV,partAV]
     refine ⟨e1,?_⟩
     rw [zdl t1]
     simpa [offs] using e2
   | prod _ _=>obtain ⟨v',vs',hv,_⟩:=t2;cases hv
   | _=>exact t2.elim
 | unit=>cases m2
 | _=>exact m2.elim
theorem rb_lt {s:Sig} {w:World} {lim:Lim} {rb:Option Nat} {rd:s.rdty.val} (hrd:RdIn w lim rb s rd) : ∀k,some k=rb→k<w.heap.size:=by
 intro k hk
 cases hu:s.usesRd with
 | true=>
   obtain ⟨b,cells,e,h1,h2,_⟩:=hrd.1 hu
   rw [h1] at hk;injection hk with hk;subst hk
   exact (Array.getElem?_eq_some_iff.1 h2).1
 | false=>rw [hrd.2 hu] at hk;cases hk
theorem start_sim {s:Sig} {w:World} {lim:Lim} {rb:Option Nat} {x:s.aty.val} {rd:s.rdty.val} {vals:List Value} (m:Nat) (hargs:ArgsRep w lim rb s.aty x vals) (hrd:RdIn w lim rb s rd) :
 Sim (base0 w) lim rb (vals.toArray++Array.replicate (m-vals.toArray.size) undef).size (startOf s.aty s.rdty s.usesRd x rd) {tmps:=vals.toArray++Array.replicate (m-vals.toArray.size) undef,defers:=[]} w lim mp0:=by
 obtain ⟨q1,q2,q3,q4⟩:=putArgs_rest (t:=s.aty) (x:=x) (i:=0)
 have henv:=putArgs_env (i:=0) hargs
 unfold startOf
 have e1 : ∀t,(cnd s.usesRd {putArgs s.aty x 0 with rd:=some ⟨s.rdty,rd⟩} (putArgs s.aty x 0)).env t=(putArgs s.aty x 0).env t:=fun t=>by cases s.usesRd<;>rfl
 have e2 : ∀t,(cnd s.usesRd {putArgs s.aty x 0 with rd:=some ⟨s.rdty,rd⟩} (putArgs s.aty x 0)).box t=(putArgs s.aty x 0).box t:=fun t=>by cases s.usesRd<;>rfl
 have e3 : ∀t,(cnd s.usesRd {putArgs s.aty x 0 with rd:=some ⟨s.rdty,rd⟩} (putArgs s.aty x 0)).own t=(putArgs s.aty x 0).own t:=fun t=>by cases s.usesRd<;>rfl
 have hrdk:RdK (base0 w) rb (cnd s.usesRd {putArgs s.aty x 0 with rd:=some ⟨s.rdty,rd⟩} (putArgs s.aty x 0)).rd w:=by
  intro d b hd hb p e hp
  refine ⟨rfl,fun ad m' c hv hm=>?_⟩
  cases hu:s.usesRd with
  | false=>rw [hu] at hd;simp only [cnd_false,q4] at hd;cases hd
  | true=>
    rw [hu] at hd
    injection hd with hd;subst hd
    obtain ⟨b',cells,e',k1,k2,k3,k4⟩:=hrd.1 hu
    rw [hb] at k1;injection k1 with k1;subst k1
    obtain ⟨e2,_,xs,v,m1,a',c',m2,m3,m4⟩:=CRep.vis k3 hp rfl
    have hv:w.cell? ⟨b,offs s.rdty p,none⟩=some (.slice (some ad) m' c):=hv
    rw [whole_cells k2,m1] at hv
    injection hv with hv
    injection m2 with m2 _
    rw [m2] at hv
    injection hv with h1 h2 h3
    rcases m4 with m4|⟨bb,oo,m5,m6,_⟩
    ·rw [m4] at h2;simp at h2;omega
    ·rw [m5] at h1;injection h1 with h1;subst h1;exact m6
 refine ⟨rfl,rfl,⟨rfl,rfl,rfl,Nat.le_refl _,fun _ _ _ _=>rfl⟩,fun _ _ _=>rfl,fun _ hg=>hg.elim,hrdk,fun t=>?_,fun b d hbx=>?_,fun b c d d' hbx=>?_,fun l hl=>?_,fun l g hl=>?_,fun l l' g hl=>?_,fun t l hl=>?_,fun d hd=>?_,?_⟩
 ·rw [e1]
  rcases henv t with h1|⟨k,v,h1,h2,h3⟩
  ·rw [h1];trivial
  ·have hv:tmpOf {tmps:=vals.toArray++Array.replicate (m-vals.toArray.size) undef,defers:=[]} t=v:=by
     have hk:=(List.getElem?_eq_some_iff.1 h2).1
     have:t=k:=h1.trans (Nat.zero_add k)
     subst this
     simp only [tmpOf]
     rw [Array.getD_eq_getD_getElem?,Array.getElem?_append_left (by simpa using hk)]
     simp [h2]
   rw [hv]
   rcases h3 with ⟨b,y,h3,h4⟩|⟨h3,g,h4,h5⟩
   ·rw [h3];exact h4
   ·rw [h3]
    cases hu:s.usesRd with
    | false=>rw [hrd.2 hu] at h4;cases h4
    | true=>exact ⟨⟨s.rdty,rd⟩,g,rfl,h4,by rw [h5,offs_nil]⟩
 ·rw [e2,q2] at hbx;cases hbx
 ·rw [e2,q2] at hbx;cases hbx
 ·rw [e3,q3] at hl;cases hl
 ·rw [e3,q3] at hl;cases hl
 ·rw [e3,q3] at hl;cases hl
 ·rw [e1,q1] at hl;cases hl
 ·cases hu:s.usesRd with
  | false=>rw [hu] at hd;simp only [cnd_false,q4] at hd;cases hd
  | true=>
    rw [hu] at hd
    injection hd with hd;subst hd
    obtain ⟨b,cells,e,h1,h2,h3,h4⟩:=hrd.1 hu
    exact ⟨b,cells,e,h1,(Array.getElem?_eq_some_iff.1 h2).1,h2,h3,h4⟩
 ·obtain ⟨t1,t2⟩:=putArgs_trees (t:=s.aty) (x:=x) (i:=0)
  exact no_trees (fun r=>by cases s.usesRd<;>exact t1 r) (fun b=>by cases s.usesRd<;>exact t2 b) (fun b=>by cases s.usesRd<;>exact putArgs_rb b)
def RetOkB (b0:Base) (lim:Lim) (rb:Option Nat) (s:Sig) (r:s.rty.val×s.rdty.val) (e:Ending) (w':World):Prop:=
 ∃v lim',e = .returned v∧b0.grownBy w' rb∧(∀b,b<b0.heap.size→¬b0.X b→lim' b=lim b)∧ERep st00 w' lim' mp0 none (resAV s.rty s.one r.1) v ∧
  (∀p∈resOwn s.one s.own,∃T x,typeAV p (resAV s.rty s.one r.1)=some T∧partAV v p (resAV s.rty s.one r.1)=some x∧OwnT w' lim' b0.fr T x) ∧
  (∀p∈resOwn s.one s.own,∀q∈resOwn s.one s.own,∀T T' x y g,typeAV p (resAV s.rty s.one r.1)=some T→typeAV q (resAV s.rty s.one r.1)=some T'→partAV v p (resAV s.rty s.one r.1)=some x→partAV v q (resAV s.rty s.one r.1)=some y→Blk w' T x g→Blk w' T' y g→p=q) ∧
  (s.usesRd=true→∃b cells e,rb=some b∧w'.heap[b]?=some (.cells cells e (0,0))∧CRep w' lim' s.rdty r.2 cells.toList∧∀p e',typeAt s.rdty p=some (.slice e')→w'.cell? ⟨b,offs s.rdty p,none⟩=b0.cell? ⟨b,offs s.rdty p,none⟩)
theorem RetOkB.ret {w w':World} {lim:Lim} {rb:Option Nat} {s:Sig} {r:s.rty.val×s.rdty.val} {e:Ending} (h:RetOkB (base0 w) lim rb s r e w'):RetOk w lim rb s r e w':=by
 obtain ⟨v,lim',h1,h2,h3,h4,h5,h6,h7⟩:=h
 refine ⟨v,lim',h1,base0_grown h2,fun b hb=>h3 b hb id,h4,fun p hp=>?_,h6,h7⟩
 obtain ⟨T,x,k1,k2,k3⟩:=h5 p hp
 exact ⟨T,x,k1,k2,k3.below fun g hg=>hg.resolve_right id⟩
theorem fn_coreB (hT:TabOk P tab) (hG:GamOk P G) (hm:P.follows .mixedOrders=true) {f:FuncId} {fn:Func} {c:Code} (hf:P.funcs[f]?=some fn) (hb:fn.body=some c)
 (s:Sig) (hone:Nat.beq fn.results.toList.length 1=s.one) {ann:Ann} {fuel:Nat} (hdst:dstsOk fn.ntmps c=true) {st0:St} {r:s.rty.val×s.rdty.val}
 (he:evalK tab G ann fuel c (s.rty.val×s.rdty.val) st0 (finOf tab fn.results.toList s.rdty s.usesRd s.rty s.own) (finOf tab fn.results.toList s.rdty s.usesRd s.rty s.own) (fun _ _=>none)=some r)
 {b0:Base} {w:World} {lim:Lim} {rb:Option Nat} {β0:Mp} {vals:List Value} (hrb : ∀k,some k=rb→k<b0.heap.size)
 (hsim:Sim b0 lim rb (vals.toArray++Array.replicate (fn.ntmps-vals.toArray.size) undef).size st0 {tmps:=vals.toArray++Array.replicate (fn.ntmps-vals.toArray.size) undef,defers:=[]} w lim β0) :
 Calls P f vals.toArray w (RetOkB b0 lim rb s r):=by
 refine calls_of_wp hf hb ?_
 -- what stands at the end
 have hend : ∀st',finOf tab fn.results.toList s.rdty s.usesRd s.rty s.own st'=some r→∀a' w' lim' β',Sim b0 lim rb (vals.toArray++Array.replicate (fn.ntmps-vals.toArray.size) undef).size st' a' w' lim' β' →
  a'.defers=[]∧∃v,(results fn a'.tmps).run P w' = .ok v w'∧RetOkB b0 lim rb s r (.returned v) w':=by
  intro st0' hfin a' w' lim0' β' hs0
  have hs:=hs0.frz fn.results.toList hrb
  unfold finOf at hfin
  simp only [] at hfin
  revert hfin hs
  generalize frz fn.results.toList st0'=st'
  generalize limF st0' β' w' lim0'=lim'
  intro hfin hs
  refine ⟨hs.defers,?_⟩
  cases h1:resVals tab st' s.rty fn.results.toList with
  | none=>rw [h1] at hfin;cases hfin
  | some y=>
    cases h2:resLocs st' fn.results.toList s.own with
    | none=>rw [h1,h2] at hfin;cases hfin
    | some ls=>
      rw [h1,h2] at hfin
      simp only [] at hfin
      have hr1:r.1=y∧(s.usesRd=true→∃d,st'.rd=some d∧Ty.cast d.1 s.rdty d.2=some r.2):=by
       cases hu:s.usesRd with
       | false=>rw [hu] at hfin;injection hfin with hfin;subst hfin;exact ⟨rfl,fun h=>by cases h⟩
       | true=>
         rw [hu] at hfin
         simp only [cnd_true] at hfin
         cases h3:st'.rd with
         | none=>rw [h3] at hfin;cases hfin
         | some d=>
           rw [h3] at hfin;simp only [] at hfin
           cases h4:Ty.cast d.1 s.rdty d.2 with
           | none=>rw [h4] at hfin;cases hfin
           | some z=>
             rw [h4] at hfin;injection hfin with hfin;subst hfin
             exact ⟨rfl,fun _=>⟨d,rfl,h4⟩⟩
      obtain ⟨hry,hrrd⟩:=hr1
      obtain ⟨vs,m1,m2,m3,m4⟩:=resVals_ok hT hs h1
      have hrun:(results fn a'.tmps).run P w' = .ok (if h:vs.toArray.size=1 then vs.toArray[0] else .tuple vs.toArray) w':=by
       unfold results
       rw [show fn.results=fn.results.toList.toArray by simp,List.mapM_toArray]
       simp only [Sem.run_bind,Sem.run_map]
       rw [m1]
       ·simp
       ·intro u;rfl
       ·intro c t;rfl
      refine ⟨_,hrun,_,lim',rfl,hs.grow,hs.limOld,?_⟩
      -- the value
      have shape:(s.one=false∧(if h:vs.toArray.size=1 then vs.toArray[0] else .tuple vs.toArray) = .tuple vs.toArray) ∨
       (s.one=true∧∃v,vs=[v]∧(if h:vs.toArray.size=1 then vs.toArray[0] else .tuple vs.toArray)=v):=by
       cases ho:s.one with
       | true=>
         rw [ho] at hone
         have hl:=nbeq hone
         obtain ⟨v,rfl⟩:=List.length_eq_one_iff.1 (m3.trans hl)
         exact .inr ⟨rfl,v,rfl,by simp⟩
       | false=>
         rw [ho] at hone
         have hl:fn.results.toList.length≠1:=fun e=>by rw [e] at hone;cases hone
         refine .inl ⟨rfl,?_⟩
         rw [dif_neg]
         simp only [List.size_toArray]
         rw [m3];exact hl
      -- a slice that is handed out
      have part : ∀i q r' l,nthR fn.results.toList i=some r'→resLoc st' q r'=some l→st'.own l=true →
       ∃p',(s.one=true→p'=q)∧(s.one=false→p'=i::q)∧typeAV p' (resAV s.rty s.one r.1)=locTy st' l ∧
        partAV (if h:vs.toArray.size=1 then vs.toArray[0] else .tuple vs.toArray) p' (resAV s.rty s.one r.1)=locV st' a' w' β' l:=by
       intro i q r' l hi hl ho
       obtain ⟨e1,e2⟩:=m4 i r' q l hi hl ho
       rcases shape with ⟨s1,s2⟩|⟨s1,v,s2,s3⟩
       ·refine ⟨i::q,fun h=>(by rw [s1] at h;cases h),fun _=>rfl,?_,?_⟩
        ·rw [s1]
         have:resAV s.rty false r.1 = .tup s.rty r.1:=by unfold resAV;split<;>simp_all
         rw [this];exact e1
        ·rw [s2,s1]
         have:resAV s.rty false r.1 = .tup s.rty r.1:=by unfold resAV;split<;>simp_all
         rw [this]
         simpa [partAV,flatV] using e2
       ·refine ⟨q,fun _=>rfl,fun h=>(by rw [s1] at h;cases h),?_⟩
        subst s2
        rw [s3,s1,hry]
        have hi0:i=0:=by
         cases hrs:fn.results.toList with
         | nil=>rw [hrs] at hi;cases hi
         | cons r0 rs=>
           rw [hrs] at hi m3
           have:rs=[]:=by simpa using m3
           subst this
           cases i with
           | zero=>rfl
           | succ i=>cases hi
        subst hi0
        exact one_part m2 e1 e2
      refine ⟨?_,fun p hp=>?_,fun p hp q hq T1 T2 x' y' g ht1 ht2 hx' hy' hbx hby=>?_,fun hu=>?_⟩
      ·rcases shape with ⟨s1,s2⟩|⟨s1,v,s2,s3⟩
       ·rw [s2,s1,hry]
        have:resAV s.rty false y = .tup s.rty y:=by unfold resAV;split<;>simp_all
        rw [this];exact ⟨vs,rfl,m2⟩
       ·rw [s3,s1,hry]
        subst s2
        exact one_rep m2
      ·have src : ∃i q,(i::q)∈s.own∧(s.one=true→p=q)∧(s.one=false→p=i::q):=by
         cases ho:s.one with
         | true=>
           rw [ho] at hp
           obtain ⟨p0,hp0,rfl⟩:=List.mem_map.1 hp
           obtain ⟨i,q,r',l,k1,_⟩:=zhh h2 p0 hp0
           subst k1
           exact ⟨i,q,hp0,fun _=>rfl,fun h=>by cases h⟩
         | false=>
           rw [ho] at hp
           obtain ⟨i,q,r',l,k1,_⟩:=zhh h2 p hp
           subst k1
           exact ⟨i,q,hp,fun h=>(by cases h),fun _=>rfl⟩
       obtain ⟨i,q,hm',t1,t2⟩:=src
       obtain ⟨i',q',r',l,k1,k2,k3,k4,_⟩:=zhh h2 _ hm'
       injection k1 with k1 k1';subst k1;subst k1'
       obtain ⟨p',u1,u2,u3,u4⟩:=part _ _ r' l k2 k3 k4
       have:p=p':=by
        cases ho:s.one with
        | true=>rw [t1 ho,u1 ho]
        | false=>rw [t2 ho,u2 ho]
       subst this
       obtain ⟨e,v,z1,z2,z3⟩:=hs.own l k4
       exact ⟨e,v,u3.trans z1,u4.trans z2,z3⟩
      ·have src : ∀p,p∈resOwn s.one s.own→∃i q r' l,(i::q)∈s.own∧nthR fn.results.toList i=some r'∧resLoc st' q r'=some l∧st'.own l=true∧(s.one=true→p=q)∧(s.one=false→p=i::q)∧typeAV p (resAV s.rty s.one r.1)=locTy st' l ∧
           partAV (if h:vs.toArray.size=1 then vs.toArray[0] else .tuple vs.toArray) p (resAV s.rty s.one r.1)=locV st' a' w' β' l:=by
        intro p hp
        have src : ∃i q,(i::q)∈s.own∧(s.one=true→p=q)∧(s.one=false→p=i::q):=by
         cases ho:s.one with
         | true=>
           rw [ho] at hp
           obtain ⟨p0,hp0,rfl⟩:=List.mem_map.1 hp
           obtain ⟨i,q,r',l,k1,_⟩:=zhh h2 p0 hp0
           subst k1
           exact ⟨i,q,hp0,fun _=>rfl,fun h=>by cases h⟩
         | false=>
           rw [ho] at hp
           obtain ⟨i,q,r',l,k1,_⟩:=zhh h2 p hp
           subst k1
           exact ⟨i,q,hp,fun h=>(by cases h),fun _=>rfl⟩
        obtain ⟨i,q,hm',t1,t2⟩:=src
        obtain ⟨i',q',r',l,k1,k2,k3,k4,_⟩:=zhh h2 _ hm'
        injection k1 with k1 k1';subst k1;subst k1'
        obtain ⟨p',u1,u2,u3,u4⟩:=part _ _ r' l k2 k3 k4
        have:p=p':=by
         cases ho:s.one with
         | true=>rw [t1 ho,u1 ho]
         | false=>rw [t2 ho,u2 ho]
        subst this
        exact ⟨_,_,r',l,hm',k2,k3,k4,t1,t2,u3,u4⟩
       obtain ⟨i1,q1,r1,l1,a1,a2,a3,a4,a5,a6,a8,a7⟩:=src p hp
       obtain ⟨i2,q2,r2,l2,b1,b2,b3,b4,b5,b6,b8,b7⟩:=src q hq
       rw [a7] at hx'
       rw [b7] at hy'
       rw [a8] at ht1
       rw [b8] at ht2
       have hll:=hs.sep l1 l2 g a4 b4 ⟨_,_,ht1,hx',hbx⟩ ⟨_,_,ht2,hy',hby⟩
       subst hll
       have:=resLocs_inj h2 i1 q1 r1 l1 i2 q2 r2 a1 b1 a2 b2 a3 b3
       injection this with g1 g2
       cases ho:s.one with
       | true=>rw [a5 ho,b5 ho,g2]
       | false=>rw [a6 ho,b6 ho,g1,g2]
      ·obtain ⟨d,d1,d2⟩:=hrrd hu
       obtain ⟨b,cells,e,z1,z2,z3,z4,_⟩:=hs.rd d d1
       obtain ⟨e1,e2⟩:=zbm d2
       obtain ⟨dt,dv⟩:=d
       simp only at e1 e2 z4
       subst e1
       exact ⟨b,cells,e,z1,z3,by rw [e2];exact z4,fun p e' hp=>(hs.rdk _ b d1 z1 p e' hp).1⟩
 refine eval_sound (m:=fn.ntmps) hT hG hm hrb (by simp;omega) c _ _ _ _ _ r hdst he _ _ _ _ _ hsim (fun st' hk a' w' lim' β' hs=>hend st' hk a' w' lim' β' hs) (fun st' hk a' w' lim' β' hs=>hend st' hk a' w' lim' β' hs) (fun i st' hk=>by cases hk)
theorem fn_core (hT:TabOk P tab) (hG:GamOk P G) (hm:P.follows .mixedOrders=true) {f:FuncId} {fn:Func} {c:Code} (hf:P.funcs[f]?=some fn) (hb:fn.body=some c)
 (s:Sig) (hone:Nat.beq fn.results.toList.length 1=s.one) {ann:Ann} {fuel:Nat} (hdst:dstsOk fn.ntmps c=true) {st0:St} {r:s.rty.val×s.rdty.val}
 (he:evalK tab G ann fuel c (s.rty.val×s.rdty.val) st0 (finOf tab fn.results.toList s.rdty s.usesRd s.rty s.own) (finOf tab fn.results.toList s.rdty s.usesRd s.rty s.own) (fun _ _=>none)=some r)
 {w:World} {lim:Lim} {rb:Option Nat} {vals:List Value} (hrb : ∀k,some k=rb→k<w.heap.size)
 (hsim:Sim (base0 w) lim rb (vals.toArray++Array.replicate (fn.ntmps-vals.toArray.size) undef).size st0 {tmps:=vals.toArray++Array.replicate (fn.ntmps-vals.toArray.size) undef,defers:=[]} w lim mp0) :
 Calls P f vals.toArray w (RetOk w lim rb s r):=
 Calls.mono (fn_coreB hT hG hm hf hb s hone hdst he hrb hsim) fun _ _ h=>h.ret
theorem fn_ok (hT : TabOk P tab) (hG : GamOk P G) (hm : P.follows .mixedOrders = true) {f : FuncId} {fn : Func} {c : Code} (hf : P.funcs[f]? = some fn) (hname : (fn.name == "runtime.NumGoroutine") = false) (hb : fn.body = some c)
 (s:Sig) (hop:s.opens=false) (hmu:s.muts=false) (hone:Nat.beq fn.results.toList.length 1=s.one) {ann:Ann} {fuel:Nat} (hfn : ∀x rd r,s.fn x rd=some r→evalFn tab G ann fuel fn s.aty s.rdty s.usesRd s.rty s.own x rd=some r) (hfv:s.fv=none:=by rfl):FnOk P f s:=by
 refine ⟨fun args w=>?_,fun _ _ _ x rd r hr w lim rb vals hargs hrd=>?_,fun g hg=>(by rw [hfv] at hg;cases hg),fun _ h=>(by rw [hop] at h;cases h),fun _ _ h=>(by rw [hmu] at h;cases h),fun _ h=>(by rw [hmu] at h;cases h)⟩
 ·have h1 : fn.name ≠ "runtime.NumGoroutine" := by simpa using hname
  simp [callFunc,hf,h1,hb]
 ·have he:=hfn x rd r hr
  unfold evalFn at he
  rw [hb] at he
  simp only [] at he
  cases hdst:dstsOk fn.ntmps c with
  | false=>rw [hdst] at he;cases he
  | true=>
  rw [hdst] at he
  simp only [cnd_true] at he
  exact fn_core hT hG hm hf hb s hone hdst he (rb_lt hrd) (start_sim fn.ntmps hargs hrd)
theorem open_ok (hT : TabOk P tab) (hG : GamOk P G) (hm : P.follows .mixedOrders = true) {f : FuncId} {fn : Func} {c : Code} (hf : P.funcs[f]? = some fn) (hname : (fn.name == "runtime.NumGoroutine") = false) (hb : fn.body = some c)
 (s:Sig) (hop:s.opens=true) (hmu:s.muts=false) (hus:s.usesRd=false) {ann:Ann} {fuel:Nat} (hfn : ∀x rd r,s.fn x rd=some r→∃r',evalOpen tab G ann fuel fn s.aty s.rty x=some r'∧r'.1=r.1) (hfv:s.fv=none:=by rfl):FnOk P f s:=by
 refine ⟨fun args w=>?_,fun _ h=>(by rw [hop] at h;cases h),fun g hg=>(by rw [hfv] at hg;cases hg),fun _ _ x rd r hr w lim vals hargs=>?_,fun _ h=>(by rw [hop] at h;cases h),fun _ h=>(by rw [hmu] at h;cases h)⟩
 ·have h1 : fn.name ≠ "runtime.NumGoroutine" := by simpa using hname
  simp [callFunc,hf,h1,hb]
 ·obtain ⟨r',he,hr1⟩:=hfn x rd r hr
  unfold evalOpen at he
  rw [hb] at he
  simp only [] at he
  cases hdst:dstsOk fn.ntmps c with
  | false=>rw [hdst] at he;cases he
  | true=>
  rw [hdst] at he
  simp only [cnd_true] at he
  refine calls_of_wp hf hb ?_
  have hsim:=start_sim (s:={s with usesRd:=false,rdty:=.unit,fn:=fun _ _=>none}) (lim:=lim) (rb:=none) (x:=x) (rd:=()) fn.ntmps hargs ⟨fun h=>(by cases h),fun _=>rfl⟩
  have hend : ∀st',finOpen fn.results.toList s.rty st'=some r'→∀a' w' lim' β',Sim (base0 w) lim none (vals.toArray++Array.replicate (fn.ntmps-vals.toArray.size) undef).size st' a' w' lim' β' →
   a'.defers=[]∧∃v,(results fn a'.tmps).run P w' = .ok v w'∧OpenOk w lim s.rty r.1 (.returned v) w':=by
   intro st' hfin a' w' lim' β' hs
   refine ⟨hs.defers,?_⟩
   unfold finOpen at hfin
   split at hfin
   ·rename_i t hrs
    split at hfin
    ·rename_i b hav
     split at hfin
     ·rename_i d hbx
      cases hc:Ty.cast d.1 s.rty d.2 with
      | none=>rw [hc] at hfin;cases hfin
      | some z=>
        rw [hc] at hfin
        injection hfin with hfin;subst hfin
        obtain ⟨cells,e,k1,k2,k3,k4⟩:=hs.box b d hbx
        have ht:=hs.env t
        rw [hav] at ht
        obtain ⟨d',m1,m2⟩:=ht
        rw [hbx] at m1;injection m1 with m1;subst m1
        obtain ⟨e1,e2⟩:=zbm hc
        obtain ⟨dt,dv⟩:=d
        simp only at e1 e2 k2 m2
        subst e1
        have hres:fn.results = #[.tmp t]:=by apply Array.ext';simpa using hrs
        refine ⟨.pointer (some ⟨β' b,0,none⟩),?_,β' b,lim',cells,e,rfl,base0_grown hs.grow,fun b hb=>hs.limOld b hb id,k3,k1,by rw [←hr1];rw [show z=dv from e2];exact k2,k4⟩
        unfold results
        rw [hres]
        rw [offs_nil] at m2
        have m2:a'.tmps.getD t undef=_:=m2
        rw [Array.getD_eq_getD_getElem?] at m2
        simp [m2]
     ·cases hfin
    ·cases hfin
   ·cases hfin
  refine eval_sound (m:=fn.ntmps) hT hG hm (fun k hk=>by cases hk) (by simp;omega) c _ _ _ _ _ r' hdst he _ _ _ _ _ hsim (fun st' hk a' w' lim' β' hs=>hend st' hk a' w' lim' β' hs) (fun st' hk a' w' lim' β' hs=>hend st' hk a' w' lim' β' hs) (fun i st' hk=>by cases hk)
end
end Go.Den
namespace Go.Den
section
variable {P:Program} {tab:Tab} {G:Gam}
def startK (w:World) (rdty:Ty) (cs:List Value):Nat→List Nat→Value:=match rdty,(cs[0]?:Option Value) with
 | Ty.slice e,some (Value.slice (some a) _ _)=>fun n q=>(w.cell? ⟨a.block,n*e.size+offs e q,none⟩).getD undef
 | _,_=>fun _ _=>undef
theorem startK_ok {w:World} {e:Ty} {rd:(Ty.slice e).val} {cs:List Value} {B:Nat→Prop} (hX:XRep w (.slice e) rd cs B) {q:List Nat} {e':Ty} {g m c n:Nat} (hq:typeAt e q=some (.slice e'))
 (hV:cs[0]?=some (.slice (some ⟨g,0,none⟩) m c)) (hn:n<m):w.cell? ⟨g,n*e.size+offs e q,none⟩=some (startK w (.slice e) cs n q):=by
 have hk:startK w (.slice e) cs n q=(w.cell? ⟨g,n*e.size+offs e q,none⟩).getD undef:=by simp only [startK,hV]
 rw [hk]
 rcases hX with ⟨h1,_⟩|⟨g',c',arr,el,fr,Bs,h1,h2,h3,h4,hf,h5,h6,h7,h8⟩
 ·rw [h1] at hV;cases hV
 ·rw [h1] at hV
  injection hV with hV
  injection hV with k1 k2 k3
  injection k1 with k1
  injection k1 with k1
  subst k1
  obtain ⟨ds,m1,m2⟩:=h8 n ((show List e.val from rd)[n]'(by rw [k2];exact hn)) (List.getElem?_eq_getElem _)
  have hl:=zbf hq
  have hs:(Ty.slice e').size=1:=rfl
  have hdl:=m1.length
  have:=m2 (offs e q) _ (List.getElem?_eq_getElem (by omega))
  have hc:w.cell? ⟨g',n*e.size+offs e q,none⟩=arr[n*e.size+offs e q]?:=by simp [World.cell?,h4]
  rw [hc,this];rfl
theorem start_mut {b rdty:Ty} {w:World} {lim:Lim} {x:b.val} {rd:rdty.val} {vs:List Value} {cs:List Value} {B:Nat→Prop} (m:Nat) (hX:XRep w rdty rd cs B) (hB : ∀g,B g→lim g=some 0) (hargs:ArgsRep w lim none b x vs) :
 Sim {w with X:=B,mu:=true,V0:=wrapV rdty cs} lim none ((wrapV rdty cs::vs).toArray++Array.replicate (m-(wrapV rdty cs::vs).toArray.size) undef).size (startMut b rdty x rd)
  {tmps:=(wrapV rdty cs::vs).toArray++Array.replicate (m-(wrapV rdty cs::vs).toArray.size) undef,defers:=[]} w lim ⟨fun _=>0,fun _=>0,fun _=>wrapV rdty cs,fun _=>B,startK w rdty cs⟩:=by
 obtain ⟨q1,q2,q3,q4⟩:=putArgs_rest (t:=b) (x:=x) (i:=1)
 obtain ⟨t1,t2⟩:=putArgs_trees (t:=b) (x:=x) (i:=1)
 have henv:=putArgs_env (i:=1) hargs
 have hcr:CRep w (fun _=>none) rdty rd cs:=hX.crep (fun _ _=>rfl)
 have hfl:flatV (wrapV rdty cs)=cs:=flat_wrap hcr
 have he : ∀t,(startMut b rdty x rd).env t=cnd (Nat.beq t 0) ⟨.xf 0 [],none⟩ ((putArgs b x 1).env t):=fun _=>rfl
 have hio : ∀r d,(startMut b rdty x rd).io r=some d→r=0∧d=⟨rdty,rd⟩:=by
  intro r d hr
  have hr:cnd (Nat.beq r 0) (some (⟨rdty,rd⟩:Dat)) none=some d:=hr
  cases hq:Nat.beq r 0 with
  | true=>rw [hq] at hr;injection hr with hr;exact ⟨nbeq hq,hr.symm⟩
  | false=>rw [hq] at hr;cases hr
 have hxb : ∀k,(startMut b rdty x rd).xb k=none:=fun k=>t2 k
 have hbx : ∀k,(startMut b rdty x rd).box k=none:=fun k=>q2 k
 have hown : ∀l,(startMut b rdty x rd).own l=false:=by
  intro l
  cases l with
  | box c p=>exact q3 _
  | tmp u p=>
    have:(startMut b rdty x rd).own (.tmp u p)=cnd (Nat.beq u 0) (inPaths p []) ((putArgs b x 1).own (.tmp u p)):=rfl
    rw [this]
    cases Nat.beq u 0 with
    | true=>rfl
    | false=>exact q3 _
 refine ⟨rfl,rfl,⟨rfl,rfl,rfl,Nat.le_refl _,fun _ _ _ _=>rfl⟩,fun _ _ _=>rfl,fun _ _ h=>(by cases h),(fun _ _ _ h=>(by cases h)),fun t=>?_,fun k d hk=>(by rw [hbx] at hk;cases hk),fun k c d d' hk=>(by rw [hbx] at hk;cases hk),fun l hl=>(by rw [hown] at hl;cases hl),
  fun l g hl=>(by rw [hown] at hl;cases hl),fun l l' g hl=>(by rw [hown] at hl;cases hl),fun t l hl=>?_,fun d hd=>?_,?_⟩
 ·rw [he]
  cases hq:Nat.beq t 0 with
  | true=>
    have:=nbeq hq;subst this
    refine ⟨⟨rdty,rd⟩,rfl,.inr ⟨rdty,by cases rdty<;>rfl,?_⟩⟩
    simp only [offs_nil,List.drop_zero,hfl]
    rw [←hX.length,List.take_length]
    simp only [tmpOf]
    rw [Array.getD_eq_getD_getElem?,Array.getElem?_append_left (by simp)]
    simp
  | false=>
    simp only [cnd_false]
    rcases henv t with h1|⟨k,v,h1,h2,h3⟩
    ·rw [h1];trivial
    ·rcases h3 with ⟨c,y,h3,h4⟩|⟨_,g,h4,_⟩
     ·have hv:tmpOf {tmps:=(wrapV rdty cs::vs).toArray++Array.replicate (m-(wrapV rdty cs::vs).toArray.size) undef,defers:=[]} t=v:=by
        have hk:=(List.getElem?_eq_some_iff.1 h2).1
        subst h1
        simp only [tmpOf]
        rw [Array.getD_eq_getD_getElem?,Array.getElem?_append_left (by simp;omega)]
        simp [Nat.add_comm 1 k,h2]
      rw [hv,h3];exact h4
     ·cases h4
 ·rw [he] at hl
  cases hq:Nat.beq t 0 with
  | true=>rw [hq] at hl;cases hl
  | false=>rw [hq] at hl;simp only [cnd_false,q1] at hl;cases hl
 ·have hd:(putArgs b x 1).rd=some d:=hd
  rw [q4] at hd;cases hd
 ·refine ⟨fun r d hr=>?_,fun r d g hr hg=>?_,fun r d g hr hg c d' hc=>(by rw [hbx] at hc;cases hc),fun r d g hr hg l hl=>(by rw [hown] at hl;cases hl),fun r d r' d' g hr hr' hg hg'=>?_,fun k t o hk=>(by rw [hxb] at hk;cases hk),fun k t o hk=>(by rw [hxb] at hk;cases hk),
    fun k c t o t' o' hk=>(by rw [hxb] at hk;cases hk),fun d hd _=>⟨rfl,rfl⟩,fun d hd e q e' g m c k he1 hq hV hk=>?_,fun bb d ps hb=>?_⟩
  ·obtain ⟨e1,e2⟩:=hio r d hr
   subst e2
   simp only [hfl];exact hX
  ·exact ⟨.inr hg,by simp,hB g hg⟩
  ·rw [(hio r d hr).1,(hio r' d' hr').1]
  ·have hdd:=(hio 0 d hd).2
   subst hdd
   simp only at he1
   subst he1
   simp only [hfl] at hV
   exact startK_ok hX hq hV hk
  ·have hb:(putArgs b x 1).rb bb=some (d,ps):=hb
   rw [putArgs_rb] at hb;cases hb
theorem start_cons {b rdty:Ty} {w:World} {lim:Lim} {x:b.val} {rd:rdty.val} {vs:List Value} {cs:List Value} {B:Nat→Prop} (m:Nat) (hX:XRep w rdty rd cs B) (hB : ∀g,B g→lim g=some 0) (hargs:ArgsRep w lim none b x vs) :
 Sim (baseX w B) lim none ((wrapV rdty cs::vs).toArray++Array.replicate (m-(wrapV rdty cs::vs).toArray.size) undef).size (startMut b rdty x rd)
  {tmps:=(wrapV rdty cs::vs).toArray++Array.replicate (m-(wrapV rdty cs::vs).toArray.size) undef,defers:=[]} w lim ⟨fun _=>0,fun _=>0,fun _=>wrapV rdty cs,fun _=>B,startK w rdty cs⟩:=by
 have h:=start_mut m hX hB hargs
 exact ⟨h.size,h.defers,⟨rfl,rfl,rfl,Nat.le_refl _,fun _ _ _ _=>rfl⟩,h.limOld,h.xrb,h.rdk,h.env,h.box,h.inj,h.own,h.ownb,h.sep,h.tag,h.rd,
  ⟨h.xs.io,h.xs.base,h.xs.box,h.xs.own,h.xs.dis,h.xs.xb,h.xs.xbox,h.xs.xinj,fun _ _ hm=>(by cases hm),h.xs.kx,h.xs.rbx⟩⟩
theorem cons_ok (hT : TabOk P tab) (hG : GamOk P G) (hm : P.follows .mixedOrders = true) {f : FuncId} {fn : Func} {c : Code} (hf : P.funcs[f]? = some fn) (hname : (fn.name == "runtime.NumGoroutine") = false) (hb : fn.body = some c)
 (a b rty:Ty) (one:Bool) (own:List (List Nat)) (g:(Ty.prod a b).val→Ty.unit.val→Option (rty.val×Ty.unit.val)) (hone:Nat.beq fn.results.toList.length 1=one) {ann:Ann} {fuel:Nat}
 (hfn : ∀x rd r,g x rd=some r→evalCons tab G ann fuel fn a b rty own x.1 x.2=some r) :
 FnOk P f {aty:=.prod a b,rdty:=.unit,usesRd:=false,rty:=rty,one:=one,own:=own,opens:=false,muts:=true,fn:=g}:=by
 refine ⟨fun args w=>?_,fun _ _ h=>(by cases h),fun g hg=>(by cases hg),fun _ h=>(by cases h),fun _ _ _ _ x rd r hr w lim vals B hargs hB=>?_,fun _ _ h=>(by cases h)⟩
 ·have h1 : fn.name ≠ "runtime.NumGoroutine" := by simpa using hname
  simp [callFunc,hf,h1,hb]
 ·have he:=hfn x rd r hr
  cases vals with
  | nil=>exact hargs.elim
  | cons v0 vs=>
  obtain ⟨⟨cs,hv0,hX⟩,hrest⟩:=hargs
  subst hv0
  unfold evalCons at he
  rw [hb] at he
  simp only [] at he
  cases hdst:dstsOk fn.ntmps c with
  | false=>rw [hdst] at he;cases he
  | true=>
  rw [hdst] at he
  simp only [cnd_true] at he
  refine Calls.mono (fn_coreB hT hG hm hf hb {aty:=.prod a b,rdty:=.unit,usesRd:=false,rty:=rty,one:=one,own:=own,opens:=false,muts:=true,fn:=g} hone hdst he (fun k hk=>by cases hk) (start_cons fn.ntmps hX hB hrest)) fun e w' h=>?_
  obtain ⟨v,lim',h1,h2,h3,h4,h5,h6,_⟩:=h
  exact ⟨v,lim',h1,h2,h3,h4,h5,h6⟩
end
end Go.Den
namespace Go.Den
structure Atoms where
 cndS : {α:Type}→(c:Bool)→(x y:α)→α
 obind : {α β:Type}→(x:Option α)→(f:α→Option β)→Option β
 sumE : {α β γ:Type}→(e:α ⊕ β)→(f:α→γ)→(g:β→γ)→γ
 iter : {σ ρ:Type}→Nat→(σ→Option (σ ⊕ ρ))→σ→Option ρ
 le0:(n:Int)→Bool
 leI:(a b:Int)→Bool
 ltI:(a b:Int)→Bool
 lenL : {α:Type}→(xs:List α)→Int
 takeL : {α:Type}→(xs:List α)→(n:Int)→List α
 dropL : {α:Type}→(xs:List α)→(n:Int)→List α
 atL : {α:Type}→(xs:List α)→(n:Int)→(d:α)→α
 appL : {α:Type}→(xs ys:List α)→List α
 repL : {α:Type}→(n:Int)→(d:α)→List α
 u8i:(b:UInt8)→Int
 eqI:(a b:Int)→Bool
 eqB:(a b:Bool)→Bool
 eqS:(a b:List UInt8)→Bool
 lessS:(a b:List UInt8)→Bool
 notB:(b:Bool)→Bool
 andB:(a b:Bool)→Bool
 orB:(a b:Bool)→Bool
 wrapI:(k:IntKind)→(n:Int)→Int
 addI:(a b:Int)→Int
 subI:(a b:Int)→Int
 mulI:(a b:Int)→Int
 quoI:(a b:Int)→Int
 remI:(a b:Int)→Int
 minI:(a b:Int)→Int
 maxI:(a b:Int)→Int
 xorI:(k:IntKind)→(a b:Int)→Int
 shrI:(a b:Int)→Int
 setL : {α:Type}→(xs:List α)→(n:Int)→(x:α)→List α
 byteList:(xs:List Int)→List UInt8
 intList:(s:List UInt8)→List Int
 big:Int
def real:Atoms:={cndS:=@cndS,obind:=@obind,sumE:=@sumE,iter:=@iter,le0:=le0,leI:=leI,ltI:=ltI,lenL:=@lenL,takeL:=@takeL,dropL:=@dropL,atL:=@atL,appL:=@appL,repL:=@repL,u8i:=u8i,eqI:=eqI,eqB:=eqB,eqS:=eqS,lessS:=lessS,notB:=notB,andB:=andB,orB:=orB,wrapI:=wrapI,addI:=addI,subI:=subI,mulI:=mulI,quoI:=quoI,remI:=remI,minI:=minI,maxI:=maxI,xorI:=xorI,shrI:=shrI,setL:=@setL,byteList:=byteList,intList:=intList,big:=big}
def stPickP (A:Atoms) (o:Oper) (c x y:Operand) (st:St):Option Comp:=
 match (st.ent c).av with
 | .dat .bool b=>match (st.ent x).av,(st.ent y).av with
   | .dat t v,.dat u w=>match Ty.cast u t w with
     | some w'=>some (.ret none (upd0 o.dst (.dat t (A.cndS b v w')) none))
     | none=>none
   | v,w=>some (.ret none (upd0 o.dst (cnd b v w) none))
 | _=>none
def stMakeSliceP (A:Atoms) (tab:Tab) (o:Oper) (t:TypeId) (l c:Operand) (st:St):Option Comp:=
 match tab t,(st.ent l).av,(st.ent c).av with
 | some (.slice e),.dat (.int _) n,.dat (.int _) m=>
   some (.ret (some (A.andB (A.le0 n) (A.andB (A.leI n m) (A.ltI m A.big)))) {upd0 o.dst (.dat (.slice e) (A.repL n e.zero)) none with own:=[[]]})
 | _,_,_=>none
def Ty.eqvP (A:Atoms):(t:Ty)→t.val→t.val→Option Bool
 | .int _,x,y=>some (A.eqI x y)
 | .bool,x,y=>some (A.eqB x y)
 | .str,x,y=>some (A.eqS x y)
 | .unit,_,_=>some true
 | .prod a b,x,y=>match Ty.eqvP A a x.1 y.1,Ty.eqvP A b x.2 y.2 with
   | some p,some q=>some (A.andB p q)
   | _,_=>none
 | .slice _,_,_=>none
def intOpP (A:Atoms) (op:BinOp) (k:IntKind) (a b:Int):Option (Option Bool×AV):=
 match op with
 | .add=>some (none,.dat (.int k) (A.wrapI k (A.addI a b)))
 | .sub=>some (none,.dat (.int k) (A.wrapI k (A.subI a b)))
 | .mul=>some (none,.dat (.int k) (A.wrapI k (A.mulI a b)))
 | .quo=>some (some (A.notB (A.eqI b 0)),.dat (.int k) (A.wrapI k (A.quoI a b)))
 | .rem=>some (some (A.notB (A.eqI b 0)),.dat (.int k) (A.remI a b))
 | .xor=>some (none,.dat (.int k) (A.xorI k a b))
 | .shr=>some (some (A.andB (A.le0 b) (A.leI b 8)),.dat (.int k) (A.shrI a b))
 | .eql=>some (none,.dat .bool (A.eqI a b))
 | .neq=>some (none,.dat .bool (A.notB (A.eqI a b)))
 | .lss=>some (none,.dat .bool (A.ltI a b))
 | .leq=>some (none,.dat .bool (A.leI a b))
 | .gtr=>some (none,.dat .bool (A.ltI b a))
 | .geq=>some (none,.dat .bool (A.leI b a))
 | _=>none
def strOpP (A:Atoms) (op:BinOp) (a b:List UInt8):Option (Option Bool×AV):=
 match op with
 | .add=>some (some (A.ltI (A.addI (A.lenL a) (A.lenL b)) A.big),.dat .str (A.appL a b))
 | .eql=>some (none,.dat .bool (A.eqS a b))
 | .neq=>some (none,.dat .bool (A.notB (A.eqS a b)))
 | .lss=>some (none,.dat .bool (A.lessS a b))
 | .leq=>some (none,.dat .bool (A.orB (A.lessS a b) (A.eqS a b)))
 | .gtr=>some (none,.dat .bool (A.notB (A.orB (A.lessS a b) (A.eqS a b))))
 | .geq=>some (none,.dat .bool (A.notB (A.lessS a b)))
 | _=>none
def binAVP (A:Atoms) (tab:Tab) (op:BinOp) (xt:TypeId) (x y:AV):Option (Option Bool×AV):=
 match x,y with
 | .dat (.int k) a,.dat (.int k') b=>cnd (kbeq k k') (intOpP A op k a b) none
 | .dat .str a,.dat .str b=>strOpP A op a b
 | .dat t a,.dat u b=>match cnd (tyIs (tab xt) t) (Nat.ble (Ty.dep t) 1000) false,Ty.cast u t b with
   | true,some b'=>match Ty.eqvP A t a b',op with
     | some q,.eql=>some (none,.dat .bool q)
     | some q,.neq=>some (none,.dat .bool (A.notB q))
     | _,_=>none
   | _,_=>none
 | _,_=>none
def stBinP (A:Atoms) (tab:Tab) (o:Oper) (op:BinOp) (xt:TypeId) (x y:Operand) (st:St):Option Comp:=
 match binAVP A tab op xt (st.ent x).av (st.ent y).av with
 | some (c,v)=>some (.ret c (upd0 o.dst v none))
 | none=>none
def stUnP (A:Atoms) (o:Oper) (op:UnOp) (x:Operand) (st:St):Option Comp:=
 match op,(st.ent x).av with
 | .not,.dat .bool b=>some (.ret none (upd0 o.dst (.dat .bool (A.notB b)) none))
 | .neg,.dat (.int k) n=>some (.ret none (upd0 o.dst (.dat (.int k) (A.wrapI k (A.subI 0 n))) none))
 | _,_=>none
def stConvP (A:Atoms) (tab:Tab) (o:Oper) (src dst:TypeId) (x:Operand) (st:St):Option Comp:=
 match tab src,tab dst,(st.ent x).av with
 | some (.int _),some (.int k),.dat (.int _) n=>some (.ret none (upd0 o.dst (.dat (.int k) (A.wrapI k n)) none))
 | some (.slice (.int .u8)),some .str,.dat (.slice (.int .u8)) xs=>some (.ret none (upd0 o.dst (.dat .str (A.byteList xs)) none))
 | some .str,some (.slice (.int .u8)),.dat .str s=>some (.ret (some (A.ltI (A.lenL (α:=UInt8) s) A.big)) {upd0 o.dst (.dat (.slice (.int .u8)) (A.intList s)) none with own:=[[]]})
 | some .str,some .str,.dat .str s=>some (.ret none (upd0 o.dst (.dat .str s) none))
 | _,_,_=>none
def cutLP (A:Atoms) {α:Type} (xs:List α):Option AV→Option AV→Option (Bool×List α)
 | some (.dat (.int _) l),some (.dat (.int _) h)=>some (A.andB (A.le0 l) (A.andB (A.leI l h) (A.leI h (A.lenL xs))),A.dropL (A.takeL xs h) l)
 | some (.dat (.int _) l),none=>some (A.andB (A.le0 l) (A.leI l (A.lenL xs)),A.dropL xs l)
 | none,some (.dat (.int _) h)=>some (A.andB (A.le0 h) (A.leI h (A.lenL xs)),A.takeL xs h)
 | _,_=>none
def stSliceP (A:Atoms) (tab:Tab) (o:Oper) (t:TypeId) (x:Operand) (lo hi max:Option Operand) (st:St):Option Comp:=
 match max,(st.ent x).av with
 | none,.dat (.slice e) xs=>match tyIs (tab t) (.slice e),cutLP A (α:=e.val) xs (avOpt st lo) (avOpt st hi) with
   | true,some (c,ys)=>some (.ret (some c) (upd0 o.dst (.dat (.slice e) ys) none))
   | _,_=>none
 | none,.dat .str xs=>match tyIs (tab t) .str,cutLP A (α:=UInt8) xs (avOpt st lo) (avOpt st hi) with
   | true,some (c,ys)=>some (.ret (some c) (upd0 o.dst (.dat .str ys) none))
   | _,_=>none
 | _,_=>none
def stIndexAddrP (A:Atoms) (tab:Tab) (o:Oper) (t:TypeId) (x i:Operand) (st:St):Option Comp:=
 match (st.ent x).av,(st.ent i).av with
 | .dat (.slice e) xs,.dat (.int _) n=>cnd (tyIs (tab t) (.slice e))
   (some (.ret (some (A.andB (A.le0 n) (A.ltI n (A.lenL (α:=e.val) xs)))) (upd0 o.dst (.ref e (A.atL (α:=e.val) xs n e.zero)) (starTag st o x e)))) none
 | _,_=>none
def stIndexP (A:Atoms) (tab:Tab) (o:Oper) (t:TypeId) (x i:Operand) (st:St):Option Comp:=
 match (st.ent x).av,(st.ent i).av with
 | .dat .str s,.dat (.int _) n=>cnd (tyIs (tab t) .str)
   (some (.ret (some (A.andB (A.le0 n) (A.ltI n (A.lenL (α:=UInt8) s)))) (upd0 o.dst (.dat (.int .u8) (A.u8i (A.atL (α:=UInt8) s n 0))) none))) none
 | _,_=>none
def stLenP (A:Atoms) (tab:Tab) (o:Oper) (t:TypeId) (x:Operand) (st:St):Option Comp:=
 match (st.ent x).av with
 | .dat (.slice e) xs=>cnd (tyIs (tab t) (.slice e)) (some (.ret none (upd0 o.dst (.dat (.int .i64) (A.lenL (α:=e.val) xs)) none))) none
 | .dat .str s=>cnd (tyIs (tab t) .str) (some (.ret none (upd0 o.dst (.dat (.int .i64) (A.lenL (α:=UInt8) s)) none))) none
 | _=>none
def stAppendP (A:Atoms) (tab:Tab) (o:Oper) (t:TypeId) (x y:Operand) (st:St):Option Comp:=
 match tab t with
 | some (.slice e)=>match AV.as (.slice e) (st.ent x).av,AV.as (.slice e) (st.ent y).av,st.owner x with
   | some xs,some ys,some l=>match starApp st e l y with
     | some tk=>some (.ret (some (A.ltI (A.addI (A.lenL (α:=e.val) xs) (A.lenL (α:=e.val) ys)) A.big))
       {upd0 o.dst (.dat (.slice e) (A.appL (α:=e.val) xs ys)) none with own:=[[],[0]],takes:=tk})
     | none=>some (.ret (some (A.ltI (A.addI (A.lenL (α:=e.val) xs) (A.lenL (α:=e.val) ys)) A.big))
       {upd0 o.dst (.dat (.slice e) (A.appL (α:=e.val) xs ys)) none with own:=[[]],takes:=l.toList})
   | _,_,_=>none
 | _=>none
def stMinMaxP (A:Atoms) (mx:Bool) (o:Oper) (x y:Operand) (st:St):Option Comp:=
 match (st.ent x).av,(st.ent y).av with
 | .dat (.int k) a,.dat (.int k') b=>match kbeq k k' with
   | true=>some (.ret none (upd0 o.dst (.dat (.int k) (cnd mx (A.maxI a b) (A.minI a b))) none))
   | false=>none
 | _,_=>none
def stLoadPP (A:Atoms) (tab:Tab) (o:Oper) (t:TypeId) (r:Tmp) (p:List Nat) (n:Int) (q:List Nat) (st:St):Option Comp:=
 match Nat.beq r 0,p,st.io r with
 | true,[],some ⟨.slice e,xs⟩=>match getP e (A.atL (α:=e.val) xs n e.zero) q with
   | some y=>match tyIs (tab t) y.1,isSlT y.1 with
     | true,true=>some (.ret (some (A.andB (A.le0 n) (A.ltI n (A.lenL (α:=e.val) xs)))) (upd0 o.dst (.xe n q) none))
     | _,_=>none
   | none=>none
 | _,_,_=>none
def stStoreXP (A:Atoms) (tab:Tab) (o:Oper) (t:TypeId) (r:Tmp) (p:List Nat) (n:Int) (q:List Nat) (v:Operand) (st:St):Option Comp:=
 match st.io r,st.atX r p with
 | some d,some ⟨.slice e,xs⟩=>match getP e (A.atL (α:=e.val) xs n e.zero) q with
   | some y=>match tyIs (tab t) y.1,noSl y.1,AV.as y.1 (st.ent v).av with
     | true,true,some z=>match setP e (A.atL (α:=e.val) xs n e.zero) q ⟨y.1,z⟩ with
       | some x'=>match setP d.1 d.2 p ⟨.slice e,A.setL (α:=e.val) xs n x'⟩ with
         | some d'=>some (.ret (some (A.andB (A.le0 n) (A.ltI n (A.lenL (α:=e.val) xs)))) {upd0 o.dst .skp none with xw:=some (r,⟨d.1,d'⟩)})
         | none=>none
       | none=>none
     | _,_,_=>none
   | none=>none
 | _,_=>none
def stGraftXP (A:Atoms) (tab:Tab) (o:Oper) (t:TypeId) (r:Tmp) (p:List Nat) (n:Int) (q:List Nat) (r2:Tmp) (st:St):Option Comp:=
 match st.io r,st.atX r p,st.atX r2 [] with
 | some d,some ⟨.slice e,xs⟩,some z=>match getP e (A.atL (α:=e.val) xs n e.zero) q with
   | some y=>match tyIs (tab t) y.1,cnd (Nat.beq r 0) true (cnd (Nat.beq r2 0) true (Nat.beq r r2)),Ty.cast z.1 y.1 z.2 with
     | true,false,some z'=>match setP e (A.atL (α:=e.val) xs n e.zero) q ⟨y.1,z'⟩ with
       | some x'=>match setP d.1 d.2 p ⟨.slice e,A.setL (α:=e.val) xs n x'⟩ with
         | some d'=>some (.ret (some (A.andB (A.le0 n) (A.ltI n (A.lenL (α:=e.val) xs)))) {upd0 o.dst .skp none with xw:=some (r,⟨d.1,d'⟩),xk:=some r2})
         | none=>none
       | none=>none
     | _,_,_=>none
   | none=>none
 | _,_,_=>none
def stFieldAddrXP (A:Atoms) (tab:Tab) (o:Oper) (s:TypeId) (r:Tmp) (p:List Nat) (n:Int) (q:List Nat) (f:Nat) (st:St):Option Comp:=
 match st.atX r p with
 | some ⟨.slice e,xs⟩=>match getP e (A.atL (α:=e.val) xs n e.zero) q with
   | some y=>match tyIs (tab s) y.1,getF y.1 y.2 f with
     | true,some _=>some (.ret none (upd0 o.dst (.xp r p n (q++[f])) none))
     | _,_=>none
   | none=>none
 | _=>none
def stIndexAddrXP (A:Atoms) (tab:Tab) (o:Oper) (t:TypeId) (r:Tmp) (p:List Nat) (i:Operand) (st:St):Option Comp:=
 match st.atX r p,(st.ent i).av with
 | some ⟨.slice e,xs⟩,.dat (.int _) n=>cnd (tyIs (tab t) (.slice e))
   (some (.ret (some (A.andB (A.le0 n) (A.ltI n (A.lenL (α:=e.val) xs)))) (upd0 o.dst (.xp r p n []) none))) none
 | _,_=>none
def stLenXP (A:Atoms) (tab:Tab) (o:Oper) (t:TypeId) (r:Tmp) (p:List Nat) (st:St):Option Comp:=
 match st.atX r p with
 | some ⟨.slice e,xs⟩=>cnd (tyIs (tab t) (.slice e)) (some (.ret none (upd0 o.dst (.dat (.int .i64) (A.lenL (α:=e.val) xs)) none))) none
 | _=>none
def stAppendXP (A:Atoms) (tab:Tab) (o:Oper) (t:TypeId) (x y:Operand) (st:St):Option Comp:=
 match tab t with
 | some (.slice e)=>match AV.as (.slice e) (st.ent x).av,AV.as (.slice e) (argX st (st.ent y).av),st.owner x with
   | some xs,some ys,some l=>match freeD st o.dst,noSl e with
     | some d,true=>some (.ret (some (A.andB (A.eqI (A.lenL (α:=e.val) xs) 0) (A.ltI (A.lenL (α:=e.val) ys) A.big)))
       {upd0 (some d) (.xf d []) none with takes:=l.toList,xw:=some (d,⟨.slice e,ys⟩)})
     | _,_=>none
   | _,_,_=>none
 | _=>none
def stCallXP (A:Atoms) (G:Gam) (o:Oper) (f:FuncId) (args:List Operand) (st:St):Option Comp:=
 match G f with
 | some s=>cnd (isF s.fv) none (match s.usesRd,s.opens,s.muts with
   | false,false,false=>match packArgs none s.aty (args.map fun x=>argX st (st.ent x).av),Ty.cast .unit s.rdty (),closedS s with
     | some x,some rd,true=>cnd (mkD st o.dst)
       (match freeD st o.dst with
         | some d=>some (.call s.rty s.rdty (s.fn x rd) fun r=>{upd0 (some d) (rootAV s.one s.rty d) none with xw:=some (d,rootOf s.one s.rty r.1)})
         | none=>none)
       (some (.call s.rty s.rdty (s.fn x rd) fun r=>{upd0 o.dst (resAV s.rty s.one r.1) none with own:=resOwn s.one s.own}))
     | _,_,_=>none
   | true,false,true=>match args with
     | x0::xs=>match (st.ent x0).av with
       | .xf r p=>match st.io r,st.atX r p with
         | some d,some y=>match Ty.cast y.1 s.rdty y.2,s.aty,s.fn with
           | some rd,.prod .unit b,fn=>match packArgs none b (xs.map fun x=>(st.ent x).av),noSl s.rty,cnd (Nat.beq r 0) (isSlT d.1) false with
             | some x,true,false=>some (.call s.rty s.rdty (fn ((),x) rd) fun z=>{upd0 o.dst (resAV s.rty s.one z.1) none with xw:=some (r,setDat d p ⟨s.rdty,z.2⟩)})
             | _,_,_=>none
           | _,_,_=>none
         | _,_=>none
       | .xe k q=>match st.io 0 with
         | some ⟨.slice e,ys⟩=>match getP e (A.atL (α:=e.val) ys k e.zero) q with
           | some y=>match Ty.cast y.1 s.rdty y.2,s.aty,s.fn,isSlT y.1 with
             | some rd,.prod .unit b,fn,true=>match packArgs none b (xs.map fun x=>(st.ent x).av),noSl s.rty with
               | some x,true=>some (.call s.rty s.rdty (fn ((),x) rd) fun z=>{upd0 o.dst (resAV s.rty s.one z.1) none with xw:=some (0,⟨.slice e,A.setL (α:=e.val) ys k (setE e (A.atL (α:=e.val) ys k e.zero) q ⟨s.rdty,z.2⟩)⟩)})
               | _,_=>none
             | _,_,_,_=>none
           | none=>none
         | _=>none
       | _=>none
     | []=>none
   | _,_,_=>none)
 | none=>none
def stepCP (A:Atoms) (tab:Tab) (G:Gam) (o:Oper) (st:St):Option Comp:=
 match o.op with
 | .move x=>some (cnd (mkD st o.dst) (stAssignM o x st (stMove tab o x st)) (stMove tab o x st))
 | .assign x=>some (cnd (mkD st o.dst) (stAssignM o x st (stAssign tab o x st)) (stAssign tab o x st))
 | .pick c a b=>stPickP A o c a b st
 | .alloc e=>cnd (mkD st o.dst) (stAllocX tab o e st) (stAlloc tab o e st)
 | .box e x=>match (st.ent x).av with
   | .xf r p=>stBoxX tab o e r p st
   | _=>stBox tab o e x st
 | .build t ps=>cnd (anyX st (ps.toList.map fun p=>p.2)) (cnd (mkD st o.dst) (stBuildX tab o t ps.toList st) (stBuildR tab o t ps.toList st)) (stBuild tab o t ps.toList st)
 | .buildSlice t n ps=>stBuildSlice tab o t n ps.toList st
 | .load t x=>match (st.ent x).av with
   | .cx b p=>stLoadX tab o t b p st
   | .xp r p n q=>stLoadPP A tab o t r p n q st
   | _=>stLoad tab o t x st
 | .store t x v=>match (st.ent x).av,(st.ent v).av with
   | .xp r p n q,.xf r2 []=>stGraftXP A tab o t r p n q r2 st
   | .xp r p n q,_=>stStoreXP A tab o t r p n q v st
   | .cx b [],.xf r q=>stPutX tab o t b r q st
   | .cx b [],.mx ty x ps=>stPutR tab o t b ⟨ty,x⟩ ps st
   | .cx b p,.xf r q=>stPartR tab o t b p r q st
   | _,_=>stStore tab o t x v st
 | .nilCheck x=>match (st.ent x).av with
   | .cel b p=>some (.ret none (upd0 o.dst (.cel b p) none))
   | .rdr p=>some (.ret none (upd0 o.dst (.rdr p) none))
   | _=>none
 | .binOp op xt x y _=>stBinP A tab o op xt x y st
 | .unOp op _ x=>stUnP A o op x st
 | .convert s d x=>match (st.ent x).av with
   | .xf r p=>stConvX tab o s d r p st
   | _=>stConvP A tab o s d x st
 | .makeSlice t l c=>cnd (mkD st o.dst) (stMakeX tab o t l c st) (stMakeSliceP A tab o t l c st)
 | .slice t x lo hi mx=>match (st.ent x).av with
   | .xf _ _=>stSliceX tab o t x lo hi mx st
   | _=>stSliceP A tab o t x lo hi mx st
 | .fieldAddr s x f=>match (st.ent x).av with
   | .xp r p n q=>stFieldAddrXP A tab o s r p n q f st
   | .cx b p=>stFieldAddrC tab o s b p f st
   | _=>stFieldAddr tab o s x f st
 | .field s x f=>stField tab o s x f st
 | .indexAddr t x i=>match (st.ent x).av with
   | .xf r p=>stIndexAddrXP A tab o t r p i st
   | _=>stIndexAddrP A tab o t x i st
 | .index t x i=>stIndexP A tab o t x i st
 | .extract x i=>match (st.ent x).av with
   | .xt r=>stExtractX o r i st
   | _=>stExtract o x i st
 | .call c=>match c.callee with
   | .value (.func f)=>cnd (hasF G f) (stCallF G o f c.args.toList st) (cnd (isCons G f) (stCallC G o f c.args.toList st) (cnd (cnd (mkD st o.dst) (isRdM G f) false) (stCallXR G o f c.args.toList st) (cnd (cnd (anyX st c.args.toList) true (cnd (mkD st o.dst) true (isMut G f))) (stCallXP A G o f c.args.toList st) (stCall G o f c.args.toList st))))
   | .value (.tmp t)=>match (st.env t).av with
     | .fn f=>stCall G o f c.args.toList st
     | _=>none
   | .builtin .len=>match c.args.toList,c.argTypes.toList with
     | [x],[t]=>match (st.ent x).av with
       | .xf r p=>stLenXP A tab o t r p st
       | _=>stLenP A tab o t x st
     | _,_=>none
   | .builtin .append=>match c.args.toList,c.argTypes.toList with
     | [x,y],[t,t']=>cnd (Nat.beq t t') (match (st.ent x).av with
       | .xf _ _=>stAppendT tab o t x y st
       | _=>cnd (mkD st o.dst) (stAppendXP A tab o t x y st) (stAppendP A tab o t x y st)) none
     | _,_=>none
   | .builtin .min=>match c.args.toList with
     | [x,y]=>stMinMaxP A false o x y st
     | _=>none
   | .builtin .max=>match c.args.toList with
     | [x,y]=>stMinMaxP A true o x y st
     | _=>none
   | _=>none
 | _=>none
def Comp.runKP (A:Atoms) {R:Type} (st:St) (k:St→Option R):Comp→Option R
 | .ret none u=>k (apply st u)
 | .ret (some c) u=>A.cndS c (k (apply st u)) none
 | .call _ _ F u=>A.obind F fun r=>k (apply st (u r))
def Comp.runTP (A:Atoms) {R:Type} (st:St) (rs:List Res) (k:St→FP→Option R):Comp→Option R
 | .ret none u=>k (apply st u) ⟨tagRes u++rs,u.writes⟩
 | .ret (some c) u=>A.cndS c (k (apply st u) ⟨tagRes u++rs,u.writes⟩) none
 | .call _ _ F u=>A.obind F fun r=>k (apply st (u r)) ⟨tagRes (u r)++rs,(u r).writes⟩
def opsKP (A:Atoms) {R:Type} (tab:Tab) (G:Gam) (ops:List Oper):List Oper→Nat→St→(St→Option R)→Option R
 | [],_,st,k=>k st
 | o::rest,i,st,k=>match o.guard with
   | none=>match stepCP A tab G o st with
     | some c=>c.runKP A st fun st'=>opsKP A tab G ops rest (Nat.succ i) (setKn st' o.dst (knOf o st)) k
     | none=>none
   | some (g,want)=>match guardT ops g with
     | none=>none
     | some t=>match (st.env t).av with
       | .dat .bool b=>
         let go (st:St):=match stepCP A tab G o st with
          | some c=>c.runKP A st fun st'=>opsKP A tab G ops rest (Nat.succ i) (setKn st' o.dst (knOf o st)) k
          | none=>none
         let by' (st:St):=opsKP A tab G ops rest (Nat.succ i) (setKn (apply st (skipU o)) o.dst false) k
         cnd (st.kn t) (cnd b (cnd want (go st) (by' st)) (cnd want (by' st) (go st)))
          (A.cndS b (cnd want (go (setKn (setAV st t (.dat .bool true)) (some t) true)) (by' (setKn (setAV st t (.dat .bool true)) (some t) true)))
                  (cnd want (by' (setKn (setAV st t (.dat .bool false)) (some t) true)) (go (setKn (setAV st t (.dat .bool false)) (some t) true))))
       | .skp=>opsKP A tab G ops rest (Nat.succ i) (setKn (apply st (skipU o)) o.dst false) k
       | _=>none
def drawKP (A:Atoms) {R:Type} (tab:Tab) (G:Gam) (ops:List Oper):List Oper→Nat→St→List FP→(St→List FP→Option R)→Option R
 | [],_,st,acc,k=>k st acc
 | o::rest,i,st,acc,k=>match o.guard with
   | none=>match stepCP A tab G o st with
     | some c=>c.runTP A st (reads st o) fun st' f=>drawKP A tab G ops rest (Nat.succ i) (setKn st' o.dst (knOf o st)) (acc++[f]) k
     | none=>none
   | some (g,want)=>match guardT ops g with
     | none=>none
     | some t=>match (st.env t).av with
       | .dat .bool b=>
         let go (st:St):=match stepCP A tab G o st with
          | some c=>c.runTP A st (.tmp t::reads st o) fun st' f=>drawKP A tab G ops rest (Nat.succ i) (setKn st' o.dst (knOf o st)) (acc++[f]) k
          | none=>none
         let by' (st:St):=drawKP A tab G ops rest (Nat.succ i) (setKn (apply st (skipU o)) o.dst false) (acc++[⟨[.tmp t],(skipU o).writes⟩]) k
         cnd (st.kn t) (cnd b (cnd want (go st) (by' st)) (cnd want (by' st) (go st)))
          (A.cndS b (cnd want (go (setKn (setAV st t (.dat .bool true)) (some t) true)) (by' (setKn (setAV st t (.dat .bool true)) (some t) true)))
                  (cnd want (by' (setKn (setAV st t (.dat .bool false)) (some t) true)) (go (setKn (setAV st t (.dat .bool false)) (some t) true))))
       | .skp=>drawKP A tab G ops rest (Nat.succ i) (setKn (apply st (skipU o)) o.dst false) (acc++[⟨[.tmp t],(skipU o).writes⟩]) k
       | _=>none
def evalKP (A:Atoms) (tab:Tab) (G:Gam) (ann:Ann) (fuel:Nat):Code→(R:Type)→St→(St→Option R)→(St→Option R)→(Nat→St→Option R)→Option R
 | .skip,_,st,kn,_,_=>kn st
 | .region id ops draw,_,st0,kn,_,_=>match trAll {st0 with mkt:=ann.mkt} (ann.pre id) with
   | some st=>cnd draw (drawKP A tab G ops.toList ops.toList 0 st [] fun st' fs=>cnd (cnd (edgesOk ops.toList 0) (pairsOk (masks ops.toList []) [] fs 0) false) (kn st') none)
     (opsKP A tab G ops.toList ops.toList 0 st kn)
   | none=>none
 | .seq x y,R,st,kn,kr,ke=>match cutOf ann y with
   | none=>evalKP A tab G ann fuel x R st (fun st'=>evalKP A tab G ann fuel y R st' kn kr ke) kr ke
   | some (S,true)=>A.obind (evalKP A tab G ann fuel x S.ty.val st (fun st'=>packT (precOf ann y) S st') (fun _=>none) (fun _ _=>none))
       fun s=>evalKP A tab G ann fuel y R (unpack S s) kn kr ke
   | some (S,false)=>A.obind (evalKP A tab G ann fuel x (S.ty.val ⊕ R) st (fun st'=>(packT (precOf ann y) S st').map .inl) (fun st'=>(kr st').map .inr) (fun i st'=>(ke i st').map .inr))
       fun e=>A.sumE e (fun s=>evalKP A tab G ann fuel y R (unpack S s) kn kr ke) (fun r=>some r)
 | .cond c x y,R,st,kn,kr,ke=>match (st.ent c).av with
   | .dat .bool b=>cnd (st.knX c) (cnd b (evalKP A tab G ann fuel x R st kn kr ke) (evalKP A tab G ann fuel y R st kn kr ke)) (A.cndS b (evalKP A tab G ann fuel x R st kn kr ke) (evalKP A tab G ann fuel y R st kn kr ke))
   | _=>none
 | .block id (.loop b),R,st,kn,kr,ke=>match ann.loop id with
   | some (S,T,true)=>match packT (ann.prel id) S st with
     | none=>none
     | some s0=>
       A.obind (A.iter fuel (fun s=>evalKP A tab G ann fuel b (S.ty.val ⊕ T.ty.val) (unpack S s) (fun st'=>(pack S st').map .inl) (fun _=>none)
        (fun i st'=>cnd (Nat.beq i id) ((pack T st').map .inr) none)) s0) fun t=>kn (unpack T t)
   | some (S,T,false)=>match packT (ann.prel id) S st with
     | none=>none
     | some s0=>
       A.obind (A.iter fuel (fun s=>evalKP A tab G ann fuel b (S.ty.val ⊕ (T.ty.val ⊕ R)) (unpack S s) (fun st'=>(pack S st').map .inl) (fun st'=>(kr st').map fun r=>.inr (.inr r))
        (fun i st'=>cnd (Nat.beq i id) ((pack T st').map fun t=>.inr (.inl t)) ((ke i st').map fun r=>.inr (.inr r)))) s0) fun e=>A.sumE e (fun t=>kn (unpack T t)) (fun r=>some r)
   | none=>none
 | .block id c,R,st,kn,kr,ke=>evalKP A tab G ann fuel c R st kn kr (fun i st'=>cnd (Nat.beq i id) (kn st') (ke i st'))
 | .exit id,_,st,_,_,ke=>ke id st
 | .ret,_,st,_,kr,_=>kr st
 | _,_,_,_,_,_=>none
def evalFnP (A:Atoms) (tab:Tab) (G:Gam) (ann:Ann) (fuel:Nat) (fn:Func) (aty rdty:Ty) (usesRd:Bool) (rty:Ty) (own:List (List Nat)) (x:aty.val) (rd:rdty.val):Option (rty.val×rdty.val):=
 match fn.body with
 | none=>none
 | some c=>cnd (dstsOk fn.ntmps c) (evalKP A tab G ann fuel c (rty.val×rdty.val) (startOf aty rdty usesRd x rd) (finOf tab fn.results.toList rdty usesRd rty own) (finOf tab fn.results.toList rdty usesRd rty own) (fun _ _=>none)) none
def evalConsP (A:Atoms) (tab:Tab) (G:Gam) (ann:Ann) (fuel:Nat) (fn:Func) (a b rty:Ty) (own:List (List Nat)) (x:a.val) (y:b.val):Option (rty.val×Ty.unit.val):=
 match fn.body with
 | none=>none
 | some c=>cnd (dstsOk fn.ntmps c) (evalKP A tab G ann fuel c (rty.val×Ty.unit.val) (startMut b a y x) (finOf tab fn.results.toList .unit false rty own) (finOf tab fn.results.toList .unit false rty own) (fun _ _=>none)) none
def evalOpenP (A:Atoms) (tab:Tab) (G:Gam) (ann:Ann) (fuel:Nat) (fn:Func) (aty rty:Ty) (x:aty.val):Option (rty.val×Ty.unit.val):=
 match fn.body with
 | none=>none
 | some c=>cnd (dstsOk fn.ntmps c) (evalKP A tab G ann fuel c (rty.val×Ty.unit.val) (startOf aty .unit false x ()) (finOpen fn.results.toList rty) (finOpen fn.results.toList rty) (fun _ _=>none)) none
theorem eqv_real : ∀(t:Ty) (x y:t.val),Ty.eqvP real t x y=Ty.eqv t x y
 | .int _,_,_=>rfl
 | .bool,_,_=>rfl
 | .str,_,_=>rfl
 | .unit,_,_=>rfl
 | .slice _,_,_=>rfl
 | .prod a b,x,y=>by simp only [Ty.eqvP,Ty.eqv,eqv_real a,eqv_real b];rfl
theorem intOp_real (op:BinOp) (k:IntKind) (a b:Int):intOpP real op k a b=intOp op k a b:=by kernel_rfl
theorem strOp_real (op:BinOp) (a b:List UInt8):strOpP real op a b=strOp op a b:=by kernel_rfl
theorem binAV_real (tab:Tab) (op:BinOp) (xt:TypeId) (x y:AV):binAVP real tab op xt x y=binAV tab op xt x y:=by
 unfold binAVP binAV
 simp only [eqv_real,intOp_real,strOp_real]
 kernel_rfl
theorem stepC_real (tab:Tab) (G:Gam) (o:Oper) (st:St):stepCP real tab G o st=stepC tab G o st:=by
 unfold stepCP stepC
 cases o.op with
 | binOp op xt x y yt=>simp only [stBinP,stBin,binAV_real];kernel_rfl
 | _=>kernel_rfl
theorem runK_real {R:Type} (st:St) (k:St→Option R) (c:Comp):c.runKP real st k=c.runK st k:=by cases c<;>rfl
theorem runT_real {R:Type} (st:St) (rs:List Res) (k:St→FP→Option R) (c:Comp):c.runTP real st rs k=c.runT st rs k:=by cases c<;>rfl
theorem opsK_real {R:Type} (tab:Tab) (G:Gam) (ops:List Oper) : ∀(rest:List Oper) (i:Nat) (st:St) (k:St→Option R),opsKP real tab G ops rest i st k=opsK tab G ops rest i st k:=by
 intro rest
 induction rest with
 | nil=>intros;rfl
 | cons o rest ih=>intro i st k;simp only [opsKP,opsK,stepC_real,runK_real,ih];kernel_rfl
theorem drawK_real {R:Type} (tab:Tab) (G:Gam) (ops:List Oper) : ∀(rest:List Oper) (i:Nat) (st:St) (acc:List FP) (k:St→List FP→Option R),drawKP real tab G ops rest i st acc k=drawK tab G ops rest i st acc k:=by
 intro rest
 induction rest with
 | nil=>intros;rfl
 | cons o rest ih=>intro i st acc k;simp only [drawKP,drawK,stepC_real,runT_real,ih];kernel_rfl
theorem evalK_real (tab:Tab) (G:Gam) (ann:Ann) (fuel:Nat) (c:Code):(∀(R:Type) (st:St) (kn kr:St→Option R) (ke:Nat→St→Option R),evalKP real tab G ann fuel c R st kn kr ke=evalK tab G ann fuel c R st kn kr ke) ∧
 ∀b,c = .loop b→∀(R:Type) (st:St) (kn kr:St→Option R) (ke:Nat→St→Option R),evalKP real tab G ann fuel b R st kn kr ke=evalK tab G ann fuel b R st kn kr ke:=by
 induction c with
 | skip=>exact ⟨fun _ _ _ _ _=>rfl,fun b hb=>by cases hb⟩
 | region id ops draw=>
   refine ⟨fun R st kn kr ke=>?_,fun b hb=>by cases hb⟩
   simp only [evalKP,evalK,opsK_real,drawK_real];kernel_rfl
 | seq x y ihx ihy=>
   refine ⟨fun R st kn kr ke=>?_,fun b hb=>by cases hb⟩
   simp only [evalKP,evalK,ihx.1,ihy.1];kernel_rfl
 | cond c x y ihx ihy=>
   refine ⟨fun R st kn kr ke=>?_,fun b hb=>by cases hb⟩
   simp only [evalKP,evalK,ihx.1,ihy.1];kernel_rfl
 | block id c ih=>
   refine ⟨fun R st kn kr ke=>?_,fun b hb=>by cases hb⟩
   cases c with
   | loop b=>simp only [evalKP,evalK,ih.2 b rfl];kernel_rfl
   | _=>exact ih.1 R st kn kr (fun i st'=>cnd (Nat.beq i id) (kn st') (ke i st'))
 | loop c ih=>exact ⟨fun _ _ _ _ _=>rfl,fun b hb=>by injection hb with hb;subst hb;exact ih.1⟩
 | _=>exact ⟨fun _ _ _ _ _=>rfl,fun b hb=>by cases hb⟩
theorem evalFn_real (tab:Tab) (G:Gam) (ann:Ann) (fuel:Nat) (fn:Func) (aty rdty:Ty) (usesRd:Bool) (rty:Ty) (own:List (List Nat)) (x:aty.val) (rd:rdty.val) :
 evalFnP real tab G ann fuel fn aty rdty usesRd rty own x rd=evalFn tab G ann fuel fn aty rdty usesRd rty own x rd:=by
 unfold evalFnP evalFn
 cases fn.body with
 | none=>rfl
 | some c=>simp only [(evalK_real tab G ann fuel c).1]
theorem evalOpen_real (tab:Tab) (G:Gam) (ann:Ann) (fuel:Nat) (fn:Func) (aty rty:Ty) (x:aty.val) :
 evalOpenP real tab G ann fuel fn aty rty x=evalOpen tab G ann fuel fn aty rty x:=by
 unfold evalOpenP evalOpen
 cases fn.body with
 | none=>rfl
 | some c=>simp only [(evalK_real tab G ann fuel c).1]
theorem evalCons_real (tab:Tab) (G:Gam) (ann:Ann) (fuel:Nat) (fn:Func) (a b rty:Ty) (own:List (List Nat)) (x:a.val) (y:b.val) :
 evalConsP real tab G ann fuel fn a b rty own x y=evalCons tab G ann fuel fn a b rty own x y:=by
 unfold evalConsP evalCons
 cases fn.body with
 | none=>rfl
 | some c=>simp only [(evalK_real tab G ann fuel c).1]
end Go.Den
namespace Go.Den
def lookT:List (Nat×Ty)→Nat→Option Ty
 | [],_=>none
 | (i,t)::l,j=>cnd (Nat.beq j i) (some t) (lookT l j)
theorem lookT_mem : ∀ {l:List (Nat×Ty)} {j:Nat} {t:Ty},lookT l j=some t→(j,t)∈l
 | [],_,_,h=>by cases h
 | (i,u)::l,j,t,h=>by
   simp only [lookT] at h
   cases hq:Nat.beq j i with
   | true=>rw [hq] at h;injection h with h;subst h;rw [nbeq hq];exact List.mem_cons_self
   | false=>rw [hq] at h;exact List.mem_cons_of_mem _ (lookT_mem h)
def stripZ:Ty→List Value→Option (List Value)
 | .int k,.int k' n::cs=>cnd (kbeq k k') (cnd (decide (n=0)) (some cs) none) none
 | .bool,.bool b::cs=>cnd b none (some cs)
 | .str,.string s::cs=>cnd (Nat.beq s.data.size 0) (some cs) none
 | .unit,cs=>some cs
 | .prod a b,cs=>(stripZ a cs).bind (stripZ b)
 | .slice _,.slice none 0 0::cs=>some cs
 | _,_=>none
theorem stripZ_spec : ∀ {t:Ty} {cs rest:List Value},stripZ t cs=some rest→cs=zeroCells t++rest:=by
 intro t
 induction t with
 | int k=>
   intro cs rest h
   unfold stripZ at h
   split at h<;>try cases h
   ·rename_i k' k2 n cs' he
    injection he with he;subst he
    cases h1:kbeq k k2 with
    | false=>rw [h1] at h;cases h
    | true=>
      cases h2:decide (n=0) with
      | false=>rw [h1,h2] at h;cases h
      | true=>
        rw [h1,h2] at h;injection h with h;subst h
        rw [←k_of_beq h1,of_decide_eq_true h2];rfl
   all_goals rename_i he;cases he
 | bool=>
   intro cs rest h
   unfold stripZ at h
   split at h<;>rename_i he<;>try cases he
   ·rename_i b cs'
    cases b with
    | true=>cases h
    | false=>injection h with h;subst h;rfl
   ·cases h
 | str=>
   intro cs rest h
   unfold stripZ at h
   split at h<;>rename_i he<;>try cases he
   ·rename_i s cs'
    cases h1:Nat.beq s.data.size 0 with
    | false=>rw [h1] at h;cases h
    | true=>
      rw [h1] at h;injection h with h;subst h
      have:s=⟨#[]⟩:=by
       cases s with
       | mk d=>
         have hd:d.size=0:=nbeq h1
         rw [Array.eq_empty_of_size_eq_zero hd]
      rw [this];rfl
   ·cases h
 | unit=>
   intro cs rest h
   have h:some cs=some rest:=by cases cs<;>exact h
   injection h with h
 | prod a b iha ihb=>
   intro cs rest h
   have h:(stripZ a cs).bind (stripZ b)=some rest:=by cases cs<;>exact h
   obtain ⟨m,h1,h2⟩:=Option.bind_eq_some_iff.1 h
   rw [iha h1,ihb h2];simp [zeroCells]
 | slice e _=>
   intro cs rest h
   unfold stripZ at h
   split at h<;>rename_i he<;>try cases he
   ·injection h with h;subst h;rfl
   ·cases h
def zeroB (t:Ty) (v:Value):Bool:=match v with
 | .agg xs=>match isProd t,stripZ t xs.toList with
   | true,some []=>true
   | _,_=>false
 | v=>match isProd t,stripZ t [v] with
   | false,some []=>true
   | _,_=>false
theorem zeroB_spec {t:Ty} {v:Value} (h:zeroB t v=true):v=wrapV t (zeroCells t):=by
 unfold zeroB at h
 split at h
 ·rename_i xs
  split at h
  ·rename_i h1 h2
   have:=stripZ_spec h2
   rw [List.append_nil] at this
   have e:xs=(zeroCells t).toArray:=by apply Array.ext';simpa using this
   rw [e]
   cases t<;>first|rfl|cases h1
  ·cases h
 ·split at h
  ·rename_i h1 h2
   have:=stripZ_spec h2
   rw [List.append_nil] at this
   cases t<;>first|(cases h1;done)|(rw [←this];rfl)
  ·cases h
def fieldsB (tab:Tab):Ty→Nat→List Field→Bool
 | .unit,_,[]=>true
 | .prod a b, o, f :: fs => cnd (Nat.beq f.offset o) (cnd (tyIs (tab f.type) a) (cnd (Nat.beq a.size 0) false (cnd (f.name == "_") false (fieldsB tab b (Nat.add o a.size) fs))) false) false
 | _,_,_=>false
theorem fieldsB_spec {tab:Tab} : ∀ {t:Ty} {o:Nat} {fs:List Field},fieldsB tab t o fs=true→FieldsOk tab t o fs:=by
 intro t
 induction t with
 | prod a b _ ihb=>
   intro o fs h
   cases fs with
   | nil=>cases h
   | cons f fs=>
     simp only [fieldsB] at h
     cases h1:Nat.beq f.offset o with
     | false=>rw [h1] at h;cases h
     | true=>
       cases h2:tyIs (tab f.type) a with
       | false=>rw [h1,h2] at h;cases h
       | true=>
         cases h3:Nat.beq a.size 0 with
         | true=>rw [h1,h2,h3] at h;cases h
         | false=>
           cases h4 : f.name == "_" with
           | true=>rw [h1,h2,h3,h4] at h;cases h
           | false=>
             rw [h1,h2,h3,h4] at h
             exact ⟨nbeq h1,zax h2,fun e=>(by rw [e] at h3;cases h3),fun e=>(by rw [e] at h4;simp at h4),ihb h⟩
 | unit=>intro o fs h;cases fs with
   | nil=>trivial
   | cons _ _=>cases h
 | _=>intro o fs h;cases fs<;>cases h
def descB (P:Program) (tab:Tab) (t:TypeId) (ty:Ty):Bool:=match P.underlying t,ty with
 | some (.int k),.int k'=>kbeq k k'
 | some .bool,.bool=>true
 | some .string,.str=>true
 | some (.slice el),.slice e=>tyIs (tab el) e
 | some (.struct fs),.prod a b=>fieldsB tab (.prod a b) 0 fs.toList
 | some (.struct fs),.unit=>fieldsB tab .unit 0 fs.toList
 | _,_=>false
theorem descB_spec {P:Program} {tab:Tab} {t:TypeId} {ty:Ty} (h:descB P tab t ty=true):DescOk P tab t ty:=by
 unfold descB at h
 split at h
 ·rename_i h1;rw [k_of_beq h] at h1;exact h1
 ·rename_i h1;exact h1
 ·rename_i h1;exact h1
 ·rename_i h1;exact ⟨_,h1,zax h⟩
 ·rename_i h1;exact ⟨_,h1,fieldsB_spec h⟩
 ·rename_i h1;exact ⟨_,h1,fieldsB_spec h⟩
 ·cases h
def infoB (P:Program) (t:TypeId) (ty:Ty):Bool:=match P.info? t with
 | some i=>match i.zero with
   | some z=>cnd (Nat.beq i.size ty.size) (cnd (Nat.ble i.bytes 4096) (zeroB ty z) false) false
   | none=>false
 | none=>false
theorem infoB_spec {P:Program} {t:TypeId} {ty:Ty} (h:infoB P t ty=true) : ∃i,P.info? t=some i∧i.size=ty.size∧i.zero=some (wrapV ty (zeroCells ty))∧i.bytes≤4096:=by
 unfold infoB at h
 split at h
 ·rename_i i h1
  split at h
  ·rename_i z h2
   cases h3:Nat.beq i.size ty.size with
   | false=>rw [h3] at h;cases h
   | true=>
     cases h4:Nat.ble i.bytes 4096 with
     | false=>rw [h3,h4] at h;cases h
     | true=>
       rw [h3,h4] at h
       exact ⟨i,h1,nbeq h3,by rw [h2,zeroB_spec h],Nat.le_of_ble_eq_true h4⟩
  ·cases h
 ·cases h
def cmpB (P:Program) (t:TypeId) (ty:Ty):Bool:=cnd (isProd ty) (cnd (P.stoodInHeld t) false (cnd (P.eqGuardType P.depth t) false true)) true
theorem cmpB_spec {P:Program} {t:TypeId} {ty:Ty} (h:cmpB P t ty=true):isProd ty=true→P.stoodInHeld t=false∧P.eqGuardType P.depth t=false:=by
 intro hp
 unfold cmpB at h
 rw [hp] at h
 cases h1:P.stoodInHeld t with
 | true=>rw [h1] at h;cases h
 | false=>
   cases h2:P.eqGuardType P.depth t with
   | true=>rw [h1,h2] at h;cases h
   | false=>exact ⟨rfl,rfl⟩
def tabB (P:Program) (tab:Tab):List (Nat×Ty)→Bool
 | []=>true
 | (t,ty)::l=>cnd (infoB P t ty) (cnd (descB P tab t ty) (cnd (cmpB P t ty) (tabB P tab l) false) false) false
theorem tabB_mem {P:Program} {tab:Tab} : ∀ {l:List (Nat×Ty)},tabB P tab l=true→∀t ty,(t,ty)∈l→TyOk P tab t ty
 | [],_,_,_,h=>by cases h
 | (u,uy)::l,h,t,ty,hm=>by
   simp only [tabB] at h
   cases h1:infoB P u uy with
   | false=>rw [h1] at h;cases h
   | true=>
     cases h2:descB P tab u uy with
     | false=>rw [h1,h2] at h;cases h
     | true=>
       cases h3:cmpB P u uy with
       | false=>rw [h1,h2,h3] at h;cases h
       | true=>
         rw [h1,h2,h3] at h
         rcases List.mem_cons.1 hm with he|hm
         ·injection he with e1 e2;subst e1;subst e2
          exact ⟨infoB_spec h1,descB_spec h2,cmpB_spec h3⟩
         ·exact tabB_mem h t ty hm
theorem tabOk_of {P:Program} {l:List (Nat×Ty)} (h:tabB P (lookT l) l=true):TabOk P (lookT l):=fun t ty ht=>tabB_mem h t ty (lookT_mem ht)
/-! ### functions that are called -/
theorem zae {P:Program} : GamOk P (fun _=>none):=fun f s h=>by cases h
theorem zaa {P:Program} {G:Gam} {f:FuncId} {s:Sig} (h:FnOk P f s) (hG:GamOk P G):GamOk P (fun g=>cnd (Nat.beq g f) (some s) (G g)):=by
 intro g t hg
 have hg:cnd (Nat.beq g f) (some s) (G g)=some t:=hg
 cases hq:Nat.beq g f with
 | true=>rw [hq] at hg;injection hg with hg;subst hg;rw [nbeq hq];exact h
 | false=>rw [hq] at hg;exact hG g t hg
theorem zai {P : Program} {tab : Tab} {G : Gam} (hT : TabOk P tab) (hG : GamOk P G) (hm : P.follows .mixedOrders = true) {f : FuncId} {fn : Func} {c : Code} (hf : P.funcs[f]? = some fn) (hname : (fn.name == "runtime.NumGoroutine") = false) (hb : fn.body = some c)
 (s:Sig) (hop:s.opens=false) (hmu:s.muts=false) (hone:Nat.beq fn.results.toList.length 1=s.one) {ann:Ann} {fuel:Nat} (hfn : ∀x rd,evalFnP real tab G ann fuel fn s.aty s.rdty s.usesRd s.rty s.own x rd=s.fn x rd) (hfv:s.fv=none:=by rfl):FnOk P f s:=
 fn_ok hT hG hm hf hname hb s hop hmu hone (ann:=ann) (fuel:=fuel) (fun x rd r h=>by rw [←evalFn_real,hfn];exact h) hfv
theorem open_okP {P : Program} {tab : Tab} {G : Gam} (hT : TabOk P tab) (hG : GamOk P G) (hm : P.follows .mixedOrders = true) {f : FuncId} {fn : Func} {c : Code} (hf : P.funcs[f]? = some fn) (hname : (fn.name == "runtime.NumGoroutine") = false) (hb : fn.body = some c)
 (s:Sig) (hop:s.opens=true) (hmu:s.muts=false) (hus:s.usesRd=false) {ann:Ann} {fuel:Nat} (hfn : ∀x rd,(evalOpenP real tab G ann fuel fn s.aty s.rty x).map (·.1)=(s.fn x rd).map (·.1)) (hfv:s.fv=none:=by rfl):FnOk P f s:=
 open_ok hT hG hm hf hname hb s hop hmu hus (ann:=ann) (fuel:=fuel) (hfv:=hfv) fun x rd r h=>by
  have h1:=hfn x rd
  rw [evalOpen_real,h] at h1
  cases hq:evalOpen tab G ann fuel fn s.aty s.rty x with
  | none=>rw [hq] at h1;cases h1
  | some r'=>rw [hq] at h1;injection h1 with h1;exact ⟨r',rfl,h1⟩
theorem cons_okP {P : Program} {tab : Tab} {G : Gam} (hT : TabOk P tab) (hG : GamOk P G) (hm : P.follows .mixedOrders = true) {f : FuncId} {fn : Func} {c : Code} (hf : P.funcs[f]? = some fn) (hname : (fn.name == "runtime.NumGoroutine") = false) (hb : fn.body = some c)
 (a b rty:Ty) (one:Bool) (own:List (List Nat)) (g:(Ty.prod a b).val→Ty.unit.val→Option (rty.val×Ty.unit.val)) (hone:Nat.beq fn.results.toList.length 1=one) {ann:Ann} {fuel:Nat} (hfn : ∀x rd,evalConsP real tab G ann fuel fn a b rty own x.1 x.2=g x rd) :
 FnOk P f {aty:=.prod a b,rdty:=.unit,usesRd:=false,rty:=rty,one:=one,own:=own,opens:=false,muts:=true,fn:=g}:=
 cons_ok hT hG hm hf hname hb a b rty one own g hone (ann:=ann) (fuel:=fuel) fun x rd r h=>by rw [←evalCons_real,hfn x rd];exact h
theorem fn_none {P : Program} {f : FuncId} {fn : Func} {c : Code} (hf : P.funcs[f]? = some fn) (hname : (fn.name == "runtime.NumGoroutine") = false) (hb : fn.body = some c) (s : Sig) (h : ∀ x rd, s.fn x rd = none) : FnOk P f s := by
 refine ⟨fun args w=>?_,fun _ _ _ x rd r hr=>(by rw [h] at hr;cases hr),fun _ _ _ _ _ x rd r hr=>(by rw [h] at hr;cases hr),fun _ _ x rd r hr=>(by rw [h] at hr;cases hr),fun _ _ _ _ x rd r hr=>(by rw [h] at hr;cases hr),fun _ _ _ x rd r hr=>(by rw [h] at hr;cases hr)⟩
 have h1 : fn.name ≠ "runtime.NumGoroutine" := by simpa using hname
 simp [callFunc,hf,h1,hb]
/-! ### arguments -/
def InR:(t:Ty)→t.val→Prop
 | .int k,x=>(Lit.int k x).wf=true
 | .prod a b,x=>InR a x.1∧InR b x.2
 | .slice t,xs=>List.length (α:=t.val) xs≤maxLen∧∀x,x∈(show List t.val from xs)→InR t x
 | .str,xs=>List.length (α:=UInt8) xs≤maxLen
 | _,_=>True
def Ty.rank:Ty→Nat
 | .prod a b=>a.rank+b.rank+1
 | .slice t=>t.rank+1
 | _=>1
def posB:Ty→Bool
 | .prod a b=>cnd (posB a) (posB b) false
 | .slice t=>cnd (Nat.beq t.size 0) false (posB t)
 | _=>true
section
variable {P:Program} {tab:Tab} {H:Type} {enc:TypeId×Value→H} {w:World} {base:Nat} {spare:Nat→Bool} {held:Bool}
theorem cellsOf_ok {t:TypeId} {ty:Ty} (h:TyOk P tab t ty):P.cellsOf t=ty.size:=by
 obtain ⟨i,h1,h2,_⟩:=h.info
 simp [Program.cellsOf,h1,h2]
theorem trod_rep (hT:TabOk P tab) : ∀ {ty:Ty} {t:TypeId} {n:Nat} {cs:List Value} {x:DataW H×List MemPlace},DescOk P tab t ty→P.cellsOf t=ty.size→posB ty=true→DataW.trod enc P w base spare held n t cs=some x→∃y:ty.val,CRep w (fun _=>none) ty y cs∧InR ty y:=by
 intro ty
 have fields : ∀ {ty:Ty} {o:Nat} {fs:List Field} {n:Nat} {cs:List Value} {xs:List (DataW H×List MemPlace)} (_ : ∀ {u:Ty} {v:TypeId} {m:Nat} {ds:List Value} {z:DataW H×List MemPlace},u.rank<ty.rank→DescOk P tab v u→P.cellsOf v=u.size→posB u=true→DataW.trod enc P w base spare held m v ds=some z→∃y:u.val,CRep w (fun _=>none) u y ds∧InR u y),
  FieldsOk tab ty o fs→posB ty=true→cs.length=o+ty.size→(∀(i:Nat) (f:Field),fs[i]?=some f→DataW.trod enc P w base spare held n f.type ((cs.drop f.offset).take (P.cellsOf f.type))=xs[i]?)→xs.length=fs.length →
  ∃y:ty.val,CRep w (fun _=>none) ty y (cs.drop o)∧InR ty y:=by
  intro ty
  induction ty with
  | prod a b _ ihb=>
    intro o fs n cs xs ih hf hp hl hx hxl
    cases fs with
    | nil=>exact hf.elim
    | cons f fs=>
      obtain ⟨h1,h2,h3,h4,h5⟩:=hf
      have hp':posB a=true∧posB b=true:=by
       simp only [posB] at hp
       cases hq:posB a with
       | false=>rw [hq] at hp;cases hp
       | true=>rw [hq] at hp;exact ⟨rfl,hp⟩
      have hta:=hT _ _ h2
      cases xs with
      | nil=>simp at hxl
      | cons x0 xs=>
        have h0:=hx 0 f rfl
        rw [h1,cellsOf_ok hta] at h0
        obtain ⟨y1,c1,r1⟩:=ih (u:=a) (by simp only [Ty.rank];omega) hta.desc (cellsOf_ok hta) hp'.1 (h0.trans rfl)
        have hsz:cs.length=(o+a.size)+b.size:=by rw [hl];simp [Ty.size];omega
        obtain ⟨y2,c2,r2⟩:=ihb (o:=o+a.size) (fs:=fs) (n:=n) (cs:=cs) (xs:=xs) (fun hlt=>ih (by simp only [Ty.rank];omega)) h5 hp'.2 hsz (fun i g hg=>by have:=hx (i+1) g (by simpa using hg);simpa using this) (by simpa using hxl)
        refine ⟨(y1,y2),⟨_,_,?_,c1,c2⟩,r1,r2⟩
        rw [←List.drop_drop]
        exact (List.take_append_drop _ _).symm
  | unit=>
    intro o fs n cs xs ih hf hp hl hx hxl
    refine ⟨(),?_,trivial⟩
    simp only [CRep]
    rw [List.drop_eq_nil_iff];simp [Ty.size] at hl;omega
  | _=>intro o fs n cs xs ih hf;cases fs<;>exact hf.elim
 -- by the type's size
 have main : ∀(k:Nat) (ty:Ty),ty.rank<k→∀ {t:TypeId} {n:Nat} {cs:List Value} {x:DataW H×List MemPlace},DescOk P tab t ty→P.cellsOf t=ty.size→posB ty=true→DataW.trod enc P w base spare held n t cs=some x→∃y:ty.val,CRep w (fun _=>none) ty y cs∧InR ty y:=by
  intro k
  induction k with
  | zero=>intro ty h;omega
  | succ k ih=>
    intro ty hk t n cs x hd hc hp h
    have str : ∀ {ty:Ty} (_:ty.rank<k+1) (_:P.cellsOf t=ty.size) (_:posB ty=true),(∃fs,P.underlying t=some (.struct fs)∧FieldsOk tab ty 0 fs.toList)→∃y:ty.val,CRep w (fun _=>none) ty y cs∧InR ty y:=by
     intro ty hk hc hp ⟨fs,h1,h2⟩
     obtain ⟨xs,m,_,_,hl,hxl,hf⟩:=DataW.trod_struct h1 h
     have:=fields (ty:=ty) (o:=0) (fs:=fs.toList) (n:=m) (cs:=cs) (xs:=xs) (fun hlt=>ih _ (by omega)) h2 hp (by rw [hl,hc];omega) (fun i f hi=>hf i f (by simpa using hi)) (by simpa using hxl)
     simpa using this
    cases ty with
    | int kd=>
      obtain ⟨m,h1,_,h2⟩:=DataW.trod_int hd h
      subst h1
      exact ⟨m,rfl,h2⟩
    | bool=>
      obtain ⟨b,h1,_⟩:=DataW.trod_bool hd h
      subst h1
      exact ⟨b,rfl,trivial⟩
    | str=>
      obtain ⟨s,h1,_,h2⟩:=DataW.trod_string hd h
      subst h1
      exact ⟨s.data.toList,rfl,(by show s.data.toList.length≤_;rw [Array.length_toList];exact h2)⟩
    | unit=>exact str hk hc hp hd
    | prod a b=>exact str hk hc hp hd
    | slice e=>
      obtain ⟨el,h1,h2⟩:=hd
      have hte:=hT _ _ h2
      have hce:=cellsOf_ok hte
      have hp':e.size≠0∧posB e=true:=by
       simp only [posB] at hp
       cases hq:Nat.beq e.size 0 with
       | true=>rw [hq] at hp;cases hp
       | false=>rw [hq] at hp;exact ⟨fun e=>(by rw [e] at hq;cases hq),hp⟩
      rcases DataW.trod_slice h1 h with ⟨rfl,_⟩|⟨a,len,cap,elems,rest,m,_,rfl,_,hb,hl,hm,hlen,hel,_,_⟩
      ·exact ⟨([]:List e.val),⟨none,0,rfl,Nat.le_refl _,.inl rfl⟩,Nat.zero_le _,fun x hx=>by cases hx⟩
      ·have each : ∀i,i<len→∃(y:e.val) (ds:List Value),CRep w (fun _=>none) e y ds∧InR e y∧w.cells? base (a.add (i*e.size)) e.size=some ds:=by
         intro i hi
         have:=hel i hi
         rw [hce] at this
         cases hq:w.cells? base (a.add (i*e.size)) e.size with
         | none=>rw [hq] at this;simp at this;omega
         | some ds=>
           rw [hq] at this
           simp only [Option.bind_some] at this
           have hi':i<elems.length:=by omega
           rw [List.getElem?_eq_getElem hi'] at this
           obtain ⟨y,k1,k2⟩:=ih e (by simp only [Ty.rank] at hk;omega) hte.desc hce hp'.2 this
           exact ⟨y,ds,k1,k2,rfl⟩
       obtain ⟨ys,hyl,hys⟩ : ∃ys:List e.val,ys.length=len∧∀i y,ys[i]?=some y→∃ds:List Value,CRep w (fun _=>none) e y ds∧InR e y∧w.cells? base (a.add (i*e.size)) e.size=some ds:=by
        have : ∀j,j≤len→∃ys:List e.val,ys.length=j∧∀i y,ys[i]?=some y→∃ds:List Value,CRep w (fun _=>none) e y ds∧InR e y∧w.cells? base (a.add (i*e.size)) e.size=some ds:=by
         intro j
         induction j with
         | zero=>intro _;exact ⟨[],rfl,fun i y hi=>by simp at hi⟩
         | succ j ihj=>
           intro hj
           obtain ⟨ys,k1,k2⟩:=ihj (by omega)
           obtain ⟨y,ds,k3,k4,k5⟩:=each j (by omega)
           refine ⟨ys++[y],by simp [k1],fun i z hi=>?_⟩
           by_cases hij:i<ys.length
           ·rw [List.getElem?_append_left hij] at hi;exact k2 i z hi
           ·have hi2:i=j:=by
              have:=(List.getElem?_eq_some_iff.1 hi).1
              simp at this;omega
            subst hi2
            rw [List.getElem?_append_right (by omega)] at hi
            simp [k1] at hi
            subst hi
            exact ⟨ds,k3,k4,k5⟩
        exact this len (Nat.le_refl _)
       refine ⟨ys,⟨some a,cap,by rw [hyl],by rw [hyl];exact hl,?_⟩,by show List.length (α:=e.val) ys≤maxLen;omega,fun y hy=>?_⟩
       ·by_cases hnil:ys=[]
        ·exact .inl hnil
        · -- the first element's first cell
         have hlen0:0<len:=by rw [←hyl];exact List.length_pos_iff.2 hnil
         have cellAt : ∀i,i<len→∀j,j<e.size→∃v,w.cell? ((a.add (i*e.size)).add j)=some v:=by
          intro i hi j hj
          obtain ⟨y,ds,k1,_,k3⟩:=each i hi
          obtain ⟨_,m2,m3⟩:=World.cells?_some k3
          have:j<ds.length:=by omega
          exact ⟨ds[j],(m3 j hj).trans (List.getElem?_eq_getElem this)⟩
         obtain ⟨v0,hv0⟩:=cellAt 0 hlen0 0 (Nat.pos_of_ne_zero hp'.1)
         have ha0:(a.add (0*e.size)).add 0=a:=by simp [Addr.add]
         rw [ha0] at hv0
         have hspot:a.spot=none:=by
          unfold World.cell? at hv0
          split at hv0
          ·split at hv0
           ·cases hv0
           ·rename_i hq;cases hs:a.spot with
            | none=>rfl
            | some _=>rw [hs] at hq;simp at hq
          ·cases hv0
         have hblk:a.block<w.heap.size:=by
          unfold World.cell? at hv0
          split at hv0
          ·rename_i hq;exact (Array.getElem?_eq_some_iff.1 hq).1
          ·cases hv0
         obtain ⟨ab,ao,asp⟩:=a
         simp only at hspot hblk
         subst hspot
         refine .inr ⟨ab,ao,rfl,hblk,fun m hm=>(by cases hm),fun i y hi=>?_⟩
         obtain ⟨ds,k1,k2,k3⟩:=hys i y hi
         refine ⟨ds,k1,fun j v hj=>?_⟩
         obtain ⟨_,m2,m3⟩:=World.cells?_some k3
         have hjl:=(List.getElem?_eq_some_iff.1 hj).1
         have:=(m3 j (by omega)).trans hj
         have hadd:((⟨ab,ao,none⟩:Addr).add (i*e.size)).add j=⟨ab,ao+i*e.size+j,none⟩:=by
          unfold Addr.add
          split<;>split<;>simp_all<;>omega
         rw [hadd] at this
         exact this
       ·obtain ⟨i,hi⟩:=List.getElem?_of_mem hy
        obtain ⟨ds,_,k2,_⟩:=hys i y hi
        exact k2
 intro t n cs x
 exact main (ty.rank+1) ty (Nat.lt_succ_self _)
theorem arg_rep (hT:TabOk P tab) {base2:Nat} {t:TypeId} {ty:Ty} (ht:tab t=some ty) (hp:posB ty=true) {v:Value} {d:DataW H} {ps:List MemPlace} (hok:Value.okWide P w .any base2 t v) (h:DataW.Trod enc P w base spare held t v d ps) :
 ∃x:ty.val,TRep w (fun _=>none) ty x v∧InR ty x:=by
 obtain ⟨n,hn⟩:=h
 have hty:=hT _ _ ht
 obtain ⟨y,h1,h2⟩:=trod_rep hT hty.desc (cellsOf_ok hty) hp hn
 refine ⟨y,⟨_,h1,?_⟩,h2⟩
 have hd:=hty.desc
 cases ty with
 | int k=>obtain ⟨m,rfl⟩:=WideShapes.okWide_int hd hok;rfl
 | bool=>obtain ⟨m,rfl⟩:=WideShapes.okWide_bool hd hok;rfl
 | str=>obtain ⟨m,rfl⟩:=WideShapes.okWide_string hd hok;rfl
 | slice e=>obtain ⟨el,hd,_⟩:=hd;obtain ⟨a,l,c,rfl⟩:=WideShapes.okWide_slice hd hok;rfl
 | unit=>obtain ⟨fs,hd,_⟩:=hd;obtain ⟨cs,rfl,_⟩:=WideShapes.okWide_struct hd hok;simp [wrapV,Value.cells]
 | prod a b=>obtain ⟨fs,hd,_⟩:=hd;obtain ⟨cs,rfl,_⟩:=WideShapes.okWide_struct hd hok;simp [wrapV,Value.cells]
theorem law_calls {f:FuncId} {aty:Ty} {fn:aty.val→Ty.unit.val→Option ((Ty.prod .bool .unit).val×Ty.unit.val)} (hF:FnOk P f {aty:=aty,rdty:=.unit,usesRd:=false,rty:=.prod .bool .unit,one:=true,own:=[],opens:=false,fn:=fn})
 {x:aty.val} (hx:fn x ()=some ((true,()),())) {vals:List Value} {W:World} (ha:ArgsRep W (fun _=>none) none aty x vals) :
 Calls P f vals.toArray W (fun e W'=>e = .returned (.bool true)∧Go.RowKit.Below W.heap.size W W'):=by
 refine (hF.calls rfl rfl rfl x () _ hx W (fun _=>none) none vals ha ⟨fun h=>(by cases h),fun _=>rfl⟩).mono fun e W' h=>?_
 obtain ⟨v,lim',rfl,h1,_,h2,_⟩:=h
 have:v = .bool true:=bool_rep (st:=st00) h2
 subst this
 exact ⟨rfl,(Go.RowKit.Below.refl _ _).grown h1 (Nat.le_refl _) (fun k hk=>by cases hk)⟩
end
end Go.Den
