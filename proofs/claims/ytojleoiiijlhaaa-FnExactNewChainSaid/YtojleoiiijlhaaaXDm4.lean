/- Code: what the reading gives, the machine does. -/
import Derived.Below
import Derived.ChangeOld
import Derived.Deep.LoopGhost
import Derived.OpenShut
import Derived.ProofKit
import Derived.SizedLaws
import Derived.Test.YtojleoiiijlhaaaXDm3
set_option linter.unusedVariables false
set_option linter.unusedSimpArgs false
namespace Go.Den
section
variable {P : Program} {tab : Tab} {G : Gam} {w0 : Base} {lim0 : Lim} {rb : Option Nat} {n : Nat}
variable {st st' : St} {a : Act} {w : World} {lim : Lim} {β : Mp}

structure Weak (st' st : St) : Prop where
  env : ∀ t,((st'.env t).av = .any∨∃ f,(st'.env t).av = .fn f∧(st.env t).av = .fn f)∨(∃ ty x,(st'.env t).av = .dat ty x∧AV.as ty (st.env t).av = some x) ∨
    (∃ b p d,(st'.env t).av = .cel b p∧(st.env t).av = .cel b p∧st'.box b = some d)∨(∃ d,(st'.env t).av = .rdr []∧(st.env t).av = .rdr []∧st'.rd = some d) ∨
    (∃ r p d,(st'.env t).av = .xf r p∧(st.env t).av = .xf r p∧st'.io r = some d)∨(∃ b p d,(st'.env t).av = .cx b p∧(st.env t).av = .cx b p∧st'.xb b = some d)
  tag : ∀ t,(st'.env t).tag = none
  box : ∀ b d,st'.box b = some d→st.box b = some d
  own : ∀ l,st'.own l = true→st.own l = true
  ownT : ∀ t p,st'.own (.tmp t p) = true→∃ ty x,(st'.env t).av = .dat ty x
  ownB : ∀ b p,st'.own (.box b p) = true→∃ d,st'.box b = some d
  rd : ∀ d,st'.rd = some d→st.rd = some d
  io : ∀ r d,st'.io r = some d→st.io r = some d
  xb : ∀ b t o,st'.xb b = some (t,o)→st.xb b = some (t,o)∧∀ r q,o = some (r,q)→∃ d,st'.io r = some d

theorem as_dat {t : Ty} {av : AV} {x : t.val} (h : AV.as t av = some x) : av = .dat t x∨av = .nil:=by
  cases av with
  | dat u y =>
    obtain ⟨h1,h2⟩:=cast_some h
    subst h1; subst h2; exact .inl rfl
  | nil=>exact .inr rfl
  | _=>cases h

theorem unpackRd_rb {st : St} : ∀ {r : Option Ty} {x : (rdTy r).val},(unpackRd st r x).rb = st.rb
  | none,_=>rfl
  | some _,_=>rfl
theorem unpackIo_rb {st : St} {r : Option Ty} : ∀ {is : List (Tmp × Ty)} {x : (ioTy is (rdTy r)).val},(unpackIo st r is x).rb = st.rb
  | [],_=>unpackRd_rb
  | (_,_) :: is,x=>unpackIo_rb (is:=is) (x:=x.2)
theorem unpackBox_rb {st : St} {S : Shp} : ∀ {bs : List (Tmp × Ty × List (List Nat))} {x : (boxTy bs S.low).val},(unpackBox st S bs x).rb = st.rb
  | [],x=>unpackIo_rb (is:=S.io) (x:=x)
  | (_,_,_) :: bs,x=>unpackBox_rb (bs:=bs) (x:=x.2)
theorem unpackEnv_rb {st : St} {S : Shp} : ∀ {es : List (Tmp × ShE)} {x : (envTy es (boxTy S.box S.low)).val},(unpackEnv st S es x).rb = st.rb
  | [],x=>unpackBox_rb (bs:=S.box) (x:=x)
  | (_,.dat _ _) :: es,x=>unpackEnv_rb (es:=es) (x:=x.2)
  | (_,.cel _ _) :: es,x=>unpackEnv_rb (es:=es) (x:=x)
  | (_,.rdr) :: es,x=>unpackEnv_rb (es:=es) (x:=x)
  | (_,.xf _ _) :: es,x=>unpackEnv_rb (es:=es) (x:=x)
  | (_,.cx _ _) :: es,x=>unpackEnv_rb (es:=es) (x:=x)
  | (_,.fn _) :: es,x=>unpackEnv_rb (es:=es) (x:=x)
theorem unpack_rb {S : Shp} {x : S.ty.val} (b : Tmp) : (unpack S x).rb b = none:=by
  have : (unpack S x).rb = st00.rb:=unpackEnv_rb (es:=S.env) (x:=x)
  rw [this]; rfl
theorem Sim.weak (h : Sim w0 lim0 rb n st a w lim β) (hw : Weak st' st) (hrw : ∀ b,st'.rb b = none) : Sim w0 lim0 rb n st' a w lim β:=by
  have loc : ∀ l,st'.own l = true→locTy st' l = locTy st l∧locV st' a w β l = locV st a w β l:=by
    intro l hl
    have ho:=hw.own l hl
    cases l with
    | tmp t p =>
      obtain ⟨ty,x,h1⟩:=hw.ownT t p hl
      obtain ⟨e,v,k1,k2,_⟩:=h.own _ ho
      have : (st.env t).av = .dat ty x:=by
        rcases hw.env t with (h2 | ⟨_,h2,_⟩) | ⟨ty',x',h2,h3⟩ | ⟨b,q,d,h2,_⟩ | ⟨d,h2,_⟩ | ⟨_,_,_,h2,_⟩ | ⟨_,_,_,h2,_⟩
        · rw [h1] at h2; cases h2
        · rw [h1] at h2; cases h2
        · rw [h1] at h2; injection h2 with h4 h5; subst h4; have h5:=eq_of_heq h5; subst h5
          rcases as_dat h3 with h6 | h6
          · exact h6
          · simp only [locTy,h6] at k1; cases k1
        · rw [h1] at h2; cases h2
        · rw [h1] at h2; cases h2
        · rw [h1] at h2; cases h2
        · rw [h1] at h2; cases h2
      simp only [locTy,locV,h1,this,and_self]
    | box b p =>
      obtain ⟨d,h1⟩:=hw.ownB b p hl
      have:=hw.box b d h1
      simp only [locTy,locV,h1,this,and_self]
  have has : ∀ l g,st'.own l = true→HasL st' a w β l g→HasL st a w β l g:=by
    rintro l g hl ⟨T,v,h1,h2,h3⟩
    obtain ⟨m1,m2⟩:=loc l hl
    exact ⟨T,v,by rw [← m1]; exact h1,by rw [← m2]; exact h2,h3⟩
  refine ⟨h.size,h.defers,h.grow,h.limOld,h.xrb,fun t=>?_,fun b d hb=>h.box b d (hw.box b d hb),fun b c d d' h1 h2 h3=>h.inj b c d d' (hw.box b d h1) (hw.box c d' h2) h3,fun l hl=>?_,fun l g hl hg b d hb=>h.ownb l g (hw.own l hl) (has l g hl hg) b d (hw.box b d hb),fun l l' g h1 h2 h3 h4=>h.sep l l' g (hw.own l h1) (hw.own l' h2) (has l g h1 h3) (has l' g h2 h4),fun t l h1 h2=>?_,fun d hd=>h.rd d (hw.rd d hd),?_⟩
  · have ht:=h.env t
    rcases hw.env t with (h2 | ⟨f,h2,h3⟩) | ⟨ty,x,h2,h3⟩ | ⟨b,q,d,h2,h3,h4⟩ | ⟨d,h2,h3,h4⟩ | ⟨r,p,d,h2,h3,h4⟩ | ⟨b,p,d,h2,h3,h4⟩
    · rw [h2]; trivial
    · rw [h3] at ht; rw [h2]; exact ht
    · rw [h2]; exact as_rep h3 ht
    · rw [h3] at ht; rw [h2]
      obtain ⟨d',k1,k2⟩:=ht
      have:=hw.box b d h4
      rw [k1] at this; injection this with this; subst this
      exact ⟨d',h4,k2⟩
    · rw [h3] at ht; rw [h2]
      obtain ⟨d',b,k1,k2,k3⟩:=ht
      have:=hw.rd d h4
      rw [k1] at this; injection this with this; subst this
      exact ⟨d',b,h4,k2,k3⟩
    · rw [h3] at ht; rw [h2]
      obtain ⟨d',k1,k2⟩:=ht
      have:=hw.io r d h4
      rw [k1] at this; injection this with this; subst this
      exact ⟨d',h4,k2⟩
    · rw [h3] at ht; rw [h2]
      obtain ⟨t',o',k1,k2⟩:=ht
      obtain ⟨dt,dO⟩:=d
      have:=(hw.xb b dt dO h4).1
      rw [k1] at this; injection this with this; injection this with e1 e2; subst e1
      exact ⟨t',dO,h4,k2⟩
  · obtain ⟨e,v,k1,k2,k3⟩:=h.own l (hw.own l hl)
    obtain ⟨m1,m2⟩:=loc l hl
    exact ⟨e,v,m1.trans k1,m2.trans k2,k3⟩
  · rw [hw.tag t] at h1; cases h1
  · have hown : ∀ l g,st'.own l = true→HasL st' a w β l g→st.own l = true∧HasL st a w β l g:=fun l g hl hv=>⟨hw.own l hl,has l g hl hv⟩
    refine ⟨fun r d hr=>h.xs.io r d (hw.io r d hr),fun r d g hr hg=>h.xs.base r d g (hw.io r d hr) hg,fun r d g hr hg b d' hb=>h.xs.box r d g (hw.io r d hr) hg b d' (hw.box b d' hb),
      fun r d g hr hg l hl hv=>h.xs.own r d g (hw.io r d hr) hg l (hown l g hl hv).1 (hown l g hl hv).2,fun r d r' d' g hr hr'=>h.xs.dis r d r' d' g (hw.io r d hr) (hw.io r' d' hr'),fun b t o hb=>?_,fun b t o hb=>?_,
      fun b c t o t' o' hb hc=>h.xs.xinj b c t o t' o' (hw.xb b t o hb).1 (hw.xb c t' o' hc).1,fun d hd=>h.xs.fix d (hw.io 0 d hd),fun d hd=>h.xs.kx d (hw.io 0 d hd),fun b d ps hb=>(by rw [hrw] at hb; cases hb)⟩
    · obtain ⟨k1,k2⟩:=hw.xb b t o hb
      obtain ⟨cells,e,m1,m2,m3,m4,m5⟩:=h.xs.xb b t o k1
      refine ⟨cells,e,m1,m2,m3,m4,fun r q ho=>?_⟩
      obtain ⟨d,n1,n2⟩:=m5 r q ho
      obtain ⟨d',n4⟩:=k2 r q ho
      have:=hw.io r d' n4
      rw [n1] at this; injection this with this; subst this
      exact ⟨d,n4,n2⟩
    · obtain ⟨k1,_⟩:=hw.xb b t o hb
      obtain ⟨m1,m2,m3⟩:=h.xs.xbox b t o k1
      exact ⟨fun c d hc=>m1 c d (hw.box c d hc),fun l hl hv=>m2 l (hown l _ hl hv).1 (hown l _ hl hv).2,fun r d hr=>m3 r d (hw.io r d hr)⟩

theorem swT_swT (r c k : Tmp) : swT r c (swT r c k) = k:=by
  unfold swT
  by_cases h1 : k = r
  · subst h1
    rw [Nat.beq_refl,cnd_true]
    by_cases h2 : c = k
    · subst h2; rw [Nat.beq_refl,cnd_true]
    · have : Nat.beq c k = false:=by
        cases hq : Nat.beq c k with
        | true=>exact absurd (nbeq hq) h2
        | false=>rfl
      rw [this,cnd_false,Nat.beq_refl,cnd_true]
  · have e1 : Nat.beq k r = false:=by
      cases hq : Nat.beq k r with
      | true=>exact absurd (nbeq hq) h1
      | false=>rfl
    rw [e1,cnd_false]
    by_cases h2 : k = c
    · subst h2
      rw [Nat.beq_refl,cnd_true,Nat.beq_refl,cnd_true]
    · have e2 : Nat.beq k c = false:=by
        cases hq : Nat.beq k c with
        | true=>exact absurd (nbeq hq) h2
        | false=>rfl
      rw [e2,cnd_false,e1,cnd_false,e2,cnd_false]
theorem swT_zero {r c : Tmp} (hr : r ≠ 0) (hc : c ≠ 0) : swT r c 0 = 0:=by
  have e1 : Nat.beq 0 r = false:=by
    cases hq : Nat.beq 0 r with
    | true=>exact absurd (nbeq hq).symm hr
    | false=>rfl
  have e2 : Nat.beq 0 c = false:=by
    cases hq : Nat.beq 0 c with
    | true=>exact absurd (nbeq hq).symm hc
    | false=>rfl
  simp only [swT,e1,e2,cnd_false]
def swM (r c : Tmp) (β : Mp) : Mp:={ β with V:=fun k=>β.V (swT r c k),B:=fun k=>β.B (swT r c k) }
theorem swPs_mem {r c : Tmp} : ∀ {ps : List (List Nat × Tmp × List Nat)} {p : List Nat} {k : Tmp} {q : List Nat},(p,k,q) ∈ swPs r c ps→(p,swT r c k,q) ∈ ps
  | [],_,_,_,h=>by cases h
  | (p',k',q') :: ps,p,k,q,h=>by
    simp only [swPs] at h
    rcases List.mem_cons.1 h with h | h
    · injection h with h1 h2; injection h2 with h2 h3
      subst h1; subst h2; subst h3
      rw [swT_swT]; exact List.mem_cons_self
    · exact List.mem_cons_of_mem _ (swPs_mem h)
theorem swPs_mem' {r c : Tmp} : ∀ {ps : List (List Nat × Tmp × List Nat)} {p : List Nat} {k : Tmp} {q : List Nat},(p,k,q) ∈ ps→(p,swT r c k,q) ∈ swPs r c ps
  | (p',k',q') :: ps,p,k,q,h=>by
    simp only [swPs]
    rcases List.mem_cons.1 h with h | h
    · injection h with h1 h2; injection h2 with h2 h3
      subst h1; subst h2; subst h3
      exact List.mem_cons_self
    · exact List.mem_cons_of_mem _ (swPs_mem' h)
theorem MixOk.swap {r c : Tmp} {d : Dat} {ps : List (List Nat × Tmp × List Nat)} {cs : List Value} (h : MixOk st β d ps cs) : MixOk (swSt r c st) (swM r c β) d (swPs r c ps) cs:=by
  obtain ⟨⟨vc,k1,k2,k3⟩,h2⟩:=h
  refine ⟨⟨vc,k1,k2,fun j hj=>k3 j fun p k q u hp=>hj p (swT r c k) q u (swPs_mem' hp)⟩,fun p k q hp=>?_⟩
  obtain ⟨dr,m1,m2⟩:=h2 p _ q (swPs_mem hp)
  exact ⟨dr,m1,m2⟩
theorem Sim.swap (h : Sim w0 lim0 rb n st a w lim β) {r c : Tmp} (hr : r ≠ 0) (hc : c ≠ 0) : Sim w0 lim0 rb n (swSt r c st) a w lim (swM r c β):=by
  have lt : ∀ l,locTy (swSt r c st) l = locTy st l:=fun l=>by
    cases l with
    | tmp t p=>simp only [locTy,swSt]; cases (st.env t).av <;> rfl
    | box b p=>rfl
  have lv : ∀ l,locV (swSt r c st) a w (swM r c β) l = locV st a w β l:=fun l=>by
    cases l with
    | tmp t p=>simp only [locV,swSt]; cases (st.env t).av <;> rfl
    | box b p=>rfl
  have lh : ∀ l g,HasL (swSt r c st) a w (swM r c β) l g ↔ HasL st a w β l g:=fun l g=>by unfold HasL; rw [lt,lv]
  have xb0 : ∀ {b t o},(swSt r c st).xb b = some (t,o)→∃ o',st.xb b = some (t,o')∧∀ k q,o = some (k,q)→o' = some (swT r c k,q):=fun {b t o} hb=>by
    have hb : swXb r c (st.xb b) = some (t,o):=hb
    cases hx : st.xb b with
    | none=>rw [hx] at hb; cases hb
    | some y =>
      obtain ⟨t',o'⟩:=y
      rw [hx] at hb
      cases o' with
      | none =>
        injection hb with hb; injection hb with e1 e2
        subst e1; subst e2
        exact ⟨none,rfl,fun k q hk=>by cases hk⟩
      | some kq =>
        obtain ⟨k,q⟩:=kq
        injection hb with hb; injection hb with e1 e2
        subst e1; subst e2
        refine ⟨_,rfl,fun k' q' hk=>?_⟩
        injection hk with hk; injection hk with e1 e2
        subst e1; subst e2
        rw [swT_swT]
  refine ⟨h.size,h.defers,h.grow,h.limOld,h.xrb,fun t=>?_,h.box,h.inj,fun l hl=>?_,fun l g hl hg=>h.ownb l g hl ((lh l g).1 hg),fun l l' g h1 h2 h3 h4=>h.sep l l' g h1 h2 ((lh l g).1 h3) ((lh l' g).1 h4),fun t l h1 h2=>?_,h.rd,?_⟩
  · have ht:=h.env t
    show ERep (swSt r c st) w lim (swM r c β) rb (swAV r c (st.env t).av) (tmpOf a t)
    cases hav : (st.env t).av with
    | xf k p =>
      rw [hav] at ht
      obtain ⟨x,k1,k2⟩:=ht
      exact ⟨x,by show st.io (swT r c (swT r c k)) = some x; rw [swT_swT]; exact k1,by simp only [swM,swT_swT]; exact k2⟩
    | xp k p m q =>
      rw [hav] at ht
      obtain ⟨x,k1,k2⟩:=ht
      exact ⟨x,by show st.io (swT r c (swT r c k)) = some x; rw [swT_swT]; exact k1,by simp only [swM,swT_swT]; exact k2⟩
    | xt k =>
      rw [hav] at ht
      obtain ⟨x,k1,k2⟩:=ht
      exact ⟨x,by show st.io (swT r c (swT r c k)) = some x; rw [swT_swT]; exact k1,by simp only [swM,swT_swT]; exact k2⟩
    | cx b p =>
      rw [hav] at ht
      obtain ⟨t',o,k1,k2⟩:=ht
      have : ∃ o',(swSt r c st).xb b = some (t',o'):=by
        show ∃ o',swXb r c (st.xb b) = some (t',o')
        rw [k1]
        cases o with
        | none=>exact ⟨_,rfl⟩
        | some kq=>exact ⟨_,rfl⟩
      obtain ⟨o',k3⟩:=this
      exact ⟨t',o',k3,k2⟩
    | xe m q =>
      rw [hav] at ht
      obtain ⟨x,k1,k2⟩:=ht
      exact ⟨x,by show st.io (swT r c 0) = some x; rw [swT_zero hr hc]; exact k1,by simp only [swM,swT_zero hr hc]; exact k2⟩
    | mx ty x ps =>
      rw [hav] at ht
      obtain ⟨cs,k1,k2,k3,k5,k4⟩:=ht
      exact ⟨cs,k1,k2,k3,k5,k4.swap⟩
    | _=>rw [hav] at ht; exact ht
  · rw [lt,lv]; exact h.own l hl
  · have h1 : (st.env t).tag = some (true,l):=h1
    obtain ⟨k1,e,x,k2,k3⟩:=h.tag t l h1 h2
    refine ⟨by rw [lv]; exact k1,e,x,?_,by rw [lt]; exact k3⟩
    show swAV r c (st.env t).av = _
    rw [k2]; rfl
  · refine ⟨fun k x hk=>h.xs.io _ x hk,fun k x g hk hg=>h.xs.base _ x g hk hg,fun k x g hk hg b d' hb=>h.xs.box _ x g hk hg b d' hb,fun k x g hk hg l hl hv=>?_,fun k x k' x' g hk hk' hg hg'=>?_,fun b t o hb=>?_,fun b t o hb=>?_,fun b b' t o t' o' hb hb'=>?_,fun x hx hm=>?_,fun x hx=>?_,fun b d ps hb=>?_⟩
    · rw [lh] at hv
      exact h.xs.own _ x g hk hg l hl hv
    · have:=h.xs.dis _ x _ x' g hk hk' hg hg'
      have e:=congrArg (swT r c) this
      rwa [swT_swT,swT_swT] at e
    · obtain ⟨o',k1,k2⟩:=xb0 hb
      obtain ⟨cells,e,m1,m2,m3,m4,m5⟩:=h.xs.xb b t o' k1
      refine ⟨cells,e,m1,m2,m3,m4,fun k q ho=>?_⟩
      obtain ⟨x,n1,n2⟩:=m5 _ q (k2 k q ho)
      exact ⟨x,n1,n2⟩
    · obtain ⟨o',k1,_⟩:=xb0 hb
      obtain ⟨m1,m2,m3⟩:=h.xs.xbox b t o' k1
      exact ⟨m1,fun l hl hv=>by rw [lh] at hv; exact m2 l hl hv,fun k x hk=>m3 _ x hk⟩
    · obtain ⟨o1,k1,_⟩:=xb0 hb
      obtain ⟨o2,k2,_⟩:=xb0 hb'
      exact h.xs.xinj b b' t o1 t' o2 k1 k2
    · have e0:=swT_zero hr hc
      have hx : st.io (swT r c 0) = some x:=hx
      rw [e0] at hx
      simp only [swM,e0]
      exact h.xs.fix x hx hm
    · have e0:=swT_zero hr hc
      have hx : st.io (swT r c 0) = some x:=hx
      rw [e0] at hx
      simp only [swM,e0]
      exact h.xs.kx x hx
    · have hb : (match st.rb b with | some (d,ps)=>some (d,swPs r c ps) | none=>none) = some (d,ps):=hb
      cases hq : st.rb b with
      | none=>rw [hq] at hb; cases hb
      | some y =>
        obtain ⟨d0,ps0⟩:=y
        rw [hq] at hb
        injection hb with hb; injection hb with e1 e2
        subst e1; subst e2
        obtain ⟨k1,cells,e,k2,k3⟩:=h.xs.rbx b d0 ps0 hq
        refine ⟨?_,cells,e,k2,k3.swap⟩
        show swXb r c (st.xb b) = _
        rw [k1]; rfl
theorem Sim.ren : ∀ (es : List (Tmp × ShE)) {st : St} {β : Mp},Sim w0 lim0 rb n st a w lim β→∃ β',Sim w0 lim0 rb n (renS st es) a w lim β'
  | [],_,β,h=>⟨β,h⟩
  | (t, .xf r p) :: es, st, β, h => by
    simp only [renS]
    split
    · rename_i c q hav
      cases h1 : Nat.beq r c with
      | true=>exact h.ren es
      | false =>
      cases h2 : Nat.beq r 0 with
      | true=>exact h.ren es
      | false =>
      cases h3 : Nat.beq c 0 with
      | true=>exact h.ren es
      | false =>
        have hr : r ≠ 0:=fun e=>by subst e; cases h2
        have hc : c ≠ 0:=fun e=>by subst e; cases h3
        exact (h.swap hr hc).ren es
    · exact h.ren es
  | (t,.dat _ _) :: es,_,_,h=>h.ren es
  | (t,.cel _ _) :: es,_,_,h=>h.ren es
  | (t,.rdr) :: es,_,_,h=>h.ren es
  | (t,.cx _ _) :: es,_,_,h=>h.ren es
  | (t,.fn _) :: es,_,_,h=>h.ren es

theorem allOwn_spec {own : Loc→Bool} {f : List Nat→Loc} : ∀ {ps : List (List Nat)},allOwn own f ps = true→∀ p,inPaths p ps = true→own (f p) = true
  | [],_,p,hp=>by cases hp
  | q :: ps,h,p,hp=>by
    simp only [allOwn] at h
    cases ho : own (f q) with
    | false=>rw [ho] at h; cases h
    | true =>
      rw [ho] at h
      simp only [inPaths] at hp
      cases hb : pbeq p q with
      | true=>rw [pbeq_iff.1 hb]; exact ho
      | false=>rw [hb] at hp; exact allOwn_spec h p hp

theorem weak_rd : ∀ {r : Option Ty} {x : (rdTy r).val},packRd st r = some x→Weak (unpackRd st00 r x) st∧(∀ b d,(unpackRd st00 r x).box b = some d→False)∧(isSomeTy r = true→∃ d,(unpackRd st00 r x).rd = some d):=by
  intro r x h
  cases r with
  | none=>exact ⟨⟨fun t=>.inl (.inl rfl),fun t=>rfl,fun _ _ h=>(by cases h),fun _ h=>(by cases h),fun _ _ h=>(by cases h),fun _ _ h=>(by cases h),fun _ h=>(by cases h),fun _ _ h=>(by cases h),fun _ _ _ h=>(by cases h)⟩,fun _ _ h=>(by cases h),fun h=>(by cases h)⟩
  | some t =>
    unfold packRd at h
    cases hd : st.rd with
    | none=>rw [hd] at h; cases h
    | some d =>
      rw [hd] at h
      obtain ⟨h1,h2⟩:=cast_some h
      obtain ⟨dt,dv⟩:=d
      simp only at h1 h2
      subst h1; subst h2
      refine ⟨⟨fun t=>.inl (.inl rfl),fun t=>rfl,fun _ _ h=>(by cases h),fun _ h=>(by cases h),fun _ _ h=>(by cases h),fun _ _ h=>(by cases h),fun d' h=>?_,fun _ _ h=>(by cases h),fun _ _ _ h=>(by cases h)⟩,fun _ _ h=>(by cases h),fun _=>⟨_,rfl⟩⟩
      injection h with h; subst h; exact hd

theorem weak_io {r : Option Ty} : ∀ {is : List (Tmp × Ty)} {x : (ioTy is (rdTy r)).val},packIo st r is = some x →
    Weak (unpackIo st00 r is x) st∧(∀ b d,(unpackIo st00 r is x).box b = some d→False)∧(isSomeTy r = true→∃ d,(unpackIo st00 r is x).rd = some d)∧(∀ c,ioIn c is = true→∃ d,(unpackIo st00 r is x).io c = some d)∧(∀ b,(unpackIo st00 r is x).xb b = none)
  | [],x,h=>by
    obtain ⟨h1,h2,h3⟩:=weak_rd h
    exact ⟨h1,h2,h3,fun c hc=>(by cases hc),fun b=>by cases r <;> rfl⟩
  | (c, t) :: is, x, h => by
    simp only [packIo] at h
    cases hb : st.io c with
    | none=>rw [hb] at h; cases h
    | some d =>
      rw [hb] at h; simp only [] at h
      cases hc : Ty.cast d.1 t d.2 with
      | none=>rw [hc] at h; cases h
      | some y =>
        cases hp : packIo st r is with
        | none=>rw [hc,hp] at h; cases h
        | some z =>
          rw [hc,hp] at h
          injection h with h; subst h
          obtain ⟨h1,h2⟩:=cast_some hc
          obtain ⟨dt,dv⟩:=d
          simp only at h1 h2
          subst h1; subst h2
          obtain ⟨k1,k2,k3,k4,k5⟩:=weak_io (is:=is) hp
          have hio : ∀ k,(unpackIo st00 r ((c,dt) :: is) (y,z)).io k = cnd (Nat.beq k c) (some ⟨dt,y⟩) ((unpackIo st00 r is z).io k):=fun k=>rfl
          have keep : ∀ k,(∃ d,(unpackIo st00 r is z).io k = some d)→∃ d,(unpackIo st00 r ((c,dt) :: is) (y,z)).io k = some d:=by
            intro k hk
            rw [hio]
            cases Nat.beq k c with
            | true=>exact ⟨_,rfl⟩
            | false=>exact hk
          refine ⟨⟨fun t=>?_,k1.tag,k1.box,k1.own,k1.ownT,k1.ownB,k1.rd,fun k d hk=>?_,fun b t o hb'=>?_⟩,k2,k3,fun k hk=>?_,k5⟩
          · rcases k1.env t with h2 | h2 | h2 | h2 | ⟨k,p,d,h2,h3,h4⟩ | h2
            · exact .inl h2
            · exact .inr (.inl h2)
            · exact .inr (.inr (.inl h2))
            · exact .inr (.inr (.inr (.inl h2)))
            · obtain ⟨d',hd'⟩:=keep k ⟨d,h4⟩
              exact .inr (.inr (.inr (.inr (.inl ⟨k,p,d',h2,h3,hd'⟩))))
            · exact .inr (.inr (.inr (.inr (.inr h2))))
          · rw [hio] at hk
            cases hq : Nat.beq k c with
            | true=>rw [hq] at hk; rw [nbeq hq,hb]; exact hk
            | false=>rw [hq] at hk; exact k1.io k d hk
          · have hb' : (unpackIo st00 r is z).xb b = some (t,o):=hb'
            rw [k5] at hb'; cases hb'
          · simp only [ioIn] at hk
            cases hq : Nat.beq k c with
            | true=>rw [hio,hq]; exact ⟨_,rfl⟩
            | false=>rw [hq] at hk; exact keep k (k4 k hk)
theorem xbAll_spec {is : List (Tmp × Ty)} : ∀ {bs : List (Tmp × Ty × Tmp × List Nat)},xbAll st is bs = true →
    (∀ b t o,unpackXb bs b = some (t,o)→st.xb b = some (t,o)∧∀ r q,o = some (r,q)→ioIn r is = true)∧∀ b,xbIn b bs = true→∃ d,unpackXb bs b = some d
  | [],_=>⟨fun _ _ _ h=>(by cases h),fun _ h=>(by cases h)⟩
  | (b, t, r, q) :: bs, h => by
    simp only [xbAll] at h
    split at h
    · rename_i u r' q' hx
      cases h1 : Ty.beq u t with
      | false=>rw [h1] at h; cases h
      | true =>
      cases h2 : Nat.beq r' r with
      | false=>rw [h1,h2] at h; cases h
      | true =>
      cases h3 : pbeq q' q with
      | false=>rw [h1,h2,h3] at h; cases h
      | true =>
      cases h4 : ioIn r is with
      | false=>rw [h1,h2,h3,h4] at h; cases h
      | true =>
        rw [h1,h2,h3,h4] at h
        have h1:=Ty.of_beq h1
        have h2:=nbeq h2
        have h3:=pbeq_iff.1 h3
        subst h1; subst h2; subst h3
        obtain ⟨k1,k2⟩:=xbAll_spec (bs:=bs) h
        refine ⟨fun c t' o hc=>?_,fun c hc=>?_⟩
        · simp only [unpackXb] at hc
          cases hq : Nat.beq c b with
          | true =>
            rw [hq] at hc
            injection hc with hc; injection hc with e1 e2; subst e1; subst e2
            rw [nbeq hq]
            exact ⟨hx,fun r2 q2 he=>by injection he with he; injection he with he _; rw [← he]; exact h4⟩
          | false=>rw [hq] at hc; exact k1 c t' o hc
        · simp only [xbIn] at hc
          simp only [unpackXb]
          cases hq : Nat.beq c b with
          | true=>exact ⟨_,rfl⟩
          | false=>rw [hq] at hc; exact k2 c hc
    · cases h

structure Has (S : Shp) (s : St) : Prop where
  rd : isSomeTy S.rd = true→∃ d,s.rd = some d
  io : ∀ c,ioIn c S.io = true→∃ d,s.io c = some d
  xb : ∀ b,xbIn b S.xb = true→∃ d,s.xb b = some d
theorem weak_box {S : Shp} : ∀ {bs : List (Tmp × Ty × List (List Nat))} {x : (boxTy bs S.low).val},packBox st S bs = some x →
    Weak (unpackBox st00 S bs x) st∧(∀ b,boxIn b bs = true→∃ d,(unpackBox st00 S bs x).box b = some d)∧Has S (unpackBox st00 S bs x)
  | [], x, h => by
    simp only [packBox] at h
    cases hx : xbAll st S.io S.xb with
    | false=>rw [hx] at h; cases h
    | true =>
      rw [hx] at h
      obtain ⟨h1,h2,h3,h4,h5⟩:=weak_io (x:=x) h
      obtain ⟨g1,g2⟩:=xbAll_spec hx
      refine ⟨⟨fun t=>?_,h1.tag,h1.box,h1.own,h1.ownT,h1.ownB,h1.rd,h1.io,fun b t o hb=>?_⟩,fun b hb=>(by cases hb),h3,h4,g2⟩
      · rcases h1.env t with k | k | k | k | k | ⟨b,p,d,_,_,k⟩
        · exact .inl k
        · exact .inr (.inl k)
        · exact .inr (.inr (.inl k))
        · exact .inr (.inr (.inr (.inl k)))
        · exact .inr (.inr (.inr (.inr (.inl k))))
        · rw [h5] at k; cases k
      · obtain ⟨k1,k2⟩:=g1 b t o hb
        exact ⟨k1,fun r q ho=>h4 r (k2 r q ho)⟩
  | (b, t, ps) :: bs, x, h => by
    simp only [packBox] at h
    cases hb : st.box b with
    | none=>rw [hb] at h; cases h
    | some d =>
      rw [hb] at h; simp only [] at h
      cases hc : Ty.cast d.1 t d.2 with
      | none=>rw [hc] at h; cases h
      | some y =>
        cases ho : allOwn st.own (.box b ·) ps with
        | false=>rw [hc,ho] at h; cases h
        | true =>
          cases hp : packBox st S bs with
          | none=>rw [hc,ho,hp] at h; cases h
          | some z =>
            rw [hc,ho,hp] at h
            injection h with h; subst h
            obtain ⟨h1,h2⟩:=cast_some hc
            obtain ⟨dt,dv⟩:=d
            simp only at h1 h2
            subst h1; subst h2
            obtain ⟨k1,k2,k3⟩:=weak_box (bs:=bs) hp
            have hbox : ∀ c,(unpackBox st00 S ((b,dt,ps) :: bs) (y,z)).box c = cnd (Nat.beq c b) (some ⟨dt,y⟩) ((unpackBox st00 S bs z).box c):=fun c=>rfl
            have keep : ∀ c,(∃ d,(unpackBox st00 S bs z).box c = some d)→∃ d,(unpackBox st00 S ((b,dt,ps) :: bs) (y,z)).box c = some d:=by
              intro c hc
              rw [hbox]
              cases Nat.beq c b with
              | true=>exact ⟨_,rfl⟩
              | false=>exact hc
            refine ⟨⟨fun t=>?_,k1.tag,fun c d hc=>?_,fun l hl=>?_,k1.ownT,fun c p hc=>?_,k1.rd,k1.io,k1.xb⟩,fun c hc=>?_,⟨k3.rd,k3.io,k3.xb⟩⟩
            · rcases k1.env t with h2 | h2 | ⟨c,q,d,h2,h3,h4⟩ | h2
              · exact .inl h2
              · exact .inr (.inl h2)
              · obtain ⟨d',hd'⟩:=keep c ⟨d,h4⟩
                exact .inr (.inr (.inl ⟨c,q,d',h2,h3,hd'⟩))
              · exact .inr (.inr (.inr h2))
            · rw [hbox] at hc
              cases hq : Nat.beq c b with
              | true=>rw [hq] at hc; rw [nbeq hq,hb]; exact hc
              | false=>rw [hq] at hc; exact k1.box c d hc
            · cases l with
              | tmp t p=>exact k1.own _ hl
              | box c p =>
                have hl : cnd (Nat.beq c b) (inPaths p ps) ((unpackBox st00 S bs z).own (.box c p)) = true:=hl
                cases hq : Nat.beq c b with
                | true=>rw [hq] at hl; rw [nbeq hq]; exact allOwn_spec ho p hl
                | false=>rw [hq] at hl; exact k1.own _ hl
            · have hc : cnd (Nat.beq c b) (inPaths p ps) ((unpackBox st00 S bs z).own (.box c p)) = true:=hc
              rw [hbox]
              cases hq : Nat.beq c b with
              | true=>exact ⟨_,rfl⟩
              | false=>rw [hq] at hc; exact k1.ownB c p hc
            · simp only [boxIn] at hc
              cases hq : Nat.beq c b with
              | true=>rw [hbox,hq]; exact ⟨_,rfl⟩
              | false=>rw [hq] at hc; exact keep c (k2 c hc)

theorem weak_putE {s : St} {t : Tmp} {v : AV} {ps : List (List Nat)} (h : Weak s st) (hv : (∃ ty x,v = .dat ty x∧AV.as ty (st.env t).av = some x∧allOwn st.own (.tmp t ·) ps = true) ∨
    (ps = []∧((∃ b p d,v = .cel b p∧(st.env t).av = .cel b p∧s.box b = some d)∨(∃ d,v = .rdr []∧(st.env t).av = .rdr []∧s.rd = some d)∨(∃ r p d,v = .xf r p∧(st.env t).av = .xf r p∧s.io r = some d)∨(∃ b p d,v = .cx b p∧(st.env t).av = .cx b p∧s.xb b = some d)))) : Weak (putE s t v ps) st:=by
  have he : ∀ u,(putE s t v ps).env u = cnd (Nat.beq u t) ⟨v,none⟩ (s.env u):=fun u=>rfl
  have ho : ∀ u p,(putE s t v ps).own (.tmp u p) = cnd (Nat.beq u t) (inPaths p ps) (s.own (.tmp u p)):=fun u p=>rfl
  refine ⟨fun u=>?_,fun u=>?_,h.box,fun l hl=>?_,fun u p hu=>?_,h.ownB,h.rd,h.io,h.xb⟩
  · rw [he]
    cases hq : Nat.beq u t with
    | false=>exact h.env u
    | true =>
      rw [nbeq hq]
      rcases hv with ⟨ty,x,h1,h2,_⟩ | ⟨_,⟨b,p,d,h1,h2,h3⟩ | ⟨d,h1,h2,h3⟩ | ⟨r,p,d,h1,h2,h3⟩ | ⟨b,p,d,h1,h2,h3⟩⟩
      · exact .inr (.inl ⟨ty,x,h1,h2⟩)
      · exact .inr (.inr (.inl ⟨b,p,d,h1,h2,h3⟩))
      · exact .inr (.inr (.inr (.inl ⟨d,h1,h2,h3⟩)))
      · exact .inr (.inr (.inr (.inr (.inl ⟨r,p,d,h1,h2,h3⟩))))
      · exact .inr (.inr (.inr (.inr (.inr ⟨b,p,d,h1,h2,h3⟩))))
  · rw [he]
    cases Nat.beq u t with
    | false=>exact h.tag u
    | true=>rfl
  · cases l with
    | box c p=>exact h.own _ hl
    | tmp u p =>
      rw [ho] at hl
      cases hq : Nat.beq u t with
      | false=>rw [hq] at hl; exact h.own _ hl
      | true =>
        rw [hq] at hl; rw [nbeq hq]
        rcases hv with ⟨ty,x,_,_,h3⟩ | ⟨rfl,_⟩
        · exact allOwn_spec h3 p hl
        · cases hl
  · rw [ho] at hu
    rw [he]
    cases hq : Nat.beq u t with
    | false=>rw [hq] at hu; exact h.ownT u p hu
    | true =>
      rw [hq] at hu
      rcases hv with ⟨ty,x,h1,_,_⟩ | ⟨rfl,_⟩
      · exact ⟨ty,x,h1⟩
      · cases hu

theorem weak_putF {s : St} {t : Tmp} {f : FuncId} (h : Weak s st) (hv : (st.env t).av = .fn f) : Weak (putE s t (.fn f) []) st:=by
  have he : ∀ u,(putE s t (.fn f) []).env u = cnd (Nat.beq u t) ⟨.fn f,none⟩ (s.env u):=fun u=>rfl
  have ho : ∀ u p,(putE s t (.fn f) []).own (.tmp u p) = cnd (Nat.beq u t) (inPaths p []) (s.own (.tmp u p)):=fun u p=>rfl
  refine ⟨fun u=>?_,fun u=>?_,h.box,fun l hl=>?_,fun u p hu=>?_,h.ownB,h.rd,h.io,h.xb⟩
  · rw [he]
    cases hq : Nat.beq u t with
    | false=>exact h.env u
    | true=>rw [nbeq hq]; exact .inl (.inr ⟨f,rfl,hv⟩)
  · rw [he]
    cases Nat.beq u t with
    | false=>exact h.tag u
    | true=>rfl
  · cases l with
    | box c p=>exact h.own _ hl
    | tmp u p =>
      rw [ho] at hl
      cases hq : Nat.beq u t with
      | false=>rw [hq] at hl; exact h.own _ hl
      | true=>rw [hq] at hl; cases hl
  · rw [ho] at hu
    rw [he]
    cases hq : Nat.beq u t with
    | false=>rw [hq] at hu; exact h.ownT u p hu
    | true=>rw [hq] at hu; cases hu
theorem weak_env {S : Shp} : ∀ {es : List (Tmp × ShE)} {x : (envTy es (boxTy S.box S.low)).val},packEnv st S es = some x →
    Weak (unpackEnv st00 S es x) st∧(∀ b,boxIn b S.box = true→∃ d,(unpackEnv st00 S es x).box b = some d)∧Has S (unpackEnv st00 S es x)
  | [],x,h=>weak_box h
  | (t, .dat ty ps) :: es, x, h => by
    simp only [packEnv] at h
    cases hc : AV.as ty (st.env t).av with
    | none=>rw [hc] at h; cases h
    | some y =>
      cases ho : allOwn st.own (.tmp t ·) ps with
      | false=>rw [hc,ho] at h; cases h
      | true =>
        cases hp : packEnv st S es with
        | none=>rw [hc,ho,hp] at h; cases h
        | some z =>
          rw [hc,ho,hp] at h
          injection h with h; subst h
          obtain ⟨k1,k2,k3⟩:=weak_env (es:=es) hp
          exact ⟨weak_putE k1 (.inl ⟨ty,y,rfl,hc,ho⟩),k2,⟨k3.rd,k3.io,k3.xb⟩⟩
  | (t, .cel b p) :: es, x, h => by
    simp only [packEnv] at h
    split at h
    · rename_i c q hav
      cases hq : cnd (Nat.beq b c) (cnd (pbeq p q) (boxIn b S.box) false) false with
      | false=>rw [hq] at h; cases h
      | true =>
        rw [hq] at h
        cases h1 : Nat.beq b c with
        | false=>rw [h1] at hq; cases hq
        | true =>
          rw [h1] at hq
          cases h2 : pbeq p q with
          | false=>rw [h2] at hq; cases hq
          | true =>
            rw [h2] at hq
            have:=nbeq h1; subst this
            have:=pbeq_iff.1 h2; subst this
            obtain ⟨k1,k2,k3⟩:=weak_env (es:=es) (x:=x) h
            obtain ⟨d,hd⟩:=k2 b hq
            exact ⟨weak_putE k1 (.inr ⟨rfl,.inl ⟨b,p,d,rfl,hav,hd⟩⟩),k2,⟨k3.rd,k3.io,k3.xb⟩⟩
    · cases h
  | (t, .rdr) :: es, x, h => by
    simp only [packEnv] at h
    split at h
    · rename_i hav
      cases hq : isSomeTy S.rd with
      | false=>rw [hq] at h; cases h
      | true =>
        rw [hq] at h
        obtain ⟨k1,k2,k3⟩:=weak_env (es:=es) (x:=x) h
        obtain ⟨d,hd⟩:=k3.rd hq
        exact ⟨weak_putE k1 (.inr ⟨rfl,.inr (.inl ⟨d,rfl,hav,hd⟩)⟩),k2,⟨k3.rd,k3.io,k3.xb⟩⟩
    · cases h
  | (t, .xf r p) :: es, x, h => by
    simp only [packEnv] at h
    split at h
    · rename_i c q hav
      cases hq : cnd (Nat.beq r c) (cnd (pbeq p q) (ioIn r S.io) false) false with
      | false=>rw [hq] at h; cases h
      | true =>
        rw [hq] at h
        cases h1 : Nat.beq r c with
        | false=>rw [h1] at hq; cases hq
        | true =>
          rw [h1] at hq
          cases h2 : pbeq p q with
          | false=>rw [h2] at hq; cases hq
          | true =>
            rw [h2] at hq
            have:=nbeq h1; subst this
            have:=pbeq_iff.1 h2; subst this
            obtain ⟨k1,k2,k3⟩:=weak_env (es:=es) (x:=x) h
            obtain ⟨d,hd⟩:=k3.io r hq
            exact ⟨weak_putE k1 (.inr ⟨rfl,.inr (.inr (.inl ⟨r,p,d,rfl,hav,hd⟩))⟩),k2,⟨k3.rd,k3.io,k3.xb⟩⟩
    · cases h
  | (t, .cx r p) :: es, x, h => by
    simp only [packEnv] at h
    split at h
    · rename_i c q hav
      cases hq : cnd (Nat.beq r c) (cnd (pbeq p q) (xbIn r S.xb) false) false with
      | false=>rw [hq] at h; cases h
      | true =>
        rw [hq] at h
        cases h1 : Nat.beq r c with
        | false=>rw [h1] at hq; cases hq
        | true =>
          rw [h1] at hq
          cases h2 : pbeq p q with
          | false=>rw [h2] at hq; cases hq
          | true =>
            rw [h2] at hq
            have:=nbeq h1; subst this
            have:=pbeq_iff.1 h2; subst this
            obtain ⟨k1,k2,k3⟩:=weak_env (es:=es) (x:=x) h
            obtain ⟨d,hd⟩:=k3.xb r hq
            exact ⟨weak_putE k1 (.inr ⟨rfl,.inr (.inr (.inr ⟨r,p,d,rfl,hav,hd⟩))⟩),k2,⟨k3.rd,k3.io,k3.xb⟩⟩
    · cases h
  | (t, .fn f) :: es, x, h => by
    simp only [packEnv] at h
    split at h
    · rename_i g hav
      cases h1 : Nat.beq f g with
      | false=>rw [h1] at h; cases h
      | true =>
        rw [h1] at h
        have:=nbeq h1; subst this
        obtain ⟨k1,k2,k3⟩:=weak_env (es:=es) (x:=x) h
        exact ⟨weak_putF k1 hav,k2,⟨k3.rd,k3.io,k3.xb⟩⟩
    · cases h
theorem pack_weak {S : Shp} {x : S.ty.val} (h : pack S st = some x) : Weak (unpack S x) (renS st S.env):=(weak_env h).1
theorem Sim.packed {S : Shp} {x : S.ty.val} (h : Sim w0 lim0 rb n st a w lim β) (hp : pack S st = some x) : ∃ β',Sim w0 lim0 rb n (unpack S x) a w lim β':=by
  obtain ⟨β',h'⟩:=h.ren S.env
  exact ⟨β',h'.weak (pack_weak hp) unpack_rb⟩

theorem map_inl {α β γ : Type} {o : Option α} {e : α ⊕ β} (h : o.map (Sum.inl (β:=β)) = some e) : ∃ x,o = some x∧e = .inl x:=by
  cases o with
  | none=>cases h
  | some x=>injection h with h; exact ⟨x,rfl,h.symm⟩
theorem map_inr {α β : Type} {o : Option β} {e : α ⊕ β} (h : o.map (Sum.inr (α:=α)) = some e) : ∃ x,o = some x∧e = .inr x:=by
  cases o with
  | none=>cases h
  | some x=>injection h with h; exact ⟨x,rfl,h.symm⟩
theorem obind_some {α β : Type} {o : Option α} {f : α→Option β} {r : β} (h : obind o f = some r) : ∃ x,o = some x∧f x = some r:=by
  cases o with
  | none=>cases h
  | some x=>exact ⟨x,rfl,h⟩

theorem loop_sound {b : Code} {σ ρ : Type} {f : σ→Option (σ ⊕ ρ)} {U : σ→St} {Q : Exit→Act→World→Prop} {r : ρ}
    (hb : ∀ s e,f s = some e→∀ (k : σ→Prop) a w lim β,Sim w0 lim0 rb n (U s) a w lim β→(∀ s',e = .inl s'→k s')→(∀ r',e = .inr r'→r' = r) →
      b.wp P (Exit.then (fun a' w'=>∃ s' lim' β',k s'∧Sim w0 lim0 rb n (U s') a' w' lim' β') Q) a w) {fuel : Nat} {s0 : σ} (hi : iter fuel f s0 = some r)
    (h : Sim w0 lim0 rb n (U s0) a w lim β) : (Code.loop b).wp P Q a w:=by
  refine wp_loop_ghost (fun k a w=>∃ s lim β,iter k f s = some r∧Sim w0 lim0 rb n (U s) a w lim β) fuel ⟨s0,lim,β,hi,h⟩ ?_
  intro k a w ⟨s,lim,β,hk,hs⟩
  cases k with
  | zero=>cases hk
  | succ k =>
    simp only [iter] at hk
    cases hf : f s with
    | none=>rw [hf] at hk; cases hk
    | some e =>
      rw [hf] at hk
      refine Code.wp_mono ?_ (hb s e hf (fun s'=>iter k f s' = some r) a w lim β hs (fun s' he=>?_) (fun r' he=>?_))
      · intro x a' w' hx
        cases x <;> try exact hx
        obtain ⟨s',lim',β',h1,h2⟩:=hx
        exact ⟨k,Nat.lt_succ_self k,s',lim',β',h1,h2⟩
      · subst he; exact hk
      · subst he; injection hk

theorem cnd_cond {α : Type} (k b : Bool) (x y : α) : cnd k (cnd b x y) (cndS b x y) = cond b x y:=by cases k <;> cases b <;> rfl
theorem ERep_kn {st : St} {f : Tmp→Bool} {w : World} {lim : Lim} {β : Mp} {rb : Option Nat} {av : AV} {v : Value} (h : ERep st w lim β rb av v) : ERep { st with kn:=f } w lim β rb av v:=by cases av <;> exact h
theorem Sim.alike {st3 st' : St} (h : Sim w0 lim0 rb n st' a w lim β) (hA : Alike st3 st') : Sim w0 lim0 rb n st3 a w lim β:=by
  obtain ⟨f,rfl⟩:=hA
  exact ⟨h.size,h.defers,h.grow,h.limOld,h.xrb,fun t=>ERep_kn (h.env t),h.box,h.inj,fun l hl=>(by cases l <;> exact h.own _ hl),fun l g hl hg=>(by cases l <;> exact h.ownb _ g hl hg),fun l l' g h1 h2 h3 h4=>(by cases l <;> cases l' <;> exact h.sep _ _ g h1 h2 h3 h4),fun t l h1 h2=>(by cases l <;> exact h.tag t _ h1 h2),h.rd,h.xs.keep rfl rfl (fun _ _ _=>⟨rfl,rfl⟩) (fun _ _ _ _=>rfl) (fun _ _=>⟨rfl,rfl⟩) (fun b d hb=>h.xs.offb hb) (fun l g hl hg=>by cases l <;> exact h.xs.off (m:=_) hl hg)⟩
theorem ERep_mk {st : St} {f : Tmp→Bool} {w : World} {lim : Lim} {β : Mp} {rb : Option Nat} {av : AV} {v : Value} (h : ERep st w lim β rb av v) : ERep { st with mkt:=f } w lim β rb av v:=by cases av <;> exact h
theorem Sim.marks (h : Sim w0 lim0 rb n st a w lim β) (f : Tmp→Bool) : Sim w0 lim0 rb n { st with mkt:=f } a w lim β :=
  ⟨h.size,h.defers,h.grow,h.limOld,h.xrb,fun t=>ERep_mk (h.env t),h.box,h.inj,fun l hl=>(by cases l <;> exact h.own _ hl),fun l g hl hg=>(by cases l <;> exact h.ownb _ g hl hg),fun l l' g h1 h2 h3 h4=>(by cases l <;> cases l' <;> exact h.sep _ _ g h1 h2 h3 h4),fun t l h1 h2=>(by cases l <;> exact h.tag t _ h1 h2),h.rd,
    h.xs.keep rfl rfl (fun _ _ _=>⟨rfl,rfl⟩) (fun _ _ _ _=>rfl) (fun _ _=>⟨rfl,rfl⟩) (fun b d hb=>h.xs.offb hb) (fun l g hl hg=>by cases l <;> exact h.xs.off (m:=_) hl hg)⟩
end
end Go.Den

namespace Go.Den
section
variable {P : Program} {tab : Tab} {G : Gam} {w0 : Base} {lim0 : Lim} {rb : Option Nat} {n : Nat}
variable {st st' : St} {a : Act} {w : World} {lim : Lim} {β : Mp}

theorem XRep.blk : ∀ {t : Ty} {x : t.val} {cs : List Value} {B : Nat→Prop} {p : List Nat} {e : Ty} {v : Value} {g : Nat},XRep w t x cs B→typeAt t p = some (.slice e)→cs[offs t p]? = some v→blockOf v = some g→B g:=by
  intro t
  induction t with
  | slice u _ =>
    intro x cs B p e v g h ht hv hg
    cases p with
    | cons i p=>cases (typeAt_slice_slice ht).1
    | nil =>
      rcases h with ⟨h1,_,_⟩ | ⟨g',c,arr,e',fr,Bs,h1,_,_,_,_,h5,_⟩
      · rw [h1] at hv; simp [offs] at hv; subst hv; cases hg
      · rw [h1] at hv; simp [offs] at hv; subst hv; injection hg with hg; exact (h5 g).2 (.inl hg.symm)
  | prod p' q' ihp ihq =>
    intro x cs B p e v g h ht hv hg
    obtain ⟨c1,c2,B1,B2,rfl,h2,h3,h4,h5⟩:=h
    have l1:=h4.length
    cases p with
    | nil=>simp [typeAt] at ht
    | cons i p =>
      cases i with
      | zero =>
        simp only [typeAt] at ht
        simp only [offs] at hv
        have hlt:=typeAt_lt ht
        have hs : (Ty.slice e).size = 1:=rfl
        rw [List.getElem?_append_left (by omega)] at hv
        exact (h2 g).2 (.inl (ihp h4 ht hv hg))
      | succ i =>
        simp only [typeAt] at ht
        simp only [offs] at hv
        rw [List.getElem?_append_right (by omega),l1,show p'.size + offs q' (i :: p) - p'.size = offs q' (i :: p) by omega] at hv
        exact (h2 g).2 (.inr (ihq h5 ht hv hg))
  | int k=>intro x cs B p e v g h ht; cases p <;> simp [typeAt] at ht
  | bool=>intro x cs B p e v g h ht; cases p <;> simp [typeAt] at ht
  | str=>intro x cs B p e v g h ht; cases p <;> simp [typeAt] at ht
  | unit=>intro x cs B p e v g h ht; cases p <;> simp [typeAt] at ht
theorem XRep.inj : ∀ {t : Ty} {x : t.val} {cs : List Value} {B : Nat→Prop} {p q : List Nat} {e e' : Ty} {u v : Value} {g : Nat},XRep w t x cs B→typeAt t p = some (.slice e)→typeAt t q = some (.slice e') →
    cs[offs t p]? = some u→cs[offs t q]? = some v→blockOf u = some g→blockOf v = some g→p = q:=by
  intro t
  induction t with
  | slice d _ =>
    intro x cs B p q e e' u v g h hp hq _ _ _ _
    rw [(typeAt_slice_slice hp).1,(typeAt_slice_slice hq).1]
  | prod p' q' ihp ihq =>
    intro x cs B p q e e' u v g h hp hq hu hv hgu hgv
    obtain ⟨c1,c2,B1,B2,rfl,h2,h3,h4,h5⟩:=h
    have l1:=h4.length
    have left : ∀ {r : List Nat} {f : Ty} {z : Value},typeAt (.prod p' q') (0 :: r) = some (.slice f)→(c1 ++ c2)[offs (.prod p' q') (0 :: r)]? = some z→typeAt p' r = some (.slice f)∧c1[offs p' r]? = some z:=by
      intro r f z ht hz
      simp only [typeAt] at ht
      simp only [offs] at hz
      have hlt:=typeAt_lt ht
      have hs : (Ty.slice f).size = 1:=rfl
      rw [List.getElem?_append_left (by omega)] at hz
      exact ⟨ht,hz⟩
    have right : ∀ {i : Nat} {r : List Nat} {f : Ty} {z : Value},typeAt (.prod p' q') ((i + 1) :: r) = some (.slice f)→(c1 ++ c2)[offs (.prod p' q') ((i + 1) :: r)]? = some z→typeAt q' (i :: r) = some (.slice f)∧c2[offs q' (i :: r)]? = some z:=by
      intro i r f z ht hz
      simp only [typeAt] at ht
      simp only [offs] at hz
      rw [List.getElem?_append_right (by omega),l1,show p'.size + offs q' (i :: r) - p'.size = offs q' (i :: r) by omega] at hz
      exact ⟨ht,hz⟩
    cases p with
    | nil=>simp [typeAt] at hp
    | cons i p =>
      cases q with
      | nil=>simp [typeAt] at hq
      | cons j q =>
        cases i with
        | zero =>
          obtain ⟨a1,a2⟩:=left hp hu
          cases j with
          | zero =>
            obtain ⟨b1,b2⟩:=left hq hv
            rw [ihp h4 a1 b1 a2 b2 hgu hgv]
          | succ j =>
            obtain ⟨b1,b2⟩:=right hq hv
            exact absurd (h5.blk b1 b2 hgv) (h3 g (h4.blk a1 a2 hgu))
        | succ i =>
          obtain ⟨a1,a2⟩:=right hp hu
          cases j with
          | zero =>
            obtain ⟨b1,b2⟩:=left hq hv
            exact absurd (h5.blk a1 a2 hgu) (h3 g (h4.blk b1 b2 hgv))
          | succ j =>
            obtain ⟨b1,b2⟩:=right hq hv
            have:=ihq h5 a1 b1 a2 b2 hgu hgv
            injection this with e1 e2
            rw [e1,e2]
  | int k=>intro x cs B p q e e' u v g h hp; cases p <;> simp [typeAt] at hp
  | bool=>intro x cs B p q e e' u v g h hp; cases p <;> simp [typeAt] at hp
  | str=>intro x cs B p q e e' u v g h hp; cases p <;> simp [typeAt] at hp
  | unit=>intro x cs B p q e e' u v g h hp; cases p <;> simp [typeAt] at hp
def SeenIn (w : World) : (t : Ty)→List Value→Nat→Nat→Prop
  | .prod a b,cs,g,k=>SeenIn w a (cs.take a.size) g k∨SeenIn w b (cs.drop a.size) g k
  | .slice t,cs,g,k=>∃ g' m c arr el fr,cs = [.slice (some ⟨g',0,none⟩) m c]∧w.heap[g']? = some (.cells arr el fr)∧((g = g'∧k = m * t.size)∨∃ i,i < m∧SeenIn w t ((arr.toList.drop (i * t.size)).take t.size) g k)
  | _,_,_,_=>False
theorem seg {ds : List Value} {arr : Array Value} {i s : Nat} (hl : ds.length = s) (h : ∀ j v,ds[j]? = some v→arr[i * s + j]? = some v) : (arr.toList.drop (i * s)).take s = ds:=by
  apply List.ext_getElem?
  intro j
  by_cases hj : j < s
  · rw [List.getElem?_take_of_lt hj,List.getElem?_drop,Array.getElem?_toList,h j _ (List.getElem?_eq_getElem (by omega)),List.getElem?_eq_getElem (by omega)]
  · rw [List.getElem?_eq_none (by rw [List.length_take]; omega),List.getElem?_eq_none (by omega)]
theorem XRep.seen_blk : ∀ {t : Ty} {x : t.val} {cs : List Value} {B : Nat→Prop} {g k : Nat},XRep w t x cs B→SeenIn w t cs g k→B g
  | .int _,_,_,_,_,_,_,hs=>hs.elim
  | .bool,_,_,_,_,_,_,hs=>hs.elim
  | .str,_,_,_,_,_,_,hs=>hs.elim
  | .unit,_,_,_,_,_,_,hs=>hs.elim
  | .prod a b,_,_,_,_,_,h,hs=>by
    obtain ⟨c1,c2,B1,B2,rfl,h2,h3,h4,h5⟩:=h
    have l1:=h4.length
    rcases hs with hs | hs
    · rw [← l1,List.take_left] at hs
      exact (h2 _).2 (.inl (XRep.seen_blk h4 hs))
    · rw [← l1,List.drop_left] at hs
      exact (h2 _).2 (.inr (XRep.seen_blk h5 hs))
  | .slice t,xs,_,_,_,_,h,hs=>by
    obtain ⟨g',m,c',arr',el',fr',q1,q2,q3⟩:=hs
    rcases h with ⟨h1,_,_⟩ | ⟨g0,c,arr,e,fr,Bs,h1,h2,h3,h4,hf,h5,h6,h7,h8⟩
    · rw [h1] at q1; cases q1
    · rw [h1] at q1; injection q1 with q1 _; injection q1 with e1 e2 e3; injection e1 with e1; injection e1 with e1 _
      subst e1
      rw [h4] at q2; injection q2 with q2; injection q2 with e4 _ _; subst e4
      rcases q3 with ⟨q3,_⟩ | ⟨i,hi,q3⟩
      · exact (h5 _).2 (.inl q3)
      · obtain ⟨ds,k1,k2⟩:=h8 i _ (List.getElem?_eq_getElem (by show i < List.length (α:=t.val) xs; omega))
        rw [seg k1.length k2] at q3
        exact (h5 _).2 (.inr ⟨i,XRep.seen_blk k1 q3⟩)
theorem XRep.seen_inj : ∀ {t : Ty} {x : t.val} {cs : List Value} {B : Nat→Prop} {g k k' : Nat},XRep w t x cs B→SeenIn w t cs g k→SeenIn w t cs g k'→k = k'
  | .int _,_,_,_,_,_,_,_,hs,_=>hs.elim
  | .bool,_,_,_,_,_,_,_,hs,_=>hs.elim
  | .str,_,_,_,_,_,_,_,hs,_=>hs.elim
  | .unit,_,_,_,_,_,_,_,hs,_=>hs.elim
  | .prod a b,_,_,_,_,_,_,h,hs,hs'=>by
    obtain ⟨c1,c2,B1,B2,rfl,h2,h3,h4,h5⟩:=h
    have l1:=h4.length
    simp only [SeenIn] at hs hs'
    rw [← l1,List.take_left,List.drop_left] at hs hs'
    rcases hs with hs | hs <;> rcases hs' with hs' | hs'
    · exact XRep.seen_inj h4 hs hs'
    · exact absurd (XRep.seen_blk h5 hs') (h3 _ (XRep.seen_blk h4 hs))
    · exact absurd (XRep.seen_blk h5 hs) (h3 _ (XRep.seen_blk h4 hs'))
    · exact XRep.seen_inj h5 hs hs'
  | .slice t,xs,_,_,_,_,_,h,hs,hs'=>by
    obtain ⟨g',m,c',arr',el',fr',q1,q2,q3⟩:=hs
    obtain ⟨g2,m2,c2,arr2,el2,fr2,p1,p2,p3⟩:=hs'
    rcases h with ⟨h1,_,_⟩ | ⟨g0,c,arr,e,fr,Bs,h1,h2,h3,h4,hf,h5,h6,h7,h8⟩
    · rw [h1] at q1; cases q1
    · rw [h1] at q1; injection q1 with q1 _; injection q1 with e1 e2 e3; injection e1 with e1; injection e1 with e1 _
      rw [h1] at p1; injection p1 with p1 _; injection p1 with f1 f2 f3; injection f1 with f1; injection f1 with f1 _
      subst e1; subst f1
      rw [h4] at q2; injection q2 with q2; injection q2 with e4 _ _; subst e4
      rw [h4] at p2; injection p2 with p2; injection p2 with f4 _ _; subst f4
      rcases q3 with ⟨q3,q4⟩ | ⟨i,hi,q3⟩ <;> rcases p3 with ⟨p3,p4⟩ | ⟨i',hi',p3⟩
      · rw [q4,p4,← e2,← f2]
      · obtain ⟨ds,k1,k2⟩:=h8 i' _ (List.getElem?_eq_getElem (by show i' < List.length (α:=t.val) xs; omega))
        rw [seg k1.length k2] at p3
        exact absurd q3 (h6 i' _ (XRep.seen_blk k1 p3)).2
      · obtain ⟨ds,k1,k2⟩:=h8 i _ (List.getElem?_eq_getElem (by show i < List.length (α:=t.val) xs; omega))
        rw [seg k1.length k2] at q3
        exact absurd p3 (h6 i _ (XRep.seen_blk k1 q3)).2
      · obtain ⟨ds,k1,k2⟩:=h8 i _ (List.getElem?_eq_getElem (by show i < List.length (α:=t.val) xs; omega))
        rw [seg k1.length k2] at q3
        obtain ⟨ds',k1',k2'⟩:=h8 i' _ (List.getElem?_eq_getElem (by show i' < List.length (α:=t.val) xs; omega))
        rw [seg k1'.length k2'] at p3
        have:=h7 i i' _ (XRep.seen_blk k1 q3) (XRep.seen_blk k1' p3)
        subst this
        have hd : ds' = ds:=by rw [← seg k1.length k2,← seg k1'.length k2']
        subst hd
        exact XRep.seen_inj k1 q3 p3
theorem XRep.crep2 : ∀ {t : Ty} {x : t.val} {cs : List Value} {B : Nat→Prop},XRep w t x cs B→(∀ g k,SeenIn w t cs g k→lim g = some k)→CRep w lim t x cs
  | .int _,_,_,_,h,_=>h.1
  | .bool,_,_,_,h,_=>h.1
  | .str,_,_,_,h,_=>h.1
  | .unit,_,_,_,h,_=>h.1
  | .prod a b,_,_,_,h,hl=>by
    obtain ⟨c1,c2,B1,B2,rfl,h2,_,h4,h5⟩:=h
    have l1:=h4.length
    exact ⟨c1,c2,rfl,XRep.crep2 h4 (fun g k hs=>hl g k (.inl (by rw [← l1,List.take_left]; exact hs))),XRep.crep2 h5 (fun g k hs=>hl g k (.inr (by rw [← l1,List.drop_left]; exact hs)))⟩
  | .slice t,xs,cs,B,h,hl=>by
    rcases h with ⟨h1,h2,_⟩ | ⟨g,c,arr,e,fr,Bs,h1,h2,h3,h4,_,h5,h6,h7,h8⟩
    · exact ⟨none,0,by rw [h1,h2],by omega,.inl (List.eq_nil_of_length_eq_zero h2)⟩
    · refine ⟨some ⟨g,0,none⟩,c,h1,h2,.inr ⟨g,0,rfl,(Array.getElem?_eq_some_iff.1 h4).1,(by
        intro m hm
        have:=hl g (List.length (α:=t.val) xs * t.size) ⟨g,_,c,arr,e,fr,h1,h4,.inl ⟨rfl,rfl⟩⟩
        rw [hm] at this; injection this with this; rw [this]; omega),fun i x hx=>?_⟩⟩
      obtain ⟨ds,k1,k2⟩:=h8 i x hx
      refine ⟨ds,XRep.crep2 k1 (fun g' k' hs=>hl g' k' ⟨g,_,c,arr,e,fr,h1,h4,.inr ⟨i,(List.getElem?_eq_some_iff.1 hx).1,by rw [seg k1.length k2]; exact hs⟩⟩),fun j v hv=>?_⟩
      have:=k2 j v hv
      simp only [World.cell?,h4]
      simpa using this
theorem XRep.seen_at : ∀ {t : Ty} {x : t.val} {cs : List Value} {B : Nat→Prop} {p : List Nat} {e : Ty} {g m c : Nat},XRep w t x cs B→typeAt t p = some (.slice e)→cs[offs t p]? = some (.slice (some ⟨g,0,none⟩) m c)→SeenIn w t cs g (m * e.size):=by
  intro t
  induction t with
  | slice u _ =>
    intro x cs B p e g m c h ht hv
    cases p with
    | cons i p=>cases (typeAt_slice_slice ht).1
    | nil =>
      simp only [typeAt] at ht; injection ht with ht; injection ht with ht; subst ht
      rcases h with ⟨h1,_,_⟩ | ⟨g',c',arr,e',fr,Bs,h1,_,_,h4,_⟩
      · rw [h1] at hv; simp [offs] at hv
      · rw [h1] at hv; simp [offs] at hv
        obtain ⟨e1,e2,e3⟩:=hv
        subst e1
        exact ⟨g',_,c',arr,e',fr,h1,h4,.inl ⟨rfl,by rw [← e2]⟩⟩
  | prod p' q' ihp ihq =>
    intro x cs B p e g m c h ht hv
    obtain ⟨c1,c2,B1,B2,rfl,h2,h3,h4,h5⟩:=h
    have l1:=h4.length
    cases p with
    | nil=>simp [typeAt] at ht
    | cons i p =>
      cases i with
      | zero =>
        simp only [typeAt] at ht
        simp only [offs] at hv
        have hlt:=typeAt_lt ht
        have hs : (Ty.slice e).size = 1:=rfl
        rw [List.getElem?_append_left (by omega)] at hv
        exact .inl (by rw [← l1,List.take_left]; exact ihp h4 ht hv)
      | succ i =>
        simp only [typeAt] at ht
        simp only [offs] at hv
        rw [List.getElem?_append_right (by omega),l1,show p'.size + offs q' (i :: p) - p'.size = offs q' (i :: p) by omega] at hv
        exact .inr (by rw [← l1,List.drop_left]; exact ihq h5 ht hv)
  | int k=>intro x cs B p e g m c h ht; cases p <;> simp [typeAt] at ht
  | bool=>intro x cs B p e g m c h ht; cases p <;> simp [typeAt] at ht
  | str=>intro x cs B p e g m c h ht; cases p <;> simp [typeAt] at ht
  | unit=>intro x cs B p e g m c h ht; cases p <;> simp [typeAt] at ht
theorem XRep.tip : ∀ {t : Ty} {x : t.val} {cs : List Value} {B : Nat→Prop} {p : List Nat} {e : Ty},XRep w t x cs B→typeAt t p = some (.slice e)→∃ v,cs[offs t p]? = some v ∧
    (v = .slice none 0 0∨∃ g m c arr el fr,v = .slice (some ⟨g,0,none⟩) m c∧w.heap[g]? = some (.cells arr el fr)∧(∀ o,o < arr.size→¬ (fr.1≤o∧o < fr.2))∧m≤c∧c * e.size≤arr.size∧B g):=by
  intro t
  induction t with
  | slice u _ =>
    intro x cs B p e h ht
    cases p with
    | cons i p=>cases (typeAt_slice_slice ht).1
    | nil =>
      simp only [typeAt] at ht; injection ht with ht; injection ht with ht; subst ht
      rcases h with ⟨h1,h2,_⟩ | ⟨g',c,arr,e',fr,Bs,h1,h2,h3,h4,hf,h5,_⟩
      · exact ⟨_,by rw [h1]; simp [offs],.inl rfl⟩
      · exact ⟨_,by rw [h1]; simp [offs],.inr ⟨g',_,c,arr,e',fr,rfl,h4,hf,h2,h3,(h5 g').2 (.inl rfl)⟩⟩
  | prod p' q' ihp ihq =>
    intro x cs B p e h ht
    obtain ⟨c1,c2,B1,B2,rfl,h2,h3,h4,h5⟩:=h
    have l1:=h4.length
    cases p with
    | nil=>simp [typeAt] at ht
    | cons i p =>
      cases i with
      | zero =>
        simp only [typeAt] at ht
        obtain ⟨v,k1,k2⟩:=ihp h4 ht
        refine ⟨v,by simp only [offs]; rw [List.getElem?_append_left (List.getElem?_eq_some_iff.1 k1).1]; exact k1,?_⟩
        rcases k2 with k2 | ⟨g,m,c,arr,el,fr,k2,k3,k4,k5,k6,k7⟩
        · exact .inl k2
        · exact .inr ⟨g,m,c,arr,el,fr,k2,k3,k4,k5,k6,(h2 g).2 (.inl k7)⟩
      | succ i =>
        simp only [typeAt] at ht
        obtain ⟨v,k1,k2⟩:=ihq h5 ht
        refine ⟨v,by simp only [offs]; rw [List.getElem?_append_right (by omega),l1,show p'.size + offs q' (i :: p) - p'.size = offs q' (i :: p) by omega]; exact k1,?_⟩
        rcases k2 with k2 | ⟨g,m,c,arr,el,fr,k2,k3,k4,k5,k6,k7⟩
        · exact .inl k2
        · exact .inr ⟨g,m,c,arr,el,fr,k2,k3,k4,k5,k6,(h2 g).2 (.inr k7)⟩
  | int k=>intro x cs B p e h ht; cases p <;> simp [typeAt] at ht
  | bool=>intro x cs B p e h ht; cases p <;> simp [typeAt] at ht
  | str=>intro x cs B p e h ht; cases p <;> simp [typeAt] at ht
  | unit=>intro x cs B p e h ht; cases p <;> simp [typeAt] at ht

theorem getF_paths : ∀ {t : Ty} {x : t.val} {i : Nat} {d : Dat} {p : List Nat},getF t x i = some d→p ∈ slicePaths d.1→(i :: p) ∈ slicePaths t:=by
  intro t
  induction t with
  | prod a b _ ihb =>
    intro x i d p hf hp
    cases i with
    | zero =>
      simp only [getF] at hf; injection hf with hf; subst hf
      simp only [slicePaths]
      exact List.mem_append_left _ (List.mem_map.2 ⟨p,hp,rfl⟩)
    | succ i =>
      simp only [getF] at hf
      have:=ihb hf hp
      cases b with
      | prod u v=>rw [slicePaths]; exact List.mem_append_right _ (List.mem_map.2 ⟨i :: p,this,rfl⟩)
      | _=>cases hf
  | _=>intro x i d p hf; cases hf
theorem getP_paths : ∀ {q : List Nat} {t : Ty} {x : t.val} {y : Dat} {p : List Nat},getP t x q = some y→p ∈ slicePaths y.1→(q ++ p) ∈ slicePaths t
  | [],t,x,y,p,h,hp=>by simp only [getP] at h; injection h with h; subst h; exact hp
  | i :: q,t,x,y,p,h,hp=>by
    simp only [getP] at h
    cases hf : getF t x i with
    | none=>rw [hf] at h; cases h
    | some d =>
      rw [hf] at h
      exact getF_paths hf (getP_paths h hp)
theorem XRep.el : ∀ {u : Ty} {xs : (Ty.slice u).val} {cs : List Value} {B : Nat→Prop} {v : Value},XRep w (.slice u) xs cs B→cs[0]? = some v→∀ {i : Nat} {q : List Nat} {e' : Ty} {z : Value},typeAt u q = some (.slice e')→elemAt w u v i q = some z →
    ∃ (x : u.val) (ds : List Value) (Bi : Nat→Prop),XRep w u x ds Bi∧ds[offs u q]? = some z∧(∀ g,Bi g→B g∧blockOf v ≠ some g)∧(∀ g k,SeenIn w u ds g k→SeenIn w (.slice u) cs g k) ∧
      ∀ {j : Nat} {r : List Nat} {e'' : Ty} {z' : Value},typeAt u r = some (.slice e'')→elemAt w u v j r = some z'→∀ g,Bi g→blockOf z' = some g→i = j∧ds[offs u r]? = some z':=by
  intro u xs cs B v h hv i q e' z hq hz
  rcases h with ⟨h1,_,_⟩ | ⟨g,c,arr,el,fr,Bs,h1,h2,h3,h4,hf,h5,h6,h7,h8⟩
  · rw [h1] at hv; simp at hv; subst hv; cases hz
  · rw [h1] at hv; simp at hv; subst hv
    have get : ∀ {j : Nat} {r : List Nat} {e'' : Ty} {z' : Value},typeAt u r = some (.slice e'')→elemAt w u (.slice (some ⟨g,0,none⟩) (List.length (α:=u.val) xs) c) j r = some z'→∃ (x : u.val) (ds : List Value),XRep w u x ds (Bs j)∧ds[offs u r]? = some z'∧j < List.length (α:=u.val) xs∧(arr.toList.drop (j * u.size)).take u.size = ds:=by
      intro j r e'' z' hr hz'
      have hlt:=typeAt_lt hr
      have hs1 : (Ty.slice e'').size = 1:=rfl
      simp only [elemAt] at hz'
      split at hz'
      · rename_i hj
        obtain ⟨ds,k1,k2⟩:=h8 j _ (List.getElem?_eq_getElem (by show j < List.length (α:=u.val) xs; exact hj))
        have hdl:=k1.length
        have k3:=k2 (offs u r) _ (List.getElem?_eq_getElem (by omega))
        refine ⟨_,ds,k1,?_,hj,seg k1.length k2⟩
        simp only [World.cell?,h4,Option.isSome_none,Bool.false_eq_true,if_false,Nat.zero_add] at hz'
        rw [hz'] at k3; injection k3 with k3
        rw [List.getElem?_eq_getElem (by omega),← k3]
      · cases hz'
    obtain ⟨x,ds,a1,a2,a3,a4⟩:=get hq hz
    refine ⟨x,ds,Bs i,a1,a2,fun g' hg'=>⟨(h5 g').2 (.inr ⟨i,hg'⟩),fun hb=>(h6 i g' hg').2 (by injection hb with hb; exact hb.symm)⟩,fun g' k hs=>⟨g,_,c,arr,el,fr,h1,h4,.inr ⟨i,a3,by rw [a4]; exact hs⟩⟩,fun {j r e'' z'} hr hz' g' hg' hb=>?_⟩
    obtain ⟨x',ds',b1,b2,b3,b4⟩:=get hr hz'
    have:=h7 i j g' hg' (b1.blk hr b2 hb)
    subst this
    rw [a4] at b4; subst b4
    exact ⟨rfl,b2⟩
theorem XRep.blkT : ∀ {t : Ty} {x : t.val} {cs : List Value} {B : Nat→Prop} {p : List Nat} {T : Ty} {v : Value} {g : Nat},XRep w t x cs B→typeAt t p = some T→cs[offs t p]? = some v→Blk w T v g→B g:=by
  intro t
  induction t with
  | slice u _ =>
    intro x cs B p T v g h ht hv hg
    rcases typeAt_slice ht with ⟨rfl,rfl⟩ | ⟨rfl,rfl⟩
    · exact h.blk (p:=[]) rfl hv hg
    · have hv : cs[0]? = some v:=hv
      obtain ⟨i,q,e',z,a1,a2,a3⟩:=hg
      obtain ⟨y,ds,Bi,b1,b2,b3,_,_⟩:=h.el hv a1 a2
      exact (b3 g (b1.blk a1 b2 a3)).1
  | prod p' q' ihp ihq =>
    intro x cs B p T v g h ht hv hg
    obtain ⟨c1,c2,B1,B2,rfl,h2,h3,h4,h5⟩:=h
    have l1:=h4.length
    cases p with
    | nil =>
      simp only [typeAt] at ht; injection ht with ht; subst ht
      have ho:=hg.oty
      cases p' with
      | slice e =>
        cases q' with
        | unit =>
          have hs : (Ty.slice e).size = 1:=rfl
          rw [show offs (.prod (.slice e) .unit) [] = 0 from rfl,List.getElem?_append_left (by omega)] at hv
          exact (h2 g).2 (.inl (ihp (p:=[0]) h4 rfl hv hg))
        | _=>cases ho
      | _=>cases ho
    | cons i p =>
      cases i with
      | zero =>
        simp only [typeAt] at ht
        simp only [offs] at hv
        have hlt:=typeAt_lt ht
        have hs : T.size = 1:=oty_size hg.oty
        rw [List.getElem?_append_left (by omega)] at hv
        exact (h2 g).2 (.inl (ihp h4 ht hv hg))
      | succ i =>
        simp only [typeAt] at ht
        simp only [offs] at hv
        rw [List.getElem?_append_right (by omega),l1,show p'.size + offs q' (i :: p) - p'.size = offs q' (i :: p) by omega] at hv
        exact (h2 g).2 (.inr (ihq h5 ht hv hg))
  | int k=>intro x cs B p T v g h ht hv hg; cases p <;> simp [typeAt] at ht; subst ht; cases hg
  | bool=>intro x cs B p T v g h ht hv hg; cases p <;> simp [typeAt] at ht; subst ht; cases hg
  | str=>intro x cs B p T v g h ht hv hg; cases p <;> simp [typeAt] at ht; subst ht; cases hg
  | unit=>intro x cs B p T v g h ht hv hg; cases p <;> simp [typeAt] at ht; subst ht; cases hg
theorem XRep.sepT : ∀ {t : Ty} {x : t.val} {cs : List Value} {B : Nat→Prop} {p q : List Nat} {T T' : Ty} {u v : Value} {g : Nat},XRep w t x cs B→p ∈ slicePaths t→q ∈ slicePaths t→typeAt t p = some T→typeAt t q = some T' →
    cs[offs t p]? = some u→cs[offs t q]? = some v→Blk w T u g→Blk w T' v g→p = q:=by
  intro t
  induction t with
  | slice d _ =>
    intro x cs B p q T T' u v g h hp hq ht ht' hu hv hgu hgv
    have key : ∀ {u v : Value},cs[0]? = some u→cs[0]? = some v→Blk w (.slice d) u g→Blk w (.prod (.slice d) .unit) v g→False:=by
      intro u v hu hv hgu hgv
      rw [hu] at hv; injection hv with hv; subst hv
      obtain ⟨i,q,e',z,a1,a2,a3⟩:=hgv
      obtain ⟨y,ds,Bi,b1,b2,b3,_,_⟩:=h.el hu a1 a2
      exact (b3 g (b1.blk a1 b2 a3)).2 hgu
    rcases typeAt_slice ht with ⟨rfl,rfl⟩ | ⟨rfl,rfl⟩ <;> rcases typeAt_slice ht' with ⟨rfl,rfl⟩ | ⟨rfl,rfl⟩
    · rfl
    · exact (key hu hv hgu hgv).elim
    · exact (key hv hu hgv hgu).elim
    · rfl
  | prod p' q' ihp ihq =>
    intro x cs B p q T T' u v g h hp hq ht ht' hu hv hgu hgv
    obtain ⟨c1,c2,B1,B2,rfl,h2,h3,h4,h5⟩:=h
    have l1:=h4.length
    have part : ∀ {r : List Nat},r ∈ slicePaths (.prod p' q')→(∃ s,r = 0 :: s∧s ∈ slicePaths p')∨∃ i s,r = (i + 1) :: s∧(i :: s) ∈ slicePaths q':=by
      intro r hr
      simp only [slicePaths,List.mem_append,List.mem_map] at hr
      rcases hr with ⟨s,hs,rfl⟩ | hr
      · exact .inl ⟨s,rfl,hs⟩
      · cases q' with
        | prod c d =>
          obtain ⟨i,s,e,hs⟩:=mem_bump hr (fun s hs=>(slicePaths_spec hs).2 rfl)
          exact .inr ⟨i,s,e,hs⟩
        | _=>simp at hr
    have left : ∀ {r : List Nat} {S : Ty} {z : Value},Blk w S z g→typeAt (.prod p' q') (0 :: r) = some S→(c1 ++ c2)[offs (.prod p' q') (0 :: r)]? = some z→typeAt p' r = some S∧c1[offs p' r]? = some z:=by
      intro r S z hg ht hz
      simp only [typeAt] at ht
      simp only [offs] at hz
      have hlt:=typeAt_lt ht
      have hs : S.size = 1:=oty_size hg.oty
      rw [List.getElem?_append_left (by omega)] at hz
      exact ⟨ht,hz⟩
    have right : ∀ {i : Nat} {r : List Nat} {S : Ty} {z : Value},typeAt (.prod p' q') ((i + 1) :: r) = some S→(c1 ++ c2)[offs (.prod p' q') ((i + 1) :: r)]? = some z→typeAt q' (i :: r) = some S∧c2[offs q' (i :: r)]? = some z:=by
      intro i r S z ht hz
      simp only [typeAt] at ht
      simp only [offs] at hz
      rw [List.getElem?_append_right (by omega),l1,show p'.size + offs q' (i :: r) - p'.size = offs q' (i :: r) by omega] at hz
      exact ⟨ht,hz⟩
    rcases part hp with ⟨s,rfl,hs⟩ | ⟨i,s,rfl,hs⟩ <;> rcases part hq with ⟨s',rfl,hs'⟩ | ⟨j,s',rfl,hs'⟩
    · obtain ⟨a1,a2⟩:=left hgu ht hu
      obtain ⟨b1,b2⟩:=left hgv ht' hv
      rw [ihp h4 hs hs' a1 b1 a2 b2 hgu hgv]
    · obtain ⟨a1,a2⟩:=left hgu ht hu
      obtain ⟨b1,b2⟩:=right ht' hv
      exact absurd (h5.blkT b1 b2 hgv) (h3 g (h4.blkT a1 a2 hgu))
    · obtain ⟨a1,a2⟩:=right ht hu
      obtain ⟨b1,b2⟩:=left hgv ht' hv
      exact absurd (h5.blkT a1 a2 hgu) (h3 g (h4.blkT b1 b2 hgv))
    · obtain ⟨a1,a2⟩:=right ht hu
      obtain ⟨b1,b2⟩:=right ht' hv
      have:=ihq h5 hs hs' a1 b1 a2 b2 hgu hgv
      injection this with e1 e2
      rw [e1,e2]
  | int k=>intro x cs B p q T T' u v g h hp; simp [slicePaths] at hp
  | bool=>intro x cs B p q T T' u v g h hp; simp [slicePaths] at hp
  | str=>intro x cs B p q T T' u v g h hp; simp [slicePaths] at hp
  | unit=>intro x cs B p q T T' u v g h hp; simp [slicePaths] at hp
theorem XRep.ownT {base : Nat→Prop} : ∀ {t : Ty} {x : t.val} {cs : List Value} {B : Nat→Prop} {p : List Nat} {T : Ty},XRep w t x cs B→(∀ g k,SeenIn w t cs g k→lim g = some k)→(∀ g,B g→base g)→typeAt t p = some T→OTy T = true →
    ∃ v,cs[offs t p]? = some v∧OwnT w lim base T v:=by
  intro t
  induction t with
  | slice u ihu =>
    intro x cs B p T h hl hb ht ho
    rcases typeAt_slice ht with ⟨rfl,rfl⟩ | ⟨rfl,rfl⟩
    · obtain ⟨v,k1,k2⟩:=h.tip (p:=[]) rfl
      refine ⟨v,k1,?_⟩
      rcases k2 with k2 | ⟨g,m,c,arr,el,fr,q1,q2,q3,q4,q5,q6⟩
      · exact .inl k2
      · exact .inr ⟨g,m,c,arr,el,fr,q1,hb g q6,q2,q3,q4,q5,hl g _ (h.seen_at (p:=[]) rfl (by rw [k1,q1]))⟩
    · obtain ⟨v,k1,k2⟩:=h.tip (p:=[]) rfl
      have hv : cs[0]? = some v:=k1
      refine ⟨v,k1,fun i q e' z hq hz=>?_,fun i q e' z j r e'' z' g hq hr hz hz' hg hg'=>?_⟩
      · obtain ⟨y,ds,Bi,b1,b2,b3,b4,_⟩:=h.el hv hq hz
        obtain ⟨v',c1,c2⟩:=ihu b1 (fun g k hs=>hl g k (b4 g k hs)) (fun g hg=>hb g (b3 g hg).1) hq rfl
        rw [b2] at c1; injection c1 with c1; subst c1
        exact c2
      · obtain ⟨y,ds,Bi,b1,b2,b3,b4,b5⟩:=h.el hv hq hz
        obtain ⟨c1,c2⟩:=b5 hr hz' g (b1.blk hq b2 hg) hg'
        exact ⟨c1,b1.inj hq hr b2 c2 hg hg'⟩
  | prod p' q' ihp ihq =>
    intro x cs B p T h hl hb ht ho
    obtain ⟨c1,c2,B1,B2,rfl,h2,h3,h4,h5⟩:=h
    have l1:=h4.length
    have hl1 : ∀ g k,SeenIn w p' c1 g k→lim g = some k:=fun g k hs=>hl g k (.inl (by rw [← l1,List.take_left]; exact hs))
    have hl2 : ∀ g k,SeenIn w q' c2 g k→lim g = some k:=fun g k hs=>hl g k (.inr (by rw [← l1,List.drop_left]; exact hs))
    cases p with
    | nil =>
      simp only [typeAt] at ht; injection ht with ht; subst ht
      cases p' with
      | slice e =>
        cases q' with
        | unit =>
          obtain ⟨v,k1,k2⟩:=ihp (p:=[0]) h4 hl1 (fun g hg=>hb g ((h2 g).2 (.inl hg))) rfl rfl
          have k1 : c1[0]? = some v:=k1
          exact ⟨v,by rw [show offs (.prod (.slice e) .unit) [] = 0 from rfl,List.getElem?_append_left (List.getElem?_eq_some_iff.1 k1).1]; exact k1,k2⟩
        | _=>cases ho
      | _=>cases ho
    | cons i p =>
      cases i with
      | zero =>
        simp only [typeAt] at ht
        obtain ⟨v,k1,k2⟩:=ihp h4 hl1 (fun g hg=>hb g ((h2 g).2 (.inl hg))) ht ho
        exact ⟨v,by simp only [offs]; rw [List.getElem?_append_left (List.getElem?_eq_some_iff.1 k1).1]; exact k1,k2⟩
      | succ i =>
        simp only [typeAt] at ht
        obtain ⟨v,k1,k2⟩:=ihq h5 hl2 (fun g hg=>hb g ((h2 g).2 (.inr hg))) ht ho
        refine ⟨v,?_,k2⟩
        simp only [offs]
        rw [List.getElem?_append_right (by omega),l1,show p'.size + offs q' (i :: p) - p'.size = offs q' (i :: p) by omega]; exact k1
  | int k=>intro x cs B p T h _ _ ht ho; cases p <;> simp [typeAt] at ht; subst ht; cases ho
  | bool=>intro x cs B p T h _ _ ht ho; cases p <;> simp [typeAt] at ht; subst ht; cases ho
  | str=>intro x cs B p T h _ _ ht ho; cases p <;> simp [typeAt] at ht; subst ht; cases ho
  | unit=>intro x cs B p T h _ _ ht ho; cases p <;> simp [typeAt] at ht; subst ht; cases ho

theorem soleIn_inj {r t u : Tmp} {q q' : List Nat} (h1 : (st.env t).av = .xf r q) (h2 : (st.env u).av = .xf r q') : ∀ {rs : List ResultVar},soleIn st r t rs = true→soleIn st r u rs = true→t = u
  | [],h,_=>by cases h
  | .cell _ _ :: rs,h,k=>soleIn_inj h1 h2 (rs:=rs) h k
  | .tmp x :: rs,h,k=>by
    simp only [soleIn] at h k
    cases ht : Nat.beq x t with
    | true =>
      have et:=nbeq ht
      rw [ht] at h; simp only [cnd_true] at h
      have hr : rootIn st r rs = false:=by cases hq : rootIn st r rs with
        | false=>rfl
        | true=>rw [hq] at h; cases h
      cases hu : Nat.beq x u with
      | true=>rw [← et,nbeq hu]
      | false =>
        rw [hu] at k; simp only [cnd_false] at k
        rw [et,h1] at k
        simp only [] at k
        have : Nat.beq r r = true:=Nat.beq_refl r
        rw [this] at k; cases k
    | false =>
      rw [ht] at h; simp only [cnd_false] at h
      cases hu : Nat.beq x u with
      | true =>
        have eu:=nbeq hu
        rw [eu,h2] at h
        simp only [] at h
        have : Nat.beq r r = true:=Nat.beq_refl r
        rw [this] at h; cases h
      | false =>
        rw [hu] at k; simp only [cnd_false] at k
        split at h
        · rename_i c p hav
          rw [hav] at k; simp only [] at k
          cases hc : Nat.beq c r with
          | true=>rw [hc] at h; cases h
          | false=>rw [hc] at h k; exact soleIn_inj h1 h2 (rs:=rs) h k
        · rename_i hno
          split at k
          · rename_i c p hav; exact absurd hav (hno c p)
          · exact soleIn_inj h1 h2 (rs:=rs) h k

def seenTo (st : St) (β : Mp) (w : World) (g k : Nat) : Prop:=∃ r d,st.io r = some d∧SeenIn w d.1 (flatV (β.V r)) g k
open Classical in
noncomputable def limF (st : St) (β : Mp) (w : World) (lim : Lim) : Lim:=fun g=>if h : ∃ k,seenTo st β w g k then some h.choose else lim g
theorem seen_tree (h : Sim w0 lim0 rb n st a w lim β) {g k : Nat} (hs : seenTo st β w g k) : isTree st β g:=by
  obtain ⟨r,d,h1,h2⟩:=hs
  exact .inl ⟨r,d,h1,(h.xs.io r d h1).seen_blk h2⟩
theorem limF_of (h : Sim w0 lim0 rb n st a w lim β) {g k : Nat} (hs : seenTo st β w g k) : limF st β w lim g = some k:=by
  unfold limF
  have hex : ∃ k,seenTo st β w g k:=⟨k,hs⟩
  rw [dif_pos hex]
  obtain ⟨r,d,h1,h2⟩:=hs
  obtain ⟨r',d',k1,k2⟩:=hex.choose_spec
  have X:=h.xs.io r d h1
  have X':=h.xs.io r' d' k1
  have:=h.xs.dis r d r' d' g h1 k1 (X.seen_blk h2) (X'.seen_blk k2)
  subst this
  rw [h1] at k1; injection k1 with k1; subst k1
  rw [X.seen_inj k2 h2]
theorem limF_off (h : Sim w0 lim0 rb n st a w lim β) {g : Nat} (hs : ¬ isTree st β g) : limF st β w lim g = lim g:=by
  unfold limF
  rw [dif_neg (fun ⟨k,hk⟩=>hs (seen_tree h hk))]
theorem ext_limF (h : Sim w0 lim0 rb n st a w lim β) : Ext w lim w (limF st β w lim) :=
  ⟨Nat.le_refl _,fun _ _ _ _ _ h=>h,fun b m _ hu k hk=>by
    by_cases ht : isTree st β b
    · have:=hu 0 (h.xs.lt ht).2.2
      omega
    · rw [limF_off h ht] at hk; exact hu k hk⟩
theorem flat_wrap {t : Ty} {x : t.val} {cs : List Value} (h : CRep w lim t x cs) : flatV (wrapV t cs) = cs:=by
  rw [flat_TRep (t:=t) (x:=x) (w:=w) (lim:=lim) ⟨cs,h,rfl⟩,wrapV_cells h]

theorem Sim.frz (h : Sim w0 lim0 rb n st a w lim β) (rs : List ResultVar) (hrb : ∀ k,some k = rb→k < w0.heap.size) : Sim w0 lim0 rb n (Den.frz rs st) a w (limF st β w lim) β:=by
  have hnr : ∀ g,isTree st β g→w0.fr g:=fun g hg=>(h.xs.lt hg).2.1
  have hext:=ext_limF h
  have xval : ∀ t r q,(st.env t).av = .xf r q→∀ y,st.atX r q = some y→∃ d cs,st.io r = some d∧getP d.1 d.2 q = some y∧CRep w (limF st β w lim) y.1 y.2 cs∧tmpOf a t = wrapV y.1 cs∧∀ k v,cs[k]? = some v→(flatV (β.V r))[offs d.1 q + k]? = some v:=by
    intro t r q hav y hy
    obtain ⟨d,hio,hv⟩:=xf_val h (x:=.tmp t) hav hy
    obtain ⟨d2,Bu,m1,m2,m3,m6,m7,m8⟩:=h.atX hy
    rw [hio] at m1; injection m1 with m1; subst m1
    have hw:=((h.xs.io r d hio).crep2 (lim:=limF st β w lim) (fun g k hs=>limF_of h ⟨r,d,hio,hs⟩))
    obtain ⟨c1,c2,c3,q1,q2,q3,_⟩:=hw.part m2
    have hc2 : ((flatV (β.V r)).drop (offs d.1 q)).take y.1.size = c2:=by
      rw [q1,← q2,List.drop_left,← q3.length,List.take_left]
    refine ⟨d,c2,hio,m2,q3,by rw [← hc2]; exact hv,fun k v hk=>?_⟩
    rw [q1,← q2,List.getElem?_append_right (by omega),show c1.length + k - c1.length = k by omega,List.getElem?_append_left (List.getElem?_eq_some_iff.1 hk).1]; exact hk
  -- what is owned then
  have ownc : ∀ l,(Den.frz rs st).own l = true→(st.own l = true∧locTy (Den.frz rs st) l = locTy st l∧locV (Den.frz rs st) a w β l = locV st a w β l) ∨
      ∃ t p r q y d,l = .tmp t p∧(st.env t).av = .xf r q∧st.atX r q = some y∧st.io r = some d∧soleIn st r t rs = true∧(q ++ p) ∈ slicePaths d.1∧(∃ T v,typeAt d.1 (q ++ p) = some T∧OTy T = true∧(flatV (β.V r))[offs d.1 (q ++ p)]? = some v∧locTy (Den.frz rs st) l = some T∧locV (Den.frz rs st) a w β l = some v):=by
    intro l hl
    cases l with
    | box b p=>exact .inl ⟨hl,rfl,rfl⟩
    | tmp t p =>
      simp only [Den.frz] at hl
      split at hl
      · rename_i r q hav
        split at hl
        · rename_i y hy
          cases hso : soleIn st r t rs with
          | false=>rw [hso] at hl; cases hl
          | true =>
            rw [hso] at hl
            have hp:=inPaths_iff.1 hl
            obtain ⟨⟨e,he,hoe⟩,_⟩:=slicePaths_spec hp
            obtain ⟨d,cs,k1,k2,k3,k4,k5⟩:=xval t r q hav y hy
            obtain ⟨g1,g2⟩:=getP_app k2 p he
            obtain ⟨v,hv,_⟩:=(h.xs.io r d k1).ownT (lim:=limF st β w lim) (base:=w0.fr) (fun g k hs=>limF_of h ⟨r,d,k1,hs⟩) (fun g hg=>hnr g (.inl ⟨r,d,k1,hg⟩)) g1 hoe
            have hcv : cs[offs y.1 p]? = some v:=by
              have hlt:=typeAt_lt he
              have hs : e.size = 1:=oty_size hoe
              have hl':=k3.length
              have:=k5 (offs y.1 p) _ (List.getElem?_eq_getElem (by omega))
              rw [← g2,hv] at this; injection this with this
              rw [List.getElem?_eq_getElem (by omega),← this]
            refine .inr ⟨t,p,r,q,y,d,rfl,hav,hy,k1,hso,getP_paths k2 hp,e,v,g1,hoe,hv,?_,?_⟩
            · have : ((Den.frz rs st).env t).av = .dat y.1 y.2:=by simp only [Den.frz,frzAV,hav,hy]
              simp only [locTy,this]; exact he
            · have : ((Den.frz rs st).env t).av = .dat y.1 y.2:=by simp only [Den.frz,frzAV,hav,hy]
              simp only [locV,this,k4,flat_wrap k3]; exact hcv
        · cases hl
      · rename_i hno
        obtain ⟨e,v,k1,_⟩:=h.own _ hl
        have hav : ((Den.frz rs st).env t).av = (st.env t).av:=by
          simp only [Den.frz]
          simp only [locTy] at k1
          cases hq : (st.env t).av with
          | xf r q=>exact absurd hq (hno r q)
          | xp _ _ _ _=>rw [hq] at k1; cases k1
          | xt _=>rw [hq] at k1; cases k1
          | xe _ _=>rw [hq] at k1; cases k1
          | mx _ _ _=>rw [hq] at k1; cases k1
          | cx _ _=>rw [hq] at k1; cases k1
          | _=>rfl
        exact .inl ⟨hl,by simp only [locTy,hav],by simp only [locV,hav]⟩
  -- and what stands behind it
  have hasc : ∀ l g,(Den.frz rs st).own l = true→HasL (Den.frz rs st) a w β l g→(st.own l = true∧HasL st a w β l g) ∨
      ∃ t p r q d T v,l = .tmp t p∧(st.env t).av = .xf r q∧st.io r = some d∧soleIn st r t rs = true∧(q ++ p) ∈ slicePaths d.1∧typeAt d.1 (q ++ p) = some T∧(flatV (β.V r))[offs d.1 (q ++ p)]? = some v∧Blk w T v g∧β.B r g:=by
    intro l g hl hg
    obtain ⟨T,v,m1,m2,m3⟩:=hg
    rcases ownc l hl with ⟨k1,k2,k3⟩ | ⟨t,p,r,q,y,d,rfl,k1,k2,k3,k4,kp,T',v',k5,ko,k6,k7,k8⟩
    · exact .inl ⟨k1,T,v,by rw [← k2]; exact m1,by rw [← k3]; exact m2,m3⟩
    · rw [k7] at m1; injection m1 with m1; subst m1
      rw [k8] at m2; injection m2 with m2; subst m2
      exact .inr ⟨t,p,r,q,d,T',v',rfl,k1,k3,k4,kp,k5,k6,m3,(h.xs.io r d k3).blkT k5 k6 m3⟩
  refine ⟨h.size,h.defers,h.grow,fun b hb hX=>?_,h.xrb,fun t=>?_,fun b d hb=>?_,h.inj,fun l hl=>?_,fun l g hl hg b d' hb=>?_,fun l l' g hl hl' hg hg'=>?_,fun t l ht=>(by cases ht),fun d hd=>?_,?_⟩
  · rw [limF_off h (fun ht=>by
      rcases hnr b ht with h1 | h1
      · omega
      · exact hX h1)]
    exact h.limOld b hb hX
  · have ht:=h.env t
    have hm : ∀ {av : AV},(∀ r p,av ≠ .xf r p)→(∀ r p k q,av ≠ .xp r p k q)→(∀ k q,av ≠ .xe k q)→(∀ t x ps,av ≠ .mx t x ps)→(∀ r,av ≠ .xt r)→(∀ b p,av ≠ .cx b p)→ERep st w lim β rb av (tmpOf a t)→ERep (Den.frz rs st) w (limF st β w lim) β rb av (tmpOf a t):=by
      intro av n1 n2 n5 n6 n3 n4 hv
      cases av with
      | xf r p=>exact absurd rfl (n1 r p)
      | xp r p k q=>exact absurd rfl (n2 r p k q)
      | xe k q=>exact absurd rfl (n5 k q)
      | mx t x ps=>exact absurd rfl (n6 t x ps)
      | xt r=>exact absurd rfl (n3 r)
      | cx b p=>exact absurd rfl (n4 b p)
      | dat ty x=>exact TRep.mono hext hv
      | ref ty x =>
        obtain ⟨b,o,cs,e1,e2,e3,e4,e5⟩:=hv
        exact ⟨b,o,cs,e1,e2,e3.mono hext,hext.lim _ _ e2 e4,e5⟩
      | tup ty x =>
        obtain ⟨vs,e1,e2⟩:=hv
        exact ⟨vs,e1,e2.mono hext⟩
      | _=>exact hv
    have hav : ((Den.frz rs st).env t).av = frzAV st (st.env t).av:=rfl
    rw [hav]
    cases hq : (st.env t).av with
    | xf r q =>
      simp only [frzAV]
      cases hy : st.atX r q with
      | none=>trivial
      | some y =>
        obtain ⟨d,cs,_,_,k3,k4,_⟩:=xval t r q hq y hy
        exact ⟨cs,k3,k4⟩
    | xp _ _ _ _=>trivial
    | xe _ _=>trivial
    | mx _ _ _=>trivial
    | xt _=>trivial
    | cx _ _=>trivial
    | _=>rw [hq] at ht; exact hm (fun _ _ e=>by cases e) (fun _ _ _ _ e=>by cases e) (fun _ _ e=>by cases e) (fun _ _ _ e=>by cases e) (fun _ e=>by cases e) (fun _ _ e=>by cases e) ht
  · obtain ⟨cells,e,h1,h2,h3,h4⟩:=h.box b d hb
    exact ⟨cells,e,h1,h2.mono hext,h3,(limF_off h (h.xs.offb hb)).trans h4⟩
  · rcases ownc l hl with ⟨k1,k2,k3⟩ | ⟨t,p,r,q,y,d,rfl,k1,k2,k3,k4,kp,T,v,k5,ko,k6,k7,k8⟩
    · obtain ⟨T,v,m1,m2,m3⟩:=h.own l k1
      exact ⟨T,v,k2.trans m1,k3.trans m2,m3.relim fun g hg=>limF_off h (h.xs.off k1 ⟨T,v,m1,m2,hg⟩)⟩
    · obtain ⟨v',m1,m2⟩:=(h.xs.io r d k3).ownT (lim:=limF st β w lim) (base:=w0.fr) (fun g k hs=>limF_of h ⟨r,d,k3,hs⟩) (fun g hg=>hnr g (.inl ⟨r,d,k3,hg⟩)) k5 ko
      rw [k6] at m1; injection m1 with m1; subst m1
      exact ⟨T,v,k7,k8,m2⟩
  · rcases hasc l g hl hg with ⟨k1,k2⟩ | ⟨t,p,r,q,d,T,v,rfl,k1,k2,k3,k4,k5,k6,k7,k8⟩
    · exact h.ownb l g k1 k2 b d' hb
    · exact h.xs.box r d g k2 k8 b d' hb
  · rcases hasc l g hl hg with ⟨k1,k2⟩ | ⟨t,p,r,q,d,T,v,rfl,k1,k2,k3,k4,k5,k6,k7,k8⟩ <;> rcases hasc l' g hl' hg' with ⟨j1,j2⟩ | ⟨t',p',r',q',d',T',v',rfl,j1,j2,j3,j4,j5,j6,j7,j8⟩
    · exact h.sep l l' g k1 j1 k2 j2
    · exact absurd k2 (h.xs.own r' d' g j2 j8 l k1)
    · exact absurd j2 (h.xs.own r d g k2 k8 l' j1)
    · have er:=h.xs.dis r d r' d' g k2 j2 k8 j8
      subst er
      have et:=soleIn_inj k1 j1 k3 j3
      subst et
      rw [k1] at j1; injection j1 with _ j1; subst j1
      rw [k2] at j2; injection j2 with j2; subst j2
      have:=(h.xs.io r d k2).sepT k4 j4 k5 j5 k6 j6 k7 j7
      rw [List.append_cancel_left this]
  · obtain ⟨b,cells,e,k1,k2,k3,k4,k5⟩:=h.rd d hd
    exact ⟨b,cells,e,k1,k2,k3,k4.mono hext,(limF_off h (fun ht=>h.fr_rb (hnr b ht) k1.symm (hrb b k1.symm))).trans k5⟩
  · exact ⟨fun _ _ hr=>(by cases hr),fun _ _ _ hr=>(by cases hr),fun _ _ _ hr=>(by cases hr),fun _ _ _ hr=>(by cases hr),fun _ _ _ _ _ hr=>(by cases hr),fun _ _ _ hb=>(by cases hb),fun _ _ _ hb=>(by cases hb),fun _ _ _ _ _ _ hb=>(by cases hb),fun _ hd=>(by cases hd),fun _ hd=>(by cases hd),fun _ _ _ hb=>(by cases hb)⟩
end
end Go.Den

namespace Go.Den
section
variable {P : Program} {tab : Tab} {G : Gam} {w0 : Base} {lim0 : Lim} {rb : Option Nat} {n : Nat}
variable {st st' : St} {a : Act} {w : World} {lim : Lim} {β β' : Mp}

theorem dropX_cases (e : Ent) : (dropX e = e∧(∀ r p,e.av ≠ .xf r p)∧(∀ r p k q,e.av ≠ .xp r p k q)∧(∀ r,e.av ≠ .xt r)∧(∀ k q,e.av ≠ .xe k q)∧∀ t x ps,e.av ≠ .mx t x ps) ∨
    (dropX e = ⟨.any,none⟩∧∀ p v,typeAV p e.av = none∧partAV v p e.av = none):=by
  unfold dropX
  cases h : e.av <;> first
    | exact .inr ⟨rfl,fun _ _=>⟨rfl,rfl⟩⟩
    | exact .inl ⟨rfl,fun _ _ e=>(by cases e),fun _ _ _ _ e=>(by cases e),fun _ e=>(by cases e),fun _ _ e=>(by cases e),fun _ _ _ e=>(by cases e)⟩
theorem Sim.retree (h : Sim w0 lim0 rb n st a w lim β) (hbox : st'.box = st.box) (hown : st'.own = st.own) (hrd : st'.rd = st.rd) (hb : β'.b = β.b) (henv : ∀ t,st'.env t = dropX (st.env t))
    (hcx : ∀ b t o,st.xb b = some (t,o)→(∃ o',st'.xb b = some (t,o'))∧β'.c b = β.c b)
    (hxs : (∀ l g,HasL st' a w β' l g ↔ HasL st a w β l g)→Own w0 rb st' a w lim β') : Sim w0 lim0 rb n st' a w lim β':=by
  have lt : ∀ l,locTy st' l = locTy st l:=fun l=>by
    cases l with
    | tmp t p =>
      rw [locTy_tmp,locTy_tmp,henv]
      rcases dropX_cases (st.env t) with ⟨h1,_⟩ | ⟨h1,h2⟩
      · rw [h1]
      · rw [h1,(h2 p undef).1]; rfl
    | box b p=>simp only [locTy,hbox]
  have lv : ∀ l,locV st' a w β' l = locV st a w β l:=fun l=>by
    cases l with
    | tmp t p =>
      rw [locV_tmp,locV_tmp,henv]
      rcases dropX_cases (st.env t) with ⟨h1,_⟩ | ⟨h1,h2⟩
      · rw [h1]
      · rw [h1,(h2 p (tmpOf a t)).2]; rfl
    | box b p=>simp only [locV,hbox,hb]
  have lh : ∀ l g,HasL st' a w β' l g ↔ HasL st a w β l g:=fun l g=>by unfold HasL; rw [lt,lv]
  refine ⟨h.size,h.defers,h.grow,h.limOld,h.xrb,fun t=>?_,fun b d hbd=>?_,fun b c d d' h1 h2 he=>?_,fun l hl=>?_,fun l g hl hg b d hbd=>?_,fun l l' g h1 h2 h3 h4=>?_,fun t l ht hl=>?_,fun d hd=>?_,hxs lh⟩
  · rw [henv]
    rcases dropX_cases (st.env t) with ⟨h1,n1,n2,n3,n4,n5⟩ | ⟨h1,h2⟩
    · rw [h1]
      have ht:=h.env t
      cases hav : (st.env t).av with
      | xf r p=>exact absurd hav (n1 r p)
      | xp r p k q=>exact absurd hav (n2 r p k q)
      | xt r=>exact absurd hav (n3 r)
      | xe k q=>exact absurd hav (n4 k q)
      | mx t x ps=>exact absurd hav (n5 t x ps)
      | cel b p =>
        rw [hav] at ht
        obtain ⟨d,k1,k2⟩:=ht
        exact ⟨d,by rw [hbox]; exact k1,by rw [hb]; exact k2⟩
      | rdr p =>
        rw [hav] at ht
        obtain ⟨d,b,k1,k2⟩:=ht
        exact ⟨d,b,by rw [hrd]; exact k1,k2⟩
      | cx b p =>
        rw [hav] at ht
        obtain ⟨t',o,k1,k2⟩:=ht
        obtain ⟨⟨o',m1⟩,m2⟩:=hcx b t' o k1
        exact ⟨t',o',m1,by rw [m2]; exact k2⟩
      | _=>rw [hav] at ht; exact ht
    · rw [h1]; trivial
  · rw [hbox] at hbd; rw [hb]; exact h.box b d hbd
  · rw [hbox] at h1 h2; rw [hb] at he; exact h.inj b c d d' h1 h2 he
  · rw [hown] at hl; rw [lt,lv]; exact h.own l hl
  · rw [hown] at hl; rw [hbox] at hbd; rw [hb]; exact h.ownb l g hl ((lh l g).1 hg) b d hbd
  · rw [hown] at h1 h2; exact h.sep l l' g h1 h2 ((lh l g).1 h3) ((lh l' g).1 h4)
  · rw [hown] at hl
    rw [henv] at ht ⊢
    rcases dropX_cases (st.env t) with ⟨h1,_⟩ | ⟨h1,_⟩
    · rw [h1] at ht ⊢; rw [lt,lv]; exact h.tag t l ht hl
    · rw [h1] at ht; cases ht
  · rw [hrd] at hd; exact h.rd d hd

/-! ### a record becomes one tree -/
theorem hasR_mem {r : Tmp} : ∀ {ps : List (List Nat × Tmp × List Nat)},hasR r ps = true ↔ ∃ p q,(p,r,q) ∈ ps
  | []=>by simp [hasR]
  | (p',k,q') :: ps=>by
    simp only [hasR]
    cases hq : Nat.beq r k with
    | true=>have:=nbeq hq; subst this; simp only [cnd_true,true_iff]; exact ⟨p',q',by simp⟩
    | false =>
      have hne : r ≠ k:=fun e=>by subst e; simp at hq
      simp only [cnd_false]
      rw [hasR_mem (ps:=ps)]
      constructor
      · rintro ⟨p,q,h⟩; exact ⟨p,q,List.mem_cons_of_mem _ h⟩
      · rintro ⟨p,q,h⟩
        rcases List.mem_cons.1 h with h | h
        · injection h with _ h; injection h with h _; exact absurd h hne
        · exact ⟨p,q,h⟩
theorem wholePs_spec : ∀ {ps : List (List Nat × Tmp × List Nat)},wholePs ps = true→(∀ p r q,(p,r,q) ∈ ps→r ≠ 0∧q = []∧∃ i,p = [i]∧partAtX [i] ps = some (r,[])∧fieldOf r ps = some i) ∧
    (∀ i j r q q',partAtX [i] ps = some (r,q)→partAtX [j] ps = some (r,q')→i = j):=by
  intro ps
  induction ps with
  | nil=>intro _; exact ⟨fun p r q h=>(by cases h),fun i j r q q' h=>(by cases h)⟩
  | cons x ps ih =>
    obtain ⟨p0,r0,q0⟩:=x
    intro h
    unfold wholePs at h
    split at h
    · rename_i heq; cases heq
    · rename_i i r ps' heq
      injection heq with e1 e2; injection e1 with e1 e3; injection e3 with e3 e4
      subst e1; subst e2; subst e3; subst e4
      cases h0 : Nat.beq r0 0 with
      | true=>rw [h0] at h; cases h
      | false =>
      cases h1 : hasR r0 ps with
      | true=>rw [h0,h1] at h; cases h
      | false =>
      cases h2 : partAtX [i] ps with
      | some z=>rw [h0,h1,h2] at h; cases h
      | none =>
        rw [h0,h1,h2] at h
        simp only [cnd_false] at h
        obtain ⟨k1,k2⟩:=ih h
        have nor : ∀ p q,(p,r0,q) ∉ ps:=fun p q hm=>by
          have:=hasR_mem.2 ⟨p,q,hm⟩; rw [h1] at this; cases this
        refine ⟨fun p r q hm=>?_,fun j k r q q' hj hk=>?_⟩
        · rcases List.mem_cons.1 hm with hm1 | hm1
          · injection hm1 with e1 e2; injection e2 with e2 e3; subst e1; subst e2; subst e3
            refine ⟨fun e=>(by subst e; cases h0),rfl,i,rfl,by simp [partAtX,pbeq],by simp [fieldOf]⟩
          · obtain ⟨m1,m2,j,m3,m4,m5⟩:=k1 p r q hm1
            have hne : r ≠ r0:=fun e=>nor p q (e ▸ hm1)
            have hb : Nat.beq r r0 = false:=by
              cases hq : Nat.beq r r0 with
              | true=>exact absurd (nbeq hq) hne
              | false=>rfl
            have hji : pbeq [j] [i] = false:=by
              cases hq : pbeq [j] [i] with
              | true=>have:=pbeq_iff.1 hq; injection this with this _; subst this; rw [h2] at m4; cases m4
              | false=>rfl
            exact ⟨m1,m2,j,m3,by simp only [partAtX,hji,cnd_false]; exact m4,by simp only [fieldOf,hb,cnd_false]; exact m5⟩
        · simp only [partAtX] at hj hk
          cases hqj : pbeq [j] [i] with
          | true =>
            rw [hqj] at hj
            injection hj with hj; injection hj with e1 e2; subst e1
            cases hqk : pbeq [k] [i] with
            | true=>have:=pbeq_iff.1 hqj; have t2:=pbeq_iff.1 hqk; rw [← t2] at this; injection this
            | false =>
              rw [hqk] at hk
              exact absurd (partAtX_mem hk) (nor _ _)
          | false =>
            rw [hqj] at hj
            cases hqk : pbeq [k] [i] with
            | true =>
              rw [hqk] at hk
              injection hk with hk; injection hk with e1 e2; subst e1
              exact absurd (partAtX_mem hj) (nor _ _)
            | false=>rw [hqk] at hk; exact k2 j k r q q' hj hk
    · cases h
theorem liveAll_spec : ∀ {ps : List (List Nat × Tmp × List Nat)},liveAll st ps = true→∀ p r q,(p,r,q) ∈ ps→∃ d,st.atX r [] = some d
  | [],_,p,r,q,h=>by cases h
  | (p',r',q') :: ps,hl,p,r,q,h=>by
    simp only [liveAll] at hl
    cases hx : st.atX r' [] with
    | none=>rw [hx] at hl; cases hl
    | some d =>
      rw [hx] at hl
      rcases List.mem_cons.1 h with h | h
      · injection h with _ h; injection h with h _; subst h; exact ⟨d,hx⟩
      · exact liveAll_spec hl p r q h
theorem joinV_spec {ps : List (List Nat × Tmp × List Nat)} : ∀ {t : Ty} {x z : t.val} {i : Nat},joinV st ps t x i = some z→isStr t = true∧∀ k y,getF t z k = some y →
    (∃ r q,partAtX [i + k] ps = some (r,q)∧st.atX r [] = some y)∨(partAtX [i + k] ps = none∧getF t x k = some y):=by
  intro t
  induction t with
  | unit=>intro x z i _; exact ⟨rfl,fun k y hy=>by cases hy⟩
  | prod a b _ ihb =>
    intro x z i h
    simp only [joinV] at h
    cases hb : joinV st ps b x.2 (Nat.succ i) with
    | none=>rw [hb] at h; rcases hp : partAtX [i] ps with _ | ⟨r,q⟩ <;> rw [hp] at h <;> cases h
    | some z2 =>
      obtain ⟨k1,k2⟩:=ihb hb
      rw [hb] at h
      have shift : ∀ k,Nat.succ i + k = i + (k + 1):=fun k=>by omega
      cases hp : partAtX [i] ps with
      | none =>
        rw [hp] at h
        simp only [] at h
        injection h with h; subst h
        refine ⟨k1,fun k y hy=>?_⟩
        cases k with
        | zero=>simp only [getF] at hy; injection hy with hy; exact .inr ⟨hp,by simp only [getF]; rw [hy]⟩
        | succ k=>have:=k2 k y hy; rw [shift] at this; exact this
      | some rq =>
        obtain ⟨r,q⟩:=rq
        rw [hp] at h
        simp only [] at h
        cases hx : st.atX r [] with
        | none=>rw [hx] at h; cases h
        | some d =>
          rw [hx] at h
          simp only [] at h
          cases hc : Ty.cast d.1 a d.2 with
          | none=>rw [hc] at h; cases h
          | some y' =>
            rw [hc] at h
            injection h with h; subst h
            obtain ⟨e1,e2⟩:=cast_some hc
            obtain ⟨dt,dv⟩:=d
            simp only at e1 e2
            subst e1; subst e2
            refine ⟨k1,fun k y hy=>?_⟩
            cases k with
            | zero=>simp only [getF] at hy; injection hy with hy; subst hy; exact .inl ⟨r,q,hp,hx⟩
            | succ k=>have:=k2 k y hy; rw [shift] at this; exact this
  | int k=>intro x z i h; cases h
  | bool=>intro x z i h; cases h
  | str=>intro x z i h; cases h
  | slice e=>intro x z i h; cases h
theorem trJoin_ok (h : Sim w0 lim0 rb n st a w lim β) {b R : Tmp} (ht : trJoin b R st = some st') : ∃ lim' β',Sim w0 lim0 rb n st' a w lim' β':=by
  unfold trJoin at ht
  split at ht
  · rename_i ty d ps hxb hrb hR
    cases hR0 : Nat.beq R 0 with
    | true=>rw [hR0] at ht; cases ht
    | false =>
    cases hwp : wholePs ps with
    | false=>rw [hR0,hwp] at ht; cases ht
    | true =>
    cases hlv : liveAll st ps with
    | false=>rw [hR0,hwp,hlv] at ht; cases ht
    | true =>
    rw [hR0,hwp,hlv] at ht
    simp only [cnd_true,cnd_false] at ht
    cases hjv : joinV st ps d.1 d.2 0 with
    | none=>rw [hjv] at ht; cases ht
    | some x =>
    rw [hjv] at ht
    injection ht with ht
    have hR0' : R ≠ 0:=fun e=>by subst e; cases hR0
    obtain ⟨hstr,hjs⟩:=joinV_spec hjv
    obtain ⟨wp1,wp2⟩:=wholePs_spec hwp
    obtain ⟨hxb2,bcells,be,hbh,hmix⟩:=h.xs.rbx b d ps hrb
    obtain ⟨cells',e',hbh',hcsz,hbge,hblim,_⟩:=h.xs.xb b d.1 none hxb2
    rw [hbh] at hbh'; injection hbh' with hbh'; injection hbh' with hbh'; subst hbh'
    have hlen : bcells.toList.length = d.1.size:=by simpa using hcsz
    -- a part's tree
    have part : ∀ p r q,(p,r,q) ∈ ps→∃ i dr,p = [i]∧q = []∧r ≠ 0∧r ≠ R∧partAtX [i] ps = some (r,[])∧fieldOf r ps = some i∧st.atX r [] = some dr∧st.io r = some dr∧typeAt d.1 [i] = some dr.1 ∧
        (bcells.toList.drop (offs d.1 [i])).take dr.1.size = flatV (β.V r)∧XRep w dr.1 dr.2 (flatV (β.V r)) (β.B r):=by
      intro p r q hm
      obtain ⟨m1,m2,i,m3,m4,m5⟩:=wp1 p r q hm
      obtain ⟨dr,m6⟩:=liveAll_spec hlv p r q hm
      obtain ⟨dr',m7,m8⟩:=atX_some m6
      have m8 : dr' = dr:=Option.some.inj (show some dr' = some dr from m8)
      subst m8
      have hlive:=atX_live m6 m7
      obtain ⟨dr2,m9,m10⟩:=hmix.2 p r q hm
      rw [m7] at m9; injection m9 with m9; subst m9
      obtain ⟨u,m11,m12,m13⟩:=m10.resolve_left hlive
      subst m2; subst m3
      have hu : u = dr'.1:=by
        have : typeAt dr'.1 [] = some dr'.1:=by cases dr'.1 <;> rfl
        rw [this] at m12; injection m12 with m12; exact m12.symm
      subst hu
      have hX:=h.xs.io r _ m7
      refine ⟨i,dr',rfl,rfl,m1,fun e=>(by subst e; exact absurd (hR.symm.trans m7) (by simp)),m4,m5,m6,m7,m11,?_,hX⟩
      rw [m13,offs0,List.drop_zero,← hX.length,List.take_length]
    let Bf : Nat→Nat→Prop:=fun i=>match partAtX [i] ps with
      | some (r,_)=>β.B r
      | none=>fun _=>False
    have hBf : ∀ i g,Bf i g→∃ r dr,partAtX [i] ps = some (r,[])∧hasR r ps = true∧st.io r = some dr∧r ≠ 0∧r ≠ R∧β.B r g:=by
      intro i g hg
      rcases hp : partAtX [i] ps with _ | ⟨r,q⟩
      · simp only [Bf,hp] at hg
      · simp only [Bf,hp] at hg
        have hm:=partAtX_mem hp
        obtain ⟨j,dr,e1,e2,k1,k2,k3,k4,k5,k6,_⟩:=part _ _ _ hm
        injection e1 with e1 _; subst e1; subst e2
        exact ⟨r,dr,rfl,hasR_mem.2 ⟨_,_,hm⟩,k6,k1,k2,hg⟩
    have hX : XRep w d.1 x bcells.toList (fun g=>∃ i y,getF d.1 x i = some y∧Bf i g):=by
      refine XRep.ofFields hstr hlen (fun i y hy=>?_) (fun i j g h1 h2=>?_)
      · rcases hjs i y hy with ⟨r,q,k1,k2⟩ | ⟨k1,k2⟩
        · rw [Nat.zero_add] at k1
          obtain ⟨j,dr,e1,e2,_,_,_,_,k5,k6,k7,k8,k9⟩:=part _ _ _ (partAtX_mem k1)
          injection e1 with e1 _; subst e1
          rw [k2] at k5; injection k5 with k5; subst k5
          simp only [Bf,k1]
          rw [k8]; exact k9
        · rw [Nat.zero_add] at k1
          simp only [Bf,k1]
          obtain ⟨vc,m1,m2,m3⟩:=hmix.1
          have hn:=m1.fieldAt k2
          have hti:=str_typeAt k2
          have : (bcells.toList.drop (offs d.1 [i])).take y.1.size = (vc.drop (offs d.1 [i])).take y.1.size:=by
            refine seg_ext fun j hj1 hj2=>m3 j fun p r q u hm hu=>?_
            obtain ⟨i',dr,e1,_,_,_,k3,_⟩:=part _ _ _ hm
            subst e1
            have hii : i ≠ i':=fun e=>by subst e; rw [k1] at k3; cases k3
            have hpc : pcomp [i] [i'] = false:=by
              have : Nat.beq i i' = false:=by
                cases hq : Nat.beq i i' with
                | true=>exact absurd (nbeq hq) hii
                | false=>rfl
              simp [pcomp,this]
            rcases beside hti hu hpc with hb | hb
            · omega
            · omega
          rw [this]
          exact hn.xrep
      · obtain ⟨r,_,k1,_,k3,_,_,k6⟩:=hBf i g h1
        obtain ⟨r',_,m1,_,m3,_,_,m6⟩:=hBf j g h2
        have:=h.xs.dis r _ r' _ g k3 m3 k6 m6
        subst this
        exact wp2 i j r _ _ k1 m1
    have hcr : CRep w (fun _=>none) d.1 x bcells.toList:=hX.crep (fun _ _=>rfl)
    have hfl : flatV (wrapV d.1 bcells.toList) = bcells.toList:=flat_wrap hcr
    refine ⟨lim,{ β with V:=fun r=>if r = R then wrapV d.1 bcells.toList else β.V r,B:=fun r=>if r = R then (fun g=>∃ i y,getF d.1 x i = some y∧Bf i g) else β.B r },?_⟩
    subst ht
    have cas : ∀ k z,cnd (Nat.beq k R) (some (⟨d.1,x⟩ : Dat)) (cnd (hasR k ps) none (st.io k)) = some z→(k = R∧z = ⟨d.1,x⟩)∨(k ≠ R∧hasR k ps = false∧st.io k = some z):=by
      intro k z hz
      cases hk : Nat.beq k R with
      | true=>rw [hk] at hz; injection hz with hz; exact .inl ⟨nbeq hk,hz.symm⟩
      | false =>
        rw [hk] at hz
        cases hh : hasR k ps with
        | true=>rw [hh] at hz; cases hz
        | false=>rw [hh] at hz; exact .inr ⟨fun e=>(by subst e; simp at hk),rfl,hz⟩
    have ioK : ∀ k,k ≠ R→hasR k ps = false→cnd (Nat.beq k R) (some (⟨d.1,x⟩ : Dat)) (cnd (hasR k ps) none (st.io k)) = st.io k:=by
      intro k hk hh
      have : Nat.beq k R = false:=by
        cases hq : Nat.beq k R with
        | true=>exact absurd (nbeq hq) hk
        | false=>rfl
      rw [this,hh]; rfl
    have ioR : cnd (Nat.beq R R) (some (⟨d.1,x⟩ : Dat)) (cnd (hasR R ps) none (st.io R)) = some ⟨d.1,x⟩:=by simp
    have r0 : hasR 0 ps = false:=by
      cases hq : hasR 0 ps with
      | false=>rfl
      | true =>
        obtain ⟨p,q,hm⟩:=hasR_mem.1 hq
        exact absurd rfl (wp1 p 0 q hm).1
    -- where the boxes' values stand
    have xcas : ∀ c t o,cnd (Nat.beq c b) (some (d.1,some (R,[]))) (joinXb R ps (st.xb c)) = some (t,o)→(c = b∧t = d.1∧o = some (R,[])) ∨
        (c ≠ b∧∃ o0,st.xb c = some (t,o0)∧((o = o0∧∀ r q,o0 = some (r,q)→hasR r ps = false)∨∃ r q i,o0 = some (r,q)∧([i],r,[]) ∈ ps∧o = some (R,i :: q))):=by
      intro c t o hc
      cases hk : Nat.beq c b with
      | true=>rw [hk] at hc; injection hc with hc; injection hc with e1 e2; exact .inl ⟨nbeq hk,e1.symm,e2.symm⟩
      | false =>
        rw [hk] at hc
        simp only [cnd_false] at hc
        refine .inr ⟨fun e=>(by subst e; simp at hk),?_⟩
        cases hx : st.xb c with
        | none=>rw [hx] at hc; cases hc
        | some z =>
          obtain ⟨t0,o0⟩:=z
          rw [hx] at hc
          cases o0 with
          | none=>simp only [joinXb] at hc; injection hc with hc; injection hc with e1 e2; subst e1; subst e2; exact ⟨none,rfl,.inl ⟨rfl,fun _ _ e=>by cases e⟩⟩
          | some rq =>
            obtain ⟨r,q⟩:=rq
            simp only [joinXb] at hc
            cases hf : fieldOf r ps with
            | none =>
              rw [hf] at hc; simp only [] at hc
              injection hc with hc; injection hc with e1 e2; subst e1; subst e2
              refine ⟨_,rfl,.inl ⟨rfl,fun r' q' e=>?_⟩⟩
              injection e with e; injection e with e1 e2; subst e1
              cases hh : hasR r ps with
              | false=>rfl
              | true =>
                obtain ⟨p,q2,hm⟩:=hasR_mem.1 hh
                obtain ⟨_,_,i,_,_,k5⟩:=wp1 p r q2 hm
                rw [hf] at k5; cases k5
            | some i =>
              rw [hf] at hc; simp only [] at hc
              injection hc with hc; injection hc with e1 e2; subst e1; subst e2
              refine ⟨_,rfl,.inr ⟨r,q,i,rfl,?_,rfl⟩⟩
              have hh : hasR r ps = true:=by
                cases hh : hasR r ps with
                | true=>rfl
                | false =>
                  exfalso
                  have : ∀ {ps : List (List Nat × Tmp × List Nat)},hasR r ps = false→fieldOf r ps = none:=by
                    intro ps
                    induction ps with
                    | nil=>intro _; rfl
                    | cons z ps ih =>
                      obtain ⟨p,k,q⟩:=z
                      intro hz
                      simp only [hasR] at hz
                      simp only [fieldOf]
                      cases hq : Nat.beq r k with
                      | true=>rw [hq] at hz; cases hz
                      | false=>rw [hq] at hz; exact ih hz
                  rw [this hh] at hf; cases hf
              obtain ⟨p,q2,hm⟩:=hasR_mem.1 hh
              obtain ⟨_,e2,j,e3,k4,k5⟩:=wp1 p r q2 hm
              rw [hf] at k5; injection k5 with k5; subst k5; subst e2; subst e3
              exact hm
    have xold : ∀ c t o,cnd (Nat.beq c b) (some (d.1,some (R,[]))) (joinXb R ps (st.xb c)) = some (t,o)→∃ o0,st.xb c = some (t,o0):=by
      intro c t o hc
      rcases xcas c t o hc with ⟨e1,e2,_⟩ | ⟨_,o0,k,_⟩
      · subst e1; subst e2; exact ⟨none,hxb2⟩
      · exact ⟨o0,k⟩
    refine h.retree rfl rfl rfl rfl (fun _=>rfl) (fun c t o hc=>⟨?_,rfl⟩) (fun lh=>?_)
    · by_cases e : c = b
      · subst e
        rw [hxb2] at hc; injection hc with hc; injection hc with e1 e2; subst e1
        exact ⟨some (R,[]),by simp⟩
      · have : Nat.beq c b = false:=by
          cases hq : Nat.beq c b with
          | true=>exact absurd (nbeq hq) e
          | false=>rfl
        simp only [this,cnd_false,hc]
        cases o with
        | none=>exact ⟨none,rfl⟩
        | some rq =>
          obtain ⟨r,q⟩:=rq
          simp only [joinXb]
          cases fieldOf r ps with
          | none=>exact ⟨_,rfl⟩
          | some i=>exact ⟨_,rfl⟩
    · refine ⟨fun k z hz=>?_,fun k z g hz hg=>?_,fun k z g hz hg c d' hc he=>?_,fun k z g hz hg l hl hgz=>?_,fun k z k' z' g hz hz' hg hg'=>?_,fun c t o hc=>?_,fun c t o hc=>?_,fun c c' t o t' o' hc hc' he=>?_,fun z hz hm=>?_,?_,fun c d' ps' hc=>(by cases hc)⟩
      · rcases cas k z hz with ⟨rfl,rfl⟩ | ⟨k1,k2,k3⟩
        · simp only [if_true,hfl]; exact hX
        · simp only [k1,if_false]; exact h.xs.io k z k3
      · rcases cas k z hz with ⟨rfl,rfl⟩ | ⟨k1,k2,k3⟩
        · simp only [if_true] at hg
          obtain ⟨i,y,_,hg⟩:=hg
          obtain ⟨r,dr,_,_,m3,_,_,m6⟩:=hBf i g hg
          exact h.xs.base r dr g m3 m6
        · simp only [k1,if_false] at hg; exact h.xs.base k z g k3 hg
      · rcases cas k z hz with ⟨rfl,rfl⟩ | ⟨k1,k2,k3⟩
        · simp only [if_true] at hg
          obtain ⟨i,y,_,hg⟩:=hg
          obtain ⟨r,dr,_,_,m3,_,_,m6⟩:=hBf i g hg
          exact h.xs.box r dr g m3 m6 c d' hc he
        · simp only [k1,if_false] at hg; exact h.xs.box k z g k3 hg c d' hc he
      · rw [lh] at hgz
        rcases cas k z hz with ⟨rfl,rfl⟩ | ⟨k1,k2,k3⟩
        · simp only [if_true] at hg
          obtain ⟨i,y,_,hg⟩:=hg
          obtain ⟨r,dr,_,_,m3,_,_,m6⟩:=hBf i g hg
          exact h.xs.own r dr g m3 m6 l hl hgz
        · simp only [k1,if_false] at hg; exact h.xs.own k z g k3 hg l hl hgz
      · rcases cas k z hz with ⟨rfl,rfl⟩ | ⟨k1,k2,k3⟩ <;> rcases cas k' z' hz' with ⟨rfl,rfl⟩ | ⟨k1',k2',k3'⟩
        · rfl
        · simp only [if_true] at hg
          simp only [k1',if_false] at hg'
          obtain ⟨i,y,_,hg⟩:=hg
          obtain ⟨r,dr,_,m2,m3,_,_,m6⟩:=hBf i g hg
          have:=h.xs.dis r dr k' z' g m3 k3' m6 hg'
          subst this; rw [m2] at k2'; cases k2'
        · simp only [if_true] at hg'
          simp only [k1,if_false] at hg
          obtain ⟨i,y,_,hg'⟩:=hg'
          obtain ⟨r,dr,_,m2,m3,_,_,m6⟩:=hBf i g hg'
          have:=h.xs.dis r dr k z g m3 k3 m6 hg
          subst this; rw [m2] at k2; cases k2
        · simp only [k1,if_false] at hg
          simp only [k1',if_false] at hg'
          exact h.xs.dis k z k' z' g k3 k3' hg hg'
      · rcases xcas c t o hc with ⟨e1,e2,e3⟩ | ⟨hne,o0,hx0,hcase⟩
        · subst e1; subst e2; subst e3
          refine ⟨bcells,be,hbh,hcsz,hbge,hblim,fun r q hrq=>?_⟩
          injection hrq with hrq; injection hrq with e1 e2; subst e1; subst e2
          refine ⟨⟨d.1,x⟩,ioR,.inr ⟨by cases d.1 <;> rfl,?_⟩⟩
          simp only [if_true,hfl,offs0,List.drop_zero]
          rw [← hlen,List.take_length]
        · obtain ⟨cells,e,k1,k2,k3,k4,k5⟩:=h.xs.xb c t o0 hx0
          refine ⟨cells,e,k1,k2,k3,k4,fun r q hrq=>?_⟩
          rcases hcase with ⟨e1,hno⟩ | ⟨r0',q0,i,e1,hm,e2⟩
          · subst e1
            obtain ⟨dr,m1,m2⟩:=k5 r q hrq
            have hrR : r ≠ R:=fun e=>by subst e; rw [hR] at m1; cases m1
            refine ⟨dr,(ioK r hrR (hno r q hrq)).trans m1,?_⟩
            simp only [hrR,if_false]; exact m2
          · rw [e2] at hrq; injection hrq with hrq; injection hrq with e3 e4; subst e3; subst e4
            obtain ⟨dr,m1,m2⟩:=k5 r0' q0 e1
            obtain ⟨i',dr',e3,_,_,_,_,_,n1,n2,n3,n4,n5⟩:=part _ _ _ hm
            injection e3 with e3 _; subst e3
            rw [m1] at n2; injection n2 with n2; subst n2
            obtain ⟨m3,m4⟩:=m2.resolve_left (atX_live n1 m1)
            refine ⟨⟨d.1,x⟩,ioR,.inr ?_⟩
            have hg : ∃ y,getF d.1 d.2 i = some y∧y.1 = dr.1:=by
              have : ∀ {t : Ty} {x : t.val} {i : Nat} {u : Ty},isStr t = true→typeAt t [i] = some u→∃ y,getF t x i = some y∧y.1 = u:=by
                intro t
                induction t with
                | prod a b _ ihb =>
                  intro x i u hs hu
                  cases i with
                  | zero=>simp only [typeAt] at hu; injection hu with hu; exact ⟨_,rfl,hu⟩
                  | succ i=>exact ihb (x:=x.2) hs (by simpa [typeAt] using hu)
                | unit=>intro x i u _ hu; simp [typeAt] at hu
                | int k=>intro x i u hs; cases hs
                | bool=>intro x i u hs; cases hs
                | str=>intro x i u hs; cases hs
                | slice e=>intro x i u hs; cases hs
              exact this hstr n3
            obtain ⟨y,g1,g2⟩:=hg
            obtain ⟨f1,f2⟩:=getF_typeAt q0 g1
            rw [g2] at f1 f2
            refine ⟨f1.trans m3,?_⟩
            simp only [if_true,hfl]
            rw [m4,f2,← n4]
            have hlt:=typeAt_lt m3
            apply List.ext_getElem?
            intro j
            simp only [seg_get]
            by_cases hj : j < t.size
            · rw [if_pos hj,if_pos (by omega),if_pos hj]; congr 1; omega
            · rw [if_neg hj,if_neg hj]
      · obtain ⟨o0,hx0⟩:=xold c t o hc
        obtain ⟨k1,k2,k3⟩:=h.xs.xbox c t o0 hx0
        refine ⟨k1,fun l hl hgz=>k2 l hl ((lh l _).1 hgz),fun k z hz hg=>?_⟩
        rcases cas k z hz with ⟨rfl,rfl⟩ | ⟨m1,m2,m3⟩
        · simp only [if_true] at hg
          obtain ⟨i,y,_,hg⟩:=hg
          obtain ⟨r,dr,_,_,n3,_,_,n6⟩:=hBf i _ hg
          exact k3 r dr n3 n6
        · simp only [m1,if_false] at hg; exact k3 k z m3 hg
      · obtain ⟨o0,hx0⟩:=xold c t o hc
        obtain ⟨o1,hx1⟩:=xold c' t' o' hc'
        exact h.xs.xinj c c' t o0 t' o1 hx0 hx1 he
      · have e0 : (0 : Tmp) ≠ R:=fun e=>hR0' e.symm
        have hz : st.io 0 = some z:=by rw [← ioK 0 e0 r0]; exact hz
        simp only [e0,if_false]; exact h.xs.fix z hz hm
      · have e0 : (0 : Tmp) ≠ R:=fun e=>hR0' e.symm
        exact h.xs.kx.keep (fun z hz => h.xs.io 0 z hz) (fun z hz _ => ⟨z, by have hz : cnd (Nat.beq 0 R) (some (⟨d.1, x⟩ : Dat)) (cnd (hasR 0 ps) none (st.io 0)) = some z := hz
                                                                              rw [ioK 0 e0 r0] at hz; exact hz,rfl,by simp [e0]⟩) rfl (fun _ _ _ _=>rfl)
  · cases ht
/-! ### a tree becomes a record -/
theorem splitPs_mem {N : Tmp} : ∀ {t : Ty} {i : Nat} {p : List Nat} {r : Tmp} {q : List Nat},(p,r,q) ∈ splitPs N t i→∃ k u,p = [i + k]∧r = N + (i + k)∧q = []∧typeAt t [k] = some u∧noSl u = false:=by
  intro t
  induction t with
  | prod a b _ ihb =>
    intro i p r q h
    have shift : ∀ k,Nat.succ i + k = i + (k + 1):=fun k=>by omega
    have rec_ : (p,r,q) ∈ splitPs N b (Nat.succ i)→∃ k u,p = [i + k]∧r = N + (i + k)∧q = []∧typeAt (.prod a b) [k] = some u∧noSl u = false:=fun h=>by
      obtain ⟨k,u,e1,e2,e3,k1,k2⟩:=ihb h
      rw [shift] at e1 e2
      exact ⟨k + 1,u,e1,e2,e3,k1,k2⟩
    simp only [splitPs] at h
    cases hn : noSl a with
    | true=>rw [hn] at h; exact rec_ h
    | false =>
      rw [hn] at h
      rcases List.mem_cons.1 h with h | h
      · injection h with e1 e2; injection e2 with e2 e3
        exact ⟨0,a,e1,e2,e3,by simp [typeAt],hn⟩
      · exact rec_ h
  | _=>intro i p r q h; cases h
theorem splitPs_of {N : Tmp} : ∀ {t : Ty} {i k : Nat} {u : Ty},typeAt t [k] = some u→isStr t = true→noSl u = false→([i + k],N + (i + k),[]) ∈ splitPs N t i:=by
  intro t
  induction t with
  | prod a b _ ihb =>
    intro i k u h hs hn
    have shift : ∀ k,Nat.succ i + k = i + (k + 1):=fun k=>by omega
    simp only [splitPs]
    cases k with
    | zero =>
      simp only [typeAt] at h; injection h with h; subst h
      rw [hn]; exact List.mem_cons_self
    | succ k =>
      have:=ihb (i:=Nat.succ i) (k:=k) h hs hn
      rw [shift] at this
      cases noSl a
      · exact List.mem_cons_of_mem _ this
      · exact this
  | _=>intro i k u h hs; simp [isStr,typeAt] at hs h
theorem splitIo_name {N : Tmp} : ∀ {t : Ty} {x : t.val} {i k : Nat} {y : Dat},getF t x k = some y→noSl y.1 = false→splitIo N st t x i (N + (i + k)) = some y:=by
  intro t
  induction t with
  | prod a b _ ihb =>
    intro x i k y h hn
    have shift : ∀ k,Nat.succ i + k = i + (k + 1):=fun k=>by omega
    simp only [splitIo]
    cases k with
    | zero =>
      simp only [getF] at h; injection h with h; subst h
      have : Nat.beq (N + (i + 0)) (Nat.add N i) = true:=by rw [Nat.beq_eq]; rfl
      rw [hn,this]; rfl
    | succ k =>
      have hk:=ihb (i:=Nat.succ i) (x:=x.2) h hn
      rw [shift] at hk
      have : Nat.beq (N + (i + (k + 1))) (Nat.add N i) = false:=by
        cases hq : Nat.beq (N + (i + (k + 1))) (Nat.add N i) with
        | false=>rfl
        | true=>have e1:=nbeq hq; have e2 : Nat.add N i = N + i:=rfl; omega
      rw [this,hk]
      cases noSl a <;> rfl
  | _=>intro x i k y h; cases h
theorem splitIo_some {N : Tmp} : ∀ {t : Ty} {x : t.val} {i : Nat} {r : Tmp} {z : Dat},splitIo N st t x i r = some z→(∃ k,getF t x k = some z∧noSl z.1 = false∧r = N + (i + k)) ∨
    ((∀ k y,getF t x k = some y→noSl y.1 = false→r ≠ N + (i + k))∧st.io r = some z):=by
  intro t
  induction t with
  | prod a b _ ihb =>
    intro x i r z h
    have shift : ∀ k,Nat.succ i + k = i + (k + 1):=fun k=>by omega
    simp only [splitIo] at h
    cases hq : cnd (noSl a) false (Nat.beq r (Nat.add N i)) with
    | true =>
      rw [hq] at h
      injection h with h; subst h
      cases hn : noSl a with
      | true=>rw [hn] at hq; cases hq
      | false=>rw [hn] at hq; exact .inl ⟨0,rfl,rfl,nbeq hq⟩
    | false =>
      rw [hq] at h
      rcases ihb h with ⟨k,k1,k2,k3⟩ | ⟨k1,k2⟩
      · rw [shift] at k3; exact .inl ⟨k + 1,k1,k2,k3⟩
      · refine .inr ⟨fun k y hy hn=>?_,k2⟩
        cases k with
        | zero =>
          simp only [getF] at hy; injection hy with hy; subst hy
          rw [hn] at hq
          intro e
          have : Nat.beq r (Nat.add N i) = true:=by rw [Nat.beq_eq]; exact e
          rw [this] at hq; cases hq
        | succ k=>have:=k1 k y hy hn; rw [shift] at this; exact this
  | unit=>intro x i r z h; exact .inr ⟨fun k y hy=>(by cases hy),h⟩
  | int k=>intro x i r z h; exact .inr ⟨fun k y hy=>(by cases hy),h⟩
  | bool=>intro x i r z h; exact .inr ⟨fun k y hy=>(by cases hy),h⟩
  | str=>intro x i r z h; exact .inr ⟨fun k y hy=>(by cases hy),h⟩
  | slice e=>intro x i r z h; exact .inr ⟨fun k y hy=>(by cases hy),h⟩
theorem splitIo_other {N : Tmp} : ∀ {t : Ty} {x : t.val} {i : Nat} {r : Tmp},(∀ k y,getF t x k = some y→noSl y.1 = false→r ≠ N + (i + k))→splitIo N st t x i r = st.io r:=by
  intro t
  induction t with
  | prod a b _ ihb =>
    intro x i r h
    have shift : ∀ k,Nat.succ i + k = i + (k + 1):=fun k=>by omega
    simp only [splitIo]
    have : cnd (noSl a) false (Nat.beq r (Nat.add N i)) = false:=by
      cases hn : noSl a with
      | true=>rfl
      | false =>
        cases hq : Nat.beq r (Nat.add N i) with
        | false=>rfl
        | true=>exact absurd (nbeq hq) (h 0 ⟨a,x.1⟩ rfl hn)
    rw [this]
    exact ihb (fun k y hy hn=>by rw [shift]; exact h (k + 1) y hy hn)
  | _=>intro x i r h; rfl
theorem allFree_spec : ∀ {ps : List (List Nat × Tmp × List Nat)},allFree st ps = true→∀ p r q,(p,r,q) ∈ ps→st.io r = none∧r ≠ 0
  | [],_,_,_,_,h=>by cases h
  | (p',r',q') :: ps,hl,p,r,q,h=>by
    simp only [allFree] at hl
    cases hx : st.io r' with
    | some d=>rw [hx] at hl; cases hl
    | none =>
      rw [hx] at hl
      cases h0 : Nat.beq r' 0 with
      | true=>rw [h0] at hl; cases hl
      | false =>
        rw [h0] at hl
        rcases List.mem_cons.1 h with h | h
        · injection h with _ h; injection h with h _; subst h; exact ⟨hx,fun e=>by subst e; cases h0⟩
        · exact allFree_spec hl p r q h
def splitC : Ty→List Value→List Value
  | .prod a b,cs=>cnd (noSl a) (cs.take a.size) (zeroCells a) ++ splitC b (cs.drop a.size)
  | _,cs=>cs
theorem splitC_spec : ∀ {t : Ty} {x : t.val} {cs : List Value} {B : Nat→Prop},isStr t = true→XRep w t x cs B→NRep t (splitZ t x) (splitC t cs)∧(splitC t cs).length = cs.length ∧
    ∀ i y,getF t x i = some y→noSl y.1 = true→(cs.drop (offs t [i])).take y.1.size = ((splitC t cs).drop (offs t [i])).take y.1.size:=by
  intro t
  induction t with
  | unit=>intro x cs B _ h; exact ⟨h.1,rfl,fun i y hy=>by cases hy⟩
  | prod a b _ ihb =>
    intro x cs B hs h
    obtain ⟨c1,c2,B1,B2,rfl,h2,h3,h4,h5⟩:=h
    obtain ⟨k1,k2,k3⟩:=ihb hs h5
    have hl:=h4.length
    have hd : (c1 ++ c2).drop a.size = c2:=by rw [← hl,List.drop_left]
    have ht : (c1 ++ c2).take a.size = c1:=by rw [← hl,List.take_left]
    have hz : (zeroCells a).length = a.size:=by simpa using (zero_rep w (fun _=>none) a).length
    have hh : (cnd (noSl a) c1 (zeroCells a)).length = a.size:=by cases noSl a <;> simp [hl,hz]
    refine ⟨?_,?_,fun i y hy hn=>?_⟩
    · have e0 : splitC (.prod a b) (c1 ++ c2) = cnd (noSl a) c1 (zeroCells a) ++ splitC b c2:=by simp only [splitC,hd,ht]
      have hN : NRep a (cnd (noSl a) x.1 a.zero) (cnd (noSl a) c1 (zeroCells a)):=by
        cases hn : noSl a with
        | true =>
          simp only [cnd_true]
          rw [((XRep_noSl hn).1 h4).1]; exact NRep_noSl hn
        | false=>exact NRep_zero a
      exact ⟨_,_,e0,hN,k1⟩
    · simp only [splitC,hd,ht,List.length_append,hh,k2,hl]
    · simp only [splitC,hd,ht]
      cases i with
      | zero =>
        simp only [getF] at hy; injection hy with hy; subst hy
        have hn : noSl a = true:=hn
        simp only [offs,offs0,List.drop_zero,hn,cnd_true]
        rw [← hl,List.take_left,List.take_left]
      | succ i =>
        have:=k3 i y hy hn
        simp only [offs]
        have e1 : (c1 ++ c2).drop (a.size + offs b [i]) = c2.drop (offs b [i]):=by
          rw [← hl,List.drop_append,List.drop_eq_nil_of_le (by omega),List.nil_append,Nat.add_sub_cancel_left]
        have e2 : (cnd (noSl a) c1 (zeroCells a) ++ splitC b c2).drop (a.size + offs b [i]) = (splitC b c2).drop (offs b [i]):=by
          rw [← hh,List.drop_append,List.drop_eq_nil_of_le (by omega),List.nil_append,Nat.add_sub_cancel_left]
        rw [e1,e2]; exact this
  | int k=>intro x cs B hs; cases hs
  | bool=>intro x cs B hs; cases hs
  | str=>intro x cs B hs; cases hs
  | slice e=>intro x cs B hs; cases hs
theorem trSplit_ok (h : Sim w0 lim0 rb n st a w lim β) {b N : Tmp} (ht : trSplit b N st = some st') : ∃ lim' β',Sim w0 lim0 rb n st' a w lim' β':=by
  unfold trSplit at ht
  split at ht
  · rename_i ty R hxb
    cases hX0 : st.atX R [] with
    | none=>rw [hX0] at ht; cases ht
    | some d =>
    rw [hX0] at ht
    simp only [] at ht
    cases hR0 : Nat.beq R 0 with
    | true=>rw [hR0] at ht; cases ht
    | false =>
    cases hstr : isStr d.1 with
    | false=>rw [hR0,hstr] at ht; cases ht
    | true =>
    cases hbt : Ty.beq d.1 ty with
    | false=>rw [hR0,hstr,hbt] at ht; cases ht
    | true =>
    cases haf : allFree st (splitPs N d.1 0) with
    | false=>rw [hR0,hstr,hbt,haf] at ht; cases ht
    | true =>
    rw [hR0,hstr,hbt,haf] at ht
    simp only [cnd_true,cnd_false] at ht
    injection ht with ht
    have hR0' : R ≠ 0:=fun e=>by subst e; cases hR0
    have hbt:=Ty.of_beq hbt
    subst hbt
    obtain ⟨dr',hio,m8⟩:=atX_some hX0
    have m8 : dr' = d:=Option.some.inj (show some dr' = some d from m8)
    subst m8
    have hlive:=atX_live hX0 hio
    have hXR:=h.xs.io R _ hio
    obtain ⟨Bf,f1,f2,f3,f4⟩:=XRep.fields hstr hXR
    obtain ⟨z1,z2,z3⟩:=splitC_spec hstr hXR
    -- a new tree's name
    have nm : ∀ i y,getF dr'.1 dr'.2 i = some y→noSl y.1 = false→st.io (N + i) = none∧N + i ≠ 0∧N + i ≠ R∧hasR (N + i) (splitPs N dr'.1 0) = true:=by
      intro i y hy hn
      have:=splitPs_of (N:=N) (i:=0) (str_typeAt hy) hstr hn
      rw [Nat.zero_add] at this
      obtain ⟨k1,k2⟩:=allFree_spec haf _ _ _ this
      exact ⟨k1,k2,fun e=>(by rw [e,hio] at k1; cases k1),hasR_mem.2 ⟨_,_,this⟩⟩
    have mn : ∀ {p r q},(p,r,q) ∈ splitPs N dr'.1 0→∃ i y,p = [i]∧r = N + i∧q = []∧getF dr'.1 dr'.2 i = some y∧noSl y.1 = false∧typeAt dr'.1 [i] = some y.1:=by
      intro p r q hm
      obtain ⟨k,u,e1,e2,e3,k1,k2⟩:=splitPs_mem hm
      rw [Nat.zero_add] at e1 e2
      have : ∀ {t : Ty} {x : t.val} {i : Nat} {u : Ty},isStr t = true→typeAt t [i] = some u→∃ y,getF t x i = some y∧y.1 = u:=by
        intro t
        induction t with
        | prod a b _ ihb =>
          intro x i u hs hu
          cases i with
          | zero=>simp only [typeAt] at hu; injection hu with hu; exact ⟨_,rfl,hu⟩
          | succ i=>exact ihb (x:=x.2) hs (by simpa [typeAt] using hu)
        | unit=>intro x i u _ hu; simp [typeAt] at hu
        | int k=>intro x i u hs; cases hs
        | bool=>intro x i u hs; cases hs
        | str=>intro x i u hs; cases hs
        | slice e=>intro x i u hs; cases hs
      obtain ⟨y,g1,g2⟩:=this (x:=dr'.2) hstr k1
      subst g2
      exact ⟨k,y,e1,e2,e3,g1,k2,k1⟩
    let nmd : Tmp→Prop:=fun r=>∃ i y,getF dr'.1 dr'.2 i = some y∧noSl y.1 = false∧r = N + i
    let V' : Tmp→Value:=fun r=>match getF dr'.1 dr'.2 (r - N) with
      | some y=>if noSl y.1 = false∧N≤r then wrapV y.1 (((flatV (β.V R)).drop (offs dr'.1 [r - N])).take y.1.size) else β.V r
      | none=>β.V r
    let B' : Tmp→Nat→Prop:=fun r=>match getF dr'.1 dr'.2 (r - N) with
      | some y=>if noSl y.1 = false∧N≤r then Bf (r - N) else β.B r
      | none=>β.B r
    have VB : ∀ i y,getF dr'.1 dr'.2 i = some y→noSl y.1 = false→V' (N + i) = wrapV y.1 (((flatV (β.V R)).drop (offs dr'.1 [i])).take y.1.size)∧B' (N + i) = Bf i:=by
      intro i y hy hn
      have e1 : N + i - N = i:=Nat.add_sub_cancel_left ..
      simp only [V',B',e1,hy,hn,true_and,Nat.le_add_right,if_true,and_self]
    have VBo : ∀ r,¬ nmd r→V' r = β.V r∧B' r = β.B r:=by
      intro r hr
      simp only [V',B']
      cases hg : getF dr'.1 dr'.2 (r - N) with
      | none=>exact ⟨rfl,rfl⟩
      | some y =>
        have : ¬ (noSl y.1 = false∧N≤r):=fun ⟨k1,k2⟩=>hr ⟨r - N,y,hg,k1,(Nat.add_sub_cancel' k2).symm⟩
        simp only [this,if_false,and_self]
    have Vf : ∀ i y,getF dr'.1 dr'.2 i = some y→noSl y.1 = false→flatV (V' (N + i)) = ((flatV (β.V R)).drop (offs dr'.1 [i])).take y.1.size:=by
      intro i y hy hn
      rw [(VB i y hy hn).1]
      exact flat_wrap ((f1 i y hy).crep (lim:=fun _=>none) (fun _ _=>rfl))
    refine ⟨lim,{ β with V:=V',B:=B' },?_⟩
    subst ht
    have cas : ∀ k z,cnd (Nat.beq k R) none (splitIo N st dr'.1 dr'.2 0 k) = some z→k ≠ R∧((∃ i,getF dr'.1 dr'.2 i = some z∧noSl z.1 = false∧k = N + i)∨(¬ nmd k∧st.io k = some z)):=by
      intro k z hz
      cases hk : Nat.beq k R with
      | true=>rw [hk] at hz; cases hz
      | false =>
        rw [hk] at hz
        refine ⟨fun e=>(by subst e; simp at hk),?_⟩
        rcases splitIo_some hz with ⟨i,k1,k2,k3⟩ | ⟨k1,k2⟩
        · rw [Nat.zero_add] at k3; exact .inl ⟨i,k1,k2,k3⟩
        · refine .inr ⟨fun ⟨i,y,g1,g2,g3⟩=>?_,k2⟩
          have:=k1 i y g1 g2
          rw [Nat.zero_add] at this; exact this g3
    have ioN : ∀ i y,getF dr'.1 dr'.2 i = some y→noSl y.1 = false→cnd (Nat.beq (N + i) R) none (splitIo N st dr'.1 dr'.2 0 (N + i)) = some y:=by
      intro i y hy hn
      have hne:=(nm i y hy hn).2.2.1
      have : Nat.beq (N + i) R = false:=by
        cases hq : Nat.beq (N + i) R with
        | true=>exact absurd (nbeq hq) hne
        | false=>rfl
      have h2:=splitIo_name (st:=st) (N:=N) (i:=0) hy hn
      rw [Nat.zero_add] at h2
      rw [this]; exact h2
    have ioO : ∀ k,k ≠ R→¬ nmd k→cnd (Nat.beq k R) none (splitIo N st dr'.1 dr'.2 0 k) = st.io k:=by
      intro k hk hn
      have : Nat.beq k R = false:=by
        cases hq : Nat.beq k R with
        | true=>exact absurd (nbeq hq) hk
        | false=>rfl
      rw [this]
      exact splitIo_other fun i y hy hs e=>hn ⟨i,y,hy,hs,by rw [Nat.zero_add] at e; exact e⟩
    have n0 : ¬ nmd 0:=fun ⟨i,y,g1,g2,g3⟩=>(nm i y g1 g2).2.1 g3.symm
    -- the new trees' blocks are the old tree's
    have back : ∀ k z g,cnd (Nat.beq k R) none (splitIo N st dr'.1 dr'.2 0 k) = some z→B' k g→∃ r0 d0,st.io r0 = some d0∧β.B r0 g∧((r0 = R∧∃ i,k = N + i∧Bf i g)∨(r0 = k∧k ≠ R∧¬ nmd k)):=by
      intro k z g hz hg
      obtain ⟨hk,hc⟩:=cas k z hz
      rcases hc with ⟨i,g1,g2,rfl⟩ | ⟨g1,g2⟩
      · rw [(VB i z g1 g2).2] at hg
        exact ⟨R,dr',hio,(f2 g).2 ⟨i,hg⟩,.inl ⟨rfl,i,rfl,hg⟩⟩
      · rw [(VBo k g1).2] at hg
        exact ⟨k,z,g2,hg,.inr ⟨rfl,hk,g1⟩⟩
    have xcas : ∀ c t o,splitXb R N (splitPs N dr'.1 0) (st.xb c) = some (t,o)→∃ o0,st.xb c = some (t,o0)∧(o = none∨(∃ r q,o = some (r,q)∧o0 = o∧r ≠ R)∨∃ i q,o0 = some (R,i :: q)∧o = some (N + i,q)∧hasR (N + i) (splitPs N dr'.1 0) = true):=by
      intro c t o hc
      cases hx : st.xb c with
      | none=>rw [hx] at hc; cases hc
      | some z =>
        obtain ⟨t0,o0⟩:=z
        rw [hx] at hc
        cases o0 with
        | none=>simp only [splitXb] at hc; injection hc with hc; injection hc with e1 e2; subst e1; exact ⟨none,rfl,.inl e2.symm⟩
        | some rq =>
          obtain ⟨r,q⟩:=rq
          simp only [splitXb] at hc
          cases hq : Nat.beq r R with
          | false =>
            rw [hq] at hc
            injection hc with hc; injection hc with e1 e2; subst e1
            exact ⟨_,rfl,.inr (.inl ⟨r,q,e2.symm,e2,fun e=>by subst e; simp at hq⟩)⟩
          | true =>
            rw [hq] at hc
            have:=nbeq hq; subst this
            simp only [cnd_true] at hc
            cases q with
            | nil=>injection hc with hc; injection hc with e1 e2; subst e1; exact ⟨_,rfl,.inl e2.symm⟩
            | cons i q =>
              simp only [] at hc
              cases hh : hasR (Nat.add N i) (splitPs N dr'.1 0) with
              | false=>rw [hh] at hc; injection hc with hc; injection hc with e1 e2; subst e1; exact ⟨_,rfl,.inl e2.symm⟩
              | true=>rw [hh] at hc; injection hc with hc; injection hc with e1 e2; subst e1; exact ⟨_,rfl,.inr (.inr ⟨i,q,rfl,e2.symm,hh⟩)⟩
    refine h.retree rfl rfl rfl rfl (fun _=>rfl) (fun c t o hc=>⟨?_,rfl⟩) (fun lh=>?_)
    · show ∃ o',splitXb R N (splitPs N dr'.1 0) (st.xb c) = some (t,o')
      rw [hc]
      cases o with
      | none=>exact ⟨none,rfl⟩
      | some rq =>
        obtain ⟨r,q⟩:=rq
        simp only [splitXb]
        cases Nat.beq r R with
        | false=>exact ⟨_,rfl⟩
        | true =>
          cases q with
          | nil=>exact ⟨_,rfl⟩
          | cons i q=>simp only [cnd_true]; cases hasR (Nat.add N i) (splitPs N dr'.1 0) <;> exact ⟨_,rfl⟩
    · refine ⟨fun k z hz=>?_,fun k z g hz hg=>?_,fun k z g hz hg c d' hc he=>?_,fun k z g hz hg l hl hgz=>?_,fun k z k' z' g hz hz' hg hg'=>?_,fun c t o hc=>?_,fun c t o hc=>?_,fun c c' t o t' o' hc hc' he=>?_,fun z hz hm=>?_,?_,fun c d' ps' hc=>?_⟩
      · obtain ⟨hk,hcs⟩:=cas k z hz
        show XRep w z.1 z.2 (flatV (V' k)) (B' k)
        rcases hcs with ⟨i,g1,g2,rfl⟩ | ⟨g1,g2⟩
        · rw [Vf i z g1 g2,(VB i z g1 g2).2]; exact f1 i z g1
        · rw [(VBo k g1).1,(VBo k g1).2]; exact h.xs.io k z g2
      · obtain ⟨r0,d0,k1,k2,_⟩:=back k z g hz hg
        exact h.xs.base r0 d0 g k1 k2
      · obtain ⟨r0,d0,k1,k2,_⟩:=back k z g hz hg
        exact h.xs.box r0 d0 g k1 k2 c d' hc he
      · rw [lh] at hgz
        obtain ⟨r0,d0,k1,k2,_⟩:=back k z g hz hg
        exact h.xs.own r0 d0 g k1 k2 l hl hgz
      · obtain ⟨r0,d0,k1,k2,k3⟩:=back k z g hz hg
        obtain ⟨r1,d1,j1,j2,j3⟩:=back k' z' g hz' hg'
        have e:=h.xs.dis r0 d0 r1 d1 g k1 j1 k2 j2
        subst e
        rcases k3 with ⟨e1,i,e2,b1⟩ | ⟨e1,e2,e3⟩ <;> rcases j3 with ⟨e1',i',e2',b1'⟩ | ⟨e1',e2',e3'⟩
        · rw [e2,e2',f3 i i' g b1 b1']
        · rw [← e1',e1] at e2'; exact absurd rfl e2'
        · rw [← e1,e1'] at e2; exact absurd rfl e2
        · rw [← e1,← e1']
      · obtain ⟨o0,hx0,hcase⟩:=xcas c t o hc
        obtain ⟨cells,e,k1,k2,k3,k4,k5⟩:=h.xs.xb c t o0 hx0
        refine ⟨cells,e,k1,k2,k3,k4,fun r q hrq=>?_⟩
        rcases hcase with e1 | ⟨r0,q0,e1,e2,e3⟩ | ⟨i,q0,e1,e2,e3⟩
        · rw [e1] at hrq; cases hrq
        · rw [e1] at hrq; injection hrq with hrq; injection hrq with g1 g2; subst g1; subst g2
          obtain ⟨d0,m1,m2⟩:=k5 r0 q0 (e2.trans e1)
          have hn : ¬ nmd r0:=fun ⟨i,y,g1,g2,g3⟩=>by rw [g3,(nm i y g1 g2).1] at m1; cases m1
          refine ⟨d0,(ioO r0 e3 hn).trans m1,?_⟩
          show d0.1 = .unit∨_∧cells.toList = ((flatV (V' r0)).drop _).take _
          rw [(VBo r0 hn).1]; exact m2
        · rw [e2] at hrq; injection hrq with hrq; injection hrq with g1 g2; subst g1; subst g2
          obtain ⟨d0,m1,m2⟩:=k5 R (i :: q0) e1
          rw [hio] at m1; injection m1 with m1; subst m1
          obtain ⟨m3,m4⟩:=m2.resolve_left hlive
          obtain ⟨p,q2,hm⟩:=hasR_mem.1 e3
          obtain ⟨i',y,_,g2,_,g4,g5,g6⟩:=mn hm
          have : i' = i:=(Nat.add_left_cancel g2).symm
          subst this
          obtain ⟨a1,a2⟩:=getF_typeAt q0 g4
          rw [a1] at m3
          refine ⟨y,ioN i' y g4 g5,.inr ⟨m3,?_⟩⟩
          show cells.toList = ((flatV (V' (N + i'))).drop _).take _
          rw [Vf i' y g4 g5,m4,a2]
          have hlt:=typeAt_lt m3
          apply List.ext_getElem?
          intro j
          simp only [seg_get]
          by_cases hj : j < t.size
          · rw [if_pos hj,if_pos hj,if_pos (by omega)]; congr 1; omega
          · rw [if_neg hj,if_neg hj]
      · obtain ⟨o0,hx0,_⟩:=xcas c t o hc
        obtain ⟨k1,k2,k3⟩:=h.xs.xbox c t o0 hx0
        refine ⟨k1,fun l hl hgz=>k2 l hl ((lh l _).1 hgz),fun k z hz hg=>?_⟩
        obtain ⟨r0,d0,m1,m2,_⟩:=back k z _ hz hg
        exact k3 r0 d0 m1 m2
      · obtain ⟨o0,hx0,_⟩:=xcas c t o hc
        obtain ⟨o1,hx1,_⟩:=xcas c' t' o' hc'
        exact h.xs.xinj c c' t o0 t' o1 hx0 hx1 he
      · have e0 : (0 : Tmp) ≠ R:=fun e=>hR0' e.symm
        have hz : st.io 0 = some z:=(ioO 0 e0 n0).symm.trans hz
        show V' 0 = _∧B' 0 = _
        rw [(VBo 0 n0).1,(VBo 0 n0).2]; exact h.xs.fix z hz hm
      · have e0 : (0 : Tmp) ≠ R:=fun e=>hR0' e.symm
        exact h.xs.kx.keep (fun z hz=>h.xs.io 0 z hz) (fun z hz _=>⟨z,(ioO 0 e0 n0).symm.trans hz,rfl,(VBo 0 n0).1⟩) rfl (fun _ _ _ _=>rfl)
      · have hc : cnd (Nat.beq c b) (some ((⟨dr'.1,splitZ dr'.1 dr'.2⟩ : Dat),splitPs N dr'.1 0)) none = some (d',ps'):=hc
        cases hq : Nat.beq c b with
        | false=>rw [hq] at hc; cases hc
        | true =>
          have:=nbeq hq; subst this
          rw [hq] at hc
          injection hc with hc; injection hc with e1 e2; subst e1; subst e2
          obtain ⟨cells,e,k1,k2,k3,k4,k5⟩:=h.xs.xb c _ _ hxb
          obtain ⟨d0,m1,m2⟩:=k5 R [] rfl
          rw [hio] at m1; injection m1 with m1; subst m1
          obtain ⟨_,m4⟩:=m2.resolve_left hlive
          have hcl : cells.toList = flatV (β.V R):=by rw [m4,offs0,List.drop_zero,← hXR.length,List.take_length]
          refine ⟨?_,cells,e,k1,?_⟩
          · show splitXb R N (splitPs N dr'.1 0) (st.xb c) = some (dr'.1,none)
            rw [hxb]; simp [splitXb]
          · rw [hcl]
            refine ⟨⟨splitC dr'.1 (flatV (β.V R)),z1,z2,fun j hj=>?_⟩,fun p r q hm=>?_⟩
            · by_cases hjl : j < dr'.1.size
              · obtain ⟨i,y,g1,g2,g3⟩:=str_cover (x:=dr'.2) hstr j hjl
                cases hn : noSl y.1 with
                | true=>exact seg_at (z3 i y g1 hn) j g2 g3
                | false =>
                  have hm:=splitPs_of (N:=N) (i:=0) (str_typeAt g1) hstr hn
                  rw [Nat.zero_add] at hm
                  exact absurd ⟨g2,g3⟩ (hj _ _ _ _ hm (str_typeAt g1))
              · have:=hXR.length
                rw [List.getElem?_eq_none (by omega),List.getElem?_eq_none (by omega)]
            · obtain ⟨i,y,e1,e2,e3,g4,g5,g6⟩:=mn hm
              subst e1; subst e2; subst e3
              refine ⟨y,ioN i y g4 g5,.inr ⟨y.1,g6,by cases y.1 <;> rfl,?_⟩⟩
              show _ = ((flatV (V' (N + i))).drop _).take _
              rw [Vf i y g4 g5,offs0,List.drop_zero,List.take_take,Nat.min_self]
  · cases ht
/-! ### all trees are given up -/
theorem limF_not (h : Sim w0 lim0 rb n st a w lim β) {g : Nat} (hs : ∀ r d,st.io r = some d→¬ β.B r g) : limF st β w lim g = lim g:=by
  unfold limF
  rw [dif_neg (fun ⟨k,r,d,h1,h2⟩=>hs r d h1 ((h.xs.io r d h1).seen_blk h2))]
theorem whole_cells' {w : World} {g : Nat} {cells : Array Value} {e : TypeId} (hg : w.heap[g]? = some (.cells cells e (0,0))) (j : Nat) : w.cell? ⟨g,j,none⟩ = cells.toList[j]?:=by
  simp [World.cell?,hg]
theorem no_trees {w0 : Base} {rb : Option Nat} {st : St} {a : Act} {w : World} {lim : Lim} {β : Mp} (h1 : ∀ r,st.io r = none) (h2 : ∀ b,st.xb b = none) (h3 : ∀ b,st.rb b = none) : Own w0 rb st a w lim β :=
  ⟨fun r _ hr=>(by rw [h1] at hr; cases hr),fun r _ _ hr=>(by rw [h1] at hr; cases hr),fun r _ _ hr=>(by rw [h1] at hr; cases hr),fun r _ _ hr=>(by rw [h1] at hr; cases hr),fun r _ _ _ _ hr=>(by rw [h1] at hr; cases hr),fun b _ _ hb=>(by rw [h2] at hb; cases hb),fun b _ _ hb=>(by rw [h2] at hb; cases hb),fun b _ _ _ _ _ hb=>(by rw [h2] at hb; cases hb),fun _ hd=>(by rw [h1] at hd; cases hd),fun _ hd=>(by rw [h1] at hd; cases hd),fun b d ps hb=>(by rw [h3] at hb; cases hb)⟩
theorem frzBox_some {c : Tmp} {y : Dat} (hy : frzBox st c = some y) : (∃ r q,st.xb c = some (y.1,some (r,q))∧st.atX r q = some y)∨(st.xb c = none∧st.box c = some y):=by
  unfold frzBox at hy
  split at hy
  · rename_i t r q hx
    cases ha : st.atX r q with
    | none=>rw [ha] at hy; cases hy
    | some z =>
      rw [ha] at hy
      simp only [] at hy
      cases hb : Ty.beq z.1 t with
      | false=>rw [hb] at hy; cases hy
      | true =>
        rw [hb] at hy
        injection hy with hy; subst hy
        have:=Ty.of_beq hb
        subst this
        exact .inl ⟨r,q,hx,ha⟩
  · cases hy
  · rename_i hx; exact .inr ⟨hx,hy⟩
def frzM (st : St) (β : Mp) : Mp:={ β with b:=fun c=>match st.xb c with | some _=>β.c c | none=>β.b c }
theorem trFrz_ok (h : Sim w0 lim0 rb n st a w lim β) (hrb : ∀ k,some k = rb→k < w0.heap.size) {b : Tmp} (ht : trFrz b st = some st') : ∃ lim' β',Sim w0 lim0 rb n st' a w lim' β':=by
  unfold trFrz at ht
  split at ht
  · rename_i ty R yb hxb hyb
    injection ht with ht
    have hnr : ∀ g,isTree st β g→w0.fr g:=fun g hg=>(h.xs.lt hg).2.1
    have hext:=ext_limF h
    obtain ⟨hxb2,hX0⟩ : st.xb b = some (yb.1,some (R,[]))∧st.atX R [] = some yb:=by
      rcases frzBox_some hyb with ⟨r,q,k1,k2⟩ | ⟨k1,_⟩
      · rw [hxb] at k1; injection k1 with k1; injection k1 with e1 e2; injection e2 with e2; injection e2 with e2 e3
        subst e1; subst e2; subst e3
        exact ⟨hxb,k2⟩
      · rw [hxb] at k1; cases k1
    rw [hxb] at hxb2; injection hxb2 with hxb2; injection hxb2 with ety _
    subst ety
    obtain ⟨dR,hio,m8⟩:=atX_some hX0
    have m8 : dR = yb:=Option.some.inj (show some dR = some yb from m8)
    subst m8
    have hlive:=atX_live hX0 hio
    have hXR:=h.xs.io R _ hio
    -- a box's value,seen
    have bval : ∀ c y r q,st.xb c = some (y.1,some (r,q))→st.atX r q = some y→∃ cells e,w.heap[β.c c]? = some (.cells cells e (0,0))∧CRep w (limF st β w lim) y.1 y.2 cells.toList∧w0.heap.size≤β.c c∧limF st β w lim (β.c c) = some 0:=by
      intro c y r q hx hy
      obtain ⟨cells,e,k1,k2,k3,k4,k5⟩:=h.xs.xb c _ _ hx
      obtain ⟨d,m1,m2⟩:=k5 r q rfl
      obtain ⟨d2,n1,n2⟩:=atX_some hy
      rw [m1] at n1; injection n1 with n1; subst n1
      obtain ⟨m3,m4⟩:=m2.resolve_left (atX_live hy m1)
      have hw:=((h.xs.io r d m1).crep2 (lim:=limF st β w lim) (fun g k hs=>limF_of h ⟨r,d,m1,hs⟩))
      obtain ⟨c1,c2,c3,q1,q2,q3,_⟩:=hw.part n2
      have hc2 : ((flatV (β.V r)).drop (offs d.1 q)).take y.1.size = c2:=by
        rw [q1,← q2,List.drop_left,← q3.length,List.take_left]
      refine ⟨cells,e,k1,by rw [m4,hc2]; exact q3,k3,?_⟩
      rw [limF_not h (h.xs.xbox c _ _ hx).2.2]; exact k4
    have hβ1 : ∀ c t o,st.xb c = some (t,o)→(frzM st β).b c = β.c c:=fun c t o hx=>by simp only [frzM,hx]
    have hβ2 : ∀ c,st.xb c = none→(frzM st β).b c = β.b c:=fun c hx=>by simp only [frzM,hx]
    refine ⟨limF st β w lim,(frzM st β),?_⟩
    subst ht
    -- what is owned then
    have oc : ∀ l,frzOwn b dR.1 st l = true→(st.own l = true∧∀ c p,l = .box c p→st.xb c = none)∨∃ p,l = .box b p∧p ∈ slicePaths dR.1:=by
      intro l hl
      cases l with
      | tmp t p=>exact .inl ⟨hl,fun c p' e=>by cases e⟩
      | box c p =>
        simp only [frzOwn] at hl
        cases hx : st.xb c with
        | none=>rw [hx] at hl; exact .inl ⟨hl,fun c' p' e=>by injection e with e1 e2; subst e1; exact hx⟩
        | some z =>
          rw [hx] at hl
          cases hq : Nat.beq c b with
          | false=>rw [hq] at hl; cases hl
          | true =>
            rw [hq] at hl
            have:=nbeq hq; subst this
            exact .inr ⟨p,rfl,inPaths_iff.1 hl⟩
    obtain ⟨bcells,be,bh,bcr,bge,blim⟩:=bval b dR R [] hxb hX0
    have hcl : bcells.toList = flatV (β.V R):=by
      obtain ⟨cells,e,k1,k2,k3,k4,k5⟩:=h.xs.xb b _ _ hxb
      rw [bh] at k1; injection k1 with k1; injection k1 with k1; subst k1
      obtain ⟨d0,m1,m2⟩:=k5 R [] rfl
      rw [hio] at m1; injection m1 with m1; subst m1
      obtain ⟨_,m4⟩:=m2.resolve_left hlive
      rw [m4,offs0,List.drop_zero,← hXR.length,List.take_length]
    have envd : ∀ t,(∃ p T,typeAV p (st.env t).av = some T)→((frzEnt st (st.env t)).av = (st.env t).av):=by
      intro t ⟨p,T,hp⟩
      unfold frzEnt
      cases hav : (st.env t).av with
      | dat ty x=>simp only [dropX,hav]
      | tup ty x=>simp only [dropX,hav]
      | _=>rw [hav] at hp; cases hp
    -- places that were owned before
    have keepl : ∀ l,st.own l = true→(∀ c p,l = .box c p→st.xb c = none)→locTy (frzS b dR.1 st) l = locTy st l∧locV (frzS b dR.1 st) a w (frzM st β) l = locV st a w β l:=by
      intro l hl hx
      obtain ⟨T,v,k1,_⟩:=h.own l hl
      cases l with
      | tmp t p =>
        rw [locTy_tmp] at k1
        have e:=envd t ⟨p,T,k1⟩
        exact ⟨by rw [locTy_tmp,locTy_tmp]; show typeAV p (frzEnt st (st.env t)).av = _; rw [e],by rw [locV_tmp,locV_tmp]; show partAV _ p (frzEnt st (st.env t)).av = _; rw [e]⟩
      | box c p =>
        have hxc:=hx c p rfl
        have e : frzBox st c = st.box c:=by simp only [frzBox,hxc]
        refine ⟨by simp only [locTy,frzS,e],?_⟩
        simp only [locV,frzS,frzM,e,hxc]
    have newl : ∀ p,p ∈ slicePaths dR.1→∃ T v,typeAt dR.1 p = some T∧OTy T = true∧(flatV (β.V R))[offs dR.1 p]? = some v∧locTy (frzS b dR.1 st) (.box b p) = some T∧locV (frzS b dR.1 st) a w (frzM st β) (.box b p) = some v∧OwnT w (limF st β w lim) w0.fr T v∧∀ g,Blk w T v g→β.B R g:=by
      intro p hp
      obtain ⟨⟨T,ht,ho⟩,_⟩:=slicePaths_spec hp
      obtain ⟨v,k1,k2⟩:=hXR.ownT (lim:=limF st β w lim) (base:=w0.fr) (fun g k hs=>limF_of h ⟨R,dR,hio,hs⟩) (fun g hg=>hnr g (.inl ⟨R,dR,hio,hg⟩)) ht ho
      refine ⟨T,v,ht,ho,k1,by simp only [locTy,frzS,hyb]; exact ht,?_,k2,fun g hg=>hXR.blkT ht k1 hg⟩
      simp only [locV,frzS,frzM,hyb,hxb]
      rw [whole_cells' bh,hcl]; exact k1
    have hasc : ∀ l g,frzOwn b dR.1 st l = true→HasL (frzS b dR.1 st) a w (frzM st β) l g→(st.own l = true∧HasL st a w β l g) ∨
        ∃ p T v,l = .box b p∧p ∈ slicePaths dR.1∧typeAt dR.1 p = some T∧(flatV (β.V R))[offs dR.1 p]? = some v∧Blk w T v g∧β.B R g:=by
      intro l g hl hg
      obtain ⟨T,v,m1,m2,m3⟩:=hg
      rcases oc l hl with ⟨k1,k2⟩ | ⟨p,rfl,hp⟩
      · obtain ⟨e1,e2⟩:=keepl l k1 k2
        exact .inl ⟨k1,T,v,e1.symm.trans m1,e2.symm.trans m2,m3⟩
      · obtain ⟨T',v',j1,j2,j3,j4,j5,j6,j7⟩:=newl p hp
        rw [j4] at m1; injection m1 with m1; subst m1
        rw [j5] at m2; injection m2 with m2; subst m2
        exact .inr ⟨p,_,_,rfl,hp,j1,j3,m3,j7 g m3⟩
    refine ⟨h.size,h.defers,h.grow,fun k hk hX=>?_,h.xrb,fun t=>?_,fun c y hy=>?_,fun c c' y y' hy hy' he=>?_,fun l hl=>?_,fun l g hl hg c y hy he=>?_,fun l l' g hl hl' hg hg'=>?_,fun t l ht=>?_,fun d hd=>?_,no_trees (fun _=>rfl) (fun _=>rfl) (fun _=>rfl)⟩
    · rw [limF_off h (fun ht=>by
        rcases hnr k ht with h1 | h1
        · omega
        · exact hX h1)]
      exact h.limOld k hk hX
    · have ht:=h.env t
      show ERep _ w (limF st β w lim) _ rb (frzEnt st (st.env t)).av (tmpOf a t)
      cases hav : (st.env t).av with
      | cel c p =>
        rw [hav] at ht
        obtain ⟨d,k1,k2⟩:=ht
        simp only [frzEnt,hav]
        cases hx : st.xb c with
        | some _=>trivial
        | none =>
          exact ⟨d,by show frzBox st c = some d; simp only [frzBox,hx]; exact k1,by rw [k2]; show _ = Value.pointer (some ⟨(frzM st β).b c,_,_⟩); rw [hβ2 c hx]⟩
      | cx c p =>
        rw [hav] at ht
        obtain ⟨t',o,k1,k2⟩:=ht
        simp only [frzEnt,hav]
        cases hy : frzBox st c with
        | none=>rw [k1]; trivial
        | some y =>
          rw [k1]
          rcases frzBox_some hy with ⟨r,q,m1,m2⟩ | ⟨m1,_⟩
          · rw [k1] at m1; injection m1 with m1; injection m1 with e1 e2; subst e1
            exact ⟨y,hy,by rw [k2]; show _ = Value.pointer (some ⟨(frzM st β).b c,_,_⟩); rw [hβ1 c _ _ k1]⟩
          · rw [k1] at m1; cases m1
      | xf r p=>simp only [frzEnt,dropX,hav]; trivial
      | xp r p k q=>simp only [frzEnt,dropX,hav]; trivial
      | xt r=>simp only [frzEnt,dropX,hav]; trivial
      | xe k q=>simp only [frzEnt,dropX,hav]; trivial
      | mx ty x ps=>simp only [frzEnt,dropX,hav]; trivial
      | dat ty x=>rw [hav] at ht; simp only [frzEnt,dropX,hav]; exact TRep.mono hext ht
      | ref ty x =>
        rw [hav] at ht
        obtain ⟨b',o,cs,e1,e2,e3,e4,e5⟩:=ht
        simp only [frzEnt,dropX,hav]
        exact ⟨b',o,cs,e1,e2,e3.mono hext,hext.lim _ _ e2 e4,e5⟩
      | tup ty x =>
        rw [hav] at ht
        obtain ⟨vs,e1,e2⟩:=ht
        simp only [frzEnt,dropX,hav]
        exact ⟨vs,e1,e2.mono hext⟩
      | _=>rw [hav] at ht; simp only [frzEnt,dropX,hav]; exact ht
    · have hy : frzBox st c = some y:=hy
      show ∃ cells e,w.heap[(frzM st β).b c]? = _∧_∧w0.heap.size≤(frzM st β).b c∧limF st β w lim ((frzM st β).b c) = _
      rcases frzBox_some hy with ⟨r,q,k1,k2⟩ | ⟨k1,k2⟩
      · rw [hβ1 c _ _ k1]; exact bval c y r q k1 k2
      · rw [hβ2 c k1]
        obtain ⟨cells,e,h1,h2,h3,h4⟩:=h.box c y k2
        exact ⟨cells,e,h1,h2.mono hext,h3,(limF_off h (h.xs.offb k2)).trans h4⟩
    · have hy : frzBox st c = some y:=hy
      have hy' : frzBox st c' = some y':=hy'
      have he : (frzM st β).b c = (frzM st β).b c':=he
      rcases frzBox_some hy with ⟨r,q,k1,k2⟩ | ⟨k1,k2⟩ <;> rcases frzBox_some hy' with ⟨r',q',k1',k2'⟩ | ⟨k1',k2'⟩
      · rw [hβ1 c _ _ k1,hβ1 c' _ _ k1'] at he; exact h.xs.xinj c c' _ _ _ _ k1 k1' he
      · rw [hβ1 c _ _ k1,hβ2 c' k1'] at he; exact absurd he.symm ((h.xs.xbox c _ _ k1).1 c' y' k2')
      · rw [hβ2 c k1,hβ1 c' _ _ k1'] at he; exact absurd he ((h.xs.xbox c' _ _ k1').1 c y k2)
      · rw [hβ2 c k1,hβ2 c' k1'] at he; exact h.inj c c' y y' k2 k2' he
    · rcases oc l hl with ⟨k1,k2⟩ | ⟨p,rfl,hp⟩
      · obtain ⟨e1,e2⟩:=keepl l k1 k2
        obtain ⟨T,v,m1,m2,m3⟩:=h.own l k1
        exact ⟨T,v,e1.trans m1,e2.trans m2,m3.relim fun g hg=>limF_off h (h.xs.off k1 ⟨T,v,m1,m2,hg⟩)⟩
      · obtain ⟨T',v',j1,j2,j3,j4,j5,j6,j7⟩:=newl p hp
        exact ⟨T',v',j4,j5,j6⟩
    · have hy : frzBox st c = some y:=hy
      have he : (frzM st β).b c = g:=he
      rcases hasc l g hl hg with ⟨k1,k2⟩ | ⟨p,T,v,_,_,_,_,_,hB⟩ <;> rcases frzBox_some hy with ⟨r',q',j1,j2⟩ | ⟨j1,j2⟩
      · rw [hβ1 c _ _ j1] at he; subst he; exact (h.xs.xbox c _ _ j1).2.1 l k1 k2
      · rw [hβ2 c j1] at he; exact h.ownb l g k1 k2 c y j2 he
      · rw [hβ1 c _ _ j1] at he; subst he; exact (h.xs.xbox c _ _ j1).2.2 R dR hio hB
      · rw [hβ2 c j1] at he; exact h.xs.box R dR g hio hB c y j2 he
    · rcases hasc l g hl hg with ⟨k1,k2⟩ | ⟨p,T,v,rfl,hp,q1,q2,q3,hB⟩ <;> rcases hasc l' g hl' hg' with ⟨j1,j2⟩ | ⟨p',T',v',rfl,hp',q1',q2',q3',hB'⟩
      · exact h.sep l l' g k1 j1 k2 j2
      · exact absurd k2 (h.xs.own R dR g hio hB' l k1)
      · exact absurd j2 (h.xs.own R dR g hio hB l' j1)
      · rw [hXR.sepT hp hp' q1 q1' q2 q2' q3 q3']
    · exfalso
      have ht : (frzEnt st (st.env t)).tag = some (true,l):=ht
      unfold frzEnt at ht
      split at ht
      · split at ht <;> cases ht
      · split at ht <;> cases ht
      · cases ht
    · obtain ⟨b',cells,e,k1,k2,k3,k4,k5⟩:=h.rd d hd
      exact ⟨b',cells,e,k1,k2,k3,k4.mono hext,(limF_off h (fun ht=>h.fr_rb (hnr b' ht) k1.symm (hrb b' k1.symm))).trans k5⟩
  · cases ht
end
end Go.Den

namespace Go.Den
section
variable {P : Program} {tab : Tab} {G : Gam} {w0 : Base} {lim0 : Lim} {rb : Option Nat} {n : Nat}
variable {st st' : St} {a : Act} {w : World} {lim : Lim} {β : Mp}

theorem trAll_ok (hrb : ∀ k,some k = rb→k < w0.heap.size) : ∀ {ts : List Tr} {st st' : St} {lim : Lim} {β : Mp},Sim w0 lim0 rb n st a w lim β→trAll st ts = some st'→∃ lim' β',Sim w0 lim0 rb n st' a w lim' β'
  | [],st,st',lim,β,h,ht=>by injection ht with ht; subst ht; exact ⟨lim,β,h⟩
  | t :: ts,st,st',lim,β,h,ht=>by
    simp only [trAll] at ht
    cases h1 : trOne st t with
    | none=>rw [h1] at ht; cases ht
    | some s =>
      rw [h1] at ht
      have : ∃ lim' β',Sim w0 lim0 rb n s a w lim' β':=by
        cases t with
        | join b R=>exact trJoin_ok h h1
        | split b N=>exact trSplit_ok h h1
        | frz b=>exact trFrz_ok h hrb h1
      obtain ⟨l2,b2,h2⟩:=this
      exact trAll_ok hrb h2 ht
def EvOk (P : Program) (tab : Tab) (G : Gam) (w0 : Base) (lim0 : Lim) (rb : Option Nat) (n : Nat) (ann : Ann) (fuel m : Nat) (c : Code) : Prop :=
    ∀ (R : Type) (st : St) (kn kr : St→Option R) (ke : Nat→St→Option R) (r : R),dstsOk m c = true→evalK tab G ann fuel c R st kn kr ke = some r →
    ∀ (Q : Exit→Act→World→Prop) a w lim β,Sim w0 lim0 rb n st a w lim β→(∀ st',kn st' = some r→∀ a' w' lim' β',Sim w0 lim0 rb n st' a' w' lim' β'→Q .normal a' w') →
    (∀ st',kr st' = some r→∀ a' w' lim' β',Sim w0 lim0 rb n st' a' w' lim' β'→Q .ret a' w')→(∀ i st',ke i st' = some r→∀ a' w' lim' β',Sim w0 lim0 rb n st' a' w' lim' β'→Q (.exit i) a' w')→c.wp P Q a w

theorem eval_sound (hT : TabOk P tab) (hG : GamOk P G) (hm : P.follows .mixedOrders = true) (hrb : ∀ k,some k = rb→k < w0.heap.size) {ann : Ann} {fuel m : Nat} (hmn : m≤n) (c : Code) : EvOk P tab G w0 lim0 rb n ann fuel m c:=by
  have both : EvOk P tab G w0 lim0 rb n ann fuel m c∧∀ b,c = .loop b→EvOk P tab G w0 lim0 rb n ann fuel m b:=by
    induction c with
    | skip =>
      refine ⟨?_,fun b hb=>by cases hb⟩
      intro R st kn kr ke r hd he Q a w lim β h hn hr hx
      unfold evalK at he
      exact wp_skip (hn st he a w lim β h)
    | region id ops draw =>
      refine ⟨?_,fun b hb=>by cases hb⟩
      intro R st kn kr ke r hd he Q a w lim β h hn hr hx
      unfold evalK at he
      have h:=h.marks ann.mkt
      cases htr : trAll { st with mkt:=ann.mkt } (ann.pre id) with
      | none=>rw [htr] at he; cases he
      | some st1 =>
      rw [htr] at he
      obtain ⟨lim1,β1,h⟩:=trAll_ok hrb h htr
      simp only [] at he
      have hd' : ∀ o ∈ ops.toList,∀ d,o.dst = some d→d < n:=fun o ho d hod=>Nat.lt_of_lt_of_le (opsDst_mem (m:=m) hd o ho d hod) hmn
      cases draw with
      | true =>
        obtain ⟨st',fs,st3,h1,hal,h2⟩:=drawK_runT (Alike.refl st1) (by exact he)
        rw [List.nil_append] at h2
        cases hE : edgesOk ops.toList 0 with
        | false=>rw [hE] at h2; cases h2
        | true =>
          cases hP : pairsOk (masks ops.toList []) [] fs 0 with
          | false=>rw [hE,hP] at h2; cases h2
          | true =>
            rw [hE,hP] at h2
            exact draw_sound hT hG hm hrb hd' h1 hE hP h (fun a' w' lim' β' hs=>hn st3 h2 a' w' lim' β' (hs.alike hal))
      | false =>
        obtain ⟨st',fs,st3,h1,hal,h2⟩:=opsK_runT (Alike.refl st1) (by exact he)
        exact wp_region_list (run_sound hT hG hrb h1 hd' h (fun a' w' lim' β' hs=>hn st3 h2 a' w' lim' β' (hs.alike hal)))
    | seq x y ihx ihy =>
      refine ⟨?_,fun b hb=>by cases hb⟩
      intro R st kn kr ke r hd he Q a w lim β h hn hr hx
      unfold evalK at he
      have hd1 : dstsOk m x = true∧dstsOk m y = true:=by
        simp only [dstsOk] at hd
        cases hq : dstsOk m x with
        | false=>rw [hq] at hd; cases hd
        | true=>rw [hq] at hd; exact ⟨rfl,hd⟩
      split at he
      · refine wp_seq (ihx.1 R st _ kr ke r hd1.1 he _ a w lim β h (fun st' hk a' w' lim' β' hs=>?_) hr hx)
        exact ihy.1 R st' kn kr ke r hd1.2 hk Q a' w' lim' β' hs hn hr hx
      · rename_i S hcut
        obtain ⟨s,h1,h2⟩:=obind_some he
        refine wp_seq (ihx.1 S.ty.val st _ _ _ s hd1.1 h1 _ a w lim β h (fun st' hk a' w' lim' β' hs=>?_) (fun st' hk=>by cases hk) (fun i st' hk=>by cases hk))
        obtain ⟨β2,hs⟩:=hs.packed hk
        exact ihy.1 R (unpack S s) kn kr ke r hd1.2 h2 Q a' w' lim' β2 hs hn hr hx
      · rename_i S hcut
        obtain ⟨e,h1,h2⟩:=obind_some he
        refine wp_seq (ihx.1 (S.ty.val ⊕ R) st _ _ _ e hd1.1 h1 _ a w lim β h (fun st' hk a' w' lim' β' hs=>?_) (fun st' hk a' w' lim' β' hs=>?_) (fun i st' hk a' w' lim' β' hs=>?_))
        · obtain ⟨s,k1,k2⟩:=map_inl (β:=R) (γ:=R) hk
          subst k2
          obtain ⟨β2,hs⟩:=hs.packed k1
          exact ihy.1 R (unpack S s) kn kr ke r hd1.2 h2 Q a' w' lim' β2 hs hn hr hx
        · obtain ⟨s,k1,k2⟩:=map_inr hk
          subst k2
          injection h2 with h2; subst h2
          exact hr st' k1 a' w' lim' β' hs
        · obtain ⟨s,k1,k2⟩:=map_inr hk
          subst k2
          injection h2 with h2; subst h2
          exact hx i st' k1 a' w' lim' β' hs
    | cond c x y ihx ihy =>
      refine ⟨?_,fun b hb=>by cases hb⟩
      intro R st kn kr ke r hd he Q a w lim β h hn hr hx
      unfold evalK at he
      have hd1 : dstsOk m x = true∧dstsOk m y = true:=by
        simp only [dstsOk] at hd
        cases hq : dstsOk m x with
        | false=>rw [hq] at hd; cases hd
        | true=>rw [hq] at hd; exact ⟨rfl,hd⟩
      split at he
      · rename_i b hav
        have hc:=h.ent c
        rw [hav] at hc
        have hc:=bool_rep hc
        have b' : Bool:=b
        have he : cond (α:=Option R) b (evalK tab G ann fuel x R st kn kr ke) (evalK tab G ann fuel y R st kn kr ke) = some r:=(cnd_cond (st.knX c) (show Bool from b) _ _).symm.trans he
        revert hc he
        generalize (show Bool from b) = t
        intro hc he
        refine wp_cond hc ?_
        cases t with
        | true=>exact ihx.1 R st kn kr ke r hd1.1 he Q a w lim β h hn hr hx
        | false=>exact ihy.1 R st kn kr ke r hd1.2 he Q a w lim β h hn hr hx
      · cases he
    | block id c ihc =>
      refine ⟨?_,fun b hb=>by cases hb⟩
      intro R st kn kr ke r hd he Q a w lim β h hn hr hx
      by_cases hl : ∃ b,c = .loop b
      · obtain ⟨b,rfl⟩:=hl
        have ihb:=ihc.2 b rfl
        unfold evalK at he
        have hdb : dstsOk m b = true:=hd
        split at he
        · rename_i S T hann
          split at he
          · cases he
          · rename_i s0 hp
            obtain ⟨t,h1,h2⟩:=obind_some he
            obtain ⟨βp,hsp⟩:=h.packed hp
            refine wp_block (loop_sound (U:=unpack S) (r:=t) ?_ h1 hsp)
            intro s e hf k a w lim β hs hk hrt
            refine ihb _ (unpack S s) _ _ _ e hdb hf _ a w lim β hs (fun st' hk' a' w' lim' β' hs'=>?_) (fun st' hk'=>by cases hk') (fun i st' hk' a' w' lim' β' hs'=>?_)
            · obtain ⟨s',k1,k2⟩:=map_inl (β:=T.ty.val) (γ:=R) hk'
              obtain ⟨β2,hs2⟩:=hs'.packed k1
              exact ⟨s',lim',β2,hk s' k2,hs2⟩
            · cases hq : Nat.beq i id with
              | false=>rw [hq] at hk'; cases hk'
              | true =>
                rw [hq] at hk'
                obtain ⟨t',k1,k2⟩:=map_inr hk'
                have:=hrt t' k2; subst this
                show (if i = id then Q .normal a' w' else Q (.exit i) a' w')
                rw [if_pos (nbeq hq)]
                obtain ⟨β2,hs2⟩:=hs'.packed k1
                exact hn _ h2 a' w' lim' β2 hs2
        · rename_i S T hann
          split at he
          · cases he
          · rename_i s0 hp
            obtain ⟨t,h1,h2⟩:=obind_some he
            obtain ⟨βp,hsp⟩:=h.packed hp
            refine wp_block (loop_sound (U:=unpack S) (r:=t) ?_ h1 hsp)
            intro s e hf k a w lim β hs hk hrt
            refine ihb _ (unpack S s) _ _ _ e hdb hf _ a w lim β hs (fun st' hk' a' w' lim' β' hs'=>?_) (fun st' hk' a' w' lim' β' hs'=>?_) (fun i st' hk' a' w' lim' β' hs'=>?_)
            · obtain ⟨s',k1,k2⟩:=map_inl (β:=T.ty.val ⊕ R) (γ:=R) hk'
              obtain ⟨β2,hs2⟩:=hs'.packed k1
              exact ⟨s',lim',β2,hk s' k2,hs2⟩
            · have hk' : (kr st').map (fun r=>(Sum.inr (Sum.inr r) : S.ty.val ⊕ (T.ty.val ⊕ R))) = some e:=hk'
              cases hq : kr st' with
              | none=>rw [hq] at hk'; cases hk'
              | some r' =>
                rw [hq] at hk'
                injection hk' with hk'
                have:=hrt _ hk'.symm
                subst this
                injection h2 with h2; subst h2
                exact hr st' hq a' w' lim' β' hs'
            · show (if i = id then Q .normal a' w' else Q (.exit i) a' w')
              cases hq : Nat.beq i id with
              | false =>
                have hne : ¬ i = id:=by intro e; subst e; rw [Nat.beq_refl] at hq; cases hq
                rw [if_neg hne]
                have hk' : (ke i st').map (fun r=>(Sum.inr (Sum.inr r) : S.ty.val ⊕ (T.ty.val ⊕ R))) = some e:=by rw [hq] at hk'; exact hk'
                cases hq2 : ke i st' with
                | none=>rw [hq2] at hk'; cases hk'
                | some r' =>
                  rw [hq2] at hk'
                  injection hk' with hk'
                  have:=hrt _ hk'.symm
                  subst this
                  injection h2 with h2; subst h2
                  exact hx i st' hq2 a' w' lim' β' hs'
              | true =>
                rw [if_pos (nbeq hq)]
                have hk' : (pack T st').map (fun t=>(Sum.inr (Sum.inl t) : S.ty.val ⊕ (T.ty.val ⊕ R))) = some e:=by rw [hq] at hk'; exact hk'
                cases hq2 : pack T st' with
                | none=>rw [hq2] at hk'; cases hk'
                | some t' =>
                  rw [hq2] at hk'
                  injection hk' with hk'
                  have:=hrt _ hk'.symm
                  subst this
                  obtain ⟨β2,hs2⟩:=hs'.packed hq2
                  exact hn _ h2 a' w' lim' β2 hs2
        · cases he
      · have he : evalK tab G ann fuel c R st kn kr (fun i st'=>cnd (Nat.beq i id) (kn st') (ke i st')) = some r:=by
          cases c <;> first | exact he | (exfalso; exact hl ⟨_,rfl⟩)
        refine wp_block (ihc.1 R st kn kr _ r hd he _ a w lim β h hn hr (fun i st' hk a' w' lim' β' hs=>?_))
        show (if i = id then Q .normal a' w' else Q (.exit i) a' w')
        cases hq : Nat.beq i id with
        | true =>
          rw [hq] at hk
          rw [if_pos (nbeq hq)]
          exact hn st' hk a' w' lim' β' hs
        | false =>
          have hne : ¬ i = id:=by intro e; subst e; rw [Nat.beq_refl] at hq; cases hq
          rw [hq] at hk
          rw [if_neg hne]
          exact hx i st' hk a' w' lim' β' hs
    | exit id =>
      refine ⟨?_,fun b hb=>by cases hb⟩
      intro R st kn kr ke r hd he Q a w lim β h hn hr hx
      unfold evalK at he
      exact wp_exit (hx id st he a w lim β h)
    | ret =>
      refine ⟨?_,fun b hb=>by cases hb⟩
      intro R st kn kr ke r hd he Q a w lim β h hn hr hx
      unfold evalK at he
      exact wp_ret (hr st he a w lim β h)
    | loop c ihc =>
      refine ⟨?_,fun b hb=>by injection hb with hb; subst hb; exact ihc.1⟩
      intro R st kn kr ke r hd he Q a w lim β h hn hr hx
      unfold evalK at he; cases he
    | goto l =>
      refine ⟨?_,fun b hb=>by cases hb⟩
      intro R st kn kr ke r hd he Q a w lim β h hn hr hx
      unfold evalK at he; cases he
    | label l =>
      refine ⟨?_,fun b hb=>by cases hb⟩
      intro R st kn kr ke r hd he
      unfold evalK at he; cases he
    | refuse l =>
      refine ⟨?_,fun b hb=>by cases hb⟩
      intro R st kn kr ke r hd he
      unfold evalK at he; cases he
    | scope c ihc =>
      refine ⟨?_,fun b hb=>by cases hb⟩
      intro R st kn kr ke r hd he
      unfold evalK at he; cases he
    | rangeFunc f ps x y ihx ihy =>
      refine ⟨?_,fun b hb=>by cases hb⟩
      intro R st kn kr ke r hd he
      unfold evalK at he; cases he
  exact both.1
end
end Go.Den

namespace Go.Den
section
variable {P : Program} {tab : Tab} {G : Gam} {w0 : Base} {lim0 : Lim} {rb : Option Nat} {n : Nat}
variable {st st' : St} {a : Act} {w : World} {lim : Lim} {β : Mp}

theorem putArgs_env {w : World} {lim : Lim} {rb : Option Nat} : ∀ {t : Ty} {x : t.val} {vals : List Value} {i : Nat},ArgsRep w lim rb t x vals→∀ j,((putArgs t x i).env j).av = .any ∨
    ∃ k v,j = i + k∧vals[k]? = some v∧((∃ b y,((putArgs t x i).env j).av = .dat b y∧TRep w lim b y v)∨(((putArgs t x i).env j).av = .rdr []∧∃ g,rb = some g∧v = .pointer (some ⟨g,0,none⟩))):=by
  intro t
  induction t with
  | prod p q ihp ihq =>
    intro x vals i h j
    cases vals with
    | nil=>exact h.elim
    | cons v vals =>
      obtain ⟨h1,h2⟩:=h
      have he : (putArgs (.prod p q) x i).env j = cnd (Nat.beq j i) ⟨argAV p x.1,none⟩ ((putArgs q x.2 (Nat.succ i)).env j):=rfl
      rw [he]
      cases hq : Nat.beq j i with
      | true =>
        have:=nbeq hq; subst this
        refine .inr ⟨0,v,rfl,rfl,?_⟩
        rcases h1 with ⟨h1,h3⟩ | ⟨h1,h3⟩
        · have : argAV p x.1 = .dat p x.1:=by cases p <;> first | rfl | exact absurd rfl h1
          exact .inl ⟨p,x.1,this,h3⟩
        · subst h1; exact .inr ⟨rfl,h3⟩
      | false =>
        rcases ihq (i:=Nat.succ i) h2 j with h3 | ⟨k,v',h3,h4,h5⟩
        · exact .inl h3
        · exact .inr ⟨k + 1,v',h3.trans (Nat.succ_add_eq_add_succ i k),by simpa using h4,h5⟩
  | unit=>intro x vals i _ j; exact .inl rfl
  | int k=>intro x vals i h; cases vals <;> exact h.elim
  | bool=>intro x vals i h; cases vals <;> exact h.elim
  | str=>intro x vals i h; cases vals <;> exact h.elim
  | slice t=>intro x vals i h; cases vals <;> exact h.elim
theorem putArgs_rest : ∀ {t : Ty} {x : t.val} {i : Nat},(∀ j,((putArgs t x i).env j).tag = none)∧(∀ b,(putArgs t x i).box b = none)∧(∀ l,(putArgs t x i).own l = false)∧(putArgs t x i).rd = none:=by
  intro t
  induction t with
  | prod p q ihp ihq =>
    intro x i
    obtain ⟨h1,h2,h3,h4⟩:=ihq (x:=x.2) (i:=Nat.succ i)
    refine ⟨fun j=>?_,h2,fun l=>?_,h4⟩
    · have he : (putArgs (.prod p q) x i).env j = cnd (Nat.beq j i) ⟨argAV p x.1,none⟩ ((putArgs q x.2 (Nat.succ i)).env j):=rfl
      rw [he]
      cases Nat.beq j i with
      | true=>rfl
      | false=>exact h1 j
    · cases l with
      | box b p=>exact h3 _
      | tmp u r =>
        have he : (putArgs (.prod p q) x i).own (.tmp u r) = cnd (Nat.beq u i) (inPaths r []) ((putArgs q x.2 (Nat.succ i)).own (.tmp u r)):=rfl
        rw [he]
        cases Nat.beq u i with
        | true=>rfl
        | false=>exact h3 _
  | _=>intro x i; exact ⟨fun _=>rfl,fun _=>rfl,fun _=>rfl,rfl⟩

theorem putArgs_trees : ∀ {t : Ty} {x : t.val} {i : Nat},(∀ r,(putArgs t x i).io r = none)∧∀ b,(putArgs t x i).xb b = none:=by
  intro t
  induction t with
  | prod p q ihp ihq =>
    intro x i
    obtain ⟨h1,h2⟩:=ihq (x:=x.2) (i:=Nat.succ i)
    exact ⟨h1,h2⟩
  | _=>intro x i; exact ⟨fun _=>rfl,fun _=>rfl⟩
theorem putArgs_rb : ∀ {t : Ty} {x : t.val} {i : Nat} (b : Tmp),(putArgs t x i).rb b = none:=by
  intro t
  induction t with
  | prod p q ihp ihq=>intro x i b; exact ihq (x:=x.2) (i:=Nat.succ i) b
  | _=>intro x i b; rfl
def base0 (w : World) : Base:={ w with X:=fun _=>False,mu:=false,V0:=undef }
theorem base0_grown {w w' : World} {rb : Option Nat} (h : (base0 w).grownBy w' rb) : w.grownBy w' rb :=
  ⟨h.os,h.tape,h.output,h.size,fun i hi hne=>h.block i hi hne id⟩
theorem offs_nil (t : Ty) : offs t [] = 0:=by cases t <;> rfl
theorem whole_cells {w : World} {g : Nat} {cells : Array Value} {e : TypeId} (hg : w.heap[g]? = some (.cells cells e (0,0))) : ∀ (j : Nat),w.cell? ⟨g,j,none⟩ = cells.toList[j]?:=by
  intro j
  simp [World.cell?,hg]

theorem resVal_ok (hT : TabOk P tab) (h : Sim w0 lim0 rb n st a w lim β) {ty : Ty} {r : ResultVar} {x : ty.val} (hr : resVal tab st ty r = some x) :
    ∃ v,(match r with | .tmp t=>pure (a.tmps.getD t undef) | .cell c t=>do loadVar t (← asAddr (a.tmps.getD c undef)) : Sem Value).run P w = .ok v w∧TRep w lim ty x v ∧
      ∀ p l,resLoc st p r = some l→st.own l = true→typeAt ty p = locTy st l∧v.cells.toList[offs ty p]? = locV st a w β l:=by
  cases r with
  | tmp t =>
    simp only [resVal] at hr
    refine ⟨_,Sem.run_pure _ _ _,as_rep hr (h.env t),fun p l hl ho=>?_⟩
    injection hl with hl; subst hl
    obtain ⟨e,v,k1,k2,_⟩:=h.own _ ho
    have hav : (st.env t).av = .dat ty x:=by
      rcases as_dat hr with h1 | h1
      · exact h1
      · simp only [locTy,h1] at k1; cases k1
    have ht:=h.env t
    rw [hav] at ht
    refine ⟨by simp only [locTy,hav],?_⟩
    simp only [locV,hav]
    rw [flat_TRep ht]; rfl
  | cell c t =>
    simp only [resVal] at hr
    split at hr
    · rename_i b hav
      have hc:=h.env c
      rw [hav] at hc
      obtain ⟨d,k1,k2⟩:=hc
      rw [k1] at hr
      simp only [] at hr
      cases hty : tyIs (tab t) d.1 with
      | false=>rw [hty] at hr; cases hr
      | true =>
        rw [hty] at hr
        obtain ⟨e1,e2⟩:=cast_some hr
        obtain ⟨dt,dv⟩:=d
        simp only at e1 e2 k1 k2 hty
        subst e1; subst e2
        obtain ⟨cells,e,m1,m2,m3,m4⟩:=h.box b _ k1
        have hcell:=whole_cells m1
        have hload:=run_loadVar (P:=P) (hT _ _ (tyIs_some hty)) m2 (b:=β b) (o:=0) (w:=w) (fun j u hu=>by rw [Nat.zero_add,hcell]; exact hu)
        have hp : a.tmps.getD c undef = .pointer (some ⟨β b,0,none⟩):=by
          have : offs dt [] = 0:=by cases dt <;> rfl
          rw [this] at k2; exact k2
        refine ⟨_,?_,⟨_,m2,rfl⟩,fun p l hl ho=>?_⟩
        · simp only [hp,asAddr,Sem.run_bind,Sem.run_pure,Result.andThen_ok]
          exact hload
        · simp only [resLoc,hav] at hl
          injection hl with hl; subst hl
          refine ⟨by simp only [locTy,k1],?_⟩
          simp only [locV,k1,hcell]
          rw [wrapV_cells m2]
    · cases hr

theorem resVals_ok (hT : TabOk P tab) (h : Sim w0 lim0 rb n st a w lim β) :
    ∀ {ty : Ty} {rs : List ResultVar} {x : ty.val},resVals tab st ty rs = some x→∃ vs : List Value,(∀ (f : ResultVar→Sem Value) (_ : ∀ u,f (.tmp u) = pure (a.tmps.getD u undef)) (_ : ∀ c t,f (.cell c t) = (do loadVar t (← asAddr (a.tmps.getD c undef)))),(rs.mapM f).run P w = .ok vs w)∧TupRep w lim ty x vs∧vs.length = rs.length ∧
      ∀ i r p l,nthR rs i = some r→resLoc st p r = some l→st.own l = true→typeAt ty (i :: p) = locTy st l∧(vs.flatMap fun v=>v.cells.toList)[offs ty (i :: p)]? = locV st a w β l:=by
  intro ty
  induction ty with
  | prod p q ihp ihq =>
    intro rs x hr
    cases rs with
    | nil=>cases hr
    | cons r rs =>
      simp only [resVals] at hr
      cases h1 : resVal tab st p r with
      | none=>rw [h1] at hr; cases hr
      | some y =>
        cases h2 : resVals tab st q rs with
        | none=>rw [h1,h2] at hr; cases hr
        | some z =>
          rw [h1,h2] at hr
          injection hr with hr; subst hr
          obtain ⟨v,k1,k2,k3⟩:=resVal_ok hT h h1
          obtain ⟨vs,m1,m2,m3,m4⟩:=ihq h2
          refine ⟨v :: vs,fun f hf hc=>?_,⟨v,vs,rfl,k2,m2⟩,by simp [m3],fun i r' pp l hi hl ho=>?_⟩
          · have hfr : (f r).run P w = .ok v w:=by
              cases r with
              | tmp u=>rw [hf]; exact k1
              | cell c t=>rw [hc]; exact k1
            simp [List.mapM_cons,hfr,m1 f hf hc]
          have hlen:=k2.cells.length
          cases i with
          | zero =>
            injection hi with hi; subst hi
            obtain ⟨e1,e2⟩:=k3 pp l hl ho
            refine ⟨e1,?_⟩
            obtain ⟨e,u,_,k5,_⟩:=h.own _ ho
            simp only [offs,List.flatMap_cons]
            rw [k5] at e2 ⊢
            rw [List.getElem?_append_left (List.getElem?_eq_some_iff.1 e2).1]; exact e2
          | succ i =>
            obtain ⟨e1,e2⟩:=m4 i r' pp l hi hl ho
            refine ⟨e1,?_⟩
            simp only [offs,List.flatMap_cons]
            rw [List.getElem?_append_right (by omega),hlen,show p.size + offs q (i :: pp) - p.size = offs q (i :: pp) by omega]; exact e2
  | unit =>
    intro rs x hr
    cases rs with
    | nil=>exact ⟨[],fun _ _ _=>by simp,rfl,rfl,fun i r p l hi=>by cases hi⟩
    | cons r rs=>cases hr
  | int k=>intro rs x hr; cases rs <;> cases hr
  | bool=>intro rs x hr; cases rs <;> cases hr
  | str=>intro rs x hr; cases rs <;> cases hr
  | slice t=>intro rs x hr; cases rs <;> cases hr

theorem resLocs_mem {rs : List ResultVar} : ∀ {ps : List (List Nat)} {ls : List Loc},resLocs st rs ps = some ls→∀ p ∈ ps,∃ i q r l,p = i :: q∧nthR rs i = some r∧resLoc st q r = some l∧st.own l = true∧l ∈ ls
  | [],ls,h,p,hp=>by cases hp
  | [] :: ps,ls,h,p,hp=>by cases h
  | (i :: q) :: ps,ls,h,p,hp=>by
    simp only [resLocs] at h
    cases h1 : nthR rs i with
    | none=>rw [h1] at h; cases h
    | some r =>
      rw [h1] at h; simp only [] at h
      cases h2 : resLoc st q r with
      | none=>rw [h2] at h; cases h
      | some l =>
        rw [h2] at h; simp only [] at h
        cases h3 : resLocs st rs ps with
        | none=>rw [h3] at h; cases h
        | some ls' =>
          rw [h3] at h; simp only [] at h
          cases h4 : st.own l with
          | false=>rw [h4] at h; cases h
          | true =>
            cases h5 : inLocs l ls' with
            | true=>rw [h4,h5] at h; cases h
            | false =>
              rw [h4,h5] at h
              injection h with h; subst h
              rcases List.mem_cons.1 hp with rfl | hp
              · exact ⟨i,q,r,l,rfl,h1,h2,h4,by simp⟩
              · obtain ⟨i',q',r',l',k1,k2,k3,k4,k5⟩:=resLocs_mem h3 p hp
                exact ⟨i',q',r',l',k1,k2,k3,k4,by simp [k5]⟩
theorem resLocs_inj {rs : List ResultVar} : ∀ {ps : List (List Nat)} {ls : List Loc},resLocs st rs ps = some ls→∀ i q r l i' q' r',(i :: q) ∈ ps→(i' :: q') ∈ ps→nthR rs i = some r→nthR rs i' = some r'→resLoc st q r = some l→resLoc st q' r' = some l→i :: q = i' :: q'
  | [],ls,h,i,q,r,l,i',q',r',hp,_,_,_,_,_=>by cases hp
  | [] :: ps,ls,h,_,_,_,_,_,_,_,hp,_,_,_,_,_=>by cases h
  | (j :: s) :: ps,ls,h,i,q,r,l,i',q',r',hp,hp',hr,hr',hl,hl'=>by
    simp only [resLocs] at h
    cases h1 : nthR rs j with
    | none=>rw [h1] at h; cases h
    | some rj =>
      rw [h1] at h; simp only [] at h
      cases h2 : resLoc st s rj with
      | none=>rw [h2] at h; cases h
      | some lj =>
        rw [h2] at h; simp only [] at h
        cases h3 : resLocs st rs ps with
        | none=>rw [h3] at h; cases h
        | some ls' =>
          rw [h3] at h; simp only [] at h
          cases h4 : st.own lj with
          | false=>rw [h4] at h; cases h
          | true =>
            cases h5 : inLocs lj ls' with
            | true=>rw [h4,h5] at h; cases h
            | false =>
              have clash : ∀ {i q r},(i :: q) ∈ ps→nthR rs i = some r→resLoc st q r = some lj→False:=by
                intro i q r hm hi hq
                obtain ⟨i2,q2,r2,l2,k1,k2,k3,k4,k5⟩:=resLocs_mem h3 _ hm
                injection k1 with k1 k1'; subst k1; subst k1'
                rw [hi] at k2; injection k2 with k2; subst k2
                rw [hq] at k3; injection k3 with k3; subst k3
                rw [inLocs_iff.2 k5] at h5; cases h5
              rcases List.mem_cons.1 hp with hp | _
              · injection hp with e1 e2; subst e1; subst e2
                rw [h1] at hr; injection hr with hr; subst hr
                rw [h2] at hl; injection hl with hl; subst hl
                rcases List.mem_cons.1 hp' with hp' | hp'
                · injection hp' with e1 e2; subst e1; subst e2; rfl
                · exact (clash hp' hr' hl').elim
              · rename_i hpm
                rcases List.mem_cons.1 hp' with hp' | hp'
                · injection hp' with e1 e2; subst e1; subst e2
                  rw [h1] at hr'; injection hr' with hr'; subst hr'
                  rw [h2] at hl'; injection hl' with hl'; subst hl'
                  exact (clash hpm hr hl).elim
                · exact resLocs_inj h3 i q r l i' q' r' hpm hp' hr hr' hl hl'

theorem one_rep {t : Ty} {y : t.val} {v : Value} (m2 : TupRep w lim t y [v]) : ERep st00 w lim mp0 none (resAV t true y) v:=by
  cases t with
  | prod p q' =>
    obtain ⟨v',vs',hv,t1,t2⟩:=m2
    injection hv with hv hvs; subst hv; subst hvs
    cases q' with
    | unit=>exact t1
    | prod _ _=>obtain ⟨v',vs',hv,_⟩:=t2; cases hv
    | _=>exact t2.elim
  | unit=>cases m2
  | _=>exact m2.elim
theorem one_part {t : Ty} {y : t.val} {v : Value} (m2 : TupRep w lim t y [v]) {q : List Nat} {lt : Option Ty} {lv : Option Value} (e1 : typeAt t (0 :: q) = lt) (e2 : ([v].flatMap fun v=>v.cells.toList)[offs t (0 :: q)]? = lv) :
    typeAV q (resAV t true y) = lt∧partAV v q (resAV t true y) = lv:=by
  cases t with
  | prod p q' =>
    obtain ⟨v',vs',hv,t1,t2⟩:=m2
    injection hv with hv hvs; subst hv; subst hvs
    cases q' with
    | unit =>
      simp only [resAV,typeAV,partAV]
      refine ⟨e1,?_⟩
      rw [flat_TRep t1]
      simpa [offs] using e2
    | prod _ _=>obtain ⟨v',vs',hv,_⟩:=t2; cases hv
    | _=>exact t2.elim
  | unit=>cases m2
  | _=>exact m2.elim

theorem rb_lt {s : Sig} {w : World} {lim : Lim} {rb : Option Nat} {rd : s.rdty.val} (hrd : RdIn w lim rb s rd) : ∀ k,some k = rb→k < w.heap.size:=by
  intro k hk
  cases hu : s.usesRd with
  | true =>
    obtain ⟨b,cells,e,h1,h2,_⟩:=hrd.1 hu
    rw [h1] at hk; injection hk with hk; subst hk
    exact (Array.getElem?_eq_some_iff.1 h2).1
  | false=>rw [hrd.2 hu] at hk; cases hk

theorem start_sim {s : Sig} {w : World} {lim : Lim} {rb : Option Nat} {x : s.aty.val} {rd : s.rdty.val} {vals : List Value} (m : Nat) (hargs : ArgsRep w lim rb s.aty x vals) (hrd : RdIn w lim rb s rd) :
    Sim (base0 w) lim rb (vals.toArray ++ Array.replicate (m - vals.toArray.size) undef).size (startOf s.aty s.rdty s.usesRd x rd) { tmps:=vals.toArray ++ Array.replicate (m - vals.toArray.size) undef,defers:=[] } w lim mp0:=by
  obtain ⟨q1,q2,q3,q4⟩:=putArgs_rest (t:=s.aty) (x:=x) (i:=0)
  have henv:=putArgs_env (i:=0) hargs
  unfold startOf
  have e1 : ∀ t,(cnd s.usesRd { putArgs s.aty x 0 with rd:=some ⟨s.rdty,rd⟩ } (putArgs s.aty x 0)).env t = (putArgs s.aty x 0).env t:=fun t=>by cases s.usesRd <;> rfl
  have e2 : ∀ t,(cnd s.usesRd { putArgs s.aty x 0 with rd:=some ⟨s.rdty,rd⟩ } (putArgs s.aty x 0)).box t = (putArgs s.aty x 0).box t:=fun t=>by cases s.usesRd <;> rfl
  have e3 : ∀ t,(cnd s.usesRd { putArgs s.aty x 0 with rd:=some ⟨s.rdty,rd⟩ } (putArgs s.aty x 0)).own t = (putArgs s.aty x 0).own t:=fun t=>by cases s.usesRd <;> rfl
  refine ⟨rfl,rfl,⟨rfl,rfl,rfl,Nat.le_refl _,fun _ _ _ _=>rfl⟩,fun _ _ _=>rfl,fun _ hg=>hg.elim,fun t=>?_,fun b d hbx=>?_,fun b c d d' hbx=>?_,fun l hl=>?_,fun l g hl=>?_,fun l l' g hl=>?_,fun t l hl=>?_,fun d hd=>?_,?_⟩
  · rw [e1]
    rcases henv t with h1 | ⟨k,v,h1,h2,h3⟩
    · rw [h1]; trivial
    · have hv : tmpOf { tmps:=vals.toArray ++ Array.replicate (m - vals.toArray.size) undef,defers:=[] } t = v:=by
        have hk:=(List.getElem?_eq_some_iff.1 h2).1
        have : t = k:=h1.trans (Nat.zero_add k)
        subst this
        simp only [tmpOf]
        rw [Array.getD_eq_getD_getElem?,Array.getElem?_append_left (by simpa using hk)]
        simp [h2]
      rw [hv]
      rcases h3 with ⟨b,y,h3,h4⟩ | ⟨h3,g,h4,h5⟩
      · rw [h3]; exact h4
      · rw [h3]
        cases hu : s.usesRd with
        | false=>rw [hrd.2 hu] at h4; cases h4
        | true=>exact ⟨⟨s.rdty,rd⟩,g,rfl,h4,by rw [h5,offs_nil]⟩
  · rw [e2,q2] at hbx; cases hbx
  · rw [e2,q2] at hbx; cases hbx
  · rw [e3,q3] at hl; cases hl
  · rw [e3,q3] at hl; cases hl
  · rw [e3,q3] at hl; cases hl
  · rw [e1,q1] at hl; cases hl
  · cases hu : s.usesRd with
    | false=>rw [hu] at hd; simp only [cnd_false,q4] at hd; cases hd
    | true =>
      rw [hu] at hd
      injection hd with hd; subst hd
      obtain ⟨b,cells,e,h1,h2,h3,h4⟩:=hrd.1 hu
      exact ⟨b,cells,e,h1,(Array.getElem?_eq_some_iff.1 h2).1,h2,h3,h4⟩
  · obtain ⟨t1,t2⟩:=putArgs_trees (t:=s.aty) (x:=x) (i:=0)
    exact no_trees (fun r=>by cases s.usesRd <;> exact t1 r) (fun b=>by cases s.usesRd <;> exact t2 b) (fun b=>by cases s.usesRd <;> exact putArgs_rb b)

theorem fn_core (hT : TabOk P tab) (hG : GamOk P G) (hm : P.follows .mixedOrders = true) {f : FuncId} {fn : Func} {c : Code} (hf : P.funcs[f]? = some fn) (hb : fn.body = some c)
    (s : Sig) (hone : Nat.beq fn.results.toList.length 1 = s.one) {ann : Ann} {fuel : Nat} (hdst : dstsOk fn.ntmps c = true) {st0 : St} {r : s.rty.val × s.rdty.val}
    (he : evalK tab G ann fuel c (s.rty.val × s.rdty.val) st0 (finOf tab fn.results.toList s.rdty s.usesRd s.rty s.own) (finOf tab fn.results.toList s.rdty s.usesRd s.rty s.own) (fun _ _=>none) = some r)
    {w : World} {lim : Lim} {rb : Option Nat} {vals : List Value} (hrb : ∀ k,some k = rb→k < w.heap.size)
    (hsim : Sim (base0 w) lim rb (vals.toArray ++ Array.replicate (fn.ntmps - vals.toArray.size) undef).size st0 { tmps:=vals.toArray ++ Array.replicate (fn.ntmps - vals.toArray.size) undef,defers:=[] } w lim mp0) :
    Calls P f vals.toArray w (RetOk w lim rb s r):=by
  refine calls_of_wp hf hb ?_
  -- what stands at the end
  have hend : ∀ st',finOf tab fn.results.toList s.rdty s.usesRd s.rty s.own st' = some r→∀ a' w' lim' β',Sim (base0 w) lim rb (vals.toArray ++ Array.replicate (fn.ntmps - vals.toArray.size) undef).size st' a' w' lim' β' →
      a'.defers = []∧∃ v,(results fn a'.tmps).run P w' = .ok v w'∧RetOk w lim rb s r (.returned v) w':=by
    intro st0' hfin a' w' lim0' β' hs0
    have hs:=hs0.frz fn.results.toList hrb
    unfold finOf at hfin
    simp only [] at hfin
    revert hfin hs
    generalize frz fn.results.toList st0' = st'
    generalize limF st0' β' w' lim0' = lim'
    intro hfin hs
    refine ⟨hs.defers,?_⟩
    cases h1 : resVals tab st' s.rty fn.results.toList with
    | none=>rw [h1] at hfin; cases hfin
    | some y =>
      cases h2 : resLocs st' fn.results.toList s.own with
      | none=>rw [h1,h2] at hfin; cases hfin
      | some ls =>
        rw [h1,h2] at hfin
        simp only [] at hfin
        have hr1 : r.1 = y∧(s.usesRd = true→∃ d,st'.rd = some d∧Ty.cast d.1 s.rdty d.2 = some r.2):=by
          cases hu : s.usesRd with
          | false=>rw [hu] at hfin; injection hfin with hfin; subst hfin; exact ⟨rfl,fun h=>by cases h⟩
          | true =>
            rw [hu] at hfin
            simp only [cnd_true] at hfin
            cases h3 : st'.rd with
            | none=>rw [h3] at hfin; cases hfin
            | some d =>
              rw [h3] at hfin; simp only [] at hfin
              cases h4 : Ty.cast d.1 s.rdty d.2 with
              | none=>rw [h4] at hfin; cases hfin
              | some z =>
                rw [h4] at hfin; injection hfin with hfin; subst hfin
                exact ⟨rfl,fun _=>⟨d,rfl,h4⟩⟩
        obtain ⟨hry,hrrd⟩:=hr1
        obtain ⟨vs,m1,m2,m3,m4⟩:=resVals_ok hT hs h1
        have hrun : (results fn a'.tmps).run P w' = .ok (if h : vs.toArray.size = 1 then vs.toArray[0] else .tuple vs.toArray) w':=by
          unfold results
          rw [show fn.results = fn.results.toList.toArray by simp,List.mapM_toArray]
          simp only [Sem.run_bind,Sem.run_map]
          rw [m1]
          · simp
          · intro u; rfl
          · intro c t; rfl
        refine ⟨_,hrun,_,lim',rfl,base0_grown hs.grow,fun b hb=>hs.limOld b hb id,?_⟩
        -- the value
        have shape : (s.one = false∧(if h : vs.toArray.size = 1 then vs.toArray[0] else .tuple vs.toArray) = .tuple vs.toArray) ∨
            (s.one = true∧∃ v,vs = [v]∧(if h : vs.toArray.size = 1 then vs.toArray[0] else .tuple vs.toArray) = v):=by
          cases ho : s.one with
          | true =>
            rw [ho] at hone
            have hl:=nbeq hone
            obtain ⟨v,rfl⟩:=List.length_eq_one_iff.1 (m3.trans hl)
            exact .inr ⟨rfl,v,rfl,by simp⟩
          | false =>
            rw [ho] at hone
            have hl : fn.results.toList.length ≠ 1:=fun e=>by rw [e] at hone; cases hone
            refine .inl ⟨rfl,?_⟩
            rw [dif_neg]
            simp only [List.size_toArray]
            rw [m3]; exact hl
        -- a slice that is handed out
        have part : ∀ i q r' l,nthR fn.results.toList i = some r'→resLoc st' q r' = some l→st'.own l = true →
            ∃ p',(s.one = true→p' = q)∧(s.one = false→p' = i :: q)∧typeAV p' (resAV s.rty s.one r.1) = locTy st' l ∧
              partAV (if h : vs.toArray.size = 1 then vs.toArray[0] else .tuple vs.toArray) p' (resAV s.rty s.one r.1) = locV st' a' w' β' l:=by
          intro i q r' l hi hl ho
          obtain ⟨e1,e2⟩:=m4 i r' q l hi hl ho
          rcases shape with ⟨s1,s2⟩ | ⟨s1,v,s2,s3⟩
          · refine ⟨i :: q,fun h=>(by rw [s1] at h; cases h),fun _=>rfl,?_,?_⟩
            · rw [s1]
              have : resAV s.rty false r.1 = .tup s.rty r.1:=by unfold resAV; split <;> simp_all
              rw [this]; exact e1
            · rw [s2,s1]
              have : resAV s.rty false r.1 = .tup s.rty r.1:=by unfold resAV; split <;> simp_all
              rw [this]
              simpa [partAV,flatV] using e2
          · refine ⟨q,fun _=>rfl,fun h=>(by rw [s1] at h; cases h),?_⟩
            subst s2
            rw [s3,s1,hry]
            have hi0 : i = 0:=by
              cases hrs : fn.results.toList with
              | nil=>rw [hrs] at hi; cases hi
              | cons r0 rs =>
                rw [hrs] at hi m3
                have : rs = []:=by simpa using m3
                subst this
                cases i with
                | zero=>rfl
                | succ i=>cases hi
            subst hi0
            exact one_part m2 e1 e2
        refine ⟨?_,fun p hp=>?_,fun p hp q hq T1 T2 x' y' g ht1 ht2 hx' hy' hbx hby=>?_,fun hu=>?_⟩
        · rcases shape with ⟨s1,s2⟩ | ⟨s1,v,s2,s3⟩
          · rw [s2,s1,hry]
            have : resAV s.rty false y = .tup s.rty y:=by unfold resAV; split <;> simp_all
            rw [this]; exact ⟨vs,rfl,m2⟩
          · rw [s3,s1,hry]
            subst s2
            exact one_rep m2
        · have src : ∃ i q,(i :: q) ∈ s.own∧(s.one = true→p = q)∧(s.one = false→p = i :: q):=by
            cases ho : s.one with
            | true =>
              rw [ho] at hp
              obtain ⟨p0,hp0,rfl⟩:=List.mem_map.1 hp
              obtain ⟨i,q,r',l,k1,_⟩:=resLocs_mem h2 p0 hp0
              subst k1
              exact ⟨i,q,hp0,fun _=>rfl,fun h=>by cases h⟩
            | false =>
              rw [ho] at hp
              obtain ⟨i,q,r',l,k1,_⟩:=resLocs_mem h2 p hp
              subst k1
              exact ⟨i,q,hp,fun h=>(by cases h),fun _=>rfl⟩
          obtain ⟨i,q,hm',t1,t2⟩:=src
          obtain ⟨i',q',r',l,k1,k2,k3,k4,_⟩:=resLocs_mem h2 _ hm'
          injection k1 with k1 k1'; subst k1; subst k1'
          obtain ⟨p',u1,u2,u3,u4⟩:=part _ _ r' l k2 k3 k4
          have : p = p':=by
            cases ho : s.one with
            | true=>rw [t1 ho,u1 ho]
            | false=>rw [t2 ho,u2 ho]
          subst this
          obtain ⟨e,v,z1,z2,z3⟩:=hs.own l k4
          exact ⟨e,v,u3.trans z1,u4.trans z2,z3.below fun g hg=>hg.resolve_right id⟩
        · have src : ∀ p,p ∈ resOwn s.one s.own→∃ i q r' l,(i :: q) ∈ s.own∧nthR fn.results.toList i = some r'∧resLoc st' q r' = some l∧st'.own l = true∧(s.one = true→p = q)∧(s.one = false→p = i :: q)∧typeAV p (resAV s.rty s.one r.1) = locTy st' l ∧
              partAV (if h : vs.toArray.size = 1 then vs.toArray[0] else .tuple vs.toArray) p (resAV s.rty s.one r.1) = locV st' a' w' β' l:=by
            intro p hp
            have src : ∃ i q,(i :: q) ∈ s.own∧(s.one = true→p = q)∧(s.one = false→p = i :: q):=by
              cases ho : s.one with
              | true =>
                rw [ho] at hp
                obtain ⟨p0,hp0,rfl⟩:=List.mem_map.1 hp
                obtain ⟨i,q,r',l,k1,_⟩:=resLocs_mem h2 p0 hp0
                subst k1
                exact ⟨i,q,hp0,fun _=>rfl,fun h=>by cases h⟩
              | false =>
                rw [ho] at hp
                obtain ⟨i,q,r',l,k1,_⟩:=resLocs_mem h2 p hp
                subst k1
                exact ⟨i,q,hp,fun h=>(by cases h),fun _=>rfl⟩
            obtain ⟨i,q,hm',t1,t2⟩:=src
            obtain ⟨i',q',r',l,k1,k2,k3,k4,_⟩:=resLocs_mem h2 _ hm'
            injection k1 with k1 k1'; subst k1; subst k1'
            obtain ⟨p',u1,u2,u3,u4⟩:=part _ _ r' l k2 k3 k4
            have : p = p':=by
              cases ho : s.one with
              | true=>rw [t1 ho,u1 ho]
              | false=>rw [t2 ho,u2 ho]
            subst this
            exact ⟨_,_,r',l,hm',k2,k3,k4,t1,t2,u3,u4⟩
          obtain ⟨i1,q1,r1,l1,a1,a2,a3,a4,a5,a6,a8,a7⟩:=src p hp
          obtain ⟨i2,q2,r2,l2,b1,b2,b3,b4,b5,b6,b8,b7⟩:=src q hq
          rw [a7] at hx'
          rw [b7] at hy'
          rw [a8] at ht1
          rw [b8] at ht2
          have hll:=hs.sep l1 l2 g a4 b4 ⟨_,_,ht1,hx',hbx⟩ ⟨_,_,ht2,hy',hby⟩
          subst hll
          have:=resLocs_inj h2 i1 q1 r1 l1 i2 q2 r2 a1 b1 a2 b2 a3 b3
          injection this with g1 g2
          cases ho : s.one with
          | true=>rw [a5 ho,b5 ho,g2]
          | false=>rw [a6 ho,b6 ho,g1,g2]
        · obtain ⟨d,d1,d2⟩:=hrrd hu
          obtain ⟨b,cells,e,z1,z2,z3,z4,_⟩:=hs.rd d d1
          obtain ⟨e1,e2⟩:=cast_some d2
          obtain ⟨dt,dv⟩:=d
          simp only at e1 e2 z4
          subst e1
          exact ⟨b,cells,e,z1,z3,by rw [e2]; exact z4⟩
  refine eval_sound (m:=fn.ntmps) hT hG hm hrb (by simp; omega) c _ _ _ _ _ r hdst he _ _ _ _ _ hsim (fun st' hk a' w' lim' β' hs=>hend st' hk a' w' lim' β' hs) (fun st' hk a' w' lim' β' hs=>hend st' hk a' w' lim' β' hs) (fun i st' hk=>by cases hk)

theorem fn_ok (hT : TabOk P tab) (hG : GamOk P G) (hm : P.follows .mixedOrders = true) {f : FuncId} {fn : Func} {c : Code} (hf : P.funcs[f]? = some fn) (hname : (fn.name == "runtime.NumGoroutine") = false) (hb : fn.body = some c)
    (s : Sig) (hop : s.opens = false) (hmu : s.muts = false) (hone : Nat.beq fn.results.toList.length 1 = s.one) {ann : Ann} {fuel : Nat} (hfn : ∀ x rd r,s.fn x rd = some r→evalFn tab G ann fuel fn s.aty s.rdty s.usesRd s.rty s.own x rd = some r) (hfv : s.fv = none:=by rfl) : FnOk P f s:=by
  refine ⟨fun args w=>?_,fun _ _ _ x rd r hr w lim rb vals hargs hrd=>?_,fun g hg=>(by rw [hfv] at hg; cases hg),fun _ h=>(by rw [hop] at h; cases h),fun _ h=>(by rw [hmu] at h; cases h)⟩
  · have h1 : fn.name ≠ "runtime.NumGoroutine" := by simpa using hname
    simp [callFunc,hf,h1,hb]
  · have he:=hfn x rd r hr
    unfold evalFn at he
    rw [hb] at he
    simp only [] at he
    cases hdst : dstsOk fn.ntmps c with
    | false=>rw [hdst] at he; cases he
    | true =>
    rw [hdst] at he
    simp only [cnd_true] at he
    exact fn_core hT hG hm hf hb s hone hdst he (rb_lt hrd) (start_sim fn.ntmps hargs hrd)
end
end Go.Den

namespace Go.Den
section
variable {P : Program} {tab : Tab} {G : Gam}

def startK (w : World) (rdty : Ty) (cs : List Value) : Nat→List Nat→Value:=match rdty,(cs[0]? : Option Value) with
  | Ty.slice e,some (Value.slice (some a) _ _)=>fun n q=>(w.cell? ⟨a.block,n * e.size + offs e q,none⟩).getD undef
  | _,_=>fun _ _=>undef
theorem startK_ok {w : World} {e : Ty} {rd : (Ty.slice e).val} {cs : List Value} {B : Nat→Prop} (hX : XRep w (.slice e) rd cs B) {q : List Nat} {e' : Ty} {g m c n : Nat} (hq : typeAt e q = some (.slice e'))
    (hV : cs[0]? = some (.slice (some ⟨g,0,none⟩) m c)) (hn : n < m) : w.cell? ⟨g,n * e.size + offs e q,none⟩ = some (startK w (.slice e) cs n q):=by
  have hk : startK w (.slice e) cs n q = (w.cell? ⟨g,n * e.size + offs e q,none⟩).getD undef:=by simp only [startK,hV]
  rw [hk]
  rcases hX with ⟨h1,_⟩ | ⟨g',c',arr,el,fr,Bs,h1,h2,h3,h4,hf,h5,h6,h7,h8⟩
  · rw [h1] at hV; cases hV
  · rw [h1] at hV
    injection hV with hV
    injection hV with k1 k2 k3
    injection k1 with k1
    injection k1 with k1
    subst k1
    obtain ⟨ds,m1,m2⟩:=h8 n ((show List e.val from rd)[n]'(by rw [k2]; exact hn)) (List.getElem?_eq_getElem _)
    have hl:=typeAt_lt hq
    have hs : (Ty.slice e').size = 1:=rfl
    have hdl:=m1.length
    have:=m2 (offs e q) _ (List.getElem?_eq_getElem (by omega))
    have hc : w.cell? ⟨g',n * e.size + offs e q,none⟩ = arr[n * e.size + offs e q]?:=by simp [World.cell?,h4]
    rw [hc,this]; rfl
theorem start_mut {b rdty : Ty} {w : World} {lim : Lim} {x : b.val} {rd : rdty.val} {vs : List Value} {cs : List Value} {B : Nat→Prop} (m : Nat) (hX : XRep w rdty rd cs B) (hB : ∀ g,B g→lim g = some 0) (hargs : ArgsRep w lim none b x vs) :
    Sim { w with X:=B,mu:=true,V0:=wrapV rdty cs } lim none ((wrapV rdty cs :: vs).toArray ++ Array.replicate (m - (wrapV rdty cs :: vs).toArray.size) undef).size (startMut b rdty x rd)
      { tmps:=(wrapV rdty cs :: vs).toArray ++ Array.replicate (m - (wrapV rdty cs :: vs).toArray.size) undef,defers:=[] } w lim ⟨fun _=>0,fun _=>0,fun _=>wrapV rdty cs,fun _=>B,startK w rdty cs⟩:=by
  obtain ⟨q1,q2,q3,q4⟩:=putArgs_rest (t:=b) (x:=x) (i:=1)
  obtain ⟨t1,t2⟩:=putArgs_trees (t:=b) (x:=x) (i:=1)
  have henv:=putArgs_env (i:=1) hargs
  have hcr : CRep w (fun _=>none) rdty rd cs:=hX.crep (fun _ _=>rfl)
  have hfl : flatV (wrapV rdty cs) = cs:=flat_wrap hcr
  have he : ∀ t,(startMut b rdty x rd).env t = cnd (Nat.beq t 0) ⟨.xf 0 [],none⟩ ((putArgs b x 1).env t):=fun _=>rfl
  have hio : ∀ r d,(startMut b rdty x rd).io r = some d→r = 0∧d = ⟨rdty,rd⟩:=by
    intro r d hr
    have hr : cnd (Nat.beq r 0) (some (⟨rdty,rd⟩ : Dat)) none = some d:=hr
    cases hq : Nat.beq r 0 with
    | true=>rw [hq] at hr; injection hr with hr; exact ⟨nbeq hq,hr.symm⟩
    | false=>rw [hq] at hr; cases hr
  have hxb : ∀ k,(startMut b rdty x rd).xb k = none:=fun k=>t2 k
  have hbx : ∀ k,(startMut b rdty x rd).box k = none:=fun k=>q2 k
  have hown : ∀ l,(startMut b rdty x rd).own l = false:=by
    intro l
    cases l with
    | box c p=>exact q3 _
    | tmp u p =>
      have : (startMut b rdty x rd).own (.tmp u p) = cnd (Nat.beq u 0) (inPaths p []) ((putArgs b x 1).own (.tmp u p)):=rfl
      rw [this]
      cases Nat.beq u 0 with
      | true=>rfl
      | false=>exact q3 _
  refine ⟨rfl,rfl,⟨rfl,rfl,rfl,Nat.le_refl _,fun _ _ _ _=>rfl⟩,fun _ _ _=>rfl,fun _ _ h=>(by cases h),fun t=>?_,fun k d hk=>(by rw [hbx] at hk; cases hk),fun k c d d' hk=>(by rw [hbx] at hk; cases hk),fun l hl=>(by rw [hown] at hl; cases hl),
    fun l g hl=>(by rw [hown] at hl; cases hl),fun l l' g hl=>(by rw [hown] at hl; cases hl),fun t l hl=>?_,fun d hd=>?_,?_⟩
  · rw [he]
    cases hq : Nat.beq t 0 with
    | true =>
      have:=nbeq hq; subst this
      refine ⟨⟨rdty,rd⟩,rfl,.inr ⟨rdty,by cases rdty <;> rfl,?_⟩⟩
      simp only [offs_nil,List.drop_zero,hfl]
      rw [← hX.length,List.take_length]
      simp only [tmpOf]
      rw [Array.getD_eq_getD_getElem?,Array.getElem?_append_left (by simp)]
      simp
    | false =>
      simp only [cnd_false]
      rcases henv t with h1 | ⟨k,v,h1,h2,h3⟩
      · rw [h1]; trivial
      · rcases h3 with ⟨c,y,h3,h4⟩ | ⟨_,g,h4,_⟩
        · have hv : tmpOf { tmps:=(wrapV rdty cs :: vs).toArray ++ Array.replicate (m - (wrapV rdty cs :: vs).toArray.size) undef,defers:=[] } t = v:=by
            have hk:=(List.getElem?_eq_some_iff.1 h2).1
            subst h1
            simp only [tmpOf]
            rw [Array.getD_eq_getD_getElem?,Array.getElem?_append_left (by simp; omega)]
            simp [Nat.add_comm 1 k,h2]
          rw [hv,h3]; exact h4
        · cases h4
  · rw [he] at hl
    cases hq : Nat.beq t 0 with
    | true=>rw [hq] at hl; cases hl
    | false=>rw [hq] at hl; simp only [cnd_false,q1] at hl; cases hl
  · have hd : (putArgs b x 1).rd = some d:=hd
    rw [q4] at hd; cases hd
  · refine ⟨fun r d hr=>?_,fun r d g hr hg=>?_,fun r d g hr hg c d' hc=>(by rw [hbx] at hc; cases hc),fun r d g hr hg l hl=>(by rw [hown] at hl; cases hl),fun r d r' d' g hr hr' hg hg'=>?_,fun k t o hk=>(by rw [hxb] at hk; cases hk),fun k t o hk=>(by rw [hxb] at hk; cases hk),
      fun k c t o t' o' hk=>(by rw [hxb] at hk; cases hk),fun d hd _=>⟨rfl,rfl⟩,fun d hd e q e' g m c k he1 hq hV hk=>?_,fun bb d ps hb=>?_⟩
    · obtain ⟨e1,e2⟩:=hio r d hr
      subst e2
      simp only [hfl]; exact hX
    · exact ⟨.inr hg,by simp,hB g hg⟩
    · rw [(hio r d hr).1,(hio r' d' hr').1]
    · have hdd:=(hio 0 d hd).2
      subst hdd
      simp only at he1
      subst he1
      simp only [hfl] at hV
      exact startK_ok hX hq hV hk
    · have hb : (putArgs b x 1).rb bb = some (d,ps):=hb
      rw [putArgs_rb] at hb; cases hb

theorem mut_ok (hT : TabOk P tab) (hG : GamOk P G) (hm : P.follows .mixedOrders = true) {f : FuncId} {fn : Func} {c : Code} (hf : P.funcs[f]? = some fn) (hname : (fn.name == "runtime.NumGoroutine") = false) (hb : fn.body = some c)
    (b rdty rty : Ty) (one : Bool) (g : (Ty.prod .unit b).val→rdty.val→Option (rty.val × rdty.val)) (hone : Nat.beq fn.results.toList.length 1 = one) {ann : Ann} {fuel : Nat}
    (hfn : ∀ x rd r,g ((),x) rd = some r→evalMut tab G ann fuel fn b rdty rty x rd = some r) :
    FnOk P f { aty:=.prod .unit b,rdty:=rdty,usesRd:=true,rty:=rty,one:=one,own:=[],opens:=false,muts:=true,fn:=g }:=by
  refine ⟨fun args w=>?_,fun _ _ h=>(by cases h),fun g hg=>(by cases hg),fun _ h=>(by cases h),fun _ _ x rd r hr w lim vals B hargs hB=>?_⟩
  · have h1 : fn.name ≠ "runtime.NumGoroutine" := by simpa using hname
    simp [callFunc,hf,h1,hb]
  · obtain ⟨⟨⟩,x⟩:=x
    have he:=hfn x rd r hr
    cases vals with
    | nil=>exact hargs.elim
    | cons v0 vs =>
    obtain ⟨⟨cs,hv0,hX⟩,hrest⟩:=hargs
    subst hv0
    unfold evalMut at he
    rw [hb] at he
    simp only [] at he
    cases hdst : dstsOk fn.ntmps c with
    | false=>rw [hdst] at he; cases he
    | true =>
    rw [hdst] at he
    simp only [cnd_true] at he
    refine calls_of_wp hf hb ?_
    have hsim:=start_mut fn.ntmps hX hB hrest
    have hcr : CRep w (fun _=>none) rdty rd cs:=hX.crep (fun _ _=>rfl)
    have hfl : flatV (wrapV rdty cs) = cs:=flat_wrap hcr
    have hend : ∀ st',finMut tab fn.results.toList rdty rty st' = some r→∀ a' w' lim' β',Sim { w with X:=B,mu:=true,V0:=wrapV rdty cs } lim none ((wrapV rdty cs :: vs).toArray ++ Array.replicate (fn.ntmps - (wrapV rdty cs :: vs).toArray.size) undef).size st' a' w' lim' β' →
        a'.defers = []∧∃ v,(results fn a'.tmps).run P w' = .ok v w'∧MutOk w { aty:=.prod .unit b,rdty:=rdty,usesRd:=true,rty:=rty,one:=one,own:=[],opens:=false,muts:=true,fn:=g } r B (wrapV rdty cs :: vs) (.returned v) w':=by
      intro st' hfin a' w' lim' β' hs
      refine ⟨hs.defers,?_⟩
      unfold finMut at hfin
      cases h1 : resVals tab st' rty fn.results.toList with
      | none=>rw [h1] at hfin; cases hfin
      | some y =>
        cases h2 : st'.io 0 with
        | none=>rw [h1,h2] at hfin; cases hfin
        | some d =>
          rw [h1,h2] at hfin; simp only [] at hfin
          cases h3 : Ty.cast d.1 rdty d.2 with
          | none=>rw [h3] at hfin; cases hfin
          | some z =>
            rw [h3] at hfin; injection hfin with hfin; subst hfin
            obtain ⟨vals',m1,m2,m3,_⟩:=resVals_ok hT hs h1
            have hrun : (results fn a'.tmps).run P w' = .ok (if h : vals'.toArray.size = 1 then vals'.toArray[0] else .tuple vals'.toArray) w':=by
              unfold results
              rw [show fn.results = fn.results.toList.toArray by simp,List.mapM_toArray]
              simp only [Sem.run_bind,Sem.run_map]
              rw [m1]
              · simp
              · intro u; rfl
              · intro c t; rfl
            obtain ⟨e1,e2⟩:=cast_some h3
            obtain ⟨dt,dv⟩:=d
            simp only at e1 e2
            subst e1
            obtain ⟨k1,k2⟩:=hs.xs.fix _ h2 rfl
            have hXe:=hs.xs.io 0 _ h2
            rw [k1,k2] at hXe
            have hXe : XRep w' dt dv (flatV (wrapV dt cs)) B:=hXe
            rw [hfl] at hXe
            refine ⟨_,hrun,_,rfl,hs.grow.os,hs.grow.tape,hs.grow.output,hs.grow.size,fun k hk hn=>hs.grow.block k hk (by simp) hn,?_,cs,rfl,by show XRep w' dt z cs B; rw [e2]; exact hXe⟩
            have hext : Ext w' lim' w' (fun _=>none):=⟨Nat.le_refl _,fun _ _ _ _ _ h=>h,fun _ _ _ _ k hk=>by cases hk⟩
            cases one with
            | true =>
              have hl:=nbeq hone
              obtain ⟨v,rfl⟩:=List.length_eq_one_iff.1 (m3.trans hl)
              have : ERep st00 w' (fun _=>none) mp0 none (resAV rty true y) v:=one_rep (m2.mono hext)
              simpa using this
            | false =>
              have hl : fn.results.toList.length ≠ 1:=fun e=>by rw [e] at hone; cases hone
              rw [dif_neg (by simp only [List.size_toArray]; rw [m3]; exact hl)]
              have : resAV rty false y = .tup rty y:=by unfold resAV; split <;> simp_all
              show ERep st00 w' (fun _=>none) mp0 none (resAV rty false y) _
              rw [this]
              exact ⟨vals',rfl,m2.mono hext⟩
    refine eval_sound (m:=fn.ntmps) hT hG hm (fun k hk=>by cases hk) (by simp; omega) c _ _ _ _ _ r hdst he _ _ _ _ _ hsim (fun st' hk a' w' lim' β' hs=>hend st' hk a' w' lim' β' hs) (fun st' hk a' w' lim' β' hs=>hend st' hk a' w' lim' β' hs) (fun i st' hk=>by cases hk)
end
end Go.Den

namespace Go.Den
structure Atoms where
  cndS : {α : Type}→(c : Bool)→(x y : α)→α
  obind : {α β : Type}→(x : Option α)→(f : α→Option β)→Option β
  sumE : {α β γ : Type}→(e : α ⊕ β)→(f : α→γ)→(g : β→γ)→γ
  iter : {σ ρ : Type}→Nat→(σ→Option (σ ⊕ ρ))→σ→Option ρ
  le0 : (n : Int)→Bool
  leI : (a b : Int)→Bool
  ltI : (a b : Int)→Bool
  lenL : {α : Type}→(xs : List α)→Int
  takeL : {α : Type}→(xs : List α)→(n : Int)→List α
  dropL : {α : Type}→(xs : List α)→(n : Int)→List α
  atL : {α : Type}→(xs : List α)→(n : Int)→(d : α)→α
  appL : {α : Type}→(xs ys : List α)→List α
  repL : {α : Type}→(n : Int)→(d : α)→List α
  u8i : (b : UInt8)→Int
  eqI : (a b : Int)→Bool
  eqB : (a b : Bool)→Bool
  eqS : (a b : List UInt8)→Bool
  lessS : (a b : List UInt8)→Bool
  notB : (b : Bool)→Bool
  andB : (a b : Bool)→Bool
  orB : (a b : Bool)→Bool
  wrapI : (k : IntKind)→(n : Int)→Int
  addI : (a b : Int)→Int
  subI : (a b : Int)→Int
  mulI : (a b : Int)→Int
  quoI : (a b : Int)→Int
  remI : (a b : Int)→Int
  minI : (a b : Int)→Int
  maxI : (a b : Int)→Int
  xorI : (k : IntKind)→(a b : Int)→Int
  shrI : (a b : Int)→Int
  setL : {α : Type}→(xs : List α)→(n : Int)→(x : α)→List α
  byteList : (xs : List Int)→List UInt8
  intList : (s : List UInt8)→List Int
  big : Int
def real : Atoms:={ cndS:=@cndS,obind:=@obind,sumE:=@sumE,iter:=@iter,le0:=le0,leI:=leI,ltI:=ltI,lenL:=@lenL,takeL:=@takeL,dropL:=@dropL,atL:=@atL,appL:=@appL,repL:=@repL,u8i:=u8i,eqI:=eqI,eqB:=eqB,eqS:=eqS,lessS:=lessS,notB:=notB,andB:=andB,orB:=orB,wrapI:=wrapI,addI:=addI,subI:=subI,mulI:=mulI,quoI:=quoI,remI:=remI,minI:=minI,maxI:=maxI,xorI:=xorI,shrI:=shrI,setL:=@setL,byteList:=byteList,intList:=intList,big:=big }
def stPickP (A : Atoms) (o : Oper) (c x y : Operand) (st : St) : Option Comp :=
  match (st.ent c).av with
  | .dat .bool b=>match (st.ent x).av,(st.ent y).av with
    | .dat t v,.dat u w=>match Ty.cast u t w with
      | some w'=>some (.ret none (upd0 o.dst (.dat t (A.cndS b v w')) none))
      | none=>none
    | v,w=>some (.ret none (upd0 o.dst (cnd b v w) none))
  | _=>none
def stMakeSliceP (A : Atoms) (tab : Tab) (o : Oper) (t : TypeId) (l c : Operand) (st : St) : Option Comp :=
  match tab t,(st.ent l).av,(st.ent c).av with
  | some (.slice e),.dat (.int _) n,.dat (.int _) m =>
    some (.ret (some (A.andB (A.le0 n) (A.andB (A.leI n m) (A.ltI m A.big)))) { upd0 o.dst (.dat (.slice e) (A.repL n e.zero)) none with own:=[[]] })
  | _,_,_=>none
def Ty.eqvP (A : Atoms) : (t : Ty)→t.val→t.val→Option Bool
  | .int _,x,y=>some (A.eqI x y)
  | .bool,x,y=>some (A.eqB x y)
  | .str,x,y=>some (A.eqS x y)
  | .unit,_,_=>some true
  | .prod a b,x,y=>match Ty.eqvP A a x.1 y.1,Ty.eqvP A b x.2 y.2 with
    | some p,some q=>some (A.andB p q)
    | _,_=>none
  | .slice _,_,_=>none
def intOpP (A : Atoms) (op : BinOp) (k : IntKind) (a b : Int) : Option (Option Bool × AV) :=
  match op with
  | .add=>some (none,.dat (.int k) (A.wrapI k (A.addI a b)))
  | .sub=>some (none,.dat (.int k) (A.wrapI k (A.subI a b)))
  | .mul=>some (none,.dat (.int k) (A.wrapI k (A.mulI a b)))
  | .quo=>some (some (A.notB (A.eqI b 0)),.dat (.int k) (A.wrapI k (A.quoI a b)))
  | .rem=>some (some (A.notB (A.eqI b 0)),.dat (.int k) (A.remI a b))
  | .xor=>some (none,.dat (.int k) (A.xorI k a b))
  | .shr=>some (some (A.andB (A.le0 b) (A.leI b 8)),.dat (.int k) (A.shrI a b))
  | .eql=>some (none,.dat .bool (A.eqI a b))
  | .neq=>some (none,.dat .bool (A.notB (A.eqI a b)))
  | .lss=>some (none,.dat .bool (A.ltI a b))
  | .leq=>some (none,.dat .bool (A.leI a b))
  | .gtr=>some (none,.dat .bool (A.ltI b a))
  | .geq=>some (none,.dat .bool (A.leI b a))
  | _=>none
def strOpP (A : Atoms) (op : BinOp) (a b : List UInt8) : Option (Option Bool × AV) :=
  match op with
  | .add=>some (some (A.ltI (A.addI (A.lenL a) (A.lenL b)) A.big),.dat .str (A.appL a b))
  | .eql=>some (none,.dat .bool (A.eqS a b))
  | .neq=>some (none,.dat .bool (A.notB (A.eqS a b)))
  | .lss=>some (none,.dat .bool (A.lessS a b))
  | .leq=>some (none,.dat .bool (A.orB (A.lessS a b) (A.eqS a b)))
  | .gtr=>some (none,.dat .bool (A.notB (A.orB (A.lessS a b) (A.eqS a b))))
  | .geq=>some (none,.dat .bool (A.notB (A.lessS a b)))
  | _=>none
def binAVP (A : Atoms) (tab : Tab) (op : BinOp) (xt : TypeId) (x y : AV) : Option (Option Bool × AV) :=
  match x,y with
  | .dat (.int k) a,.dat (.int k') b=>cnd (kbeq k k') (intOpP A op k a b) none
  | .dat .str a,.dat .str b=>strOpP A op a b
  | .dat t a,.dat u b=>match cnd (tyIs (tab xt) t) (Nat.ble (Ty.dep t) 1000) false,Ty.cast u t b with
    | true,some b'=>match Ty.eqvP A t a b',op with
      | some q,.eql=>some (none,.dat .bool q)
      | some q,.neq=>some (none,.dat .bool (A.notB q))
      | _,_=>none
    | _,_=>none
  | _,_=>none
def stBinP (A : Atoms) (tab : Tab) (o : Oper) (op : BinOp) (xt : TypeId) (x y : Operand) (st : St) : Option Comp :=
  match binAVP A tab op xt (st.ent x).av (st.ent y).av with
  | some (c,v)=>some (.ret c (upd0 o.dst v none))
  | none=>none
def stUnP (A : Atoms) (o : Oper) (op : UnOp) (x : Operand) (st : St) : Option Comp :=
  match op,(st.ent x).av with
  | .not,.dat .bool b=>some (.ret none (upd0 o.dst (.dat .bool (A.notB b)) none))
  | .neg,.dat (.int k) n=>some (.ret none (upd0 o.dst (.dat (.int k) (A.wrapI k (A.subI 0 n))) none))
  | _,_=>none
def stConvP (A : Atoms) (tab : Tab) (o : Oper) (src dst : TypeId) (x : Operand) (st : St) : Option Comp :=
  match tab src,tab dst,(st.ent x).av with
  | some (.int _),some (.int k),.dat (.int _) n=>some (.ret none (upd0 o.dst (.dat (.int k) (A.wrapI k n)) none))
  | some (.slice (.int .u8)),some .str,.dat (.slice (.int .u8)) xs=>some (.ret none (upd0 o.dst (.dat .str (A.byteList xs)) none))
  | some .str,some (.slice (.int .u8)),.dat .str s=>some (.ret (some (A.ltI (A.lenL (α:=UInt8) s) A.big)) { upd0 o.dst (.dat (.slice (.int .u8)) (A.intList s)) none with own:=[[]] })
  | some .str,some .str,.dat .str s=>some (.ret none (upd0 o.dst (.dat .str s) none))
  | _,_,_=>none
def cutLP (A : Atoms) {α : Type} (xs : List α) : Option AV→Option AV→Option (Bool × List α)
  | some (.dat (.int _) l),some (.dat (.int _) h)=>some (A.andB (A.le0 l) (A.andB (A.leI l h) (A.leI h (A.lenL xs))),A.dropL (A.takeL xs h) l)
  | some (.dat (.int _) l),none=>some (A.andB (A.le0 l) (A.leI l (A.lenL xs)),A.dropL xs l)
  | none,some (.dat (.int _) h)=>some (A.andB (A.le0 h) (A.leI h (A.lenL xs)),A.takeL xs h)
  | _,_=>none
def stSliceP (A : Atoms) (tab : Tab) (o : Oper) (t : TypeId) (x : Operand) (lo hi max : Option Operand) (st : St) : Option Comp :=
  match max,(st.ent x).av with
  | none,.dat (.slice e) xs=>match tyIs (tab t) (.slice e),cutLP A (α:=e.val) xs (avOpt st lo) (avOpt st hi) with
    | true,some (c,ys)=>some (.ret (some c) (upd0 o.dst (.dat (.slice e) ys) none))
    | _,_=>none
  | none,.dat .str xs=>match tyIs (tab t) .str,cutLP A (α:=UInt8) xs (avOpt st lo) (avOpt st hi) with
    | true,some (c,ys)=>some (.ret (some c) (upd0 o.dst (.dat .str ys) none))
    | _,_=>none
  | _,_=>none
def stIndexAddrP (A : Atoms) (tab : Tab) (o : Oper) (t : TypeId) (x i : Operand) (st : St) : Option Comp :=
  match (st.ent x).av,(st.ent i).av with
  | .dat (.slice e) xs,.dat (.int _) n=>cnd (tyIs (tab t) (.slice e))
    (some (.ret (some (A.andB (A.le0 n) (A.ltI n (A.lenL (α:=e.val) xs)))) (upd0 o.dst (.ref e (A.atL (α:=e.val) xs n e.zero)) none))) none
  | _,_=>none
def stIndexP (A : Atoms) (tab : Tab) (o : Oper) (t : TypeId) (x i : Operand) (st : St) : Option Comp :=
  match (st.ent x).av,(st.ent i).av with
  | .dat .str s,.dat (.int _) n=>cnd (tyIs (tab t) .str)
    (some (.ret (some (A.andB (A.le0 n) (A.ltI n (A.lenL (α:=UInt8) s)))) (upd0 o.dst (.dat (.int .u8) (A.u8i (A.atL (α:=UInt8) s n 0))) none))) none
  | _,_=>none
def stLenP (A : Atoms) (tab : Tab) (o : Oper) (t : TypeId) (x : Operand) (st : St) : Option Comp :=
  match (st.ent x).av with
  | .dat (.slice e) xs=>cnd (tyIs (tab t) (.slice e)) (some (.ret none (upd0 o.dst (.dat (.int .i64) (A.lenL (α:=e.val) xs)) none))) none
  | .dat .str s=>cnd (tyIs (tab t) .str) (some (.ret none (upd0 o.dst (.dat (.int .i64) (A.lenL (α:=UInt8) s)) none))) none
  | _=>none
def stAppendP (A : Atoms) (tab : Tab) (o : Oper) (t : TypeId) (x y : Operand) (st : St) : Option Comp :=
  match tab t with
  | some (.slice e)=>match AV.as (.slice e) (st.ent x).av,AV.as (.slice e) (st.ent y).av,st.owner x with
    | some xs,some ys,some l=>match starApp st e l y with
      | some tk=>some (.ret (some (A.ltI (A.addI (A.lenL (α:=e.val) xs) (A.lenL (α:=e.val) ys)) A.big))
        { upd0 o.dst (.dat (.slice e) (A.appL (α:=e.val) xs ys)) none with own:=[[],[0]],takes:=tk })
      | none=>some (.ret (some (A.ltI (A.addI (A.lenL (α:=e.val) xs) (A.lenL (α:=e.val) ys)) A.big))
        { upd0 o.dst (.dat (.slice e) (A.appL (α:=e.val) xs ys)) none with own:=[[]],takes:=l.toList })
    | _,_,_=>none
  | _=>none
def stMinMaxP (A : Atoms) (mx : Bool) (o : Oper) (x y : Operand) (st : St) : Option Comp :=
  match (st.ent x).av,(st.ent y).av with
  | .dat (.int k) a,.dat (.int k') b=>match kbeq k k' with
    | true=>some (.ret none (upd0 o.dst (.dat (.int k) (cnd mx (A.maxI a b) (A.minI a b))) none))
    | false=>none
  | _,_=>none
def stMakeXP (A : Atoms) (tab : Tab) (o : Oper) (t : TypeId) (l c : Operand) (st : St) : Option Comp :=
  match tab t,(st.ent l).av,(st.ent c).av,freeD st o.dst with
  | some (.slice e),.dat (.int _) n,.dat (.int _) m,some d =>
    some (.ret (some (A.andB (A.le0 n) (A.andB (A.leI n m) (A.ltI m A.big)))) { upd0 (some d) (.xf d []) none with xw:=some (d,⟨.slice e,A.repL n e.zero⟩) })
  | _,_,_,_=>none
def stLoadPP (A : Atoms) (tab : Tab) (o : Oper) (t : TypeId) (r : Tmp) (p : List Nat) (n : Int) (q : List Nat) (st : St) : Option Comp :=
  match Nat.beq r 0,p,st.io r with
  | true,[],some ⟨.slice e,xs⟩=>match getP e (A.atL (α:=e.val) xs n e.zero) q with
    | some y=>match tyIs (tab t) y.1,isSlT y.1 with
      | true,true=>some (.ret (some (A.andB (A.le0 n) (A.ltI n (A.lenL (α:=e.val) xs)))) (upd0 o.dst (.xe n q) none))
      | _,_=>none
    | none=>none
  | _,_,_=>none
def stStoreXP (A : Atoms) (tab : Tab) (o : Oper) (t : TypeId) (r : Tmp) (p : List Nat) (n : Int) (q : List Nat) (v : Operand) (st : St) : Option Comp :=
  match st.io r,st.atX r p with
  | some d,some ⟨.slice e,xs⟩=>match getP e (A.atL (α:=e.val) xs n e.zero) q with
    | some y=>match tyIs (tab t) y.1,noSl y.1,AV.as y.1 (st.ent v).av with
      | true,true,some z=>match setP e (A.atL (α:=e.val) xs n e.zero) q ⟨y.1,z⟩ with
        | some x'=>match setP d.1 d.2 p ⟨.slice e,A.setL (α:=e.val) xs n x'⟩ with
          | some d'=>some (.ret (some (A.andB (A.le0 n) (A.ltI n (A.lenL (α:=e.val) xs)))) { upd0 o.dst .skp none with xw:=some (r,⟨d.1,d'⟩) })
          | none=>none
        | none=>none
      | _,_,_=>none
    | none=>none
  | _,_=>none
def stGraftXP (A : Atoms) (tab : Tab) (o : Oper) (t : TypeId) (r : Tmp) (p : List Nat) (n : Int) (q : List Nat) (r2 : Tmp) (st : St) : Option Comp :=
  match st.io r,st.atX r p,st.atX r2 [] with
  | some d,some ⟨.slice e,xs⟩,some z=>match getP e (A.atL (α:=e.val) xs n e.zero) q with
    | some y=>match tyIs (tab t) y.1,cnd (Nat.beq r 0) true (cnd (Nat.beq r2 0) true (Nat.beq r r2)),Ty.cast z.1 y.1 z.2 with
      | true,false,some z'=>match setP e (A.atL (α:=e.val) xs n e.zero) q ⟨y.1,z'⟩ with
        | some x'=>match setP d.1 d.2 p ⟨.slice e,A.setL (α:=e.val) xs n x'⟩ with
          | some d'=>some (.ret (some (A.andB (A.le0 n) (A.ltI n (A.lenL (α:=e.val) xs)))) { upd0 o.dst .skp none with xw:=some (r,⟨d.1,d'⟩),xk:=some r2 })
          | none=>none
        | none=>none
      | _,_,_=>none
    | none=>none
  | _,_,_=>none
def stFieldAddrXP (A : Atoms) (tab : Tab) (o : Oper) (s : TypeId) (r : Tmp) (p : List Nat) (n : Int) (q : List Nat) (f : Nat) (st : St) : Option Comp :=
  match st.atX r p with
  | some ⟨.slice e,xs⟩=>match getP e (A.atL (α:=e.val) xs n e.zero) q with
    | some y=>match tyIs (tab s) y.1,getF y.1 y.2 f with
      | true,some _=>some (.ret none (upd0 o.dst (.xp r p n (q ++ [f])) none))
      | _,_=>none
    | none=>none
  | _=>none
def stIndexAddrXP (A : Atoms) (tab : Tab) (o : Oper) (t : TypeId) (r : Tmp) (p : List Nat) (i : Operand) (st : St) : Option Comp :=
  match st.atX r p,(st.ent i).av with
  | some ⟨.slice e,xs⟩,.dat (.int _) n=>cnd (tyIs (tab t) (.slice e))
    (some (.ret (some (A.andB (A.le0 n) (A.ltI n (A.lenL (α:=e.val) xs)))) (upd0 o.dst (.xp r p n []) none))) none
  | _,_=>none
def stLenXP (A : Atoms) (tab : Tab) (o : Oper) (t : TypeId) (r : Tmp) (p : List Nat) (st : St) : Option Comp :=
  match st.atX r p with
  | some ⟨.slice e,xs⟩=>cnd (tyIs (tab t) (.slice e)) (some (.ret none (upd0 o.dst (.dat (.int .i64) (A.lenL (α:=e.val) xs)) none))) none
  | _=>none
def stConvXP (A : Atoms) (tab : Tab) (o : Oper) (src dst : TypeId) (r : Tmp) (p : List Nat) (st : St) : Option Comp :=
  match tab src,tab dst,st.atX r p with
  | some (.slice (.int .u8)),some .str,some ⟨.slice (.int .u8),xs⟩=>some (.ret none (upd0 o.dst (.dat .str (A.byteList xs)) none))
  | _,_,_=>none
def stAppendXP (A : Atoms) (tab : Tab) (o : Oper) (t : TypeId) (x y : Operand) (st : St) : Option Comp :=
  match tab t with
  | some (.slice e)=>match AV.as (.slice e) (st.ent x).av,AV.as (.slice e) (argX st (st.ent y).av),st.owner x with
    | some xs,some ys,some l=>match freeD st o.dst,noSl e with
      | some d,true=>some (.ret (some (A.andB (A.eqI (A.lenL (α:=e.val) xs) 0) (A.ltI (A.lenL (α:=e.val) ys) A.big)))
        { upd0 (some d) (.xf d []) none with takes:=l.toList,xw:=some (d,⟨.slice e,ys⟩) })
      | _,_=>none
    | _,_,_=>none
  | _=>none
def stSliceXP (A : Atoms) (tab : Tab) (o : Oper) (t : TypeId) (x : Operand) (lo hi max : Option Operand) (st : St) : Option Comp :=
  match max,lo,(st.ent x).av with
  | none,none,.xf r []=>match st.io r,avOpt st hi,freeD st o.dst with
    | some ⟨.slice e,xs⟩,some (.dat (.int _) h),some d=>match Nat.beq r 0,tyIs (tab t) (.slice e),noSl e with
      | false,true,true=>some (.ret (some (A.andB (A.le0 h) (A.leI h (A.lenL (α:=e.val) xs)))) { upd0 (some d) (.xf d []) none with xw:=some (d,⟨.slice e,A.takeL (α:=e.val) xs h⟩),xk:=some r })
      | _,_,_=>none
    | _,_,_=>none
  | _,_,_=>none
def stAppendTP (A : Atoms) (tab : Tab) (o : Oper) (t : TypeId) (x y : Operand) (st : St) : Option Comp :=
  match (st.ent x).av with
  | .xf r []=>match st.io r with
    | some ⟨.slice e,xs⟩=>match AV.as (.slice e) (argX st (st.ent y).av),freeD st o.dst with
      | some ys,some d=>match Nat.beq r 0,tyIs (tab t) (.slice e),noSl e with
        | false,true,true=>some (.ret (some (A.ltI (A.addI (A.lenL (α:=e.val) xs) (A.lenL (α:=e.val) ys)) A.big)) { upd0 (some d) (.xf d []) none with xw:=some (d,⟨.slice e,A.appL (α:=e.val) xs ys⟩),xk:=some r })
        | _,_,_=>none
      | _,_=>none
    | _=>none
  | _=>none
def stCallXP (A : Atoms) (G : Gam) (o : Oper) (f : FuncId) (args : List Operand) (st : St) : Option Comp :=
  match G f with
  | some s => cnd (isF s.fv) none (match s.usesRd, s.opens, s.muts with
    | false,false,false=>match packArgs none s.aty (args.map fun x=>argX st (st.ent x).av),Ty.cast .unit s.rdty (),closedS s with
      | some x,some rd,true=>cnd (mkD st o.dst)
        (match freeD st o.dst with
          | some d=>some (.call s.rty s.rdty (s.fn x rd) fun r=>{ upd0 (some d) (rootAV s.one s.rty d) none with xw:=some (d,rootOf s.one s.rty r.1) })
          | none=>none)
        (some (.call s.rty s.rdty (s.fn x rd) fun r=>{ upd0 o.dst (resAV s.rty s.one r.1) none with own:=resOwn s.one s.own }))
      | _,_,_=>none
    | true, false, true => match args with
      | x0 :: xs=>match (st.ent x0).av with
        | .xf r p=>match st.io r,st.atX r p with
          | some d,some y=>match Ty.cast y.1 s.rdty y.2,s.aty,s.fn with
            | some rd,.prod .unit b,fn=>match packArgs none b (xs.map fun x=>(st.ent x).av),noSl s.rty,cnd (Nat.beq r 0) (isSlT d.1) false with
              | some x,true,false=>some (.call s.rty s.rdty (fn ((),x) rd) fun z=>{ upd0 o.dst (resAV s.rty s.one z.1) none with xw:=some (r,setDat d p ⟨s.rdty,z.2⟩) })
              | _,_,_=>none
            | _,_,_=>none
          | _,_=>none
        | .xe k q=>match st.io 0 with
          | some ⟨.slice e,ys⟩=>match getP e (A.atL (α:=e.val) ys k e.zero) q with
            | some y=>match Ty.cast y.1 s.rdty y.2,s.aty,s.fn,isSlT y.1 with
              | some rd,.prod .unit b,fn,true=>match packArgs none b (xs.map fun x=>(st.ent x).av),noSl s.rty with
                | some x,true=>some (.call s.rty s.rdty (fn ((),x) rd) fun z=>{ upd0 o.dst (resAV s.rty s.one z.1) none with xw:=some (0,⟨.slice e,A.setL (α:=e.val) ys k (setE e (A.atL (α:=e.val) ys k e.zero) q ⟨s.rdty,z.2⟩)⟩) })
                | _,_=>none
              | _,_,_,_=>none
            | none=>none
          | _=>none
        | _=>none
      | []=>none
    | _,_,_=>none)
  | none=>none
def stepCP (A : Atoms) (tab : Tab) (G : Gam) (o : Oper) (st : St) : Option Comp :=
  match o.op with
  | .move x=>some (cnd (mkD st o.dst) (stAssignM o x st (stMove tab o x st)) (stMove tab o x st))
  | .assign x=>some (cnd (mkD st o.dst) (stAssignM o x st (stAssign tab o x st)) (stAssign tab o x st))
  | .pick c a b=>stPickP A o c a b st
  | .alloc e=>cnd (mkD st o.dst) (stAllocX tab o e st) (stAlloc tab o e st)
  | .box e x=>match (st.ent x).av with
    | .xf r p=>stBoxX tab o e r p st
    | _=>stBox tab o e x st
  | .build t ps=>cnd (anyX st (ps.toList.map fun p=>p.2)) (cnd (mkD st o.dst) (stBuildX tab o t ps.toList st) (stBuildR tab o t ps.toList st)) (stBuild tab o t ps.toList st)
  | .buildSlice t n ps=>stBuildSlice tab o t n ps.toList st
  | .load t x=>match (st.ent x).av with
    | .cx b p=>stLoadX tab o t b p st
    | .xp r p n q=>stLoadPP A tab o t r p n q st
    | _=>stLoad tab o t x st
  | .store t x v=>match (st.ent x).av,(st.ent v).av with
    | .xp r p n q,.xf r2 []=>stGraftXP A tab o t r p n q r2 st
    | .xp r p n q,_=>stStoreXP A tab o t r p n q v st
    | .cx b [],.xf r q=>stPutX tab o t b r q st
    | .cx b [],.mx ty x ps=>stPutR tab o t b ⟨ty,x⟩ ps st
    | .cx b p,.xf r q=>stPartR tab o t b p r q st
    | _,_=>stStore tab o t x v st
  | .nilCheck x=>match (st.ent x).av with
    | .cel b p=>some (.ret none (upd0 o.dst (.cel b p) none))
    | .rdr p=>some (.ret none (upd0 o.dst (.rdr p) none))
    | _=>none
  | .binOp op xt x y _=>stBinP A tab o op xt x y st
  | .unOp op _ x=>stUnP A o op x st
  | .convert s d x=>match (st.ent x).av with
    | .xf r p=>stConvXP A tab o s d r p st
    | _=>stConvP A tab o s d x st
  | .makeSlice t l c=>cnd (mkD st o.dst) (stMakeXP A tab o t l c st) (stMakeSliceP A tab o t l c st)
  | .slice t x lo hi mx=>match (st.ent x).av with
    | .xf _ _=>stSliceXP A tab o t x lo hi mx st
    | _=>stSliceP A tab o t x lo hi mx st
  | .fieldAddr s x f=>match (st.ent x).av with
    | .xp r p n q=>stFieldAddrXP A tab o s r p n q f st
    | .cx b p=>stFieldAddrC tab o s b p f st
    | _=>stFieldAddr tab o s x f st
  | .field s x f=>stField tab o s x f st
  | .indexAddr t x i=>match (st.ent x).av with
    | .xf r p=>stIndexAddrXP A tab o t r p i st
    | _=>stIndexAddrP A tab o t x i st
  | .index t x i=>stIndexP A tab o t x i st
  | .extract x i=>match (st.ent x).av with
    | .xt r=>stExtractX o r i st
    | _=>stExtract o x i st
  | .call c=>match c.callee with
    | .value (.func f)=>cnd (hasF G f) (stCallF G o f c.args.toList st) (cnd (cnd (anyX st c.args.toList) true (cnd (mkD st o.dst) true (isMut G f))) (stCallXP A G o f c.args.toList st) (stCall G o f c.args.toList st))
    | .value (.tmp t)=>match (st.env t).av with
      | .fn f=>stCall G o f c.args.toList st
      | _=>none
    | .builtin .len=>match c.args.toList,c.argTypes.toList with
      | [x],[t]=>match (st.ent x).av with
        | .xf r p=>stLenXP A tab o t r p st
        | _=>stLenP A tab o t x st
      | _,_=>none
    | .builtin .append=>match c.args.toList,c.argTypes.toList with
      | [x,y],[t,t']=>cnd (Nat.beq t t') (match (st.ent x).av with
        | .xf _ _=>stAppendTP A tab o t x y st
        | _=>cnd (mkD st o.dst) (stAppendXP A tab o t x y st) (stAppendP A tab o t x y st)) none
      | _,_=>none
    | .builtin .min=>match c.args.toList with
      | [x,y]=>stMinMaxP A false o x y st
      | _=>none
    | .builtin .max=>match c.args.toList with
      | [x,y]=>stMinMaxP A true o x y st
      | _=>none
    | _=>none
  | _=>none
def Comp.runKP (A : Atoms) {R : Type} (st : St) (k : St→Option R) : Comp→Option R
  | .ret none u=>k (apply st u)
  | .ret (some c) u=>A.cndS c (k (apply st u)) none
  | .call _ _ F u=>A.obind F fun r=>k (apply st (u r))
def Comp.runTP (A : Atoms) {R : Type} (st : St) (rs : List Res) (k : St→FP→Option R) : Comp→Option R
  | .ret none u=>k (apply st u) ⟨tagRes u ++ rs,u.writes⟩
  | .ret (some c) u=>A.cndS c (k (apply st u) ⟨tagRes u ++ rs,u.writes⟩) none
  | .call _ _ F u=>A.obind F fun r=>k (apply st (u r)) ⟨tagRes (u r) ++ rs,(u r).writes⟩
def opsKP (A : Atoms) {R : Type} (tab : Tab) (G : Gam) (ops : List Oper) : List Oper→Nat→St→(St→Option R)→Option R
  | [],_,st,k=>k st
  | o :: rest,i,st,k=>match o.guard with
    | none=>match stepCP A tab G o st with
      | some c=>c.runKP A st fun st'=>opsKP A tab G ops rest (Nat.succ i) (setKn st' o.dst (knOf o st)) k
      | none=>none
    | some (g,want)=>match guardT ops g with
      | none=>none
      | some t=>match (st.env t).av with
        | .dat .bool b =>
          let go (st : St):=match stepCP A tab G o st with
            | some c=>c.runKP A st fun st'=>opsKP A tab G ops rest (Nat.succ i) (setKn st' o.dst (knOf o st)) k
            | none=>none
          let by' (st : St):=opsKP A tab G ops rest (Nat.succ i) (setKn (apply st (skipU o)) o.dst false) k
          cnd (st.kn t) (cnd b (cnd want (go st) (by' st)) (cnd want (by' st) (go st)))
            (A.cndS b (cnd want (go (setKn (setAV st t (.dat .bool true)) (some t) true)) (by' (setKn (setAV st t (.dat .bool true)) (some t) true)))
                    (cnd want (by' (setKn (setAV st t (.dat .bool false)) (some t) true)) (go (setKn (setAV st t (.dat .bool false)) (some t) true))))
        | .skp=>opsKP A tab G ops rest (Nat.succ i) (setKn (apply st (skipU o)) o.dst false) k
        | _=>none
def drawKP (A : Atoms) {R : Type} (tab : Tab) (G : Gam) (ops : List Oper) : List Oper→Nat→St→List FP→(St→List FP→Option R)→Option R
  | [],_,st,acc,k=>k st acc
  | o :: rest,i,st,acc,k=>match o.guard with
    | none=>match stepCP A tab G o st with
      | some c=>c.runTP A st (reads st o) fun st' f=>drawKP A tab G ops rest (Nat.succ i) (setKn st' o.dst (knOf o st)) (acc ++ [f]) k
      | none=>none
    | some (g,want)=>match guardT ops g with
      | none=>none
      | some t=>match (st.env t).av with
        | .dat .bool b =>
          let go (st : St):=match stepCP A tab G o st with
            | some c=>c.runTP A st (.tmp t :: reads st o) fun st' f=>drawKP A tab G ops rest (Nat.succ i) (setKn st' o.dst (knOf o st)) (acc ++ [f]) k
            | none=>none
          let by' (st : St):=drawKP A tab G ops rest (Nat.succ i) (setKn (apply st (skipU o)) o.dst false) (acc ++ [⟨[.tmp t],(skipU o).writes⟩]) k
          cnd (st.kn t) (cnd b (cnd want (go st) (by' st)) (cnd want (by' st) (go st)))
            (A.cndS b (cnd want (go (setKn (setAV st t (.dat .bool true)) (some t) true)) (by' (setKn (setAV st t (.dat .bool true)) (some t) true)))
                    (cnd want (by' (setKn (setAV st t (.dat .bool false)) (some t) true)) (go (setKn (setAV st t (.dat .bool false)) (some t) true))))
        | .skp=>drawKP A tab G ops rest (Nat.succ i) (setKn (apply st (skipU o)) o.dst false) (acc ++ [⟨[.tmp t],(skipU o).writes⟩]) k
        | _=>none
def evalKP (A : Atoms) (tab : Tab) (G : Gam) (ann : Ann) (fuel : Nat) : Code→(R : Type)→St→(St→Option R)→(St→Option R)→(Nat→St→Option R)→Option R
  | .skip,_,st,kn,_,_=>kn st
  | .region id ops draw,_,st0,kn,_,_=>match trAll { st0 with mkt:=ann.mkt } (ann.pre id) with
    | some st=>cnd draw (drawKP A tab G ops.toList ops.toList 0 st [] fun st' fs=>cnd (cnd (edgesOk ops.toList 0) (pairsOk (masks ops.toList []) [] fs 0) false) (kn st') none)
      (opsKP A tab G ops.toList ops.toList 0 st kn)
    | none=>none
  | .seq x y,R,st,kn,kr,ke=>match cutOf ann y with
    | none=>evalKP A tab G ann fuel x R st (fun st'=>evalKP A tab G ann fuel y R st' kn kr ke) kr ke
    | some (S,true)=>A.obind (evalKP A tab G ann fuel x S.ty.val st (fun st'=>pack S st') (fun _=>none) (fun _ _=>none))
        fun s=>evalKP A tab G ann fuel y R (unpack S s) kn kr ke
    | some (S,false)=>A.obind (evalKP A tab G ann fuel x (S.ty.val ⊕ R) st (fun st'=>(pack S st').map .inl) (fun st'=>(kr st').map .inr) (fun i st'=>(ke i st').map .inr))
        fun e=>A.sumE e (fun s=>evalKP A tab G ann fuel y R (unpack S s) kn kr ke) (fun r=>some r)
  | .cond c x y,R,st,kn,kr,ke=>match (st.ent c).av with
    | .dat .bool b=>cnd (st.knX c) (cnd b (evalKP A tab G ann fuel x R st kn kr ke) (evalKP A tab G ann fuel y R st kn kr ke)) (A.cndS b (evalKP A tab G ann fuel x R st kn kr ke) (evalKP A tab G ann fuel y R st kn kr ke))
    | _=>none
  | .block id (.loop b),R,st,kn,kr,ke=>match ann.loop id with
    | some (S,T,true)=>match pack S st with
      | none=>none
      | some s0 =>
        A.obind (A.iter fuel (fun s=>evalKP A tab G ann fuel b (S.ty.val ⊕ T.ty.val) (unpack S s) (fun st'=>(pack S st').map .inl) (fun _=>none)
          (fun i st'=>cnd (Nat.beq i id) ((pack T st').map .inr) none)) s0) fun t=>kn (unpack T t)
    | some (S,T,false)=>match pack S st with
      | none=>none
      | some s0 =>
        A.obind (A.iter fuel (fun s=>evalKP A tab G ann fuel b (S.ty.val ⊕ (T.ty.val ⊕ R)) (unpack S s) (fun st'=>(pack S st').map .inl) (fun st'=>(kr st').map fun r=>.inr (.inr r))
          (fun i st'=>cnd (Nat.beq i id) ((pack T st').map fun t=>.inr (.inl t)) ((ke i st').map fun r=>.inr (.inr r)))) s0) fun e=>A.sumE e (fun t=>kn (unpack T t)) (fun r=>some r)
    | none=>none
  | .block id c,R,st,kn,kr,ke=>evalKP A tab G ann fuel c R st kn kr (fun i st'=>cnd (Nat.beq i id) (kn st') (ke i st'))
  | .exit id,_,st,_,_,ke=>ke id st
  | .ret,_,st,_,kr,_=>kr st
  | _,_,_,_,_,_=>none
def evalFnP (A : Atoms) (tab : Tab) (G : Gam) (ann : Ann) (fuel : Nat) (fn : Func) (aty rdty : Ty) (usesRd : Bool) (rty : Ty) (own : List (List Nat)) (x : aty.val) (rd : rdty.val) : Option (rty.val × rdty.val) :=
  match fn.body with
  | none=>none
  | some c=>cnd (dstsOk fn.ntmps c) (evalKP A tab G ann fuel c (rty.val × rdty.val) (startOf aty rdty usesRd x rd) (finOf tab fn.results.toList rdty usesRd rty own) (finOf tab fn.results.toList rdty usesRd rty own) (fun _ _=>none)) none
def evalMutP (A : Atoms) (tab : Tab) (G : Gam) (ann : Ann) (fuel : Nat) (fn : Func) (b rdty rty : Ty) (x : b.val) (rd : rdty.val) : Option (rty.val × rdty.val) :=
  match fn.body with
  | none=>none
  | some c=>cnd (dstsOk fn.ntmps c) (evalKP A tab G ann fuel c (rty.val × rdty.val) (startMut b rdty x rd) (finMut tab fn.results.toList rdty rty) (finMut tab fn.results.toList rdty rty) (fun _ _=>none)) none
theorem eqv_real : ∀ (t : Ty) (x y : t.val),Ty.eqvP real t x y = Ty.eqv t x y
  | .int _,_,_=>rfl
  | .bool,_,_=>rfl
  | .str,_,_=>rfl
  | .unit,_,_=>rfl
  | .slice _,_,_=>rfl
  | .prod a b,x,y=>by simp only [Ty.eqvP,Ty.eqv,eqv_real a,eqv_real b]; rfl
theorem intOp_real (op : BinOp) (k : IntKind) (a b : Int) : intOpP real op k a b = intOp op k a b:=by kernel_rfl
theorem strOp_real (op : BinOp) (a b : List UInt8) : strOpP real op a b = strOp op a b:=by kernel_rfl
theorem binAV_real (tab : Tab) (op : BinOp) (xt : TypeId) (x y : AV) : binAVP real tab op xt x y = binAV tab op xt x y:=by
  unfold binAVP binAV
  simp only [eqv_real,intOp_real,strOp_real]
  kernel_rfl
theorem stepC_real (tab : Tab) (G : Gam) (o : Oper) (st : St) : stepCP real tab G o st = stepC tab G o st:=by
  unfold stepCP stepC
  cases o.op with
  | binOp op xt x y yt=>simp only [stBinP,stBin,binAV_real]; kernel_rfl
  | _=>kernel_rfl
theorem runK_real {R : Type} (st : St) (k : St→Option R) (c : Comp) : c.runKP real st k = c.runK st k:=by cases c <;> rfl
theorem runT_real {R : Type} (st : St) (rs : List Res) (k : St→FP→Option R) (c : Comp) : c.runTP real st rs k = c.runT st rs k:=by cases c <;> rfl
theorem opsK_real {R : Type} (tab : Tab) (G : Gam) (ops : List Oper) : ∀ (rest : List Oper) (i : Nat) (st : St) (k : St→Option R),opsKP real tab G ops rest i st k = opsK tab G ops rest i st k:=by
  intro rest
  induction rest with
  | nil=>intros; rfl
  | cons o rest ih=>intro i st k; simp only [opsKP,opsK,stepC_real,runK_real,ih]; kernel_rfl
theorem drawK_real {R : Type} (tab : Tab) (G : Gam) (ops : List Oper) : ∀ (rest : List Oper) (i : Nat) (st : St) (acc : List FP) (k : St→List FP→Option R),drawKP real tab G ops rest i st acc k = drawK tab G ops rest i st acc k:=by
  intro rest
  induction rest with
  | nil=>intros; rfl
  | cons o rest ih=>intro i st acc k; simp only [drawKP,drawK,stepC_real,runT_real,ih]; kernel_rfl
theorem evalK_real (tab : Tab) (G : Gam) (ann : Ann) (fuel : Nat) (c : Code) : (∀ (R : Type) (st : St) (kn kr : St→Option R) (ke : Nat→St→Option R),evalKP real tab G ann fuel c R st kn kr ke = evalK tab G ann fuel c R st kn kr ke) ∧
    ∀ b,c = .loop b→∀ (R : Type) (st : St) (kn kr : St→Option R) (ke : Nat→St→Option R),evalKP real tab G ann fuel b R st kn kr ke = evalK tab G ann fuel b R st kn kr ke:=by
  induction c with
  | skip=>exact ⟨fun _ _ _ _ _=>rfl,fun b hb=>by cases hb⟩
  | region id ops draw =>
    refine ⟨fun R st kn kr ke=>?_,fun b hb=>by cases hb⟩
    simp only [evalKP,evalK,opsK_real,drawK_real]; kernel_rfl
  | seq x y ihx ihy =>
    refine ⟨fun R st kn kr ke=>?_,fun b hb=>by cases hb⟩
    simp only [evalKP,evalK,ihx.1,ihy.1]; kernel_rfl
  | cond c x y ihx ihy =>
    refine ⟨fun R st kn kr ke=>?_,fun b hb=>by cases hb⟩
    simp only [evalKP,evalK,ihx.1,ihy.1]; kernel_rfl
  | block id c ih =>
    refine ⟨fun R st kn kr ke=>?_,fun b hb=>by cases hb⟩
    cases c with
    | loop b=>simp only [evalKP,evalK,ih.2 b rfl]; kernel_rfl
    | _=>exact ih.1 R st kn kr (fun i st'=>cnd (Nat.beq i id) (kn st') (ke i st'))
  | loop c ih=>exact ⟨fun _ _ _ _ _=>rfl,fun b hb=>by injection hb with hb; subst hb; exact ih.1⟩
  | _=>exact ⟨fun _ _ _ _ _=>rfl,fun b hb=>by cases hb⟩
theorem evalFn_real (tab : Tab) (G : Gam) (ann : Ann) (fuel : Nat) (fn : Func) (aty rdty : Ty) (usesRd : Bool) (rty : Ty) (own : List (List Nat)) (x : aty.val) (rd : rdty.val) :
    evalFnP real tab G ann fuel fn aty rdty usesRd rty own x rd = evalFn tab G ann fuel fn aty rdty usesRd rty own x rd:=by
  unfold evalFnP evalFn
  cases fn.body with
  | none=>rfl
  | some c=>simp only [(evalK_real tab G ann fuel c).1]
theorem evalMut_real (tab : Tab) (G : Gam) (ann : Ann) (fuel : Nat) (fn : Func) (b rdty rty : Ty) (x : b.val) (rd : rdty.val) :
    evalMutP real tab G ann fuel fn b rdty rty x rd = evalMut tab G ann fuel fn b rdty rty x rd:=by
  unfold evalMutP evalMut
  cases fn.body with
  | none=>rfl
  | some c=>simp only [(evalK_real tab G ann fuel c).1]

end Go.Den

namespace Go.Den

def lookT : List (Nat × Ty)→Nat→Option Ty
  | [],_=>none
  | (i,t) :: l,j=>cnd (Nat.beq j i) (some t) (lookT l j)
theorem lookT_mem : ∀ {l : List (Nat × Ty)} {j : Nat} {t : Ty},lookT l j = some t→(j,t) ∈ l
  | [],_,_,h=>by cases h
  | (i,u) :: l,j,t,h=>by
    simp only [lookT] at h
    cases hq : Nat.beq j i with
    | true=>rw [hq] at h; injection h with h; subst h; rw [nbeq hq]; exact List.mem_cons_self
    | false=>rw [hq] at h; exact List.mem_cons_of_mem _ (lookT_mem h)

def stripZ : Ty→List Value→Option (List Value)
  | .int k,.int k' n :: cs=>cnd (kbeq k k') (cnd (decide (n = 0)) (some cs) none) none
  | .bool,.bool b :: cs=>cnd b none (some cs)
  | .str,.string s :: cs=>cnd (Nat.beq s.data.size 0) (some cs) none
  | .unit,cs=>some cs
  | .prod a b,cs=>(stripZ a cs).bind (stripZ b)
  | .slice _,.slice none 0 0 :: cs=>some cs
  | _,_=>none
theorem stripZ_spec : ∀ {t : Ty} {cs rest : List Value},stripZ t cs = some rest→cs = zeroCells t ++ rest:=by
  intro t
  induction t with
  | int k =>
    intro cs rest h
    unfold stripZ at h
    split at h <;> try cases h
    · rename_i k' k2 n cs' he
      injection he with he; subst he
      cases h1 : kbeq k k2 with
      | false=>rw [h1] at h; cases h
      | true =>
        cases h2 : decide (n = 0) with
        | false=>rw [h1,h2] at h; cases h
        | true =>
          rw [h1,h2] at h; injection h with h; subst h
          rw [← k_of_beq h1,of_decide_eq_true h2]; rfl
    all_goals rename_i he; cases he
  | bool =>
    intro cs rest h
    unfold stripZ at h
    split at h <;> rename_i he <;> try cases he
    · rename_i b cs'
      cases b with
      | true=>cases h
      | false=>injection h with h; subst h; rfl
    · cases h
  | str =>
    intro cs rest h
    unfold stripZ at h
    split at h <;> rename_i he <;> try cases he
    · rename_i s cs'
      cases h1 : Nat.beq s.data.size 0 with
      | false=>rw [h1] at h; cases h
      | true =>
        rw [h1] at h; injection h with h; subst h
        have : s = ⟨#[]⟩:=by
          cases s with
          | mk d =>
            have hd : d.size = 0:=nbeq h1
            rw [Array.eq_empty_of_size_eq_zero hd]
        rw [this]; rfl
    · cases h
  | unit =>
    intro cs rest h
    have h : some cs = some rest:=by cases cs <;> exact h
    injection h with h
  | prod a b iha ihb =>
    intro cs rest h
    have h : (stripZ a cs).bind (stripZ b) = some rest:=by cases cs <;> exact h
    obtain ⟨m,h1,h2⟩:=Option.bind_eq_some_iff.1 h
    rw [iha h1,ihb h2]; simp [zeroCells]
  | slice e _ =>
    intro cs rest h
    unfold stripZ at h
    split at h <;> rename_i he <;> try cases he
    · injection h with h; subst h; rfl
    · cases h
def zeroB (t : Ty) (v : Value) : Bool:=match v with
  | .agg xs=>match isProd t,stripZ t xs.toList with
    | true,some []=>true
    | _,_=>false
  | v=>match isProd t,stripZ t [v] with
    | false,some []=>true
    | _,_=>false
theorem zeroB_spec {t : Ty} {v : Value} (h : zeroB t v = true) : v = wrapV t (zeroCells t):=by
  unfold zeroB at h
  split at h
  · rename_i xs
    split at h
    · rename_i h1 h2
      have:=stripZ_spec h2
      rw [List.append_nil] at this
      have e : xs = (zeroCells t).toArray:=by apply Array.ext'; simpa using this
      rw [e]
      cases t <;> first | rfl | cases h1
    · cases h
  · split at h
    · rename_i h1 h2
      have:=stripZ_spec h2
      rw [List.append_nil] at this
      cases t <;> first | (cases h1; done) | (rw [← this]; rfl)
    · cases h

def fieldsB (tab : Tab) : Ty→Nat→List Field→Bool
  | .unit,_,[]=>true
  | .prod a b, o, f :: fs => cnd (Nat.beq f.offset o) (cnd (tyIs (tab f.type) a) (cnd (Nat.beq a.size 0) false (cnd (f.name == "_") false (fieldsB tab b (Nat.add o a.size) fs))) false) false
  | _,_,_=>false
theorem fieldsB_spec {tab : Tab} : ∀ {t : Ty} {o : Nat} {fs : List Field},fieldsB tab t o fs = true→FieldsOk tab t o fs:=by
  intro t
  induction t with
  | prod a b _ ihb =>
    intro o fs h
    cases fs with
    | nil=>cases h
    | cons f fs =>
      simp only [fieldsB] at h
      cases h1 : Nat.beq f.offset o with
      | false=>rw [h1] at h; cases h
      | true =>
        cases h2 : tyIs (tab f.type) a with
        | false=>rw [h1,h2] at h; cases h
        | true =>
          cases h3 : Nat.beq a.size 0 with
          | true=>rw [h1,h2,h3] at h; cases h
          | false =>
            cases h4 : f.name == "_" with
            | true=>rw [h1,h2,h3,h4] at h; cases h
            | false =>
              rw [h1,h2,h3,h4] at h
              exact ⟨nbeq h1,tyIs_some h2,fun e=>(by rw [e] at h3; cases h3),fun e=>(by rw [e] at h4; simp at h4),ihb h⟩
  | unit=>intro o fs h; cases fs with
    | nil=>trivial
    | cons _ _=>cases h
  | _=>intro o fs h; cases fs <;> cases h
def descB (P : Program) (tab : Tab) (t : TypeId) (ty : Ty) : Bool:=match P.underlying t,ty with
  | some (.int k),.int k'=>kbeq k k'
  | some .bool,.bool=>true
  | some .string,.str=>true
  | some (.slice el),.slice e=>tyIs (tab el) e
  | some (.struct fs),.prod a b=>fieldsB tab (.prod a b) 0 fs.toList
  | some (.struct fs),.unit=>fieldsB tab .unit 0 fs.toList
  | _,_=>false
theorem descB_spec {P : Program} {tab : Tab} {t : TypeId} {ty : Ty} (h : descB P tab t ty = true) : DescOk P tab t ty:=by
  unfold descB at h
  split at h
  · rename_i h1; rw [k_of_beq h] at h1; exact h1
  · rename_i h1; exact h1
  · rename_i h1; exact h1
  · rename_i h1; exact ⟨_,h1,tyIs_some h⟩
  · rename_i h1; exact ⟨_,h1,fieldsB_spec h⟩
  · rename_i h1; exact ⟨_,h1,fieldsB_spec h⟩
  · cases h
def infoB (P : Program) (t : TypeId) (ty : Ty) : Bool:=match P.info? t with
  | some i=>match i.zero with
    | some z=>cnd (Nat.beq i.size ty.size) (cnd (Nat.ble i.bytes 4096) (zeroB ty z) false) false
    | none=>false
  | none=>false
theorem infoB_spec {P : Program} {t : TypeId} {ty : Ty} (h : infoB P t ty = true) : ∃ i,P.info? t = some i∧i.size = ty.size∧i.zero = some (wrapV ty (zeroCells ty))∧i.bytes≤4096:=by
  unfold infoB at h
  split at h
  · rename_i i h1
    split at h
    · rename_i z h2
      cases h3 : Nat.beq i.size ty.size with
      | false=>rw [h3] at h; cases h
      | true =>
        cases h4 : Nat.ble i.bytes 4096 with
        | false=>rw [h3,h4] at h; cases h
        | true =>
          rw [h3,h4] at h
          exact ⟨i,h1,nbeq h3,by rw [h2,zeroB_spec h],Nat.le_of_ble_eq_true h4⟩
    · cases h
  · cases h
def cmpB (P : Program) (t : TypeId) (ty : Ty) : Bool:=cnd (isProd ty) (cnd (P.stoodInHeld t) false (cnd (P.eqGuardType P.depth t) false true)) true
theorem cmpB_spec {P : Program} {t : TypeId} {ty : Ty} (h : cmpB P t ty = true) : isProd ty = true→P.stoodInHeld t = false∧P.eqGuardType P.depth t = false:=by
  intro hp
  unfold cmpB at h
  rw [hp] at h
  cases h1 : P.stoodInHeld t with
  | true=>rw [h1] at h; cases h
  | false =>
    cases h2 : P.eqGuardType P.depth t with
    | true=>rw [h1,h2] at h; cases h
    | false=>exact ⟨rfl,rfl⟩
def tabB (P : Program) (tab : Tab) : List (Nat × Ty)→Bool
  | []=>true
  | (t,ty) :: l=>cnd (infoB P t ty) (cnd (descB P tab t ty) (cnd (cmpB P t ty) (tabB P tab l) false) false) false
theorem tabB_mem {P : Program} {tab : Tab} : ∀ {l : List (Nat × Ty)},tabB P tab l = true→∀ t ty,(t,ty) ∈ l→TyOk P tab t ty
  | [],_,_,_,h=>by cases h
  | (u, uy) :: l, h, t, ty, hm => by
    simp only [tabB] at h
    cases h1 : infoB P u uy with
    | false=>rw [h1] at h; cases h
    | true =>
      cases h2 : descB P tab u uy with
      | false=>rw [h1,h2] at h; cases h
      | true =>
        cases h3 : cmpB P u uy with
        | false=>rw [h1,h2,h3] at h; cases h
        | true =>
          rw [h1,h2,h3] at h
          rcases List.mem_cons.1 hm with he | hm
          · injection he with e1 e2; subst e1; subst e2
            exact ⟨infoB_spec h1,descB_spec h2,cmpB_spec h3⟩
          · exact tabB_mem h t ty hm
theorem tabOk_of {P : Program} {l : List (Nat × Ty)} (h : tabB P (lookT l) l = true) : TabOk P (lookT l):=fun t ty ht=>tabB_mem h t ty (lookT_mem ht)

/-! ### functions that are called -/
theorem gam_nil {P : Program} : GamOk P (fun _=>none):=fun f s h=>by cases h
theorem gam_cons {P : Program} {G : Gam} {f : FuncId} {s : Sig} (h : FnOk P f s) (hG : GamOk P G) : GamOk P (fun g=>cnd (Nat.beq g f) (some s) (G g)):=by
  intro g t hg
  have hg : cnd (Nat.beq g f) (some s) (G g) = some t:=hg
  cases hq : Nat.beq g f with
  | true=>rw [hq] at hg; injection hg with hg; subst hg; rw [nbeq hq]; exact h
  | false=>rw [hq] at hg; exact hG g t hg

theorem fn_okP {P : Program} {tab : Tab} {G : Gam} (hT : TabOk P tab) (hG : GamOk P G) (hm : P.follows .mixedOrders = true) {f : FuncId} {fn : Func} {c : Code} (hf : P.funcs[f]? = some fn) (hname : (fn.name == "runtime.NumGoroutine") = false) (hb : fn.body = some c)
    (s : Sig) (hop : s.opens = false) (hmu : s.muts = false) (hone : Nat.beq fn.results.toList.length 1 = s.one) {ann : Ann} {fuel : Nat} (hfn : ∀ x rd,evalFnP real tab G ann fuel fn s.aty s.rdty s.usesRd s.rty s.own x rd = s.fn x rd) (hfv : s.fv = none:=by rfl) : FnOk P f s :=
  fn_ok hT hG hm hf hname hb s hop hmu hone (ann:=ann) (fuel:=fuel) (fun x rd r h=>by rw [← evalFn_real,hfn]; exact h) hfv
theorem mut_okP {P : Program} {tab : Tab} {G : Gam} (hT : TabOk P tab) (hG : GamOk P G) (hm : P.follows .mixedOrders = true) {f : FuncId} {fn : Func} {c : Code} (hf : P.funcs[f]? = some fn) (hname : (fn.name == "runtime.NumGoroutine") = false) (hb : fn.body = some c)
    (b rdty rty : Ty) (one : Bool) (g : (Ty.prod .unit b).val→rdty.val→Option (rty.val × rdty.val)) (hone : Nat.beq fn.results.toList.length 1 = one) {ann : Ann} {fuel : Nat} (hfn : ∀ x rd,evalMutP real tab G ann fuel fn b rdty rty x rd = g ((),x) rd) :
    FnOk P f { aty:=.prod .unit b,rdty:=rdty,usesRd:=true,rty:=rty,one:=one,own:=[],opens:=false,muts:=true,fn:=g } :=
  mut_ok hT hG hm hf hname hb b rdty rty one g hone (ann:=ann) (fuel:=fuel) fun x rd r h=>by rw [← evalMut_real,hfn]; exact h
theorem fn_none {P : Program} {f : FuncId} {fn : Func} {c : Code} (hf : P.funcs[f]? = some fn) (hname : (fn.name == "runtime.NumGoroutine") = false) (hb : fn.body = some c) (s : Sig) (h : ∀ x rd, s.fn x rd = none) : FnOk P f s := by
  refine ⟨fun args w=>?_,fun _ _ _ x rd r hr=>(by rw [h] at hr; cases hr),fun _ _ _ _ _ x rd r hr=>(by rw [h] at hr; cases hr),fun _ _ x rd r hr=>(by rw [h] at hr; cases hr),fun _ _ x rd r hr=>(by rw [h] at hr; cases hr)⟩
  have h1 : fn.name ≠ "runtime.NumGoroutine" := by simpa using hname
  simp [callFunc,hf,h1,hb]

/-! ### arguments -/
def InR : (t : Ty)→t.val→Prop
  | .int k,x=>(Lit.int k x).wf = true
  | .prod a b,x=>InR a x.1∧InR b x.2
  | .slice t,xs=>List.length (α:=t.val) xs≤maxLen∧∀ x,x ∈ (show List t.val from xs)→InR t x
  | .str,xs=>List.length (α:=UInt8) xs≤maxLen
  | _,_=>True
def Ty.rank : Ty→Nat
  | .prod a b=>a.rank + b.rank + 1
  | .slice t=>t.rank + 1
  | _=>1
def posB : Ty→Bool
  | .prod a b=>cnd (posB a) (posB b) false
  | .slice t=>cnd (Nat.beq t.size 0) false (posB t)
  | _=>true

section
variable {P : Program} {tab : Tab} {H : Type} {enc : TypeId × Value→H} {w : World} {base : Nat} {spare : Nat→Bool} {held : Bool}
theorem cellsOf_ok {t : TypeId} {ty : Ty} (h : TyOk P tab t ty) : P.cellsOf t = ty.size:=by
  obtain ⟨i,h1,h2,_⟩:=h.info
  simp [Program.cellsOf,h1,h2]
theorem trod_rep (hT : TabOk P tab) : ∀ {ty : Ty} {t : TypeId} {n : Nat} {cs : List Value} {x : DataW H × List MemPlace},DescOk P tab t ty→P.cellsOf t = ty.size→posB ty = true→DataW.trod enc P w base spare held n t cs = some x→∃ y : ty.val,CRep w (fun _=>none) ty y cs∧InR ty y:=by
  intro ty
  have fields : ∀ {ty : Ty} {o : Nat} {fs : List Field} {n : Nat} {cs : List Value} {xs : List (DataW H × List MemPlace)} (_ : ∀ {u : Ty} {v : TypeId} {m : Nat} {ds : List Value} {z : DataW H × List MemPlace},u.rank < ty.rank→DescOk P tab v u→P.cellsOf v = u.size→posB u = true→DataW.trod enc P w base spare held m v ds = some z→∃ y : u.val,CRep w (fun _=>none) u y ds∧InR u y),
      FieldsOk tab ty o fs→posB ty = true→cs.length = o + ty.size→(∀ (i : Nat) (f : Field),fs[i]? = some f→DataW.trod enc P w base spare held n f.type ((cs.drop f.offset).take (P.cellsOf f.type)) = xs[i]?)→xs.length = fs.length →
      ∃ y : ty.val,CRep w (fun _=>none) ty y (cs.drop o)∧InR ty y:=by
    intro ty
    induction ty with
    | prod a b _ ihb =>
      intro o fs n cs xs ih hf hp hl hx hxl
      cases fs with
      | nil=>exact hf.elim
      | cons f fs =>
        obtain ⟨h1,h2,h3,h4,h5⟩:=hf
        have hp' : posB a = true∧posB b = true:=by
          simp only [posB] at hp
          cases hq : posB a with
          | false=>rw [hq] at hp; cases hp
          | true=>rw [hq] at hp; exact ⟨rfl,hp⟩
        have hta:=hT _ _ h2
        cases xs with
        | nil=>simp at hxl
        | cons x0 xs =>
          have h0:=hx 0 f rfl
          rw [h1,cellsOf_ok hta] at h0
          obtain ⟨y1,c1,r1⟩:=ih (u:=a) (by simp only [Ty.rank]; omega) hta.desc (cellsOf_ok hta) hp'.1 (h0.trans rfl)
          have hsz : cs.length = (o + a.size) + b.size:=by rw [hl]; simp [Ty.size]; omega
          obtain ⟨y2,c2,r2⟩:=ihb (o:=o + a.size) (fs:=fs) (n:=n) (cs:=cs) (xs:=xs) (fun hlt=>ih (by simp only [Ty.rank]; omega)) h5 hp'.2 hsz (fun i g hg=>by have:=hx (i + 1) g (by simpa using hg); simpa using this) (by simpa using hxl)
          refine ⟨(y1,y2),⟨_,_,?_,c1,c2⟩,r1,r2⟩
          rw [← List.drop_drop]
          exact (List.take_append_drop _ _).symm
    | unit =>
      intro o fs n cs xs ih hf hp hl hx hxl
      refine ⟨(),?_,trivial⟩
      simp only [CRep]
      rw [List.drop_eq_nil_iff]; simp [Ty.size] at hl; omega
    | _=>intro o fs n cs xs ih hf; cases fs <;> exact hf.elim
  -- by the type's size
  have main : ∀ (k : Nat) (ty : Ty),ty.rank < k→∀ {t : TypeId} {n : Nat} {cs : List Value} {x : DataW H × List MemPlace},DescOk P tab t ty→P.cellsOf t = ty.size→posB ty = true→DataW.trod enc P w base spare held n t cs = some x→∃ y : ty.val,CRep w (fun _=>none) ty y cs∧InR ty y:=by
    intro k
    induction k with
    | zero=>intro ty h; omega
    | succ k ih =>
      intro ty hk t n cs x hd hc hp h
      have str : ∀ {ty : Ty} (_ : ty.rank < k + 1) (_ : P.cellsOf t = ty.size) (_ : posB ty = true),(∃ fs,P.underlying t = some (.struct fs)∧FieldsOk tab ty 0 fs.toList)→∃ y : ty.val,CRep w (fun _=>none) ty y cs∧InR ty y:=by
        intro ty hk hc hp ⟨fs,h1,h2⟩
        obtain ⟨xs,m,_,_,hl,hxl,hf⟩:=DataW.trod_struct h1 h
        have:=fields (ty:=ty) (o:=0) (fs:=fs.toList) (n:=m) (cs:=cs) (xs:=xs) (fun hlt=>ih _ (by omega)) h2 hp (by rw [hl,hc]; omega) (fun i f hi=>hf i f (by simpa using hi)) (by simpa using hxl)
        simpa using this
      cases ty with
      | int kd =>
        obtain ⟨m,h1,_,h2⟩:=DataW.trod_int hd h
        subst h1
        exact ⟨m,rfl,h2⟩
      | bool =>
        obtain ⟨b,h1,_⟩:=DataW.trod_bool hd h
        subst h1
        exact ⟨b,rfl,trivial⟩
      | str =>
        obtain ⟨s,h1,_,h2⟩:=DataW.trod_string hd h
        subst h1
        exact ⟨s.data.toList,rfl,(by show s.data.toList.length≤_; rw [Array.length_toList]; exact h2)⟩
      | unit=>exact str hk hc hp hd
      | prod a b=>exact str hk hc hp hd
      | slice e =>
        obtain ⟨el,h1,h2⟩:=hd
        have hte:=hT _ _ h2
        have hce:=cellsOf_ok hte
        have hp' : e.size ≠ 0∧posB e = true:=by
          simp only [posB] at hp
          cases hq : Nat.beq e.size 0 with
          | true=>rw [hq] at hp; cases hp
          | false=>rw [hq] at hp; exact ⟨fun e=>(by rw [e] at hq; cases hq),hp⟩
        rcases DataW.trod_slice h1 h with ⟨rfl,_⟩ | ⟨a,len,cap,elems,rest,m,_,rfl,_,hb,hl,hm,hlen,hel,_,_⟩
        · exact ⟨([] : List e.val),⟨none,0,rfl,Nat.le_refl _,.inl rfl⟩,Nat.zero_le _,fun x hx=>by cases hx⟩
        · have each : ∀ i,i < len→∃ (y : e.val) (ds : List Value),CRep w (fun _=>none) e y ds∧InR e y∧w.cells? base (a.add (i * e.size)) e.size = some ds:=by
            intro i hi
            have:=hel i hi
            rw [hce] at this
            cases hq : w.cells? base (a.add (i * e.size)) e.size with
            | none=>rw [hq] at this; simp at this; omega
            | some ds =>
              rw [hq] at this
              simp only [Option.bind_some] at this
              have hi' : i < elems.length:=by omega
              rw [List.getElem?_eq_getElem hi'] at this
              obtain ⟨y,k1,k2⟩:=ih e (by simp only [Ty.rank] at hk; omega) hte.desc hce hp'.2 this
              exact ⟨y,ds,k1,k2,rfl⟩
          obtain ⟨ys,hyl,hys⟩ : ∃ ys : List e.val,ys.length = len∧∀ i y,ys[i]? = some y→∃ ds : List Value,CRep w (fun _=>none) e y ds∧InR e y∧w.cells? base (a.add (i * e.size)) e.size = some ds:=by
            have : ∀ j,j≤len→∃ ys : List e.val,ys.length = j∧∀ i y,ys[i]? = some y→∃ ds : List Value,CRep w (fun _=>none) e y ds∧InR e y∧w.cells? base (a.add (i * e.size)) e.size = some ds:=by
              intro j
              induction j with
              | zero=>intro _; exact ⟨[],rfl,fun i y hi=>by simp at hi⟩
              | succ j ihj =>
                intro hj
                obtain ⟨ys,k1,k2⟩:=ihj (by omega)
                obtain ⟨y,ds,k3,k4,k5⟩:=each j (by omega)
                refine ⟨ys ++ [y],by simp [k1],fun i z hi=>?_⟩
                by_cases hij : i < ys.length
                · rw [List.getElem?_append_left hij] at hi; exact k2 i z hi
                · have hi2 : i = j:=by
                    have:=(List.getElem?_eq_some_iff.1 hi).1
                    simp at this; omega
                  subst hi2
                  rw [List.getElem?_append_right (by omega)] at hi
                  simp [k1] at hi
                  subst hi
                  exact ⟨ds,k3,k4,k5⟩
            exact this len (Nat.le_refl _)
          refine ⟨ys,⟨some a,cap,by rw [hyl],by rw [hyl]; exact hl,?_⟩,by show List.length (α:=e.val) ys≤maxLen; omega,fun y hy=>?_⟩
          · by_cases hnil : ys = []
            · exact .inl hnil
            · -- the first element's first cell
              have hlen0 : 0 < len:=by rw [← hyl]; exact List.length_pos_iff.2 hnil
              have cellAt : ∀ i,i < len→∀ j,j < e.size→∃ v,w.cell? ((a.add (i * e.size)).add j) = some v:=by
                intro i hi j hj
                obtain ⟨y,ds,k1,_,k3⟩:=each i hi
                obtain ⟨_,m2,m3⟩:=World.cells?_some k3
                have : j < ds.length:=by omega
                exact ⟨ds[j],(m3 j hj).trans (List.getElem?_eq_getElem this)⟩
              obtain ⟨v0,hv0⟩:=cellAt 0 hlen0 0 (Nat.pos_of_ne_zero hp'.1)
              have ha0 : (a.add (0 * e.size)).add 0 = a:=by simp [Addr.add]
              rw [ha0] at hv0
              have hspot : a.spot = none:=by
                unfold World.cell? at hv0
                split at hv0
                · split at hv0
                  · cases hv0
                  · rename_i hq; cases hs : a.spot with
                    | none=>rfl
                    | some _=>rw [hs] at hq; simp at hq
                · cases hv0
              have hblk : a.block < w.heap.size:=by
                unfold World.cell? at hv0
                split at hv0
                · rename_i hq; exact (Array.getElem?_eq_some_iff.1 hq).1
                · cases hv0
              obtain ⟨ab,ao,asp⟩:=a
              simp only at hspot hblk
              subst hspot
              refine .inr ⟨ab,ao,rfl,hblk,fun m hm=>(by cases hm),fun i y hi=>?_⟩
              obtain ⟨ds,k1,k2,k3⟩:=hys i y hi
              refine ⟨ds,k1,fun j v hj=>?_⟩
              obtain ⟨_,m2,m3⟩:=World.cells?_some k3
              have hjl:=(List.getElem?_eq_some_iff.1 hj).1
              have:=(m3 j (by omega)).trans hj
              have hadd : ((⟨ab,ao,none⟩ : Addr).add (i * e.size)).add j = ⟨ab,ao + i * e.size + j,none⟩:=by
                unfold Addr.add
                split <;> split <;> simp_all <;> omega
              rw [hadd] at this
              exact this
          · obtain ⟨i,hi⟩:=List.getElem?_of_mem hy
            obtain ⟨ds,_,k2,_⟩:=hys i y hi
            exact k2
  intro t n cs x
  exact main (ty.rank + 1) ty (Nat.lt_succ_self _)

theorem arg_rep (hT : TabOk P tab) {base2 : Nat} {t : TypeId} {ty : Ty} (ht : tab t = some ty) (hp : posB ty = true) {v : Value} {d : DataW H} {ps : List MemPlace} (hok : Value.okWide P w .any base2 t v) (h : DataW.Trod enc P w base spare held t v d ps) :
    ∃ x : ty.val,TRep w (fun _=>none) ty x v∧InR ty x:=by
  obtain ⟨n,hn⟩:=h
  have hty:=hT _ _ ht
  obtain ⟨y,h1,h2⟩:=trod_rep hT hty.desc (cellsOf_ok hty) hp hn
  refine ⟨y,⟨_,h1,?_⟩,h2⟩
  have hd:=hty.desc
  cases ty with
  | int k=>obtain ⟨m,rfl⟩:=WideShapes.okWide_int hd hok; rfl
  | bool=>obtain ⟨m,rfl⟩:=WideShapes.okWide_bool hd hok; rfl
  | str=>obtain ⟨m,rfl⟩:=WideShapes.okWide_string hd hok; rfl
  | slice e=>obtain ⟨el,hd,_⟩:=hd; obtain ⟨a,l,c,rfl⟩:=WideShapes.okWide_slice hd hok; rfl
  | unit=>obtain ⟨fs,hd,_⟩:=hd; obtain ⟨cs,rfl,_⟩:=WideShapes.okWide_struct hd hok; simp [wrapV,Value.cells]
  | prod a b=>obtain ⟨fs,hd,_⟩:=hd; obtain ⟨cs,rfl,_⟩:=WideShapes.okWide_struct hd hok; simp [wrapV,Value.cells]

theorem law_calls {f : FuncId} {aty : Ty} {fn : aty.val→Ty.unit.val→Option ((Ty.prod .bool .unit).val × Ty.unit.val)} (hF : FnOk P f { aty:=aty,rdty:=.unit,usesRd:=false,rty:=.prod .bool .unit,one:=true,own:=[],opens:=false,fn:=fn })
    {x : aty.val} (hx : fn x () = some ((true,()),())) {vals : List Value} {W : World} (ha : ArgsRep W (fun _=>none) none aty x vals) :
    Calls P f vals.toArray W (fun e W'=>e = .returned (.bool true)∧Go.RowKit.Below W.heap.size W W'):=by
  refine (hF.calls rfl rfl rfl x () _ hx W (fun _=>none) none vals ha ⟨fun h=>(by cases h),fun _=>rfl⟩).mono fun e W' h=>?_
  obtain ⟨v,lim',rfl,h1,_,h2,_⟩:=h
  have : v = .bool true:=bool_rep (st:=st00) h2
  subst this
  exact ⟨rfl,(Go.RowKit.Below.refl _ _).grown h1 (Nat.le_refl _) (fun k hk=>by cases hk)⟩
end
end Go.Den
