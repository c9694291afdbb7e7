/- Trees of one's own: writes, parts of results, calls. -/
import Derived.Deep.LoopGhost
import Derived.RegionTactic
import Derived.Tactics
import Derived.Test.YtgababfidcmdcabGreatXDm2
set_option linter.unusedVariables false
set_option linter.unusedSimpArgs false
namespace Go.Den
section
variable {P:Program} {tab:Tab} {G:Gam} {w0:Base} {lim0:Lim} {rb:Option Nat} {n:Nat}
variable {st st':St} {a:Act} {w w':World} {lim lim':Lim} {β:Mp} {o:Oper} {c:Comp}
theorem noSl_noTy : ∀ {t:Ty} {q:List Nat} {e:Ty},noSl t=true→typeAt t q=some (.slice e)→False:=by
 intro t
 induction t with
 | prod a b iha ihb=>
   intro q e hn h
   simp only [noSl] at hn
   cases ha:noSl a with
   | false=>rw [ha] at hn;cases hn
   | true=>
     rw [ha] at hn
     cases q with
     | nil=>simp only [typeAt] at h;cases h
     | cons i q=>cases i with
       | zero=>exact iha ha (by simpa [typeAt] using h)
       | succ i=>exact ihb hn (by simpa [typeAt] using h)
 | slice u _=>intro q e hn h;cases hn
 | int k=>intro q e hn h;cases q<;>simp [typeAt] at h
 | bool=>intro q e hn h;cases q<;>simp [typeAt] at h
 | str=>intro q e hn h;cases q<;>simp [typeAt] at h
 | unit=>intro q e hn h;cases q<;>simp [typeAt] at h
theorem noSl_beside : ∀ {t:Ty} {x:t.val} {q:List Nat} {y:Dat},getP t x q=some y→noSl y.1=true→∀ {q':List Nat} {e':Ty},typeAt t q'=some (.slice e')→offs t q'+1≤offs t q∨offs t q+y.1.size≤offs t q':=by
 intro t
 induction t with
 | prod a b iha ihb=>
   intro x q y hy hn q' e' hq
   cases q with
   | nil=>simp only [getP] at hy;injection hy with hy;subst hy;exact (noSl_noTy hn hq).elim
   | cons i q=>
     cases q' with
     | nil=>simp only [typeAt] at hq;cases hq
     | cons j q'=>
       simp only [getP] at hy
       cases i with
       | zero=>
         simp only [getF] at hy
         have hl:=zbf (zb0 hy)
         cases j with
         | zero=>simpa [offs] using iha hy hn (by simpa [typeAt] using hq)
         | succ j=>right;simp only [offs];omega
       | succ i=>
         simp only [getF] at hy
         cases hg:getF b x.2 i with
         | none=>rw [hg] at hy;cases hy
         | some d=>
           have hy':getP b x.2 (i::q)=some y:=by simp only [getP,hg];rw [hg] at hy;exact hy
           cases j with
           | zero=>
             have hl:=zbf (show typeAt a q'=some (.slice e') by simpa [typeAt] using hq)
             have:(Ty.slice e').size=1:=rfl
             left;simp only [offs];omega
           | succ j=>
             have:=ihb hy' hn (show typeAt b (j::q')=some (.slice e') by simpa [typeAt] using hq)
             simp only [offs];omega
 | slice u _=>intro x q y hy hn q' e' hq;cases q with
   | nil=>simp only [getP] at hy;injection hy with hy;subst hy;cases hn
   | cons i q=>simp [getP,getF] at hy
 | int k=>intro x q y hy hn q' e' hq;cases q'<;>simp [typeAt] at hq
 | bool=>intro x q y hy hn q' e' hq;cases q'<;>simp [typeAt] at hq
 | str=>intro x q y hy hn q' e' hq;cases q'<;>simp [typeAt] at hq
 | unit=>intro x q y hy hn q' e' hq;cases q'<;>simp [typeAt] at hq
theorem store_core (hT:TabOk P tab) (h:Sim w0 lim0 rb n st a w lim β) {t:TypeId} {x v:Operand} {r:Tmp} {p q:List Nat} {k:Int} (hop:o.op = .store t x v) (hxe:(st.ent x).av = .xp r p k q)
 {e:Ty} {xs:List e.val} {d:Dat} (hio:st.io r=some d) (hat:st.atX r p=some ⟨.slice e,xs⟩) (hr:0≤k∧k<xs.length) {y:Dat} (hy:getP e (atL xs k e.zero) q=some y) (hty:tyIs (tab t) y.1=true)
 (hlen:(a.eval v).cells.size=y.1.size) (hna : ∀u∈(a.eval v).cells.toList,notAgg u) :
 ∃w' g ob,∃Bu:Nat→Prop,(execOp a.eval o).run P w = .ok .skip w'∧Wrote w w' g ob∧β.B r g∧(∀b,Bu b→β.B r b∧b≠g)∧(noSl y.1=true→∀b,¬Bu b) ∧
  (∀(z:y.1.val) (x':e.val) (d':d.1.val) (Bv:Nat→Prop),setP e (atL xs k e.zero) q ⟨y.1,z⟩=some x'→setP d.1 d.2 p ⟨.slice e,setL xs k x'⟩=some d'→(∀b,Bv b→β.B r b→Bu b)→XRep w' y.1 z (a.eval v).cells.toList Bv →
    XRep w' d.1 d' (flatV (β.V r)) (fun b=>(β.B r b∧¬Bu b)∨Bv b)) ∧
  (∀j,(j<k.toNat*e.size+offs e q∨k.toNat*e.size+offs e q+y.1.size≤j)→w'.cell? ⟨g,j,none⟩=w.cell? ⟨g,j,none⟩)∧∃m c,(flatV (β.V r))[offs d.1 p]?=some (.slice (some ⟨g,0,none⟩) m c):=by
 obtain ⟨g0,m0,cc0,dd,k1,k2,k3,k4⟩:=xp_rep h hxe hat
 rw [hio] at k1;injection k1 with k1;subst k1
 obtain ⟨d2,h1,h2⟩:=atX_some hat
 rw [hio] at h1;injection h1 with h1;subst h1
 obtain ⟨b1,b2,b3,B1,j1,j2,jl,j3,j4,j5⟩:=(h.xs.io r d hio).sub' h2
 have hkl:k.toNat<xs.length:=by omega
 have hget:atL xs k e.zero=xs[k.toNat]:=by simp [atL,hkl]
 rw [hget] at hy ⊢
 have hel:xs[k.toNat]?=some xs[k.toNat]:=List.getElem?_eq_getElem hkl
 obtain ⟨g,c,arr,el,fr,c2,Bu,q1,q2,q3,q4,qf,q5,q6,q7,q8,q9,q10⟩:=XRep.putEl (xs:=xs) j4 hel hy
 have hs1:(Ty.slice e).size=1:=rfl
 have hg:g0=g:=by
  have hb2:b2=[.slice (some ⟨g,0,none⟩) xs.length c]:=q1
  rw [j1,←j2,List.getElem?_append_right (by omega),Nat.sub_self,hb2] at k3
  simp at k3
  exact k3.1.symm
 subst hg
 have hyl:=getP_size hy
 have hbound:(k.toNat+1)*e.size≤arr.size:=Nat.le_trans (Nat.mul_le_mul_right _ (by omega)) q3
 rw [Nat.succ_mul] at hbound
 have hal:arr.toList.length=arr.size:=by simp
 have hsplit:arr.toList=arr.toList.take (k.toNat*e.size+offs e q)++(c2++arr.toList.drop (k.toNat*e.size+offs e q+y.1.size)):=by
  apply List.ext_getElem?
  intro j
  by_cases hj1:j<k.toNat*e.size+offs e q
  ·rw [List.getElem?_append_left (by rw [List.length_take];omega),List.getElem?_take_of_lt hj1]
  ·rw [List.getElem?_append_right (by rw [List.length_take];omega)]
   have hlt:(arr.toList.take (k.toNat*e.size+offs e q)).length=k.toNat*e.size+offs e q:=by rw [List.length_take];omega
   rw [hlt]
   by_cases hj2:j<k.toNat*e.size+offs e q+y.1.size
   ·rw [List.getElem?_append_left (by omega)]
    obtain ⟨i,rfl⟩ : ∃i,j=k.toNat*e.size+offs e q+i:=⟨j-(k.toNat*e.size+offs e q),by omega⟩
    have:=q9 i _ (List.getElem?_eq_getElem (by omega))
    rw [Array.getElem?_toList,this,show k.toNat*e.size+offs e q+i-(k.toNat*e.size+offs e q)=i by omega,List.getElem?_eq_getElem (by omega)]
   ·rw [List.getElem?_append_right (by omega),List.getElem?_drop]
    congr 1;omega
 have hlt0:(arr.toList.take (k.toNat*e.size+offs e q)).length=k.toNat*e.size+offs e q+0:=by
  rw [List.length_take];omega
 have hvl:(a.eval v).cells.toList.length=y.1.size:=by simpa using hlen
 obtain ⟨w',r1,r5⟩:=zld (P:=P) (a.eval v).cells.toList arr el fr g0 0 (k.toNat*e.size+offs e q) w _ c2 _ q4 hsplit hlt0 (by rw [q6,hvl]) hna qf
 have he:(execOp a.eval o).run P w = .ok .skip w':=by
  simp only [execOp,hop,Instr.storeAt,Instr.sureAddr,k4,Sem.run_bind,Sem.run_pure,Result.andThen_ok,storeVar,zby (hT _ _ (zax hty)),hlen,ne_eq,not_true_eq_false,if_false]
  simp only [r1,Result.andThen_ok]
 have hsz2:((arr.toList.take (k.toNat*e.size+offs e q)++((a.eval v).cells.toList++arr.toList.drop (k.toNat*e.size+offs e q+y.1.size))).toArray).size=arr.size:=by
  have h2:=congrArg List.length hsplit
  simp only [List.length_append,List.size_toArray] at h2 ⊢
  omega
 have hout : ∀j,(j<k.toNat*e.size+offs e q∨k.toNat*e.size+offs e q+y.1.size≤j) →
  (arr.toList.take (k.toNat*e.size+offs e q)++((a.eval v).cells.toList++arr.toList.drop (k.toNat*e.size+offs e q+y.1.size))).toArray[j]?=arr[j]?:=by
  intro j hj
  have hlt:(arr.toList.take (k.toNat*e.size+offs e q)).length=k.toNat*e.size+offs e q:=by rw [List.length_take];omega
  rw [List.getElem?_toArray,←Array.getElem?_toList]
  rcases hj with hj|hj
  ·rw [List.getElem?_append_left (by omega),List.getElem?_take_of_lt hj]
  ·rw [List.getElem?_append_right (by omega),List.getElem?_append_right (by omega),List.getElem?_drop]
   congr 1;omega
 refine ⟨w',g0,_,Bu,he,r5,j3 _ q5,fun b hb=>⟨j3 b (q7 b hb).1,(q7 b hb).2⟩,fun hns b hb=>((zjw hns).1 q8).2 b hb,fun z x' d' Bv hs1 hs2 hdis hXv=>?_,fun j hj=>?_,m0,cc0,k3⟩
 rotate_left
 ·have:=hout j hj
  simp only [World.cell?,r5.at_,q4,this]
 have hsl:setL xs k x'=xs.set k.toNat x':=rfl
 have hX1:=q10 w' z x' (a.eval v).cells.toList Bv _ hs1 (fun b hb hne _=>r5.other b hne) r5.at_ hsz2 (fun j hj=>?_) (fun j u hu=>?_) (fun b hb hb2=>hdis b hb (j3 b hb2)) hXv
 ·have:=j5 w' (xs.set k.toNat x') d' b2 _ hs2 (fun b hb hn=>r5.other b (fun e'=>hn (by rw [e'];exact q5))) (fun b hb hb2=>?_) hX1
  ·rw [←j1] at this
   refine this.congr fun b=>⟨fun hb=>?_,fun hb=>?_⟩
   ·rcases hb with ⟨hb,hn⟩|hb
    ·by_cases hb1:B1 b
     ·exact .inr (.inl ⟨hb1,hn⟩)
     ·exact .inl ⟨hb,hb1⟩
    ·exact .inr (.inr hb)
   ·rcases hb with ⟨hb,hn⟩|⟨hb,hn⟩|hb
    ·exact .inl ⟨hb,fun hb1=>hn (q7 b hb1).1⟩
    ·exact .inl ⟨j3 b hb,hn⟩
    ·exact .inr hb
  ·rcases hb with ⟨hb,_⟩|hb
   ·exact hb
   ·exact (q7 b (hdis b hb hb2)).1
 ·have hlt:(arr.toList.take (k.toNat*e.size+offs e q)).length=k.toNat*e.size+offs e q:=by rw [List.length_take];omega
  rw [List.getElem?_toArray,←Array.getElem?_toList]
  rcases hj with hj|hj
  ·rw [List.getElem?_append_left (by omega),List.getElem?_take_of_lt hj]
  ·rw [List.getElem?_append_right (by omega),List.getElem?_append_right (by omega),List.getElem?_drop]
   congr 1;omega
 ·have hlt:(arr.toList.take (k.toNat*e.size+offs e q)).length=k.toNat*e.size+offs e q:=by rw [List.length_take];omega
  have hj:=(List.getElem?_eq_some_iff.1 hu).1
  rw [List.getElem?_toArray,List.getElem?_append_right (by omega),List.getElem?_append_left (by omega),←hu]
  congr 1;omega
theorem ok_storeX (hT:TabOk P tab) (h:Sim w0 lim0 rb n st a w lim β) (hrb : ∀k,some k=rb→k<w0.heap.size) (hd : ∀d,o.dst=some d→d<n) {t:TypeId} {x v:Operand} {r:Tmp} {p q:List Nat} {k:Int} (hop:o.op = .store t x v) (hxe:(st.ent x).av = .xp r p k q)
 (hc:stStoreX tab o t r p k q v st=some c) (ho:c.out st=some st'):OpOk P w0 lim0 rb n o st' a w:=by
 unfold stStoreX at hc
 split at hc
 ·rename_i d e xs hio hat
  change List e.val at xs
  cases hy:getP e (atL (α:=e.val) xs k e.zero) q with
  | none=>rw [hy] at hc;cases hc
  | some y=>
    rw [hy] at hc;simp only [] at hc
    cases hty:tyIs (tab t) y.1 with
    | false=>rw [hty] at hc;cases hc
    | true=>
    cases hns:noSl y.1 with
    | false=>rw [hty,hns] at hc;cases hc
    | true=>
    cases hz:AV.as y.1 (st.ent v).av with
    | none=>rw [hty,hns,hz] at hc;cases hc
    | some z=>
      rw [hty,hns,hz] at hc;simp only [] at hc
      cases hs1:setP e (atL (α:=e.val) xs k e.zero) q ⟨y.1,z⟩ with
      | none=>rw [hs1] at hc;cases hc
      | some x'=>
        rw [hs1] at hc;simp only [] at hc
        cases hs2:setP d.1 d.2 p ⟨.slice e,setL (α:=e.val) xs k x'⟩ with
        | none=>rw [hs2] at hc;cases hc
        | some d'=>
          rw [hs2] at hc
          injection hc with hc;subst hc
          obtain ⟨hr,rfl⟩:=zap ho
          have hr:=inRange hr
          have hv:=(as_rep hz (h.ent v)).cells
          have hvl:=hv.length
          obtain ⟨w',g,ob,Bu,he,r5,c1,c2,c3,c4,c5,m1,cc1,c6⟩:=store_core hT h hop hxe hio hat hr hy hty (by simpa using hvl) (fun u hu=>hv.cells u hu)
          have hX:=c4 z x' d' (fun _=>False) hs1 hs2 (fun _ hb=>hb.elim) ((zjw hns).2 ⟨(za3 hns).1 hv,fun _ hb=>hb⟩)
          refine .skip (lim:=lim) he (h.setroot (d':=⟨d.1,d'⟩) hrb hd hio rfl .skp undef r5.os r5.tape r5.output (by rw [r5.size];exact Nat.le_refl _) (fun j _ hn=>r5.other j (fun e=>hn (by rw [e];exact c1))) (fun _ _=>rfl)
           (hX.congr fun b=>⟨fun hb=>.inl ⟨hb,c3 hns b⟩,fun hb=>hb.elim (·.1) (·.elim)⟩) (fun _ _=>rfl) (fun hr0 e1 q1 e' g' m' c' k' he1 hq1 hV hk1=>?_))
          subst hr0
          obtain ⟨hp0,hee⟩:p=[]∧e1=e:=by
           have h1:=(atX_some hat)
           obtain ⟨d2,h1,h2⟩:=h1
           rw [hio] at h1;injection h1 with h1;subst h1
           obtain ⟨dt,dv⟩:=d
           simp only at he1 h2
           subst he1
           cases p with
           | nil=>simp only [getP] at h2;injection h2 with h2;injection h2 with h2;injection h2 with h2;exact ⟨rfl,h2⟩
           | cons i p=>simp only [getP,getF] at h2;cases h2
          subst hp0;subst hee
          rw [he1] at c6
          rw [show offs (.slice e1) []=0 by rfl,hV] at c6
          injection c6 with c6;injection c6 with c6;injection c6 with c6;injection c6 with c6
          subst c6
          refine c5 _ ?_
          have hb:=noSl_beside hy hns hq1
          have hq2:=zbf hq1
          have hy2:=zbf (zb0 hy)
          have hs1:(Ty.slice e').size=1:=rfl
          rw [hs1] at hq2
          rcases Nat.lt_trichotomy k' k.toNat with hlt|heq|hgt
          ·left
           have:=Nat.mul_le_mul_right e1.size (show k'+1≤k.toNat by omega)
           rw [Nat.succ_mul] at this
           omega
          ·subst heq;omega
          ·right
           have:=Nat.mul_le_mul_right e1.size (show k.toNat+1≤k' by omega)
           rw [Nat.succ_mul] at this
           omega
 ·cases hc
theorem TupSh.part : ∀ {t:Ty} {vs:List Value} {x:t.val} {i:Nat} {d:Dat},TupSh t vs→getF t x i=some d→∃v,vs[i]?=some v∧v=wrapV d.1 (((vs.flatMap fun v=>v.cells.toList).drop (offs t [i])).take d.1.size):=by
 intro t
 induction t with
 | prod p q _ ihq=>
   intro vs x i d h hf
   obtain ⟨v,vs',cs,rfl,h1,h2,h3,h4⟩:=h
   cases i with
   | zero=>
     simp only [getF] at hf;injection hf with hf;subst hf
     refine ⟨v,rfl,?_⟩
     have:offs (.prod p q) [0]=0:=by cases p<;>rfl
     rw [this]
     simp only [List.flatMap_cons,List.drop_zero]
     rw [h3,←h1,List.take_left];exact h2
   | succ i=>
     simp only [getF] at hf
     obtain ⟨u,k1,k2⟩:=ihq h4 hf
     refine ⟨u,by simpa using k1,?_⟩
     simp only [List.flatMap_cons,offs]
     rw [h3,←h1,←List.drop_drop,List.drop_left];exact k2
 | _=>intro vs x i d h hf;cases hf
theorem ok_extractX (h:Sim w0 lim0 rb n st a w lim β) (hd : ∀d,o.dst=some d→d<n) {x:Operand} {i:Nat} {r:Tmp} (hop:o.op = .extract x i) (hxe:(st.ent x).av = .xt r) (hc:stExtractX o r i st=some c) (ho:c.out st=some st'):OpOk P w0 lim0 rb n o st' a w:=by
 unfold stExtractX at hc
 have hx:=h.ent x
 rw [hxe] at hx
 obtain ⟨d,hx2,hxx⟩:=hx
 rw [hx2] at hc;simp only [] at hc
 cases hf:getF d.1 d.2 i with
 | none=>rw [hf] at hc;cases hc
 | some y=>
   obtain ⟨hx1,vs,hx3,hx4⟩:=hxx.resolve_left (fun e=>by
    obtain ⟨dt,dv⟩:=d
    simp only at e hf
    subst e;cases hf)
   rw [hf] at hc;simp only [] at hc
   obtain ⟨u,k1,k2⟩:=hx4.part hf
   have hfl:flatV (β.V r)=vs.flatMap fun v=>v.cells.toList:=by rw [←hx1,hx3];simp [flatV]
   rw [←hfl] at k2
   have he:(execOp a.eval o).run P w = .ok (.value u) w:=by
    simp [execOp,hop,hx3,Instr.extract,k1]
   have hp:getP d.1 d.2 [i]=some y:=by simp [getP,hf]
   have hX:=h.xs.io r d hx2
   obtain ⟨Bu,m1,m2⟩:=hX.field hf
   cases hns:noSl y.1 with
   | true=>
     rw [hns] at hc
     injection hc with hc;subst hc
     obtain ⟨_,rfl⟩:=zap ho
     have hcr:=m2.crep (lim:=fun _=>none) (fun _ _=>rfl)
     exact .value he (h.plain _ _ _ hd ⟨_,(za3 hns).2 ((za3 hns).1 hcr),k2⟩)
   | false=>
     rw [hns] at hc
     injection hc with hc;subst hc
     obtain ⟨_,rfl⟩:=zap ho
     exact .value he (h.plain _ _ _ hd ⟨d,hx2,.inr ⟨y.1,zb0 hp,k2⟩⟩)
end
end Go.Den
namespace Go.Den
section
variable {P:Program} {tab:Tab} {G:Gam} {w0:Base} {lim0:Lim} {rb:Option Nat} {n:Nat}
variable {st st':St} {a:Act} {w w':World} {lim lim':Lim} {β:Mp} {o:Oper} {c:Comp}
open Classical in
noncomputable def limX (st:St) (β:Mp) (lim:Lim):Lim:=fun g=>if isTree st β g then none else lim g
theorem ext_limX:Ext w lim w (limX st β lim):=
 ⟨Nat.le_refl _,fun _ _ _ _ _ h=>h,fun b m _ hu k hk=>by
   unfold limX at hk
   split at hk
   ·cases hk
   ·exact hu k hk⟩
theorem argX_rep (h:Sim w0 lim0 rb n st a w lim β) (x:Operand):ERep st w (limX st β lim) β rb (argX st (st.ent x).av) (a.eval x):=by
 have hm : ∀ {av:AV},ERep st w lim β rb av (a.eval x)→ERep st w (limX st β lim) β rb av (a.eval x):=fun hv=>
  hv.mono ext_limX (fun b d hb=>⟨rfl,d,hb,rfl⟩) (fun d hd=>⟨d,hd,rfl⟩) (fun r d hr=>⟨d,hr,rfl,rfl⟩) (fun b t o hb=>⟨⟨o,hb⟩,rfl⟩)
 have hx:=h.ent x
 cases hav:(st.ent x).av with
 | xf r p=>
   simp only [argX]
   cases hy:st.atX r p with
   | none=>trivial
   | some y=>
     obtain ⟨d,hio,hv⟩:=xf_val h hav hy
     obtain ⟨d2,Bu,m1,m2,m3,m6,m7,m8⟩:=h.atX hy
     rw [hio] at m1;injection m1 with m1;subst m1
     exact ⟨_,m7.crep (fun g hg=>by unfold limX;rw [if_pos (.inl ⟨r,d,hio,m6 g hg⟩)]),hv⟩
 | _=>rw [hav] at hx;exact hm hx
theorem CRep.relim {l1 l2:Lim} : ∀ {t:Ty} {x:t.val} {cs:List Value},CRep w l1 t x cs→flatT t=true →
 (∀p∈slicePaths t,∀v,cs[offs t p]?=some v→∀g,blockOf v=some g→l2 g=l1 g)→CRep w l2 t x cs:=by
 intro t
 induction t with
 | int k=>intro x cs h _ _;exact h
 | bool=>intro x cs h _ _;exact h
 | str=>intro x cs h _ _;exact h
 | unit=>intro x cs h _ _;exact h
 | slice e _=>
   intro xs cs h hf hl
   obtain ⟨ad,cc,h1,h2,h3⟩:=h
   subst h1
   refine ⟨ad,cc,rfl,h2,?_⟩
   rcases h3 with h3|⟨b,oo,q1,q2,q3,q4⟩
   ·exact .inl h3
   ·subst q1
    have:=hl [] (zc3 e) _ (by simp [offs];rfl) b rfl
    refine .inr ⟨b,oo,rfl,q2,fun m hm=>q3 m (by rw [←this];exact hm),fun i x hx=>?_⟩
    obtain ⟨ds,k1,k2⟩:=q4 i x hx
    exact ⟨ds,(za3 hf).2 ((za3 hf).1 k1),k2⟩
 | prod p q ihp ihq=>
   intro x cs h hf hl
   obtain ⟨c1,c2,rfl,h1,h2⟩:=h
   obtain ⟨f1,f2⟩:=flat_prod hf
   have l1':=h1.length
   refine ⟨c1,c2,rfl,ihp h1 f1 (fun r hr v hv g hg=>?_),?_⟩
   ·refine hl (0::r) (by simp only [slicePaths];exact List.mem_append_left _ (List.mem_map.2 ⟨r,hr,rfl⟩)) v ?_ g hg
    simp only [offs]
    rw [List.getElem?_append_left (List.getElem?_eq_some_iff.1 hv).1];exact hv
   ·rcases f2 with ⟨q1,q2,rfl,f2⟩|rfl
    ·refine ihq h2 f2 (fun r hr v hv g hg=>?_)
     cases r with
     | nil=>exact absurd rfl ((zaw hr).2 rfl)
     | cons i r=>
       refine hl ((i+1)::r) (by rw [slicePaths];exact List.mem_append_right _ (List.mem_map.2 ⟨i::r,hr,rfl⟩)) v ?_ g hg
       simp only [offs]
       rw [List.getElem?_append_right (by omega),l1',show p.size+offs (.prod q1 q2) (i::r)-p.size=offs (.prod q1 q2) (i::r) by omega];exact hv
    ·exact h2
theorem CRep.relimN {l1 l2:Lim} : ∀ {t:Ty} {x:t.val} {cs:List Value},CRep w l1 t x cs→nestT t=true →
 (∀p∈slicePaths t,∀T v,typeAt t p=some T→cs[offs t p]?=some v→∀g,Blk w T v g→l2 g=l1 g)→CRep w l2 t x cs:=by
 intro t
 induction t with
 | int k=>intro x cs h _ _;exact h
 | bool=>intro x cs h _ _;exact h
 | str=>intro x cs h _ _;exact h
 | unit=>intro x cs h _ _;exact h
 | slice e _=>
   intro xs cs h hf hl
   obtain ⟨ad,cc,h1,h2,h3⟩:=h
   subst h1
   refine ⟨ad,cc,rfl,h2,?_⟩
   rcases h3 with h3|⟨b,oo,q1,q2,q3,q4⟩
   ·exact .inl h3
   ·subst q1
    have:=hl [] (zc3 e) (.slice e) (.slice (some ⟨b,oo,none⟩) (List.length (α:=e.val) xs) cc) rfl (by simp [offs]) b rfl
    refine .inr ⟨b,oo,rfl,q2,fun m hm=>q3 m (by rw [←this];exact hm),fun i x hx=>?_⟩
    obtain ⟨ds,k1,k2⟩:=q4 i x hx
    refine ⟨ds,?_,k2⟩
    cases hns:noSl e with
    | true=>exact (za3 hns).2 ((za3 hns).1 k1)
    | false=>
      have hfl:flatT e=true:=by simp only [nestT,hns] at hf;exact hf
      have hsp:slicePaths (.slice e)=[[],[0]]:=by simp [slicePaths,hns,hfl]
      refine k1.relim hfl (fun p hp v hv g hg=>?_)
      obtain ⟨e',he'⟩:=flat_plain hfl hp
      refine hl [0] (by rw [hsp];simp) (.prod (.slice e) .unit) (.slice (some ⟨b,oo,none⟩) (List.length (α:=e.val) xs) cc) rfl (by simp [offs]) g ⟨i,p,e',v,he',?_,hg⟩
      have hi:i<List.length (α:=e.val) xs:=(List.getElem?_eq_some_iff.1 hx).1
      simp only [elemAt,hi,if_true]
      exact k2 _ v hv
 | prod p q ihp ihq=>
   intro x cs h hf hl
   obtain ⟨c1,c2,rfl,h1,h2⟩:=h
   obtain ⟨f1,f2⟩:=nest_prod hf
   have l1':=h1.length
   refine ⟨c1,c2,rfl,ihp h1 f1 (fun r hr T v ht hv g hg=>?_),?_⟩
   ·refine hl (0::r) (by simp only [slicePaths];exact List.mem_append_left _ (List.mem_map.2 ⟨r,hr,rfl⟩)) T v (by simp only [typeAt];exact ht) ?_ g hg
    simp only [offs]
    rw [List.getElem?_append_left (List.getElem?_eq_some_iff.1 hv).1];exact hv
   ·rcases f2 with ⟨q1,q2,rfl,f2⟩|rfl
    ·refine ihq h2 f2 (fun r hr T v ht hv g hg=>?_)
     cases r with
     | nil=>exact absurd rfl ((zaw hr).2 rfl)
     | cons i r=>
       refine hl ((i+1)::r) (by rw [slicePaths];exact List.mem_append_right _ (List.mem_map.2 ⟨i::r,hr,rfl⟩)) T v (by simp only [typeAt];exact ht) ?_ g hg
       simp only [offs]
       rw [List.getElem?_append_right (by omega),l1',show p.size+offs (.prod q1 q2) (i::r)-p.size=offs (.prod q1 q2) (i::r) by omega];exact hv
    ·exact h2
theorem tup_iff : ∀ {t:Ty} {x:t.val} {vs:List Value},TupRep w lim t x vs↔(TupSh t vs∧CRep w lim t x (vs.flatMap fun v=>v.cells.toList)):=by
 intro t
 induction t with
 | unit=>intro x vs;constructor
         ·intro h;have h:vs=[]:=h;subst h;exact ⟨rfl,rfl⟩
         ·intro h;exact h.1
 | prod p q _ ihq=>
   intro x vs
   constructor
   ·rintro ⟨v,vs',rfl,⟨cs,h1,h2⟩,h3⟩
    obtain ⟨k1,k2⟩:=ihq.1 h3
    have hcl:v.cells.toList=cs:=by rw [h2,za6 h1]
    refine ⟨⟨v,vs',cs,rfl,h1.length,h2,hcl,k1⟩,cs,_,?_,h1,k2⟩
    simp only [List.flatMap_cons];rw [hcl]
   ·rintro ⟨⟨v,vs',cs,rfl,h1,h2,h3,h4⟩,c1,c2,k1,k2,k3⟩
    simp only [List.flatMap_cons] at k1
    rw [h3] at k1
    obtain ⟨e1,e2⟩:=List.append_inj k1 (by rw [h1,k2.length])
    subst e1;subst e2
    exact ⟨v,vs',rfl,⟨cs,k2,h2⟩,ihq.2 ⟨h4,k3⟩⟩
 | int k=>intro x vs;exact ⟨fun h=>h.elim,fun h=>h.1.elim⟩
 | bool=>intro x vs;exact ⟨fun h=>h.elim,fun h=>h.1.elim⟩
 | str=>intro x vs;exact ⟨fun h=>h.elim,fun h=>h.1.elim⟩
 | slice e=>intro x vs;exact ⟨fun h=>h.elim,fun h=>h.1.elim⟩
theorem allIn_spec : ∀ {ps qs:List (List Nat)},allIn ps qs=true→∀p∈ps,p∈qs
 | [],_,_,p,hp=>by cases hp
 | r::ps,qs,h,p,hp=>by
   simp only [allIn] at h
   cases hr:inPaths r qs with
   | false=>rw [hr] at h;cases h
   | true=>
     rw [hr] at h
     rcases List.mem_cons.1 hp with rfl|hp
     ·exact zhe.1 hr
     ·exact allIn_spec h p hp
theorem ret_closed {s:Sig} {r:s.rty.val×s.rdty.val} {e:Ending} {l1:Lim} {rbx:Option Nat} (hcl:closedS s=true) (h:RetOk w l1 rbx s r e w') : ∃v lim',e = .returned v∧w.grownBy w' rbx∧(∀b,b<w.heap.size→lim' b=l1 b) ∧
 ERep st00 w' lim' mp0 none (resAV s.rty s.one r.1) v∧nestT (rootOf s.one s.rty r.1).1=true∧CRep w' lim' (rootOf s.one s.rty r.1).1 (rootOf s.one s.rty r.1).2 (flatV v) ∧
 (∀p∈slicePaths (rootOf s.one s.rty r.1).1,∃T x,typeAt (rootOf s.one s.rty r.1).1 p=some T∧(flatV v)[offs (rootOf s.one s.rty r.1).1 p]?=some x∧OwnT w' lim' (fun g=>w.heap.size≤g) T x) ∧
 (∀p∈slicePaths (rootOf s.one s.rty r.1).1,∀q∈slicePaths (rootOf s.one s.rty r.1).1,∀T T' u z g,typeAt (rootOf s.one s.rty r.1).1 p=some T→typeAt (rootOf s.one s.rty r.1).1 q=some T'→(flatV v)[offs (rootOf s.one s.rty r.1).1 p]?=some u→(flatV v)[offs (rootOf s.one s.rty r.1).1 q]?=some z→Blk w' T u g→Blk w' T' z g→p=q) ∧
 ((∀d,rootAV s.one s.rty d = .xf d [])∧v=wrapV (rootOf s.one s.rty r.1).1 (flatV v)∧resAV s.rty s.one r.1 = .dat (rootOf s.one s.rty r.1).1 (rootOf s.one s.rty r.1).2 ∨
   (∀d,rootAV s.one s.rty d = .xt d)∧(∃vs,v = .tuple vs.toArray∧TupSh (rootOf s.one s.rty r.1).1 vs)∧resAV s.rty s.one r.1 = .tup (rootOf s.one s.rty r.1).1 (rootOf s.one s.rty r.1).2) ∧
 (∀p∈resOwn s.one s.own,∃T x,typeAV p (resAV s.rty s.one r.1)=some T∧partAV v p (resAV s.rty s.one r.1)=some x∧OwnT w' lim' (fun g=>w.heap.size≤g) T x) ∧
 (∀p∈resOwn s.one s.own,∀q∈resOwn s.one s.own,∀T T' x y g,typeAV p (resAV s.rty s.one r.1)=some T→typeAV q (resAV s.rty s.one r.1)=some T'→partAV v p (resAV s.rty s.one r.1)=some x→partAV v q (resAV s.rty s.one r.1)=some y→Blk w' T x g→Blk w' T' y g→p=q) ∧
 (s.usesRd=true→∃b cells e,rbx=some b∧w'.heap[b]?=some (.cells cells e (0,0))∧CRep w' lim' s.rdty r.2 cells.toList∧∀p e',typeAt s.rdty p=some (.slice e')→w'.cell? ⟨b,offs s.rdty p,none⟩=w.cell? ⟨b,offs s.rdty p,none⟩):=by
 obtain ⟨v,lim',rfl,g1,g2,g3,g4,g5,g6⟩:=h
 refine ⟨v,lim',rfl,g1,g2,g3,?_⟩
 unfold closedS at hcl
 cases hfl:nestT s.rty with
 | false=>rw [hfl] at hcl;cases hcl
 | true=>
 rw [hfl] at hcl;simp only [cnd_true] at hcl
 cases hal:allIn (slicePaths s.rty) s.own with
 | false=>rw [hal] at hcl;cases hcl
 | true=>
 rw [hal] at hcl;simp only [cnd_true] at hcl
 obtain ⟨aty,rdty,usesRd,rty,one,own,opens,muts,fv,fn⟩:=s
 simp only at r g3 g4 g5 g6 hcl hfl hal ⊢
 cases one with
 | true=>
   cases rty with
   | prod p q=>
     cases q with
     | unit=>
       obtain ⟨f1,_⟩:=nest_prod hfl
       have g3':TRep w' lim' p r.1.1 v:=g3
       have hc:=g3'.cells
       have hfv:=zdl g3'
       have inown : ∀m∈slicePaths p,m∈resOwn true own:=by
        intro m hm
        have:=allIn_spec hal (0::m) (by simp only [slicePaths];exact List.mem_append_left _ (List.mem_map.2 ⟨m,hm,rfl⟩))
        exact List.mem_map.2 ⟨_,this,rfl⟩
       refine ⟨f1,by rw [hfv];exact hc,fun m hm=>g4 m (inown m hm),fun m hm m' hm' T T' u z g h1 h2 h3 h4=>g5 m (inown m hm) m' (inown m' hm') T T' u z g h1 h2 h3 h4,.inl ⟨fun _=>rfl,?_,rfl⟩,g4,g5,g6⟩
       obtain ⟨cs,k1,k2⟩:=g3'
       rw [hfv,k2,za6 k1]
       rfl
     | _=>cases hcl
   | _=>cases hcl
 | false=>
   have hav:resAV rty false r.1 = .tup rty r.1:=by unfold resAV;rfl
   have hro:rootOf false rty r.1=⟨rty,r.1⟩:=by unfold rootOf;rfl
   have hra : ∀d,rootAV false rty d = .xt d:=fun d=>by unfold rootAV;rfl
   rw [hav] at g3 g4 g5 ⊢
   rw [hro]
   obtain ⟨vs,hv,ht⟩:=g3
   obtain ⟨k1,k2⟩:=tup_iff.1 ht
   have hfv:flatV v=vs.flatMap fun v=>v.cells.toList:=by rw [hv];simp [flatV]
   have inown : ∀m∈slicePaths rty,m∈resOwn false own:=fun m hm=>allIn_spec hal m hm
   exact ⟨hfl,by rw [hfv];exact k2,fun m hm=>g4 m (inown m hm),fun m hm m' hm' T T' u z g h1 h2 h3 h4=>g5 m (inown m hm) m' (inown m' hm') T T' u z g h1 h2 h3 h4,.inr ⟨hra,⟨vs,hv,k1⟩,rfl⟩,g4,g5,g6⟩
theorem setF_ok : ∀ {t:Ty} {x:t.val} {i:Nat} {d:Dat} (z:d.1.val),getF t x i=some d→∃x',setF t x i ⟨d.1,z⟩=some x':=by
 intro t
 induction t with
 | prod p q _ ihq=>
   intro x i d z h
   cases i with
   | zero=>simp only [getF] at h;injection h with h;subst h;exact ⟨(z,x.2),by simp only [setF,cast_self];rfl⟩
   | succ i=>
     simp only [getF] at h
     obtain ⟨y,hy⟩:=ihq z h
     exact ⟨(x.1,y),by simp only [setF,hy];rfl⟩
 | _=>intro x i d z h;cases h
theorem setP_ok : ∀ {p:List Nat} {t:Ty} {x:t.val} {y:Dat} (z:y.1.val),getP t x p=some y→∃x',setP t x p ⟨y.1,z⟩=some x'
 | [],t,x,y,z,h=>by simp only [getP] at h;injection h with h;subst h;exact ⟨z,by simp [setP,cast_self]⟩
 | i::p,t,x,y,z,h=>by
   simp only [getP] at h
   cases hg:getF t x i with
   | none=>rw [hg] at h;cases h
   | some d=>
     rw [hg] at h
     obtain ⟨x1,h1⟩:=setP_ok z h
     obtain ⟨x2,h2⟩:=setF_ok x1 hg
     exact ⟨x2,by simp [setP,hg,h1,h2]⟩
theorem res_noSl {t:Ty} {one:Bool} {x:t.val} {v:Value} {l1 l2:Lim} (hn:noSl t=true) (h:ERep st00 w l1 mp0 none (resAV t one x) v):ERep st00 w l2 mp0 none (resAV t one x) v:=by
 have key:ERep st00 w l1 mp0 none (.tup t x) v→ERep st00 w l2 mp0 none (.tup t x) v:=by
  rintro ⟨vs,hv,ht⟩
  obtain ⟨k1,k2⟩:=tup_iff.1 ht
  exact ⟨vs,hv,tup_iff.2 ⟨k1,(za3 hn).2 ((za3 hn).1 k2)⟩⟩
 unfold resAV at h ⊢
 split at h
 ·rename_i a x
  have ha:noSl a=true:=by
   simp only [noSl] at hn
   cases hq:noSl a with
   | true=>rfl
   | false=>rw [hq] at hn;cases hn
  obtain ⟨cs,k1,k2⟩:=h
  exact ⟨cs,(za3 ha).2 ((za3 ha).1 k1),k2⟩
 ·exact key h
theorem ok_callX (hG:GamOk P G) (h:Sim w0 lim0 rb n st a w lim β) (hrb : ∀k,some k=rb→k<w0.heap.size) (hd : ∀d,o.dst=some d→d<n) {f:FuncId} {cl:Call} (hop:o.op = .call cl) (hcal:cl.callee = .value (.func f))
 (hc:stCallX G o f cl.args.toList st=some c) (ho:c.out st=some st'):OpOk P w0 lim0 rb n o st' a w:=by
 unfold stCallX at hc
 cases hg:G f with
 | none=>rw [hg] at hc;cases hc
 | some s=>
   rw [hg] at hc;simp only [] at hc
   have hf:=hG f s hg
   have hvals:(cl.args.map a.eval)=(cl.args.toList.map a.eval).toArray:=by apply Array.ext';rw [Array.toList_map]
   have exec:(execOp a.eval o).run P w = .ok (.enter f (cl.args.toList.map a.eval).toArray) w:=by
    have e1 : ∀args,(Deferred.ofValue (.func (.func f) #[] #[]) args)=(pure {target:=.fn (.func f) #[],args:=args} : Sem Deferred):=by
     intro args;simp [Deferred.ofValue]
    simp only [execOp,hop,resolve,hcal,Act.eval,hvals,e1,Sem.run_bind,Sem.run_pure,Result.andThen_ok,invoke]
    simpa using hf.enters _ w
   cases hfv:s.fv with
   | some g=>rw [hfv] at hc;cases hc
   | none=>
   rw [hfv] at hc;simp only [isF,cnd_false] at hc
   split at hc
   · -- a call that reads
    rename_i hu hopn hmu
    split at hc
    ·rename_i x rd hpk hcast hcl
     have ha:ArgsRep w (limX st β lim) none s.aty x (cl.args.toList.map a.eval):=by
      refine zji (st:=st) (β:=β) (rb:=rb) hpk (by simp) (fun i av v hi hv=>?_)
      simp only [List.getElem?_map] at hi hv
      cases hq:cl.args.toList[i]? with
      | none=>rw [hq] at hi;cases hi
      | some y=>
        rw [hq] at hi hv
        injection hi with hi;injection hv with hv
        subst hi;subst hv
        exact argX_rep h y
     have hrdin:RdIn w (limX st β lim) none s rd:=⟨fun h'=>(by rw [hu] at h';cases h'),fun _=>rfl⟩
     cases hmk:mkD st o.dst with
     | true=>
       rw [hmk] at hc;simp only [cnd_true] at hc
       cases hfr:freeD st o.dst with
       | none=>rw [hfr] at hc;cases hc
       | some d=>
         rw [hfr] at hc;simp only [] at hc
         injection hc with hc;subst hc
         simp only [Comp.out] at ho
         cases hfn:s.fn x rd with
         | none=>rw [hfn] at ho;cases ho
         | some r=>
           rw [hfn] at ho;injection ho with ho;subst ho
           obtain ⟨hdst,hfio,_,_,hd0⟩:=free_some hfr
           intro K Q hK
           unfold Oper.wp
           rw [exec]
           refine Calls.mono (hf.calls hfv hopn hmu x rd r hfn w (limX st β lim) none _ ha hrdin) ?_
           intro e w' hret
           obtain ⟨v,lim2,rfl,g1,g2,g3,g4,g5,g6,g7,g8,_,_⟩:=ret_closed hcl hret
           show K (a.put o.dst v) w'
           rw [hdst]
           have hX:=XRep.of_own (fun g=>w.heap.size≤g) g5 g4 g6 g7
           refine hK _ _ (fun g=>if g<w.heap.size then lim g else some 0) _ (h.newroot hrb (hd d hdst) hfio hd0 (rootOf s.one s.rty r.1) (rootAV s.one s.rty d) v _ g1.os g1.tape g1.output g1.size (fun k hk=>g1.block k hk (by simp)) (fun k hk=>by simp [hk]) hX (fun g hg'=>?_) ?_)
           ·obtain ⟨p,hp,T,u,ht',hu',hbu⟩:=hg'
            obtain ⟨T2,z,k1,k2,k3⟩:=g6 p hp
            rw [ht'] at k1;injection k1 with k1;subst k1
            rw [hu'] at k2;injection k2 with k2;subst k2
            have:=(k3.lt hbu).2
            exact ⟨this,if_neg (by omega)⟩
           ·rcases g8 with ⟨q1,q2,_⟩|⟨q1,q2,_⟩
            ·exact .inl ⟨q1 d,q2⟩
            ·exact .inr ⟨q1 d,q2⟩
     | false=>
       rw [hmk] at hc;simp only [cnd_false] at hc
       injection hc with hc;subst hc
       simp only [Comp.out] at ho
       cases hfn:s.fn x rd with
       | none=>rw [hfn] at ho;cases ho
       | some r=>
         rw [hfn] at ho;injection ho with ho;subst ho
         intro K Q hK
         unfold Oper.wp
         rw [exec]
         refine Calls.mono (hf.calls hfv hopn hmu x rd r hfn w (limX st β lim) none _ ha hrdin) ?_
         intro e w' hret
         obtain ⟨v,lim2,rfl,g1,g2,g3,g4,g5,g6,g7,g8,g9,g10,_⟩:=ret_closed hcl hret
         show K (a.put o.dst v) w'
         let l3:Lim:=fun g=>if g<w.heap.size then lim g else lim2 g
         have hl3 : ∀k,k<w.heap.size→l3 k=lim k:=fun k hk=>by simp [l3,hk]
         have hl3' : ∀k,w.heap.size≤k→l3 k=lim2 k:=fun k hk=>by simp [l3,show ¬k<w.heap.size by omega]
         have hblk : ∀k,k<w.heap.size→w'.heap[k]?=w.heap[k]?:=fun k hk=>g1.block k hk (by simp)
         have hre:CRep w' l3 (rootOf s.one s.rty r.1).1 (rootOf s.one s.rty r.1).2 (flatV v):=by
          refine CRep.relimN g5 g4 (fun p hp T u ht' hu' g hgu=>?_)
          obtain ⟨T2,z,k1,k2,k3⟩:=g6 p hp
          rw [ht'] at k1;injection k1 with k1;subst k1
          rw [hu'] at k2;injection k2 with k2;subst k2
          exact hl3' g (k3.lt hgu).2
         refine hK _ _ l3 β (h.grown {upd0 o.dst (resAV s.rty s.one r.1) none with own:=resOwn s.one s.own} v w' l3 hd rfl (ext_keep g1.size hblk hl3) (zkb h.grow g1.os g1.tape g1.output g1.size (fun k hk _=>hblk k (Nat.lt_of_lt_of_le hk h.grow.size)))
          (fun k hk _ _=>⟨hblk k hk,hl3 k hk⟩) (fun k hk=>⟨hrb k hk,hl3 k (Nat.lt_of_lt_of_le (hrb k hk) h.grow.size)⟩) (ERep_res ?_) (fun p hp=>?_) (fun p hp q hq=>g10 p hp q hq) rfl (.inl ⟨rfl,fun b hb=>hblk b (Nat.lt_of_lt_of_le (hrb b hb.symm) h.grow.size)⟩))
         ·rcases g8 with ⟨_,q2,q3⟩|⟨_,⟨vs,q2,q3⟩,q4⟩
          ·rw [q3];exact ⟨_,hre,q2⟩
          ·rw [q4]
           have hfv:flatV v=vs.flatMap fun v=>v.cells.toList:=by rw [q2];simp [flatV]
           exact ⟨vs,q2,tup_iff.2 ⟨q3,by rw [←hfv];exact hre⟩⟩
         ·obtain ⟨T,z,k1,k2,k3⟩:=g9 p hp
          exact ⟨T,z,k1,k2,(k3.relim fun g hg=>hl3' g (k3.lt hg).2).below (fun g hg=>.inl (Nat.le_trans h.grow.size hg)),fun g hgz=>.inl (k3.lt hgz).2⟩
    ·cases hc
   · -- a call that writes
    rename_i hu hopn hmu
    obtain ⟨aty,rdty,usesRd,rty,one,own,opens,muts,fv,fn⟩:=s
    simp only at hu hopn hmu hc hf
    split at hc
    ·rename_i x0 xs hargs
     split at hc
     ·rename_i r p hxe
      split at hc
      ·rename_i d y hio hat
       split at hc
       ·rename_i _ b _ _ rd hcast
        split at hc
        ·rename_i x hpk hns hm0
         injection hc with hc;subst hc
         simp only [Comp.out] at ho
         cases hfn:fn ((),x) rd with
         | none=>rw [hfn] at ho;cases ho
         | some z=>
           rw [hfn] at ho;injection ho with ho;subst ho
           obtain ⟨e1,e2⟩:=zbm hcast
           obtain ⟨yt,yv⟩:=y
           simp only at e1 e2
           subst e1;subst e2
           obtain ⟨dd,hio',hv⟩:=xf_val h hxe hat
           rw [hio] at hio';injection hio' with hio';subst hio'
           obtain ⟨d2,Bu,m1,m2,m3,m6,m7,m8⟩:=h.atX hat
           rw [hio] at m1;injection m1 with m1;subst m1
           have hx0:a.eval x0=wrapV yt (((flatV (β.V r)).drop (offs d.1 p)).take yt.size):=hv
           have hav:cl.args.toList.map a.eval=a.eval x0::xs.map a.eval:=by rw [hargs];rfl
           have ha:ArgsRep w lim none b x (xs.map a.eval):=by
            refine zji (st:=st) (β:=β) (rb:=rb) hpk (by simp) (fun i av v hi hv'=>?_)
            simp only [List.getElem?_map] at hi hv'
            cases hq:xs[i]? with
            | none=>rw [hq] at hi;cases hi
            | some y=>
              rw [hq] at hi hv'
              injection hi with hi;injection hv' with hv'
              subst hi;subst hv'
              exact h.ent y
           intro K Q hK
           unfold Oper.wp
           rw [exec]
           refine Calls.mono (hf.mutd hfv hmu hu ((),x) rd z hfn w lim _ Bu (by rw [hav];exact ⟨⟨_,hx0,m7⟩,ha⟩) (fun g hg'=>(h.xs.base r d g hio (m6 g hg')).2.2)) ?_
           intro e w' hret
           obtain ⟨v,rfl,g1,g2,g3,g4,g5,g6,cs,g7,g8⟩:=hret
           rw [hav] at g7
           simp only [List.head?_cons] at g7
           injection g7 with g7
           have hcs:cs=((flatV (β.V r)).drop (offs d.1 p)).take yt.size:=by
            have k1:=za6 (g8.crep (lim:=fun _=>none) (fun _ _=>rfl))
            have k2:=za6 (m7.crep (lim:=fun _=>none) (fun _ _=>rfl))
            rw [hx0] at g7
            rw [g7,k1] at k2
            have:=congrArg Array.toList k2
            simpa using this
           rw [hcs] at g8
           obtain ⟨x',hset⟩:=setP_ok (y:=⟨yt,rd⟩) z.2 m2
           have hsd:setDat d p ⟨yt,z.2⟩=⟨d.1,x'⟩:=by
            unfold setDat
            have:setP d.1 d.2 p ⟨yt,z.2⟩=some x':=hset
            rw [this]
           show K (a.put o.dst v) w'
           have hst:=h.setroot (o:=o) (d':=⟨d.1,x'⟩) (w':=w') (lim':=lim) hrb hd hio rfl (resAV rty one z.1) v g1 g2 g3 g4 (fun k hk hn=>g5 k hk (fun hb=>hn (m6 k hb))) (fun _ _=>rfl)
            (m8 w' z.2 x' hset (fun g hg' hn=>g5 g ((h.xs.io r d hio).lt g hg') hn) g8) (fun _ _=>ERep_res (res_noSl hns g6)) (fun hr0 e1 _ _ _ _ _ _ he1=>by subst hr0;rw [he1] at hm0;cases hm0)
           rw [←hsd] at hst
           exact hK _ _ lim β hst
        ·cases hc
       ·cases hc
      ·cases hc
     ·rename_i k q hxe
      split at hc
      ·rename_i e ys hio
       change List e.val at ys
       cases hy:getP e (atL (α:=e.val) ys k e.zero) q with
       | none=>rw [hy] at hc;cases hc
       | some y=>
         rw [hy] at hc;simp only [] at hc
         split at hc
         ·rename_i _ _ b hslt _ _ rd hcast
          split at hc
          ·rename_i x hpk hns
           injection hc with hc;subst hc
           simp only [Comp.out] at ho
           cases hfn:fn ((),x) rd with
           | none=>rw [hfn] at ho;cases ho
           | some z=>
             rw [hfn] at ho;injection ho with ho;subst ho
             obtain ⟨e1,e2⟩:=zbm hcast
             obtain ⟨yt,yv⟩:=y
             simp only at e1 e2 hslt
             subst e1;subst e2
             have hx:=h.ent x0
             rw [hxe] at hx
             obtain ⟨d2,hio2,hv,hk0,g,m,cc,hV,hkm⟩:=hx
             have hX:=h.xs.io 0 _ hio
             obtain ⟨hBg,hml⟩:=hX.head hV
             have hkl:k.toNat<ys.length:=by rw [←hml];exact hkm
             have hget:atL ys k e.zero=ys[k.toNat]:=by simp [atL,hkl]
             rw [hget] at hy
             have hel:ys[k.toNat]?=some ys[k.toNat]:=List.getElem?_eq_getElem hkl
             obtain ⟨g',c',arr,el,fr,c2,Bu,q1,q2,q3,q4,qf,q5,q6,q7,q8,q9,q10⟩:=XRep.putEl (xs:=ys) hX hel hy
             have hgg:g'=g:=by
              rw [q1] at hV
              injection hV with hV;injection hV with hV;injection hV with hV;injection hV
             subst hgg
             obtain ⟨e',rfl⟩ : ∃e',yt = .slice e':=by cases yt<;>first|exact ⟨_,rfl⟩|cases hslt
             have hcell:=h.xs.kx _ hio e q e' g' m cc k.toNat rfl (zb0 hy) hV hkm
             obtain ⟨v0,rfl⟩ : ∃v0,c2=[v0]:=List.length_eq_one_iff.1 q6
             have hv0:=q9 0 v0 rfl
             have hx0:a.eval x0=wrapV (.slice e') [v0]:=by
              simp only [World.cell?,q4,Option.isSome_none,Bool.false_eq_true,if_false] at hcell
              rw [Nat.add_zero] at hv0
              rw [hv0] at hcell
              injection hcell with hcell
              rw [hv,←hcell];rfl
             have hav:cl.args.toList.map a.eval=a.eval x0::xs.map a.eval:=by rw [hargs];rfl
             have ha:ArgsRep w lim none b x (xs.map a.eval):=by
              refine zji (st:=st) (β:=β) (rb:=rb) hpk (by simp) (fun i av v hi hv'=>?_)
              simp only [List.getElem?_map] at hi hv'
              cases hq:xs[i]? with
              | none=>rw [hq] at hi;cases hi
              | some y=>
                rw [hq] at hi hv'
                injection hi with hi;injection hv' with hv'
                subst hi;subst hv'
                exact h.ent y
             intro K Q hK
             unfold Oper.wp
             rw [exec]
             refine Calls.mono (hf.mutd hfv hmu hu ((),x) rd z hfn w lim _ Bu (by rw [hav];exact ⟨⟨_,hx0,q8⟩,ha⟩) (fun g hg'=>(h.xs.base 0 _ g hio (q7 g hg').1).2.2)) ?_
             intro ee w' hret
             obtain ⟨v,rfl,g1,g2,g3,g4,g5,g6,cs,g7,g8⟩:=hret
             rw [hav] at g7
             simp only [List.head?_cons] at g7
             injection g7 with g7
             have hcs:cs=[v0]:=by
              have k1:=za6 (g8.crep (lim:=fun _=>none) (fun _ _=>rfl))
              have k2:=za6 (q8.crep (lim:=fun _=>none) (fun _ _=>rfl))
              rw [hx0] at g7
              rw [g7,k1] at k2
              have:=congrArg Array.toList k2
              simpa using this
             rw [hcs] at g8
             obtain ⟨x',hset⟩:=setP_ok (y:=⟨.slice e',rd⟩) z.2 hy
             have hse:setE e (atL ys k e.zero) q ⟨.slice e',z.2⟩=x':=by
              unfold setE
              rw [hget]
              have:setP e ys[k.toNat] q ⟨.slice e',z.2⟩=some x':=hset
              rw [this]
             have hgw:w'.heap[g']?=w.heap[g']?:=g5 g' (hX.lt g' hBg) (fun hb=>(q7 g' hb).2 rfl)
             have hX':=q10 w' z.2 x' [v0] Bu arr hset (fun b hb _ hnb=>g5 b (hX.lt b hb) hnb) (hgw.trans q4) rfl (fun _ _=>rfl) q9 (fun b hb _=>hb) g8
             show K (a.put o.dst v) w'
             have hst:=h.setroot (o:=o) (d':=⟨.slice e,setL ys k x'⟩) (w':=w') (lim':=lim) hrb hd hio rfl (resAV rty one z.1) v g1 g2 g3 g4 (fun k hk hn=>g5 k hk (fun hb=>hn (q7 k hb).1)) (fun _ _=>rfl)
              (hX'.congr fun b=>⟨fun hb=>(by
                by_cases hbu:Bu b
                ·exact .inr hbu
                ·exact .inl ⟨hb,hbu⟩),fun hb=>hb.elim (·.1) (fun hb=>(q7 b hb).1)⟩) (fun _ _=>ERep_res (res_noSl hns g6)) (fun _ e1 q1' e1' g1' m1' c1' k1' he1 hq1 hV1 hk1=>by
                rw [hV] at hV1
                injection hV1 with hV1;injection hV1 with hV1;injection hV1 with hV1;injection hV1 with hV1
                subst hV1
                exact cell_keep hgw)
             rw [←hse] at hst
             exact hK _ _ lim β hst
          ·cases hc
         ·cases hc
      ·cases hc
     ·cases hc
    ·cases hc
   ·cases hc
end
end Go.Den
namespace Go.Den
section
variable {P:Program} {tab:Tab} {G:Gam} {w0:Base} {lim0:Lim} {rb:Option Nat} {n:Nat}
variable {st st':St} {a:Act} {w w':World} {lim lim':Lim} {β:Mp} {o:Oper} {c:Comp}
theorem ok_convX (hT:TabOk P tab) (h:Sim w0 lim0 rb n st a w lim β) (hd : ∀d,o.dst=some d→d<n) {s t:TypeId} {x:Operand} {r:Tmp} {p:List Nat} (hop:o.op = .convert s t x) (hxe:(st.ent x).av = .xf r p)
 (hc:stConvX tab o s t r p st=some c) (ho:c.out st=some st'):OpOk P w0 lim0 rb n o st' a w:=by cases hc
theorem apply_drop {d:Tmp} {av:AV} {xw:Option (Tmp×Dat)} (ls:List Loc) (st:St) :
 apply (apply st {upd0 none .any none with takes:=ls}) {upd0 (some d) av none with xw:=xw} = apply st {upd0 (some d) av none with takes:=ls,xw:=xw}:=by
 refine St.ext' ?_ rfl ?_ rfl rfl rfl rfl rfl
 ·funext t
  simp only [apply,upd0]
  congr 1
  cases hq:(st.env t).tag with
  | none=>rfl
  | some km=>obtain ⟨k,m⟩:=km;cases m<;>rfl
 ·funext l
  cases l with
  | tmp t p=>rfl
  | box b p=>rfl
theorem ok_appendX (hT:TabOk P tab) (h:Sim w0 lim0 rb n st a w lim β) (hrb : ∀k,some k=rb→k<w0.heap.size) (hd : ∀d,o.dst=some d→d<n) {t:TypeId} {x y:Operand} {cl:Call} (hop:o.op = .call cl) (hcal:cl.callee = .builtin .append) (ha:cl.args = #[x,y]) (hat:cl.argTypes = #[t,t])
 (hc:stAppendX tab o t x y st=some c) (ho:c.out st=some st'):OpOk P w0 lim0 rb n o st' a w:=by
 unfold stAppendX at hc
 cases hty:tab t with
 | none=>rw [hty] at hc;cases hc
 | some ty=>
   cases ty with
   | slice e=>
     rw [hty] at hc;simp only [] at hc
     split at hc
     ·rename_i xs ys ol hx hy hol
      change List e.val at xs
      change List e.val at ys
      split at hc
      ·rename_i d hfree hns
       injection hc with hc;subst hc
       obtain ⟨hchk,rfl⟩:=zap ho
       have q1:=andB_iff.1 hchk
       have hz0:(xs.length:Int)=0:=of_decide_eq_true q1.1
       have hlt:(ys.length:Int)<big:=ltI_iff.1 q1.2
       unfold big at hlt
       have hxl:xs.length=0:=by omega
       have hxs:xs=[]:=List.eq_nil_of_length_eq_zero hxl
       obtain ⟨hdst,hfd,_,_,hd0⟩:=free_some hfree
       obtain ⟨el,h1,h2⟩:=elemTy hT hty
       obtain ⟨bx,cx,hvx,hlx,hsx⟩:=zhv (st:=st) (β:=β) (rb:=rb) (as_rep hx (h.ent x))
       obtain ⟨by',cy,hvy,hly,hsy⟩:=zhv (st:=st) (β:=β) (rb:=rb) (as_rep hy (argX_rep h y))
       have hvx:a.eval x = .slice bx xs.length cx:=hvx
       have hvy:a.eval y = .slice by' ys.length cy:=hvy
       rw [hxl] at hvx
       have hsy:SRep w (limX st β lim) (CRep w (limX st β lim) e) e.size ys by':=hsy
       obtain ⟨news,hrn,hnc⟩ : ∃news,RRep w (limX st β lim) e ys news∧(ys=[]∨∃bb oo,by'=some ⟨bb,oo,none⟩∧∀k v,news[k]?=some v→w.cell? ⟨bb,oo+k,none⟩=some v):=by
        rcases hsy with hsy|⟨bb,oo,rfl,hb,hu,hcell⟩
        ·subst hsy;exact ⟨[],RRep.nil e,.inl rfl⟩
        ·obtain ⟨L,k1,k2⟩:=SRep_cells hcell
         exact ⟨L,k1,.inr ⟨bb,oo,rfl,k2⟩⟩
       have hcellV : ∀(i:Nat) (z:e.val),ys[i]?=some z→∀j v,(cellsV e z)[j]?=some v→news[i*e.size+j]?=some v:=fun i z hz j v hv=>by
        obtain ⟨cs,k1,k2⟩:=hrn.2 i z hz
        rw [(za3 hns).1 k1] at k2
        exact k2 j v hv
       have exec : ∀ {r w2},(Builtin.append_ #[t,t] o.type #[a.eval x,a.eval y]).run P w = .ok r w2→(execOp a.eval o).run P w = .ok (.value r) w2:=by
        intro r w2 hr
        have e0:cl.args.map a.eval = #[a.eval x,a.eval y]:=by rw [ha];simp
        simp only [execOp,hop,resolve,hcal,Sem.run_bind,Sem.run_pure,Result.andThen_ok,invoke,builtin,e0,hat,hr]
       -- first the place is given up
       have h0:Sim w0 lim0 rb n (apply st {upd0 none .any none with takes:=ol.toList}) a w lim β:=
        h.val {upd0 none .any none with takes:=ol.toList} undef (fun d hd=>by cases hd) rfl rfl trivial (fun _=>.tmp 0 []) (fun p hp=>by cases hp) (fun p hp=>by cases hp) (fun l hl=>by cases hl) (fun l hl=>by cases hl)
       have hio0:(apply st {upd0 none .any none with takes:=ol.toList}).io=st.io:=rfl
       have fin : ∀(v:Value) (w2:World) (l2:Lim) (B0 C:Nat→Prop),(execOp a.eval o).run P w = .ok (.value v) w2→w2.os=w.os→w2.tape=w.tape→w2.output=w.output→w.heap.size≤w2.heap.size →
        (∀k,C k→freeB w0 rb (apply st {upd0 none .any none with takes:=ol.toList}) a w lim β k∧¬isTree (apply st {upd0 none .any none with takes:=ol.toList}) β k) →
        (∀k,k<w.heap.size→¬C k→w2.heap[k]?=w.heap[k]?)→(∀k,k<w.heap.size→l2 k=lim k)→XRep w2 (.slice e) ys (flatV v) B0→(∀g,B0 g→(w.heap.size≤g∨C g)∧l2 g=some 0)→v=wrapV (.slice e) (flatV v) →
        OpOk P w0 lim0 rb n o (apply st {upd0 (some d) (.xf d []) none with takes:=ol.toList,xw:=some (d,⟨.slice e,ys⟩)}) a w:=by
        intro v w2 l2 B0 C he m1 m2 m3 m4 hC hk hl hX hB hv
        have:=h0.newrootC hrb (hd d hdst) (by rw [hio0];exact hfd) hd0 ⟨.slice e,ys⟩ (.xf d []) v B0 m1 m2 m3 m4 C hC hk hl hX hB (.inl ⟨rfl,hv⟩)
        rw [apply_drop] at this
        exact OpOk.value (o:=o) he (by rw [hdst];exact this)
       -- a block of its own
       have grow:cx<ys.length→OpOk P w0 lim0 rb n o (apply st {upd0 (some d) (.xf d []) none with takes:=ol.toList,xw:=some (d,⟨.slice e,ys⟩)}) a w:=by
        intro hg
        have r1:(Builtin.firstCells e.size 0 (.slice bx 0 cx)).run P w.drew = .ok ([]:List Value).toArray w.drew:=by
         have:=zj1 (P:=P) (cc:=cx) (w2:=w.drew) (RRep.nil (w:=w) (lim:=lim) e) (b:=bx) (.inl rfl)
         simpa using this
        have r2:=zj1 (P:=P) (cc:=cy) (w2:=w.drew) hrn hnc
        have hrun:=run_append_at_new (ty:=o.type) h1 h2 (sv:=.slice bx 0 cx) rfl r1 r2 (by omega) (by omega)
        simp only [Nat.zero_add] at hrun
        have hge:=grownCap_ge w ys.length cx el
        have hz:(zeroCells e).toArray.size=e.size:=by simpa using (zec w lim e).length
        refine fin (.slice (some ⟨w.heap.size,0,none⟩) ys.length (grownCap w ys.length cx el)) (w.drew.alloc (.cells ([]++(news++(Builtin.zeroCells (zeroCells e).toArray (grownCap w ys.length cx el-ys.length)).toList)).toArray el)) (limSet lim w.heap.size (some 0)) (fun g=>g=w.heap.size) (fun _=>False) (exec (by rw [hvx,hvy,hrun])) rfl rfl rfl (by simp) (fun _ hk=>hk.elim)
         (fun k hk _=>ziv (w:=w.drew) _ hk) (fun k hk=>by simp [limSet,show k≠w.heap.size by omega]) (XRep.mkFlat hns rfl hge ?_ (ziu (w:=w.drew) _) (fun _ _ hk=>by simp at hk) (fun _=>Iff.rfl) (fun j z hj q v hv=>?_))
         (fun g hg=>⟨.inl (by rw [hg];exact Nat.le_refl _),by simp [limSet,hg]⟩) rfl
        ·simp only [List.nil_append,List.size_toArray,List.length_append,Array.length_toList,size_zeroCells,hz,hrn.1]
         rw [←Nat.add_mul]
         exact Nat.mul_le_mul_right _ (by omega)
        ·have:=hcellV j z hj q v hv
         have hlt:=(List.getElem?_eq_some_iff.1 this).1
         simp only [List.nil_append,List.getElem?_toArray]
         rw [List.getElem?_append_left hlt];exact this
       have nothing:a.eval x = .slice none 0 0→ys.length=0→OpOk P w0 lim0 rb n o (apply st {upd0 (some d) (.xf d []) none with takes:=ol.toList,xw:=some (d,⟨.slice e,ys⟩)}) a w:=by
        intro hnil hz
        have r2:=zj1 (P:=P) (cc:=cy) (w2:=w) hrn hnc
        rw [hz] at r2
        have hrun:=zjv (ty:=o.type) h1 h2 r2
        exact fin (.slice none 0 0) w lim (fun _=>False) (fun _=>False) (exec (by rw [hnil,hvy,hz];exact hrun)) rfl rfl rfl (Nat.le_refl _) (fun _ hk=>hk.elim) (fun _ _ _=>rfl) (fun _ _=>rfl) (.inl ⟨rfl,hz,fun _ hg=>hg⟩) (fun _ hg=>hg.elim) rfl
       rcases owner_spec h hol hx with ⟨l,rfl,ho1,ho2,ho3⟩|⟨rfl,hnil⟩
       ·obtain ⟨e',v',g1,g2,g3⟩:=h.own l ho1
        rw [ho3] at g1;injection g1 with g1;subst g1
        rw [ho2] at g2;injection g2 with g2;subst g2
        rcases g3 with g3|⟨b,m,cap,arr,el',fr,g3,g5,g6,g7,g8,g9,g10⟩
        ·by_cases hz:ys.length=0
         ·exact nothing g3 hz
         ·rw [hvx] at g3;injection g3 with k1 k2 k3
          exact grow (by omega)
        ·rw [hvx] at g3;injection g3 with k1 k2 k3
         subst k1;subst k2;subst k3
         by_cases hroom:ys.length≤cx
         · -- there is room
          have r2:=zj1 (P:=P) (cc:=cy) (w2:=w) hrn hnc
          have hfit:ys.length*e.size≤arr.size:=Nat.le_trans (Nat.mul_le_mul_right _ hroom) g9
          have hnl:=hrn.1
          have hal:arr.toList.length=arr.size:=by simp
          obtain ⟨c2,c3,k1,k3⟩ : ∃c2 c3,arr.toList=[]++(c2++c3)∧c2.length=news.length:=by
           refine ⟨arr.toList.take news.length,arr.toList.drop news.length,?_,?_⟩
           ·rw [List.nil_append,List.take_append_drop]
           ·rw [List.length_take];omega
          obtain ⟨w',m1,m2⟩:=zm6 (ty:=o.type) (s:=0) (sc:=cx) (m:=ys.length) h1 h2 r2 (by omega) g6 k1 (by simp) k3 hrn.notAgg g7
          simp only [Nat.zero_add] at m1
          have hblt:b<w.heap.size:=(Array.getElem?_eq_some_iff.1 g6).1
          have hbrb:some b≠rb:=fun hh=>h.fr_rb g5 hh (hrb b hh)
          have hbv:blockOf (a.eval x)=some b:=by rw [hvx];rfl
          have hl0:lim b=some 0:=by rw [g10];simp
          refine fin (.slice (some ⟨b,0,none⟩) ys.length cx) w' lim (fun g=>g=b) (fun g=>g=b) (exec (by rw [hvx,hvy];exact m1)) m2.os m2.tape m2.output (by rw [m2.size];exact Nat.le_refl _) (fun k hk=>?_) (fun k _ hk=>m2.other k hk) (fun _ _=>rfl)
           (XRep.mkFlat hns rfl hroom ?_ m2.at_ (fun k hk=>g7 k ?_) (fun _=>Iff.rfl) (fun j z hj q v hv=>?_)) (fun g hg=>⟨.inr hg,by rw [hg];exact hl0⟩) rfl
          ·subst hk
           have hasl:HasL st a w β l k:=⟨_,_,ho3,ho2,hbv⟩
           refine ⟨⟨hl0,g5,hbrb,fun c d' hc he=>h.ownb l k ho1 hasl c d' hc he,fun m hm hg=>?_⟩,fun ht=>?_⟩
           ·have hm':m≠l∧st.own m=true:=by
              rcases zeh hm with hn|hs
              ·cases m with
               | tmp t p=>cases hn.1
               | box c p=>obtain ⟨_,_,_,he,_⟩:=hn;cases he
              ·exact ⟨fun e=>hs.2.1 (by rw [e];simp),hs.1⟩
            have hg':HasL st a w β m k:=by
             obtain ⟨T,z,q1,q2,q3⟩:=hg
             exact ⟨T,z,by rw [←q1];cases m<;>rfl,by rw [←q2];cases m<;>rfl,q3⟩
            exact hm'.1 (h.sep m l k hm'.2 ho1 hg' hasl)
           ·exact h.xs.off ho1 hasl ht
          ·have e1:arr.size=arr.toList.length:=by simp
           rw [e1,k1] at g9
           simp only [List.nil_append,List.size_toArray,List.length_append] at g9 ⊢
           omega
          ·have e1:arr.size=arr.toList.length:=by simp
           rw [e1,k1]
           simp only [List.nil_append,List.size_toArray,List.length_append] at hk ⊢
           omega
          ·have:=hcellV j z hj q v hv
           have hlt:=(List.getElem?_eq_some_iff.1 this).1
           simp only [List.nil_append,List.getElem?_toArray]
           rw [List.getElem?_append_left hlt];exact this
         ·exact grow (by omega)
       ·by_cases hz:ys.length=0
        ·exact nothing hnil hz
        ·rw [hvx] at hnil;injection hnil with k1 k2 k3
         exact grow (by omega)
      ·cases hc
     ·cases hc
   | _=>rw [hty] at hc;cases hc
end
end Go.Den
namespace Go.Den
section
variable {P:Program} {tab:Tab} {w0:Base} {lim0:Lim} {rb:Option Nat} {n:Nat}
variable {st:St} {a:Act} {w:World} {lim:Lim} {β:Mp}
def buryS (st:St) (r:Tmp):St:={st with io:=fun k=>cnd (Nat.beq k r) (some ⟨.unit,()⟩) (st.io k)}
def buryM (β:Mp) (r:Tmp):Mp:={β with V:=fun k=>if k=r then .agg #[] else β.V k,B:=fun k=>if k=r then (fun _=>False) else β.B k}
theorem bury_io {r:Tmp} : (buryS st r).io r=some ⟨.unit,()⟩:=by simp [buryS]
theorem bury_ne {r k:Tmp} (h:k≠r):(buryS st r).io k=st.io k:=by
 have:Nat.beq k r=false:=by
  cases hq:Nat.beq k r with
  | true=>exact absurd (nbeq hq) h
  | false=>rfl
 simp [buryS,this]
theorem Sim.bury (h:Sim w0 lim0 rb n st a w lim β) {r:Tmp} {d:Dat} (hr:st.io r=some d) (h0:r≠0):Sim w0 lim0 rb n (buryS st r) a w lim (buryM β r):=by
 have lv : ∀l,locV (buryS st r) a w (buryM β r) l=locV st a w β l:=fun l=>by cases l<;>rfl
 have lt : ∀l,locTy (buryS st r) l=locTy st l:=fun l=>by cases l<;>rfl
 have Vne : ∀k,k≠r→(buryM β r).V k=β.V k∧(buryM β r).B k=β.B k:=fun k hk=>by simp [buryM,hk]
 have Br : ∀g,¬(buryM β r).B r g:=fun g hg=>by simp [buryM] at hg
 have cas : ∀k x,(buryS st r).io k=some x→(k=r∧x=⟨.unit,()⟩)∨(k≠r∧st.io k=some x):=fun k x hk=>by
  by_cases e:k=r
  ·subst e;rw [bury_io] at hk;injection hk with hk;exact .inl ⟨rfl,hk.symm⟩
  ·rw [bury_ne e] at hk;exact .inr ⟨e,hk⟩
 have old : ∀k x g,(buryS st r).io k=some x→(buryM β r).B k g→k≠r∧st.io k=some x∧β.B k g:=fun k x g hk hg=>by
  rcases cas k x hk with ⟨rfl,_⟩|⟨e,hk⟩
  ·exact absurd hg (Br g)
  ·rw [(Vne k e).2] at hg;exact ⟨e,hk,hg⟩
 have lh : ∀l g,HasL (buryS st r) a w (buryM β r) l g↔HasL st a w β l g:=fun l g=>by unfold HasL;rw [lt,lv]
 have hxm : ∀k x,st.io k=some x→∃x',(buryS st r).io k=some x'∧(x'.1 = .unit∨(x'.1=x.1∧(buryM β r).V k=β.V k)):=fun k x hk=>by
  by_cases e:k=r
  ·subst e;exact ⟨_,bury_io,.inl rfl⟩
  ·exact ⟨x,by rw [bury_ne e];exact hk,.inr ⟨rfl,(Vne k e).1⟩⟩
 refine ⟨h.size,h.defers,h.grow,h.limOld,h.xrb,h.rdk,fun t=>?_,h.box,h.inj,fun l hl=>?_,fun l g hl hg=>?_,fun l l' g h1 h2 h3 h4=>?_,fun t l h1 h2=>?_,h.rd,?_⟩
 ·have ht:=h.env t
  show ERep (buryS st r) w lim (buryM β r) rb (st.env t).av (tmpOf a t)
  cases hav:(st.env t).av with
  | xf k p=>
    rw [hav] at ht
    obtain ⟨x,k1,k2⟩:=ht
    by_cases e:k=r
    ·subst e;exact ⟨_,bury_io,.inl rfl⟩
    ·refine ⟨x,by rw [bury_ne e];exact k1,?_⟩
     rw [(Vne k e).1];exact k2
  | xp k p m q=>
    rw [hav] at ht
    obtain ⟨x,k1,k2⟩:=ht
    by_cases e:k=r
    ·subst e;exact ⟨_,bury_io,.inl rfl⟩
    ·refine ⟨x,by rw [bury_ne e];exact k1,?_⟩
     rw [(Vne k e).1];exact k2
  | xt k=>
    rw [hav] at ht
    obtain ⟨x,k1,k2⟩:=ht
    by_cases e:k=r
    ·subst e;exact ⟨_,bury_io,.inl rfl⟩
    ·refine ⟨x,by rw [bury_ne e];exact k1,?_⟩
     rw [(Vne k e).1];exact k2
  | xe m q=>
    rw [hav] at ht
    obtain ⟨x,k1,k2,k3,k4⟩:=ht
    refine ⟨x,by rw [bury_ne (fun e=>h0 e.symm)];exact k1,k2,k3,?_⟩
    rw [(Vne 0 (fun e=>h0 e.symm)).1];exact k4
  | mx t x ps=>
    rw [hav] at ht
    obtain ⟨cs,k1,k2,k3,k5,k4⟩:=ht
    exact ⟨cs,k1,k2,k3,k5,k4.mono hxm⟩
  | _=>rw [hav] at ht;exact ht
 ·rw [lt,lv];exact h.own l hl
 ·rw [lh] at hg;exact h.ownb l g hl hg
 ·rw [lh] at h3 h4;exact h.sep l l' g h1 h2 h3 h4
 ·rw [lt,lv];exact h.tag t l h1 h2
 ·refine ⟨fun k x hk=>?_,fun k x g hk hg=>?_,fun k x g hk hg b d' hb=>?_,fun k x g hk hg l hl hv=>?_,fun k x k' x' g hk hk' hg hg'=>?_,fun b t o hb=>?_,fun b t o hb=>?_,h.xs.xinj,fun x hx hm=>?_,?_,h.xs.rbx_keep rfl (fun b t hb _=>⟨hb,rfl,rfl⟩) hxm⟩
  ·rcases cas k x hk with ⟨rfl,rfl⟩|⟨e,hk⟩
   ·exact ⟨by simp [buryM];rfl,Br⟩
   ·rw [(Vne k e).1,(Vne k e).2];exact h.xs.io k x hk
  ·obtain ⟨e,hk,hg⟩:=old k x g hk hg
   exact h.xs.base k x g hk hg
  ·obtain ⟨e,hk,hg⟩:=old k x g hk hg
   exact h.xs.box k x g hk hg b d' hb
  ·obtain ⟨e,hk,hg⟩:=old k x g hk hg
   rw [lh] at hv
   exact h.xs.own k x g hk hg l hl hv
  ·obtain ⟨e,hk,hg⟩:=old k x g hk hg
   obtain ⟨e',hk',hg'⟩:=old k' x' g hk' hg'
   exact h.xs.dis k x k' x' g hk hk' hg hg'
  ·obtain ⟨cells,e,k1,k2,k3,k4,k5⟩:=h.xs.xb b t o hb
   refine ⟨cells,e,k1,k2,k3,k4,fun k q ho=>?_⟩
   obtain ⟨x,m1,m2⟩:=k5 k q ho
   by_cases e':k=r
   ·subst e';exact ⟨_,bury_io,.inl rfl⟩
   ·refine ⟨x,by rw [bury_ne e'];exact m1,?_⟩
    rw [(Vne k e').1];exact m2
  ·obtain ⟨k1,k2,k3⟩:=h.xs.xbox b t o hb
   refine ⟨k1,fun l hl hv=>?_,fun k x hk hg=>?_⟩
   ·rw [lh] at hv;exact k2 l hl hv
   ·obtain ⟨e,hk,hg⟩:=old k x _ hk hg
    exact k3 k x hk hg
  ·rcases cas 0 x hx with ⟨e,_⟩|⟨e,hx⟩
   ·exact absurd e.symm h0
   ·rw [(Vne 0 e).1,(Vne 0 e).2];exact h.xs.fix x hx hm
  ·have e:(0:Tmp)≠r:=fun e=>h0 e.symm
   exact h.xs.kx.keep (fun x hx=>h.xs.io 0 x hx) (fun x hx _=>⟨x,by rw [bury_ne e] at hx;exact hx,rfl,(Vne 0 e).1⟩) rfl (fun _ _ _ _=>rfl)
theorem bury_free (h:Sim w0 lim0 rb n st a w lim β) {r:Tmp} {d:Dat} (hr:st.io r=some d) {g:Nat} (hg:β.B r g):freeB w0 rb (buryS st r) a w lim (buryM β r) g∧¬isTree (buryS st r) (buryM β r) g:=by
 obtain ⟨b1,b2,b3⟩:=h.xs.base r d g hr hg
 refine ⟨⟨b3,b1,b2,fun b d' hb=>h.xs.box r d g hr hg b d' hb,fun l hl hv=>?_⟩,fun ht=>?_⟩
 ·have hv:HasL st a w β l g:=by cases l<;>exact hv
  exact h.xs.own r d g hr hg l hl hv
 ·rcases ht with ⟨k,x,k1,k2⟩|⟨b,t,o,k1,k2⟩
  ·by_cases e:k=r
   ·subst e;simp [buryM] at k2
   ·rw [bury_ne e] at k1
    have k2:β.B k g:=by simpa [buryM,e] using k2
    exact e (h.xs.dis k x r d g k1 hr k2 hg)
  ·have k2:g=β.c b:=k2
   exact (h.xs.xbox b t o k1).2.2 r d hr (by rw [←k2];exact hg)
theorem apply_bury {d:Option Tmp} {av:AV} {x:Tmp×Dat} (r:Tmp) (st:St) :
 apply (buryS st r) {upd0 d av none with xw:=some x} = apply st {upd0 d av none with xw:=some x,xk:=some r}:=by
 obtain ⟨c,d'⟩:=x
 exact St.ext' rfl rfl rfl rfl rfl rfl rfl rfl
end
end Go.Den
namespace Go.Den
section
variable {w:World} {lim:Lim}
theorem offs0 (t:Ty):offs t []=0:=by cases t<;>rfl
theorem XRep.fields : ∀ {t:Ty} {x:t.val} {cs:List Value} {B:Nat→Prop},isStr t=true→XRep w t x cs B→∃Bf:Nat→Nat→Prop,
 (∀i y,getF t x i=some y→XRep w y.1 y.2 ((cs.drop (offs t [i])).take y.1.size) (Bf i))∧(∀g,B g↔∃i,Bf i g)∧(∀i j g,Bf i g→Bf j g→i=j)∧(∀i g,Bf i g→∃y,getF t x i=some y):=by
 intro t
 induction t with
 | unit=>
   intro x cs B _ h
   exact ⟨fun _ _=>False,fun i y hy=>(by cases hy),fun g=>⟨fun hg=>(h.2 g hg).elim,fun ⟨_,hg⟩=>hg.elim⟩,fun _ _ _ h=>h.elim,fun _ _ h=>h.elim⟩
 | prod a b _ ihb=>
   intro x cs B hs h
   obtain ⟨c1,c2,B1,B2,rfl,h2,h3,h4,h5⟩:=h
   obtain ⟨Bf,k1,k2,k3,k4⟩:=ihb hs h5
   have hl:=h4.length
   refine ⟨fun i=>match i with|0=>B1|i+1=>Bf i,fun i y hy=>?_,fun g=>⟨fun hg=>?_,fun ⟨i,hg⟩=>?_⟩,fun i j g hi hj=>?_,fun i g hi=>?_⟩
   ·cases i with
    | zero=>
      simp only [getF] at hy;injection hy with hy;subst hy
      simp only [offs,offs0,List.drop_zero]
      rw [←hl,List.take_left];exact h4
    | succ i=>
      have:=k1 i y hy
      simp only [offs]
      rw [←hl,List.drop_append,List.drop_eq_nil_of_le (by omega),List.nil_append,Nat.add_sub_cancel_left];exact this
   ·rcases (h2 g).1 hg with hg|hg
    ·exact ⟨0,hg⟩
    ·obtain ⟨i,hi⟩:=(k2 g).1 hg
     exact ⟨i+1,hi⟩
   ·cases i with
    | zero=>exact (h2 g).2 (.inl hg)
    | succ i=>exact (h2 g).2 (.inr ((k2 g).2 ⟨i,hg⟩))
   ·cases i<;>cases j
    ·rfl
    ·exact absurd ((k2 g).2 ⟨_,hj⟩) (h3 g hi)
    ·exact absurd ((k2 g).2 ⟨_,hi⟩) (h3 g hj)
    ·rw [k3 _ _ g hi hj]
   ·cases i with
    | zero=>exact ⟨_,rfl⟩
    | succ i=>exact k4 i g hi
 | int k=>intro x cs B hs;cases hs
 | bool=>intro x cs B hs;cases hs
 | str=>intro x cs B hs;cases hs
 | slice e=>intro x cs B hs;cases hs
theorem NRep.fieldAt : ∀ {t:Ty} {x:t.val} {cs:List Value} {i:Nat} {y:Dat},NRep t x cs→getF t x i=some y→NRep y.1 y.2 ((cs.drop (offs t [i])).take y.1.size):=by
 intro t
 induction t with
 | prod a b _ ihb=>
   intro x cs i y h hy
   obtain ⟨c1,c2,rfl,h1,h2⟩:=h
   have hl:=h1.length
   cases i with
   | zero=>
     simp only [getF] at hy;injection hy with hy;subst hy
     simp only [offs,offs0,List.drop_zero]
     rw [←hl,List.take_left];exact h1
   | succ i=>
     have:=ihb h2 (show getF b x.2 i=some y from hy)
     simp only [offs]
     rw [←hl,List.drop_append,List.drop_eq_nil_of_le (by omega),List.nil_append,Nat.add_sub_cancel_left];exact this
 | _=>intro x cs i y h hy;cases hy
end
end Go.Den
namespace Go.Den
section
variable {P:Program} {tab:Tab} {w0:Base} {lim0:Lim} {rb:Option Nat} {n:Nat}
variable {st st':St} {a:Act} {w:World} {lim:Lim} {β:Mp} {o:Oper} {c:Comp}
theorem ok_buildX (hT:TabOk P tab) (h:Sim w0 lim0 rb n st a w lim β) (hrb : ∀k,some k=rb→k<w0.heap.size) (hd : ∀d,o.dst=some d→d<n) {t:TypeId} {parts:Array (Nat×Operand)} (hop:o.op = .build t parts)
 (hc:stBuildX tab o t parts.toList st=some c) (ho:c.out st=some st'):OpOk P w0 lim0 rb n o st' a w:=by cases hc
def nilC:(t:Ty)→t.val→List Value
 | .int k,x=>[.int k x]
 | .bool,x=>[.bool x]
 | .str,x=>[.string ⟨⟨x⟩⟩]
 | .unit,_=>[]
 | .prod a b,x=>nilC a x.1++nilC b x.2
 | .slice _,_=>[.slice none 0 0]
theorem NRep.eq : ∀ {t:Ty} {x:t.val} {cs:List Value},NRep t x cs→cs=nilC t x
 | .int _,_,_,h=>h
 | .bool,_,_,h=>h
 | .str,_,_,h=>h
 | .unit,_,_,h=>h
 | .prod a b,_,_,h=>by
   obtain ⟨c1,c2,rfl,h1,h2⟩:=h
   rw [h1.eq,h2.eq];rfl
 | .slice _,_,_,h=>h.1
theorem ok_buildR (hT:TabOk P tab) (h:Sim w0 lim0 rb n st a w lim β) (hd : ∀d,o.dst=some d→d<n) {t:TypeId} {parts:Array (Nat×Operand)} (hop:o.op = .build t parts)
 (hc:stBuildR tab o t parts.toList st=some c) (ho:c.out st=some st'):OpOk P w0 lim0 rb n o st' a w:=by cases hc
end
end Go.Den
namespace Go.Den
section
variable {P:Program} {tab:Tab} {G:Gam} {w0:Base} {lim0:Lim} {rb:Option Nat} {n:Nat}
variable {st st':St} {a:Act} {w w':World} {lim lim':Lim} {β:Mp} {o:Oper} {c:Comp}
theorem Sim.grownC (h:Sim w0 lim0 rb n st a w lim β) (hrb : ∀k,some k=rb→k<w0.heap.size) (u:Upd) (v:Value) (hd : ∀d,u.dst=some d→d<n) (hb:u.bw=none) (hta:u.takes=[]) (hrd:u.rd=none) (htag:u.ent.tag=none)
 (h1:w'.os=w.os) (h2:w'.tape=w.tape) (h3:w'.output=w.output) (hs:w.heap.size≤w'.heap.size) (C:Nat→Prop) (hC : ∀k,C k→freeB w0 rb st a w lim β k∧¬isTree st β k)
 (hk : ∀k,k<w.heap.size→¬C k→w'.heap[k]?=w.heap[k]?∧lim' k=lim k) (hv:ERep (apply st u) w' lim' β rb u.ent.av v)
 (hown : ∀p∈u.own,∃T x,typeAV p u.ent.av=some T∧partAV v p u.ent.av=some x∧OwnT w' lim' w0.fr T x∧∀g,Blk w' T x g→w.heap.size≤g∨C g)
 (hsep : ∀p∈u.own,∀q∈u.own,∀T T' x y g,typeAV p u.ent.av=some T→typeAV q u.ent.av=some T'→partAV v p u.ent.av=some x→partAV v q u.ent.av=some y→Blk w' T x g→Blk w' T' y g→p=q)
 (hxw:u.xw=none:=by rfl) (hxk:u.xk=none:=by rfl) (hxbw:u.xbw=none:=by rfl) (hrw:u.rw=none:=by rfl) :
 Sim w0 lim0 rb n (apply st u) (a.put u.dst v) w' lim' β:=by
 have hiox:(apply st u).io=st.io:=by simp [apply,hxw,hxk]
 have hxbx:(apply st u).xb=st.xb:=by simp [apply,hxbw]
 have hio1 : ∀r d,st.io r=some d→∃d',(apply st u).io r=some d'∧d'.1=d.1∧β.V r=β.V r:=fun r d hr=>⟨d,by rw [hiox];exact hr,rfl,rfl⟩
 have hxb1 : ∀b t o,st.xb b=some (t,o)→(∃o',(apply st u).xb b=some (t,o'))∧β.c b=β.c b:=fun b t o hb'=>⟨⟨o,by rw [hxbx];exact hb'⟩,rfl⟩
 have hbx : ∀b,(apply st u).box b=st.box b:=fun b=>by simp [apply,hb]
 have hnb : ∀c d o q,u.bw≠some (c,d,o,q):=fun _ _ _ _ e=>by rw [hb] at e;cases e
 have key : ∀l,newOwn u l→∃d p,l = .tmp d p∧u.dst=some d∧p∈u.own:=by
  intro l hl
  cases l with
  | tmp t p=>exact ⟨t,p,rfl,hl.1,hl.2⟩
  | box b p=>obtain ⟨d,o,q,he,_⟩:=hl;exact absurd he (hnb _ _ _ _)
 have look : ∀d p,u.dst=some d→locTy (apply st u) (.tmp d p)=typeAV p u.ent.av∧locV (apply st u) (a.put u.dst v) w' β (.tmp d p)=partAV v p u.ent.av:=by
  intro d p hdd
  refine ⟨by rw [zbb,zfs hdd],?_⟩
  rw [zda,zfs hdd,hdd,zjh (by rw [h.size];exact hd d hdd)]
 have hext:Ext w lim w' lim':=⟨hs,fun b oo z hb hu hz=>by
  by_cases hc:C b
  ·have:=hu 0 (hC b hc).1.lim0;omega
  ·exact (World.cell?_of_block (hk b hb hc).1).trans hz,fun b m hb hu k hk'=>by
  by_cases hc:C b
  ·have:=hu 0 (hC b hc).1.lim0;omega
  ·rw [(hk b hb hc).2] at hk';exact hu k hk'⟩
 have noC : ∀k,k<w0.heap.size→¬w0.X k→¬C k:=fun k hk' hX hc=>by
  rcases (hC k hc).1.base with h4|h4
  ·omega
  ·exact hX h4
 have hgrow:w0.grownBy w' rb:=⟨h1.trans h.grow.os,h2.trans h.grow.tape,h3.trans h.grow.output,Nat.le_trans h.grow.size hs,fun k hk' hne hX=>
  (hk k (Nat.lt_of_lt_of_le hk' h.grow.size) (noC k hk' hX)).1.trans (h.grow.block k hk' hne hX)⟩
 have back : ∀d p g,u.dst=some d→p∈u.own→HasL (apply st u) (a.put u.dst v) w' β (.tmp d p) g→∃T x,typeAV p u.ent.av=some T∧partAV v p u.ent.av=some x∧Blk w' T x g∧(w.heap.size≤g∨C g):=by
  intro d p g hdd hp hg
  obtain ⟨T,x,k1,k2,k3,k4⟩:=hown p hp
  obtain ⟨T',x',m1,m2,m3⟩:=hg
  rw [(look d p hdd).1,k1] at m1;injection m1 with m1;subst m1
  rw [(look d p hdd).2,k2] at m2;injection m2 with m2;subst m2
  exact ⟨T,x,k1,k2,m3,k4 g m3⟩
 refine h.step u v w' lim' β hd hext hgrow (fun b hb' hX=>(hk b (Nat.lt_of_lt_of_le hb' h.grow.size) (noC b hb' hX)).2) (fun _ _ _=>rfl) (fun _ _=>hv) (fun b d hbd _=>?_) (fun l g hst hg=>?_)
  (fun c d o q he=>absurd he (hnb _ _ _ _)) ?_ ?_ ?_ (fun d l _ ht=>by rw [htag] at ht;cases ht) (.inl ⟨hrd,fun d b _ hb'=>?_⟩) hio1 hxb1 ?_
 ·obtain ⟨cells,e,k1,_⟩:=h.box b d hbd
  exact hk _ (Array.getElem?_eq_some_iff.1 k1).1 (fun hc=>(hC _ hc).1.box b d hbd rfl)
 ·exact hk _ (h.lt hst.1 hg).1 (fun hc=>(hC _ hc).1.own l hst.1 hg)
 ·intro l hl
  obtain ⟨d,p,rfl,hdd,hp⟩:=key l hl
  obtain ⟨T,x,k1,k2,k3,k4⟩:=hown p hp
  exact ⟨T,x,(look d p hdd).1.trans k1,(look d p hdd).2.trans k2,k3⟩
 ·intro l g hl hg
  obtain ⟨d,p,rfl,hdd,hp⟩:=key l hl
  obtain ⟨_,_,_,_,_,k4⟩:=back d p g hdd hp hg
  rcases k4 with hlt|hc
  ·refine ⟨fun b d' hbd he=>?_,fun m hm hgy=>?_⟩
   ·rw [hbx] at hbd
    obtain ⟨cells,e',h5,_⟩:=h.box b d' hbd
    have:=(Array.getElem?_eq_some_iff.1 h5).1
    omega
   ·have:=(h.lt hm.1 hgy).1
    omega
  ·refine ⟨fun b d' hbd he=>?_,fun m hm hgy=>(hC g hc).1.own m hm.1 hgy⟩
   rw [hbx] at hbd
   exact (hC g hc).1.box b d' hbd he
 ·intro l m g hl hm hx hy
  obtain ⟨d,p,rfl,hdd,hp⟩:=key l hl
  obtain ⟨d',q,rfl,hdd',hq⟩:=key m hm
  rw [hdd] at hdd';injection hdd' with hdd';subst hdd'
  obtain ⟨T,x,a1,a2,a3,_⟩:=back d p g hdd hp hx
  obtain ⟨T',y,b1,b2,b3,_⟩:=back d q g hdd hq hy
  rw [hsep p hp q hq T T' x y g a1 b1 a2 b2 a3 b3]
 ·have hlt:=hrb b hb'.symm
  exact hk _ (Nat.lt_of_lt_of_le hlt h.grow.size) (fun hc=>(hC _ hc).1.rb hb'.symm)
 ·intro hst
  refine h.xs.keep hiox hxbx (fun _ _ _=>⟨rfl,rfl⟩) (fun _ _ _ _=>rfl) (fun g hg=>hk g (h.xs.lt hg).1 (fun hc=>(hC g hc).2 hg)) (fun b d hbd=>h.xs.offb ((hbx b).symm.trans hbd)) (fun l g hl hg ht=>?_) (hrbk:=apply_rb hrw)
  rcases zeh hl with hn|hs'
  ·obtain ⟨d,p,rfl,hdd,hp⟩:=key l hn
   obtain ⟨_,_,_,_,_,k4⟩:=back d p g hdd hp hg
   rcases k4 with hlt|hc
   ·have:=(h.xs.lt ht).1;omega
   ·exact (hC g hc).2 ht
  ·exact h.xs.off hs'.1 ((hst l g hs').1 hg) ht
theorem apply_buryU (r:Tmp) (st:St) {u:Upd} (h1:u.xw=none) (h2:u.xk=none):apply (buryS st r) u=apply st {u with xk:=some r}:=by
 refine St.ext' rfl rfl rfl rfl rfl ?_ rfl rfl
 funext k
 simp only [apply,h1,h2,buryS]
theorem isCons_some {f:FuncId} {s:Sig} (hg:G f=some s) (h:isCons G f=true):s.muts=true∧s.usesRd=false:=by
 unfold isCons at h
 rw [hg] at h
 simp only [] at h
 cases hm:s.muts with
 | false=>rw [hm] at h;cases h
 | true=>
   cases hu:s.usesRd with
   | true=>rw [hm,hu] at h;cases h
   | false=>exact ⟨rfl,rfl⟩
theorem exec_call {f:FuncId} {cl:Call} {s:Sig} (hf:FnOk P f s) (hop:o.op = .call cl) (hcal:cl.callee = .value (.func f)):(execOp a.eval o).run P w = .ok (.enter f (cl.args.toList.map a.eval).toArray) w:=by
 have hvals:(cl.args.map a.eval)=(cl.args.toList.map a.eval).toArray:=by apply Array.ext';rw [Array.toList_map]
 have e1 : ∀args,(Deferred.ofValue (.func (.func f) #[] #[]) args)=(pure {target:=.fn (.func f) #[],args:=args} : Sem Deferred):=by
  intro args;simp [Deferred.ofValue]
 simp only [execOp,hop,resolve,hcal,Act.eval,hvals,e1,Sem.run_bind,Sem.run_pure,Result.andThen_ok,invoke]
 simpa using hf.enters _ w
theorem ok_callC (hG:GamOk P G) (h:Sim w0 lim0 rb n st a w lim β) (hrb : ∀k,some k=rb→k<w0.heap.size) (hd : ∀d,o.dst=some d→d<n) {f:FuncId} {cl:Call} (hop:o.op = .call cl) (hcal:cl.callee = .value (.func f))
 (hcons:isCons G f=true) (hc:stCallC G o f cl.args.toList st=some c) (ho:c.out st=some st'):OpOk P w0 lim0 rb n o st' a w:=by
 unfold stCallC at hc
 cases hg:G f with
 | none=>rw [hg] at hc;cases hc
 | some s=>
   obtain ⟨hmu,hu⟩:=isCons_some hg hcons
   rw [hg] at hc;simp only [] at hc
   have hf:=hG f s hg
   have exec:=exec_call (a:=a) (w:=w) hf hop hcal
   cases hfv:s.fv with
   | some g=>rw [hfv] at hc;cases hc
   | none=>
   rw [hfv] at hc;simp only [isF,cnd_false] at hc
   obtain ⟨aty,rdty,usesRd,rty,one,own,opens,muts,fv,fn⟩:=s
   simp only at hc hf hmu hu hfv
   split at hc
   ·rename_i _ x0 xs hargs
    split at hc
    ·rename_i r hxe
     split at hc
     ·rename_i y a0 b hat _
      split at hc
      ·rename_i x0' x rd hcast hpk hcu hr0
       injection hc with hc;subst hc
       simp only [Comp.out] at ho
       cases hfn:fn (x0',x) rd with
       | none=>rw [hfn] at ho;cases ho
       | some z=>
         rw [hfn] at ho;injection ho with ho;subst ho
         have hr0':r≠0:=fun e=>by subst e;cases hr0
         obtain ⟨e1,e2⟩:=zbm hcast
         obtain ⟨yt,yv⟩:=y
         have e1:yt=a0:=e1
         subst e1
         have e2:x0'=yv:=e2
         subst e2
         obtain ⟨d,hio,m8⟩:=atX_some hat
         have m8:d=⟨yt,x0'⟩:=Option.some.inj (show some d=some ⟨yt,x0'⟩ from m8)
         subst m8
         have hX:=h.xs.io r _ hio
         obtain ⟨dd,hio2,hv0⟩:=xf_val h hxe hat
         rw [hio] at hio2;injection hio2 with hio2;subst hio2
         have hseg:((flatV (β.V r)).drop (offs yt [])).take yt.size=flatV (β.V r):=by rw [offs0,List.drop_zero,←hX.length,List.take_length]
         have hx0:a.eval x0=wrapV yt (flatV (β.V r)):=by rw [←hseg];exact hv0
         have hav:cl.args.toList.map a.eval=a.eval x0::xs.map a.eval:=by rw [hargs];rfl
         have ha:ArgsRep w lim none b x (xs.map a.eval):=by
          refine zji (st:=st) (β:=β) (rb:=rb) hpk (by simp) (fun i av v hi hv'=>?_)
          simp only [List.getElem?_map] at hi hv'
          cases hq:xs[i]? with
          | none=>rw [hq] at hi;cases hi
          | some y=>
            rw [hq] at hi hv'
            injection hi with hi;injection hv' with hv'
            subst hi;subst hv'
            exact h.ent y
         intro K Q hK
         unfold Oper.wp
         rw [exec]
         refine Calls.mono (hf.consd hfv rfl hmu hu (x0',x) rd z hfn w lim _ (β.B r) (by rw [hav];exact ⟨⟨_,hx0,hX⟩,ha⟩) (fun g hg'=>(h.xs.base r _ g hio hg').2.2)) ?_
         intro e w' hret
         obtain ⟨v,lim',rfl,g1,g2,g3,g4,g5⟩:=hret
         show K (a.put o.dst v) w'
         have hb:=h.bury hio hr0'
         have hfree : ∀k,β.B r k→freeB w0 rb (buryS st r) a w lim (buryM β r) k∧¬isTree (buryS st r) (buryM β r) k:=fun k hk=>bury_free h hio hk
         have hS:=hb.grownC (w':=w') (lim':=lim') hrb {upd0 o.dst (resAV rty one z.1) none with own:=resOwn one own} v hd rfl rfl rfl rfl g1.os g1.tape g1.output g1.size (β.B r) hfree
          (fun k hk hn=>⟨g1.block k hk (by simp) hn,g2 k hk hn⟩) (ERep_res g3) (fun p hp=>by
            obtain ⟨T,u,k1,k2,k3⟩:=g4 p hp
            refine ⟨T,u,k1,k2,k3.below (fun g hg=>?_),fun g hgz=>(k3.lt hgz).2⟩
            rcases hg with hg|hg
            ·exact .inl (Nat.le_trans h.grow.size hg)
            ·exact (h.xs.base r _ g hio hg).1) g5
         rw [apply_buryU r st rfl rfl] at hS
         exact hK _ _ lim' _ hS
      ·cases hc
     ·cases hc
    ·cases hc
   ·cases hc
theorem CRep.relimR {lim':Lim} : ∀ {t:Ty} {x:t.val} {cs:List Value},CRep w lim t x cs→flatT t=true→(∀p e ad m c,typeAt t p=some (.slice e)→cs[offs t p]?=some (.slice (some ad) m c)→0<m→lim' ad.block=lim ad.block)→CRep w lim' t x cs:=by
 intro t
 induction t with
 | int k=>intro x cs h _ _;exact h
 | bool=>intro x cs h _ _;exact h
 | str=>intro x cs h _ _;exact h
 | unit=>intro x cs h _ _;exact h
 | slice e _=>
   intro x cs h hf hl
   obtain ⟨ad,c,h1,h2,h3⟩:=h
   subst h1
   refine ⟨ad,c,rfl,h2,?_⟩
   rcases h3 with h3|⟨b,o,q1,q2,q3,q4⟩
   ·exact .inl h3
   ·subst q1
    by_cases hm:List.length (α:=e.val) x=0
    ·exact .inl (List.eq_nil_of_length_eq_zero hm)
    ·have hb:=hl [] e ⟨b,o,none⟩ (List.length (α:=e.val) x) c rfl (by simp [offs]) (by omega)
     have hb:lim' b=lim b:=hb
     exact .inr ⟨b,o,rfl,q2,by unfold under;rw [hb];exact q3,fun i y hy=>by
      obtain ⟨ds,k1,k2⟩:=q4 i y hy
      exact ⟨ds,(za3 hf).2 ((za3 hf).1 k1),k2⟩⟩
 | prod a b iha ihb=>
   intro x cs h hf hl
   obtain ⟨c1,c2,rfl,h1,h2⟩:=h
   obtain ⟨f1,f2⟩:=flat_prod hf
   have l1:=h1.length
   refine ⟨c1,c2,rfl,iha h1 f1 (fun p e ad m c hp hv hm=>hl (0::p) e ad m c (by simpa [typeAt] using hp) (by simp only [offs];rw [List.getElem?_append_left (List.getElem?_eq_some_iff.1 hv).1];exact hv) hm),?_⟩
   rcases f2 with ⟨p',q',rfl,f2⟩|rfl
   ·refine ihb h2 f2 (fun p e ad m c hp hv hm=>?_)
    cases p with
    | nil=>simp [typeAt] at hp
    | cons i p=>exact hl ((i+1)::p) e ad m c (by simpa [typeAt] using hp) (by simp only [offs];rw [List.getElem?_append_right (by omega),l1,show a.size+offs (.prod p' q') (i::p)-a.size=offs (.prod p' q') (i::p) by omega];exact hv) hm
   ·exact h2
theorem ok_callXR (hG:GamOk P G) (h:Sim w0 lim0 rb n st a w lim β) (hrb : ∀k,some k=rb→k<w0.heap.size) (hd : ∀d,o.dst=some d→d<n) {f:FuncId} {cl:Call} (hop:o.op = .call cl) (hcal:cl.callee = .value (.func f))
 (hc:stCallXR G o f cl.args.toList st=some c) (ho:c.out st=some st'):OpOk P w0 lim0 rb n o st' a w:=by
 unfold stCallXR at hc
 cases hg:G f with
 | none=>rw [hg] at hc;cases hc
 | some s=>
   rw [hg] at hc;simp only [] at hc
   have hf:=hG f s hg
   have exec:=exec_call (a:=a) (w:=w) hf hop hcal
   cases hfv:s.fv with
   | some g=>rw [hfv] at hc;cases hc
   | none=>
   rw [hfv] at hc;simp only [isF,cnd_false] at hc
   split at hc
   ·rename_i hus hopn hmu hro
    split at hc
    ·rename_i x d dst hpk hrdst hcl0 hfr
     cases hcast:Ty.cast d.1 s.rdty d.2 with
     | none=>rw [hcast] at hc;cases hc
     | some rd=>
       rw [hcast] at hc
       injection hc with hc;subst hc
       simp only [Comp.out] at ho
       cases hfn:s.fn x rd with
       | none=>rw [hfn] at ho;cases ho
       | some r=>
         rw [hfn] at ho;injection ho with ho;subst ho
         obtain ⟨hflat,hcl⟩:flatT s.rdty=true∧closedS s=true:=by
          cases q:flatT s.rdty with
          | false=>rw [q] at hcl0;cases hcl0
          | true=>rw [q] at hcl0;exact ⟨rfl,hcl0⟩
         obtain ⟨hdst,hfio,_,_,hd0⟩:=free_some hfr
         obtain ⟨hty,hrdv⟩:=zbm hcast
         obtain ⟨b,cells,e,k1,k2,k3,k4,k5⟩:=h.rd d hrdst
         obtain ⟨dt,dv⟩:=d
         simp only at hty hrdv k4
         subst hty;subst hrdv
         have ha:ArgsRep w lim rb s.aty x (cl.args.toList.map a.eval):=by
          refine zji (st:=st) (β:=β) (rb:=rb) (rv:=some (.rdr [])) hpk (by simp) (fun i av v hi hv'=>?_)
          simp only [List.getElem?_map] at hi hv'
          cases hq:cl.args.toList[i]? with
          | none=>rw [hq] at hi;cases hi
          | some y=>
            rw [hq] at hi hv'
            injection hi with hi;injection hv' with hv'
            subst hi;subst hv'
            exact h.ent y
         intro K Q hK
         unfold Oper.wp
         rw [exec]
         refine Calls.mono (hf.calls hfv hopn hmu x rd r hfn w lim rb _ ha ⟨fun _=>⟨b,cells,e,k1,k3,k4,k5⟩,fun h'=>by rw [hus] at h';cases h'⟩) ?_
         intro ee w' hret
         obtain ⟨v,lim2,rfl,g1,g2,g3,g4,g5,g6,g7,g8,_,_,g11⟩:=ret_closed hcl hret
         obtain ⟨b',cells',e',m1,m2,m3,m4⟩:=g11 hus
         rw [k1] at m1;injection m1 with m1;subst m1
         show K (a.put o.dst v) w'
         let l3:Lim:=fun g=>if g<w.heap.size then lim g else some 0
         have hl3 : ∀k,k<w.heap.size→l3 k=lim k:=fun k hk=>by simp [l3,hk]
         have hbl:b<w.heap.size:=Nat.lt_of_lt_of_le k2 h.grow.size
         have hblk : ∀k,k<w.heap.size→some k≠rb→w'.heap[k]?=w.heap[k]?:=fun k hk hn=>g1.block k hk hn
         have hext:Ext w lim w' l3:=⟨g1.size,fun g oo z hg hu hz=>by
          by_cases hgb:some g=rb
          ·rw [k1] at hgb;injection hgb with hgb;subst hgb
           have:=hu 0 k5;omega
          ·exact (World.cell?_of_block (hblk g hg hgb)).trans hz,fun g m hg hu=>by unfold under;rw [hl3 g hg];exact hu⟩
         have hrd':CRep w' l3 s.rdty r.2 cells'.toList:=by
          refine m3.relimR hflat (fun p e1 ad m c hp hv hm=>?_)
          obtain ⟨q1,q2⟩:=h.rdk _ b hrdst k1 p e1 hp
          have hq:w'.cell? ⟨b,offs s.rdty p,none⟩=cells'.toList[offs s.rdty p]?:=by simp [World.cell?,m2]
          rw [m4 p e1 hp] at hq
          have hq1:w.cell? ⟨b,offs s.rdty p,none⟩=w0.cell? ⟨b,offs s.rdty p,none⟩:=q1
          rw [hq1,hv] at hq
          have hlt:=q2 ad m c hq hm
          have hlt':=Nat.lt_of_lt_of_le hlt h.grow.size
          rw [hl3 _ hlt',g2 _ hlt']
         have h1:=h.grown {upd0 none .any none with rd:=some ⟨s.rdty,r.2⟩} undef w' l3 (fun _ hd'=>by cases hd') rfl hext (zkb h.grow g1.os g1.tape g1.output g1.size (fun k hk hne=>hblk k (Nat.lt_of_lt_of_le hk h.grow.size) hne))
          (fun k hk hne _=>⟨hblk k hk hne,hl3 k hk⟩) (fun k hk=>⟨hrb k hk,hl3 k (Nat.lt_of_lt_of_le (hrb k hk) h.grow.size)⟩) trivial (fun p hp=>by cases hp) (fun p hp=>by cases hp) rfl
          (.inr ⟨⟨s.rdty,r.2⟩,_,rfl,hrdst,rfl,b,cells',e',k1,k2,m2,hrd',by rw [hl3 b hbl];exact k5,m4⟩)
         have hX:=XRep.of_own (fun g=>w.heap.size≤g) g5 g4 g6 g7
         have hput:a.put none undef=a:=rfl
         have h1:Sim w0 lim0 rb n (apply st {upd0 none .any none with rd:=some ⟨s.rdty,r.2⟩}) a w' l3 β:=h1
         have hio1:(apply st {upd0 none .any none with rd:=some ⟨s.rdty,r.2⟩}).io=st.io:=by simp [apply,upd0]
         have newb : ∀g,(∃p∈slicePaths (rootOf s.one s.rty r.1).1,∃T v_1,typeAt (rootOf s.one s.rty r.1).1 p=some T∧(flatV v)[offs (rootOf s.one s.rty r.1).1 p]?=some v_1∧Blk w' T v_1 g)→w.heap.size≤g:=by
          rintro g ⟨p,hp,T,u,ht',hu',hbu⟩
          obtain ⟨T2,z,j1,j2,j3⟩:=g6 p hp
          rw [ht'] at j1;injection j1 with j1;subst j1
          rw [hu'] at j2;injection j2 with j2;subst j2
          exact (j3.lt hbu).2
         have hS:=h1.newrootC (w':=w') (lim':=l3) hrb (d:=dst) (hd dst hdst) (by rw [hio1];exact hfio) hd0 (rootOf s.one s.rty r.1) (rootAV s.one s.rty dst) v _ rfl rfl rfl (Nat.le_refl _) (fun g=>w.heap.size≤g∧g<w'.heap.size) (fun k ⟨hk1,hk2⟩=>?_) (fun _ _ _=>rfl) (fun _ _=>rfl) hX (fun g hg=>⟨.inr ⟨newb g hg,hX.lt g hg⟩,if_neg (by have:=newb g hg;omega)⟩) ?_
         ·have e2:apply (apply st {upd0 none .any none with rd:=some ⟨s.rdty,r.2⟩}) {upd0 (some dst) (rootAV s.one s.rty dst) none with xw:=some (dst,rootOf s.one s.rty r.1)} = apply st {upd0 (some dst) (rootAV s.one s.rty dst) none with xw:=some (dst,rootOf s.one s.rty r.1),rd:=some ⟨s.rdty,r.2⟩}:=by
            refine St.ext' ?_ rfl ?_ rfl rfl rfl rfl rfl
            ·funext t
             simp only [apply,upd0]
             cases isT t (some dst) with
             | true=>rfl
             | false=>
               simp only [isT,cnd_false]
               cases (st.env t).tag with
               | none=>rfl
               | some kl=>obtain ⟨k,l⟩:=kl;cases l<;>rfl
            ·funext l
             cases l<;>simp [apply,upd0,isT,inLocs]
          rw [e2] at hS
          show K (a.put o.dst v) w'
          rw [hdst]
          exact hK _ _ l3 _ hS
         ·refine ⟨⟨if_neg (by omega),.inl (Nat.le_trans h.grow.size hk1),fun hr=>?_,fun c d' hc he=>?_,fun l hl hg=>?_⟩,fun ht=>?_⟩
          ·have:=hrb k hr;have:=h.grow.size;omega
          ·have hc:st.box c=some d':=by simpa [apply,upd0] using hc
           obtain ⟨cs,e2,q1,_⟩:=h.box c d' hc
           have:=(Array.getElem?_eq_some_iff.1 q1).1
           omega
          ·have hl':st.own l=true:=own_none (u:={upd0 none .any none with rd:=some ⟨s.rdty,r.2⟩}) rfl rfl rfl hl
           have hlt:HasL st a w β l k:=by
            obtain ⟨T,u,q1,q2,q3⟩:=hg
            have e1:locTy (apply st {upd0 none .any none with rd:=some ⟨s.rdty,r.2⟩}) l=locTy st l:=by
             cases l with
             | tmp t p=>rw [zbb,zbb];simp [apply,upd0,isT]
             | box c p=>simp [locTy,apply,upd0]
            have e2:locV (apply st {upd0 none .any none with rd:=some ⟨s.rdty,r.2⟩}) a w' β l=locV st a w β l:=by
             cases l with
             | tmp t p=>rw [zda,zda];simp [apply,upd0,isT]
             | box c p=>
               obtain ⟨T0,v0,z1,_⟩:=h.own _ hl'
               have hbx:(apply st {upd0 none .any none with rd:=some ⟨s.rdty,r.2⟩}).box c=st.box c:=by simp [apply,upd0]
               simp only [locV,hbx]
               cases hbc:st.box c with
               | none=>rfl
               | some dc=>
                 obtain ⟨cs,e3,q1',_,q3',_⟩:=h.box c dc hbc
                 have hltc:=(Array.getElem?_eq_some_iff.1 q1').1
                 exact World.cell?_of_block (hblk _ hltc (fun hr=>by have:β.b c<w0.heap.size:=hrb _ hr;omega))
            rw [e1] at q1;rw [e2] at q2
            obtain ⟨T0,v0,z1,z2,z3⟩:=h.own l hl'
            obtain ⟨e4,hT,xs,hcr⟩:=h.vis q1 q2 q3.oty
            exact ⟨T,u,q1,q2,(Blk_ext hext hT hcr).1 q3⟩
           have:=(h.lt hl' hlt).1
           omega
          ·have ht:isTree st β k:=by
             rcases ht with ⟨r0,x0,q1,q2⟩|⟨c,t0,o0,q1,q2⟩
             ·exact .inl ⟨r0,x0,by simpa [apply,upd0] using q1,q2⟩
             ·exact .inr ⟨c,t0,o0,by simpa [apply,upd0] using q1,q2⟩
           have:=(h.xs.lt ht).1
           omega
         ·rcases g8 with ⟨q1,q2,_⟩|⟨q1,q2,_⟩
          ·exact .inl ⟨q1 dst,q2⟩
          ·exact .inr ⟨q1 dst,q2⟩
    ·cases hc
   ·cases hc
end
end Go.Den
namespace Go.Den
section
variable {P:Program} {tab:Tab} {w0:Base} {lim0:Lim} {rb:Option Nat} {n:Nat}
variable {st st':St} {a:Act} {w:World} {lim:Lim} {β:Mp} {o:Oper} {c:Comp}
theorem ok_sliceX (hT:TabOk P tab) (h:Sim w0 lim0 rb n st a w lim β) (hrb : ∀k,some k=rb→k<w0.heap.size) (hd : ∀d,o.dst=some d→d<n) {t:TypeId} {x:Operand} {lo hi mx:Option Operand} (hop:o.op = .slice t x lo hi mx) (hc:stSliceX tab o t x lo hi mx st=some c) (ho:c.out st=some st'):OpOk P w0 lim0 rb n o st' a w:=by cases hc
end
end Go.Den
namespace Go.Den
section
variable {P:Program} {tab:Tab} {w0:Base} {lim0:Lim} {rb:Option Nat} {n:Nat}
variable {st st':St} {a:Act} {w:World} {lim:Lim} {β:Mp} {o:Oper} {c:Comp}
theorem RRep.cells {l:Lim} {e:Ty} {ys:List e.val} {news:List Value} (hns:noSl e=true) (hrn:RRep w l e ys news) : ∀(i:Nat) (z:e.val),ys[i]?=some z→∀j v,(cellsV e z)[j]?=some v→news[i*e.size+j]?=some v:=fun i z hz j v hv=>by
 obtain ⟨cs,k1,k2⟩:=hrn.2 i z hz
 rw [(za3 hns).1 k1] at k2
 exact k2 j v hv
theorem ok_appendT (hT:TabOk P tab) (h:Sim w0 lim0 rb n st a w lim β) (hrb : ∀k,some k=rb→k<w0.heap.size) (hd : ∀d,o.dst=some d→d<n) {t:TypeId} {x y:Operand} {cl:Call} (hop:o.op = .call cl) (hcal:cl.callee = .builtin .append) (ha:cl.args = #[x,y]) (hat:cl.argTypes = #[t,t])
 (hc:stAppendT tab o t x y st=some c) (ho:c.out st=some st'):OpOk P w0 lim0 rb n o st' a w:=by cases hc
end
end Go.Den
namespace Go.Den
section
variable {P:Program} {tab:Tab} {w0:Base} {lim0:Lim} {rb:Option Nat} {n:Nat}
variable {st st':St} {a:Act} {w:World} {lim:Lim} {β:Mp} {o:Oper} {c:Comp}
theorem ok_graftX (hT:TabOk P tab) (h:Sim w0 lim0 rb n st a w lim β) (hrb : ∀k,some k=rb→k<w0.heap.size) (hd : ∀d,o.dst=some d→d<n) {t:TypeId} {x v:Operand} {r r2:Tmp} {p q:List Nat} {k:Int} (hop:o.op = .store t x v) (hxe:(st.ent x).av = .xp r p k q) (hve:(st.ent v).av = .xf r2 [])
 (hc:stGraftX tab o t r p k q r2 st=some c) (ho:c.out st=some st'):OpOk P w0 lim0 rb n o st' a w:=by
 unfold stGraftX at hc
 split at hc
 ·rename_i d e xs z hio hat hat2
  change List e.val at xs
  cases hy:getP e (atL (α:=e.val) xs k e.zero) q with
  | none=>rw [hy] at hc;cases hc
  | some y=>
    rw [hy] at hc;simp only [] at hc
    cases hty:tyIs (tab t) y.1 with
    | false=>rw [hty] at hc;cases hc
    | true=>
    cases hne:cnd (Nat.beq r 0) true (cnd (Nat.beq r2 0) true (Nat.beq r r2)) with
    | true=>rw [hty,hne] at hc;cases hc
    | false=>
    cases hz:Ty.cast z.1 y.1 z.2 with
    | none=>rw [hty,hne,hz] at hc;cases hc
    | some z'=>
      rw [hty,hne,hz] at hc;simp only [] at hc
      cases hs1:setP e (atL (α:=e.val) xs k e.zero) q ⟨y.1,z'⟩ with
      | none=>rw [hs1] at hc;cases hc
      | some x'=>
        rw [hs1] at hc;simp only [] at hc
        cases hs2:setP d.1 d.2 p ⟨.slice e,setL (α:=e.val) xs k x'⟩ with
        | none=>rw [hs2] at hc;cases hc
        | some d'=>
          rw [hs2] at hc
          injection hc with hc;subst hc
          obtain ⟨hr,rfl⟩:=zap ho
          have hr:=inRange hr
          have hr0:r≠0:=fun e0=>by rw [e0] at hne;cases hne
          have hr20:r2≠0:=fun e0=>by rw [e0] at hne;cases hq:Nat.beq r 0<;>rw [hq] at hne<;>cases hne
          have hrr:r≠r2:=fun e0=>by
           subst e0
           have:Nat.beq r 0=false:=by cases hq:Nat.beq r 0 with
            | false=>rfl
            | true=>exact absurd (nbeq hq) hr0
           rw [this,Nat.beq_refl] at hne;cases hne
          obtain ⟨d2,h2io,h2p⟩:=atX_some hat2
          have hzd:d2=z:=by
           simp only [getP] at h2p;injection h2p
          subst hzd
          obtain ⟨e1,e2⟩:=zbm hz
          obtain ⟨yt,yv⟩:=y
          obtain ⟨zt,zv⟩:=d2
          simp only at e1 e2 hs1 hs2 hty
          subst e1
          have e2:z'=zv:=e2
          subst e2
          have X2:=h.xs.io r2 _ h2io
          obtain ⟨d3,h3io,hv⟩:=xf_val h hve hat2
          rw [h2io] at h3io;injection h3io with h3io;subst h3io
          have ho0:offs zt []=0:=by cases zt<;>rfl
          have hl2:=X2.length
          simp only at hl2
          have hv:a.eval v=wrapV zt (flatV (β.V r2)):=by
           rw [hv];simp only [ho0,List.drop_zero];rw [←hl2,List.take_length]
          have hcr:=X2.crep (lim:=fun _=>none) (fun _ _=>rfl)
          have hcl:(a.eval v).cells=(flatV (β.V r2)).toArray:=by rw [hv];exact za6 hcr
          obtain ⟨w',g,ob,Bu,he,r5,c1,c2,c3,c4,_⟩:=store_core hT h hop hxe hio hat hr hy hty (by rw [hcl];simpa using hl2) (fun u hu=>hcr.cells u (by rw [hcl] at hu;simpa using hu))
          have hglt:=(h.xs.io r d hio).lt g c1
          have hX2:XRep w' zt z' (flatV (β.V r2)) (β.B r2):=X2.keep fun b hb=>r5.other b (fun e0=>hrr (h.xs.dis r d r2 _ b hio h2io (by rw [e0];exact c1) hb))
          have hX:=c4 z' x' d' (β.B r2) hs1 hs2 (fun b hb hb2=>absurd (h.xs.dis r d r2 _ b hio h2io hb2 hb) hrr) (by rw [hcl];exact hX2)
          have eV:(buryM β r2).V r=β.V r:=by simp [buryM,hrr]
          have eB:(buryM β r2).B r=β.B r:=by simp [buryM,hrr]
          have hb:=h.bury h2io hr20
          have hsim:=hb.setrootB (o:=o) (d:=d) (d':=⟨d.1,d'⟩) (w':=w') (lim':=lim) hrb hd (by rw [bury_ne hrr];exact hio) rfl .skp undef (fun b=>(β.B r b∧¬Bu b)∨β.B r2 b) (β.B r2) (fun b hb=>bury_free h h2io hb)
           (fun b hb=>hb.elim (fun hb=>.inl (by rw [eB];exact hb.1)) .inr) (fun b hb=>X2.lt b hb) hr0 r5.os r5.tape r5.output (by rw [r5.size];exact Nat.le_refl _)
           (fun j _ hn=>r5.other j (fun e0=>hn (by rw [eB,e0];exact c1))) (fun _ _=>rfl) (by rw [eV];exact hX) (fun _ _=>rfl)
          rw [apply_bury] at hsim
          exact .skip (lim:=lim) he hsim
 ·cases hc
end
end Go.Den
namespace Go.Den
section
variable {P:Program} {tab:Tab} {G:Gam} {w0:Base} {lim0:Lim} {rb:Option Nat} {n:Nat}
variable {st st':St} {a:Act} {w w':World} {lim lim':Lim} {β:Mp} {o:Oper} {c:Comp}
theorem ok_assignM (h:Sim w0 lim0 rb n st a w lim β) (hd : ∀d,o.dst=some d→d<n) {x:Operand} (he:(execOp a.eval o).run P w = .ok (.value (a.eval x)) w) (ho:(stAssignM o x st c).out st=some st') (hc:c.out st=some st'→OpOk P w0 lim0 rb n o st' a w):OpOk P w0 lim0 rb n o st' a w:=by
 unfold stAssignM at ho
 split at ho
 ·rename_i e v l hav hw
  have hx:=h.ent x
  rw [hav] at hx
  have has:AV.as (.slice e) (st.ent x).av=some v:=by rw [hav];exact cast_self _ _
  rcases owner_spec h hw has with ⟨l',e1,k1,k2,k3⟩|⟨e1,_⟩
  ·injection e1 with e1;subst e1
   obtain ⟨b,cc,hv,_⟩:=zhv hx
   cases hst:st.own (starL l) with
   | false=>
     rw [hst] at ho
     obtain ⟨_,rfl⟩:=zap ho
     refine .value he (h.val {upd0 o.dst (.dat (.slice e) v) none with own:=[[]],takes:=[l]} _ hd rfl rfl hx (fun _=>l) (fun p hp=>?_) (fun p hp q hq _=>?_) (fun l hl=>by cases hl) (fun l hl=>by cases hl))
     ·simp at hp;subst hp
      refine ⟨.slice e,a.eval x,rfl,?_,.inr ⟨by simp,k1,k2,k3⟩⟩
      simp only [upd0,partAV,hv,zh9,offs];rfl
     ·simp at hp hq;subst hp;subst hq;rfl
   | true=>
     rw [hst] at ho
     obtain ⟨_,rfl⟩:=zap ho
     obtain ⟨s1,s2⟩:=starL_loc (a:=a) (w:=w) (β:=β) k3
     refine .value he (h.val {upd0 o.dst (.dat (.slice e) v) none with own:=[[],[0]],takes:=[l,starL l]} _ hd rfl rfl hx (fun p=>match p with
      | []=>l
      | _=>starL l) (fun p hp=>?_) (fun p hp q hq hpq=>?_) (fun l hl=>by cases hl) (fun l hl=>by cases hl))
     ·have hp:p=[]∨p=[0]:=by simpa using hp
      rcases hp with rfl|rfl
      ·refine ⟨.slice e,a.eval x,rfl,?_,.inr ⟨by simp,k1,k2,k3⟩⟩
       simp only [upd0,partAV,hv,zh9,offs];rfl
      ·refine ⟨.prod (.slice e) .unit,a.eval x,rfl,?_,.inr ⟨by simp,hst,s2.trans k2,s1⟩⟩
       simp only [upd0,partAV,hv,zh9,offs];rfl
     ·have hp:p=[]∨p=[0]:=by simpa using hp
      have hq:q=[]∨q=[0]:=by simpa using hq
      rcases hp with rfl|rfl<;>rcases hq with rfl|rfl
      ·rfl
      ·exact absurd (show starL l=l from (show l=starL l from hpq).symm) (starL_ne l)
      ·exact absurd (show starL l=l from hpq) (starL_ne l)
      ·rfl
  ·cases e1
 ·rename_i t v hav
  obtain ⟨_,rfl⟩:=zap ho
  have hx:=h.ent x
  rw [hav] at hx
  refine .value he (h.val {upd0 o.dst (.tup t v) none with own:=st.owned x (slicePaths t),takes:=takesOf x (st.owned x (slicePaths t))} _ hd rfl rfl hx (srcOf x) (fun p hp=>?_) (fun p _ q _ hpq=>srcOf_inj _ hpq) (fun l hl=>by cases hl) (fun l hl=>by cases hl))
  obtain ⟨h1,h2⟩:=owned_mem hp
  cases x with
  | tmp s=>
    obtain ⟨e,y,k1,k2,_⟩:=h.own _ h2
    have k1':=k1
    have k2':=k2
    have hav':(st.env s).av = .tup t v:=hav
    rw [zbb,hav'] at k1'
    rw [zda,hav'] at k2'
    exact ⟨e,y,k1',k2',.inr ⟨mem_takesOf (fun k hk=>by cases hk) h2 hp,h2,k2,k1⟩⟩
  | const kk=>simp only [St.ent] at hav;unfold constAV at hav;split at hav<;>cases hav
  | global g=>cases h2
  | func f=>cases h2
 ·exact hc ho
theorem arr1 {α:Type} {x:Array α} {y:α} (h:x.toList=[y]):x = #[y]:=by apply Array.ext';simpa using h
theorem arr2 {α:Type} {x:Array α} {y z:α} (h:x.toList=[y,z]):x = #[y,z]:=by apply Array.ext';simpa using h
theorem step_ok (hT:TabOk P tab) (hG:GamOk P G) (h:Sim w0 lim0 rb n st a w lim β) (hrb : ∀k,some k=rb→k<w0.heap.size) (hd : ∀d,o.dst=some d→d<n) (hc:stepC tab G o st=some c) (ho:c.out st=some st'):OpOk P w0 lim0 rb n o st' a w:=by
 unfold stepC at hc
 cases hop:o.op with
 | move x=>
   rw [hop] at hc;injection hc with hc;subst hc
   cases hm:mkD st o.dst with
   | true=>rw [hm] at ho;exact ok_assignM h hd (by simp [execOp,hop]) ho fun ho=>ok_move h hd hop ho
   | false=>rw [hm] at ho;exact ok_move h hd hop ho
 | assign x=>
   rw [hop] at hc;injection hc with hc;subst hc
   cases hm:mkD st o.dst with
   | true=>rw [hm] at ho;exact ok_assignM h hd (by simp [execOp,hop]) ho fun ho=>ok_assign h hd hop ho
   | false=>rw [hm] at ho;exact ok_assign h hd hop ho
 | pick x y z=>rw [hop] at hc;exact ok_pick h hd hop hc ho
 | alloc e=>
   rw [hop] at hc;simp only [] at hc
   cases hm:mkD st o.dst with
   | true=>rw [hm] at hc;exact ok_allocX hT h hrb hd hop hc ho
   | false=>rw [hm] at hc;exact ok_alloc hT h hrb hd hop hc ho
 | box e x=>
   rw [hop] at hc;simp only [] at hc
   split at hc
   ·rename_i r p hx;exact ok_boxX h hrb hd hop hx hc ho
   ·exact ok_box h hrb hd hop hc ho
 | build t ps=>
   rw [hop] at hc;simp only [] at hc
   cases hax:anyX st (ps.toList.map fun p=>p.2) with
   | false=>rw [hax] at hc;exact ok_build hT h hd hop hc ho
   | true=>
     rw [hax] at hc;simp only [cnd_true] at hc
     cases hm:mkD st o.dst with
     | true=>rw [hm] at hc;exact ok_buildX hT h hrb hd hop hc ho
     | false=>rw [hm] at hc;exact ok_buildR hT h hd hop hc ho
 | buildSlice t k ps=>rw [hop] at hc;exact ok_buildSlice hT h hrb hd hop hc ho
 | load t x=>
   rw [hop] at hc;simp only [] at hc
   split at hc
   ·rename_i b p hx;exact ok_loadX hT h hd hop hx hc ho
   ·rename_i r p k q hx;exact ok_loadP hT h hd hop hx hc ho
   ·exact ok_load hT h hrb hd hop hc ho
 | store t x v=>
   rw [hop] at hc;simp only [] at hc
   split at hc
   ·rename_i r p k q r2 hx hv;exact ok_graftX hT h hrb hd hop hx hv hc ho
   ·rename_i r p k q hx _;exact ok_storeX hT h hrb hd hop hx hc ho
   ·rename_i b r q hx hv;exact ok_putX hT h hrb hd hop hx hv hc ho
   ·rename_i b ty x ps hx hv;exact ok_putR hT h hrb hd hop hx hv hc ho
   ·rename_i b p r q _ hx hv;exact ok_partR hT h hrb hd hop hx hv hc ho
   ·exact ok_store hT h hrb hd hop hc ho
 | nilCheck x=>rw [hop] at hc;exact ok_nilCheck h hd hop hc ho
 | binOp op xt x y yt=>rw [hop] at hc;exact ok_bin hT h hd hop hc ho
 | unOp op t x=>rw [hop] at hc;exact ok_un h hd hop hc ho
 | convert s t x=>
   rw [hop] at hc;simp only [] at hc
   split at hc
   ·rename_i r p hx;exact ok_convX hT h hd hop hx hc ho
   ·exact ok_conv hT h hd hop hc ho hrb
 | makeSlice t x y=>
   rw [hop] at hc;simp only [] at hc
   cases hm:mkD st o.dst with
   | true=>rw [hm] at hc;exact ok_makeX hT h hrb hd hop hc ho
   | false=>rw [hm] at hc;exact ok_makeSlice hT h hrb hd hop hc ho
 | slice t x lo hi mx=>
   rw [hop] at hc
   simp only [] at hc
   split at hc
   ·exact ok_sliceX hT h hrb hd hop hc ho
   ·exact ok_slice hT h hd hop hc ho
 | fieldAddr s x f=>
   rw [hop] at hc;simp only [] at hc
   split at hc
   ·rename_i r p k q hx;exact ok_fieldAddrX hT h hd hop hx hc ho
   ·rename_i b p hx;exact ok_fieldAddrC hT h hd hop hx hc ho
   ·exact ok_fieldAddr hT h hd hop hc ho
 | field s x f=>rw [hop] at hc;exact ok_field hT h hd hop hc ho
 | indexAddr t x i=>
   rw [hop] at hc;simp only [] at hc
   split at hc
   ·rename_i r p hx;exact ok_indexAddrX hT h hd hop hx hc ho
   ·exact ok_indexAddr hT h hd hop hc ho
 | index t x i=>rw [hop] at hc;exact ok_index hT h hd hop hc ho
 | extract x i=>
   rw [hop] at hc;simp only [] at hc
   split at hc
   ·rename_i r hx;exact ok_extractX h hd hop hx hc ho
   ·exact ok_extract h hd hop hc ho
 | call cl=>
   rw [hop] at hc
   simp only [] at hc
   split at hc
   ·rename_i f hcal
    cases hF:hasF G f with
    | true=>rw [hF] at hc;exact ok_callF hG h hrb hd hop hcal hc ho
    | false=>
    rw [hF] at hc;simp only [cnd_false] at hc
    cases hcs:isCons G f with
    | true=>rw [hcs] at hc;exact ok_callC hG h hrb hd hop hcal hcs hc ho
    | false=>
    rw [hcs] at hc;simp only [cnd_false] at hc
    cases hmr:cnd (mkD st o.dst) (isRdM G f) false with
    | true=>rw [hmr] at hc;exact ok_callXR hG h hrb hd hop hcal hc ho
    | false=>
    rw [hmr] at hc;simp only [cnd_false] at hc
    cases hm:cnd (anyX st cl.args.toList) true (cnd (mkD st o.dst) true (isMut G f)) with
    | true=>rw [hm] at hc;exact ok_callX hG h hrb hd hop hcal hc ho
    | false=>rw [hm] at hc;exact ok_call hG h hrb hd hop hcal rfl hc ho
   ·rename_i t hcal
    split at hc
    ·rename_i f hav
     have ht:=h.env t
     rw [hav] at ht
     exact ok_call hG h hrb hd hop hcal ht hc ho
    ·cases hc
   ·rename_i hcal
    split at hc
    ·rename_i x t hx ht
     split at hc
     ·rename_i r p hxe;exact ok_lenX hT h hd hop hcal (arr1 hx) (arr1 ht) hxe hc ho
     ·exact ok_len hT h hd hop hcal (arr1 hx) (arr1 ht) hc ho
    ·cases hc
   ·rename_i hcal
    split at hc
    ·rename_i x y t t' hx ht
     cases hq:Nat.beq t t' with
     | false=>rw [hq] at hc;cases hc
     | true=>
       rw [hq] at hc
       have:=nbeq hq;subst this
       simp only [cnd_true] at hc
       split at hc
       ·exact ok_appendT hT h hrb hd hop hcal (arr2 hx) (arr2 ht) hc ho
       ·cases hm:mkD st o.dst with
        | true=>rw [hm] at hc;exact ok_appendX hT h hrb hd hop hcal (arr2 hx) (arr2 ht) hc ho
        | false=>rw [hm] at hc;exact ok_append hT h hrb hd hop hcal (arr2 hx) (arr2 ht) hc ho
    ·cases hc
   ·rename_i hcal
    split at hc
    ·rename_i x y hx
     exact ok_minmax (mx:=false) h hd hop hcal (arr2 hx) hc ho
    ·cases hc
   ·rename_i hcal
    split at hc
    ·rename_i x y hx
     exact ok_minmax (mx:=true) h hd hop hcal (arr2 hx) hc ho
    ·cases hc
   ·cases hc
 | _=>rw [hop] at hc;cases hc
end
end Go.Den
namespace Go.Den
section
variable {P:Program} {tab:Tab} {G:Gam} {w0:Base} {lim0:Lim} {rb:Option Nat} {n:Nat}
variable {st st':St} {a:Act} {w w':World} {lim lim':Lim} {β:Mp} {o:Oper} {c:Comp}
theorem setAV_self {t:Tmp} {v:AV} (h:(st.env t).av=v):setAV st t v=st:=by
 obtain ⟨env,box,own,rd⟩:=st
 unfold setAV
 simp only at h ⊢
 congr 1
 funext u
 cases hq:Nat.beq u t with
 | true=>
   have:=nbeq hq;subst this
   rw [cnd_true,←h]
 | false=>rfl
theorem guardT_spec {ops:Array Oper} {g:Nat} {t:Tmp} (h:guardT ops.toList g=some t):(ops[g]?).bind (·.dst)=some t:=by
 unfold guardT at h
 have e1:ops.toList[g]?=ops[g]?:=by simp
 rw [e1] at h
 cases hq:ops[g]? with
 | none=>rw [hq] at h;cases h
 | some o=>rw [hq] at h;exact h
theorem yielded_bool {ops:Array Oper} {g:Nat} {t:Tmp} {b:Bool} (hg:guardT ops.toList g=some t) (hv:tmpOf a t = .bool b):yielded ops a.tmps g=some b:=by
 unfold yielded
 rw [guardT_spec hg]
 simp only [Option.bind_some]
 unfold tmpOf at hv
 rw [Array.getD_eq_getD_getElem?] at hv
 cases hq:a.tmps[t]? with
 | none=>rw [hq] at hv;cases hv
 | some v=>rw [hq] at hv;simp only [Option.getD_some] at hv;rw [hv]
theorem yielded_skip {ops:Array Oper} {g:Nat} {t:Tmp} (hg:guardT ops.toList g=some t) (hv:tmpOf a t=undef):yielded ops a.tmps g=none:=by
 unfold yielded
 rw [guardT_spec hg]
 simp only [Option.bind_some]
 unfold tmpOf at hv
 rw [Array.getD_eq_getD_getElem?] at hv
 cases hq:a.tmps[t]? with
 | none=>rfl
 | some v=>rw [hq] at hv;simp only [Option.getD_some] at hv;rw [hv];rfl
def eqW (b want:Bool):Bool:=b == want
def oneU (tab:Tab) (G:Gam) (ops:List Oper) (o:Oper) (st:St):Option (Upd×List Res):=
 let go (rs:List Res):Option (Upd×List Res):=match stepC tab G o st with
  | some (.ret c u)=>cond (chkB c) (some (u,rs)) none
  | some (.call _ _ F u)=>F.map fun r=>(u r,rs)
  | none=>none
 match o.guard with
 | none=>go (reads st o)
 | some (g,want)=>match guardT ops g with
   | none=>none
   | some t=>match (st.env t).av with
     | .dat .bool b=>cond (eqW b want) (go (.tmp t::reads st o)) (some (skipU o,[.tmp t]))
     | .skp=>some (skipU o,[.tmp t])
     | _=>none
def runT (tab:Tab) (G:Gam) (ops:List Oper):List Oper→St→Option (St×List FP)
 | [],st=>some (st,[])
 | o::rest,st=>match oneU tab G ops o st with
   | some (u,rs)=>(runT tab G ops rest (apply st u)).map fun x=>(x.1,⟨tagRes u++rs,u.writes⟩::x.2)
   | none=>none
def Alike (st st':St):Prop:=∃f,st = {st' with kn:=f}
theorem Alike.refl (st:St):Alike st st:=⟨st.kn,rfl⟩
theorem Alike.apply {st st':St} (h:Alike st st') (u:Upd) (t:Option Tmp) (b:Bool):Alike (setKn (Den.apply st u) t b) (Den.apply st' u):=by
 obtain ⟨f,rfl⟩:=h
 exact ⟨_,rfl⟩
theorem Alike.setKn {st st':St} (h:Alike st st') (t:Option Tmp) (b:Bool):Alike (Den.setKn st t b) st':=by
 obtain ⟨f,rfl⟩:=h
 exact ⟨_,rfl⟩
theorem Alike.setAV {st st':St} (h:Alike st st') {t:Tmp} {v:AV} (hv:(st'.env t).av=v):Alike (Den.setAV st t v) st':=by
 obtain ⟨f,rfl⟩:=h
 have:=setAV_self hv
 refine ⟨f,?_⟩
 have e:Den.setAV {st' with kn:=f} t v = {Den.setAV st' t v with kn:=f}:=rfl
 rw [e,this]
theorem Alike.env {st st':St} (h:Alike st st'):st.env=st'.env:=by obtain ⟨f,rfl⟩:=h;rfl
theorem Alike.step {st st':St} (h:Alike st st'):stepC tab G o st=stepC tab G o st':=by
 obtain ⟨f,rfl⟩:=h
 have e1 : ∀x,({st' with kn:=f} : St).ent x=st'.ent x:=fun x=>by cases x<;>rfl
 have e2 : ∀x p,({st' with kn:=f} : St).ownOp x p=st'.ownOp x p:=fun x p=>by cases x<;>rfl
 have e3 : ∀x ps,({st' with kn:=f} : St).owned x ps=st'.owned x ps:=fun x ps=>by
  induction ps with
  | nil=>rfl
  | cons p ps ih=>simp only [St.owned,e2,ih]
 have e4 : ∀x,({st' with kn:=f} : St).owner x=st'.owner x:=fun x=>by cases x<;>rfl
 have e5 : ∀(ps:List (Nat×Operand)) t z,fillP {st' with kn:=f} t z ps=fillP st' t z ps:=fun ps=>by
  induction ps with
  | nil=>intros;rfl
  | cons q ps ih=>obtain ⟨i,x⟩:=q;intro t z;simp only [fillP,e1,ih]
 have e6 : ∀(ps:List (Nat×Operand)) e z,fillS {st' with kn:=f} e z ps=fillS st' e z ps:=fun ps=>by
  induction ps with
  | nil=>intros;rfl
  | cons q ps ih=>obtain ⟨i,x⟩:=q;intro e z;simp only [fillS,e1,ih]
 have e7 : ∀(ps:List (Nat×Operand)) (qs:List (List Nat)),({st' with kn:=f} : St).builtOwn ps qs=st'.builtOwn ps qs:=fun ps qs=>by
  induction qs with
  | nil=>rfl
  | cons q qs ih=>
    cases q with
    | nil=>simp only [St.builtOwn];exact ih
    | cons i p=>simp only [St.builtOwn,e2,ih]
 have e8 : ∀x,avOpt ({st' with kn:=f} : St) x=avOpt st' x:=fun x=>by cases x<;>simp only [avOpt,e1]
 have em : ∀x,mkD ({st' with kn:=f} : St) x=mkD st' x:=fun x=>by cases x<;>rfl
 have ef : ∀x,freeD ({st' with kn:=f} : St) x=freeD st' x:=fun x=>by cases x<;>rfl
 have eo : ∀b p qs,({st' with kn:=f} : St).ownedB b p qs=st'.ownedB b p qs:=fun b p qs=>by
  induction qs with
  | nil=>rfl
  | cons q qs ih=>simp only [St.ownedB,ih]
 have ea : ∀r p,({st' with kn:=f} : St).atX r p=st'.atX r p:=fun _ _=>rfl
 have ex : ∀av,argX ({st' with kn:=f} : St) av=argX st' av:=fun av=>by cases av<;>rfl
 have eX : ∀(ps:List (Nat×Operand)) t z k,fillX {st' with kn:=f} t z ps k=fillX st' t z ps k:=fun ps=>by
  induction ps with
  | nil=>intros;rfl
  | cons q ps ih=>obtain ⟨i,x⟩:=q;intro t z k;simp only [fillX,e1,ih,ea]
 have eR : ∀(ps:List (Nat×Operand)) t z k,fillR {st' with kn:=f} t z ps k=fillR st' t z ps k:=fun ps=>by
  induction ps with
  | nil=>intros;rfl
  | cons q ps ih=>obtain ⟨i,x⟩:=q;intro t z k;simp only [fillR,e1,ih,ea]
 have es0 : ∀e (ps:List (Nat×Operand)) l,starPart ({st' with kn:=f} : St) e ps l=starPart st' e ps l:=fun e ps=>by
  induction ps with
  | nil=>intro l;rfl
  | cons q ps ih=>obtain ⟨i,x⟩:=q;intro l;cases x<;>simp only [starPart,ih]
 have es : ∀e ps,starParts ({st' with kn:=f} : St) e ps=starParts st' e ps:=fun e ps=>by simp only [starParts,es0]
 have et : ∀e l y,starApp ({st' with kn:=f} : St) e l y=starApp st' e l y:=fun _ _ _=>rfl
 have ey : ∀l,anyX ({st' with kn:=f} : St) l=anyX st' l:=fun l=>by
  induction l with
  | nil=>rfl
  | cons x l ih=>simp only [anyX,e1,ih]
 unfold stepC
 cases o.op with
 | move x=>simp only [stAssignM,stMove,e1,e3,e4,em]
 | assign x=>simp only [stAssignM,stAssign,e1,e3,e4,em]
 | pick x y z=>simp only [stPick,e1]
 | alloc e=>simp only [stAlloc,stAllocX,em,ef]
 | box e x=>simp only [stBox,stBoxX,e1,e3,ef,ea]
 | build t ps=>simp only [stBuild,stBuildX,stBuildR,e5,e7,eX,eR,ef,em,ey]
 | buildSlice t k ps=>simp only [stBuildSlice,e6,es]
 | load t x=>simp only [stLoad,starOf,stLoadX,stLoadR,stLoadP,e1,ea,em,eo]
 | store t x v=>simp only [stStore,stStoreX,stGraftX,stPutX,stPutR,stPartR,e1,e3,ea]
 | nilCheck x=>simp only [e1]
 | binOp op xt x y yt=>simp only [stBin,e1]
 | unOp op t x=>simp only [stUn,e1]
 | convert s t x=>simp only [stConv,stConvX,ea,e1]
 | makeSlice t x y=>simp only [stMakeSlice,stMakeX,e1,em,ef]
 | slice t x lo hi mx=>simp only [stSlice,stSliceX,e1,e3,e8,ef]
 | fieldAddr s x f=>simp only [stFieldAddr,stFieldAddrX,stFieldAddrC,stFieldAddrR,e1,ea]
 | field s x f=>simp only [stField,e1]
 | indexAddr t x i=>simp only [stIndexAddr,starTag,e2,em,stIndexAddrX,e1,ea]
 | index t x i=>simp only [stIndex,e1]
 | extract x i=>simp only [stExtract,stExtractX,e1,e3,em]
 | call cl=>simp only [stCall,stCallF,stCallX,stCallC,stCallXR,stLen,stLenX,stAppend,stAppendX,stAppendT,e3,ex,ef,em,stMinMax,e1,e4,em,ef,ea,ex,ey,et]
 | _=>rfl
theorem Alike.reads {st st':St} (h:Alike st st'):Den.reads st o=Den.reads st' o:=by
 obtain ⟨f,rfl⟩:=h
 have : ∀l,readsL {st' with kn:=f} l=readsL st' l:=fun l=>by
  induction l with
  | nil=>rfl
  | cons x l ih=>simp only [readsL,ih];cases x<;>rfl
 have e:exNo {st' with kn:=f} o.dst o.op=exNo st' o.dst o.op:=by
  cases o.op with
  | extract x i=>cases x<;>cases o.dst<;>rfl
  | _=>rfl
 have e2:mvNo {st' with kn:=f} o.op=mvNo st' o.op:=by
  cases o.op with
  | move x=>cases x<;>rfl
  | _=>rfl
 have e3 : ∀t,readsM {st' with kn:=f} t=readsM st' t:=fun _=>rfl
 unfold Den.reads
 rw [this,e,e2]
 simp only [e3]
theorem opsK_runT {R:Type} {ops:List Oper} : ∀ {rest:List Oper} {i:Nat} {st st2:St} {k:St→Option R} {r:R},Alike st st2→opsK tab G ops rest i st k=some r→∃st' fs st3,runT tab G ops rest st2=some (st',fs)∧Alike st3 st'∧k st3=some r:=by
 intro rest
 induction rest with
 | nil=>intro i st st2 k r hA h;exact ⟨st2,[],st,rfl,hA,h⟩
 | cons o rest ih=>
   intro i st st2 k r hA h
   have go : ∀ {st:St} {c:Comp} {rs:List Res} {t:Option Tmp} {b:Bool},Alike st st2→c.runK st (fun st'=>opsK tab G ops rest (Nat.succ i) (setKn st' t b) k)=some r →
    ∃u,(match c with | .ret c u=>cond (chkB c) (some (u,rs)) none | .call _ _ F u=>F.map fun r=>(u r,rs))=some (u,rs)∧∃st' fs st3,runT tab G ops rest (apply st2 u)=some (st',fs)∧Alike st3 st'∧k st3=some r:=by
    intro st c rs t b hA hc
    cases c with
    | ret c u=>
      cases c with
      | none=>exact ⟨u,rfl,ih (hA.apply u t b) hc⟩
      | some c=>
        cases c with
        | false=>cases hc
        | true=>exact ⟨u,rfl,ih (hA.apply u t b) hc⟩
    | call rt rdt F u=>
      cases F with
      | none=>cases hc
      | some x=>exact ⟨u x,rfl,ih (hA.apply (u x) t b) hc⟩
   simp only [opsK] at h
   simp only [runT,oneU]
   cases hg:o.guard with
   | none=>
     rw [hg] at h;simp only [] at h ⊢
     rw [hA.step] at h
     cases hc:stepC tab G o st2 with
     | none=>rw [hc] at h;cases h
     | some c=>
       rw [hc] at h
       obtain ⟨u,h1,st',fs,st3,h2,h3,h4⟩:=go (rs:=reads st2 o) hA h
       refine ⟨st',⟨tagRes u++reads st2 o,u.writes⟩::fs,st3,?_,h3,h4⟩
       cases c<;>simp only [] at h1 ⊢ <;> rw [h1]<;>simp [h2]
   | some gw=>
     obtain ⟨g,want⟩:=gw
     rw [hg] at h;simp only [] at h ⊢
     cases hgt:guardT ops g with
     | none=>rw [hgt] at h;cases h
     | some t=>
       rw [hgt] at h;simp only [] at h ⊢
       have skip : ∀ {st:St},Alike st st2→opsK tab G ops rest (Nat.succ i) (setKn (apply st (skipU o)) o.dst false) k=some r→∃st' fs st3,(match (some (skipU o,[Res.tmp t]):Option (Upd×List Res)) with
        | some (u,rs)=>(runT tab G ops rest (apply st2 u)).map fun x=>(x.1,(⟨tagRes u++rs,u.writes⟩:FP)::x.2)
        | none=>none)=some (st',fs)∧Alike st3 st'∧k st3=some r:=by
        intro st hA hk
        obtain ⟨st',fs,st3,h2,h3,h4⟩:=ih (hA.apply (skipU o) o.dst false) hk
        exact ⟨st',⟨[.tmp t],(skipU o).writes⟩::fs,st3,by simp [h2,show tagRes (skipU o)=[] from rfl],h3,h4⟩
       have step : ∀ {st:St},Alike st st2→(match stepC tab G o st with
        | some c=>c.runK st fun st'=>opsK tab G ops rest (Nat.succ i) (setKn st' o.dst (knOf o st)) k
        | none=>none)=some r→∃st' fs st3,(match (match stepC tab G o st2 with
          | some (.ret c u)=>cond (chkB c) (some (u,Res.tmp t::reads st2 o)) none
          | some (.call _ _ F u)=>F.map fun r=>(u r,Res.tmp t::reads st2 o)
          | none=>none:Option (Upd×List Res)) with
        | some (u,rs)=>(runT tab G ops rest (apply st2 u)).map fun x=>(x.1,(⟨tagRes u++rs,u.writes⟩:FP)::x.2)
        | none=>none)=some (st',fs)∧Alike st3 st'∧k st3=some r:=by
        intro st hA hk
        rw [hA.step] at hk
        cases hc:stepC tab G o st2 with
        | none=>rw [hc] at hk;cases hk
        | some c=>
          rw [hc] at hk
          obtain ⟨u,h1,st',fs,st3,h2,h3,h4⟩:=go (rs:=Res.tmp t::reads st2 o) hA hk
          refine ⟨st',⟨tagRes u++Res.tmp t::reads st2 o,u.writes⟩::fs,st3,?_,h3,h4⟩
          cases c<;>simp only [] at h1 ⊢ <;> rw [h1]<;>simp [h2]
       rw [hA.env] at h
       cases hav:(st2.env t).av with
       | dat ty b=>
         rw [hav] at h
         cases ty<;>try (simp only [] at h;cases h;done)
         simp only [] at h ⊢
         have hset:=hA.setAV hav
         cases b with
         | true=>
           cases hkn:st.kn t with
           | true=>
             rw [hkn] at h
             have h:cnd want _ _=some r:=h
             cases want with
             | true=>exact step hA h
             | false=>exact skip hA h
           | false=>
             rw [hkn] at h
             have h:cnd want _ _=some r:=h
             cases want with
             | true=>exact step (hset.setKn _ _) h
             | false=>exact skip (hset.setKn _ _) h
         | false=>
           cases hkn:st.kn t with
           | true=>
             rw [hkn] at h
             have h:cnd want _ _=some r:=h
             cases want with
             | true=>exact skip hA h
             | false=>exact step hA h
           | false=>
             rw [hkn] at h
             have h:cnd want _ _=some r:=h
             cases want with
             | true=>exact skip (hset.setKn _ _) h
             | false=>exact step (hset.setKn _ _) h
       | skp=>rw [hav] at h;exact skip hA h
       | _=>rw [hav] at h;simp only [] at h;cases h
theorem drawK_runT {R:Type} {ops:List Oper} : ∀ {rest:List Oper} {i:Nat} {st st2:St} {acc:List FP} {k:St→List FP→Option R} {r:R},Alike st st2→drawK tab G ops rest i st acc k=some r→∃st' fs st3,runT tab G ops rest st2=some (st',fs)∧Alike st3 st'∧k st3 (acc++fs)=some r:=by
 intro rest
 induction rest with
 | nil=>intro i st st2 acc k r hA h;exact ⟨st2,[],st,rfl,hA,by simpa [drawK] using h⟩
 | cons o rest ih=>
   intro i st st2 acc k r hA h
   have go : ∀ {st:St} {c:Comp} {rs:List Res} {t:Option Tmp} {b:Bool},Alike st st2→c.runT st rs (fun st' f=>drawK tab G ops rest (Nat.succ i) (setKn st' t b) (acc++[f]) k)=some r →
    ∃u,(match c with | .ret c u=>cond (chkB c) (some (u,rs)) none | .call _ _ F u=>F.map fun r=>(u r,rs))=some (u,rs)∧∃st' fs st3,runT tab G ops rest (apply st2 u)=some (st',fs)∧Alike st3 st'∧k st3 ((acc++[⟨tagRes u++rs,u.writes⟩])++fs)=some r:=by
    intro st c rs t b hA hc
    cases c with
    | ret c u=>
      cases c with
      | none=>exact ⟨u,rfl,ih (hA.apply u t b) hc⟩
      | some c=>
        cases c with
        | false=>cases hc
        | true=>exact ⟨u,rfl,ih (hA.apply u t b) hc⟩
    | call rt rdt F u=>
      cases F with
      | none=>cases hc
      | some x=>exact ⟨u x,rfl,ih (hA.apply (u x) t b) hc⟩
   simp only [drawK] at h
   simp only [runT,oneU]
   cases hg:o.guard with
   | none=>
     rw [hg] at h;simp only [] at h ⊢
     rw [hA.step,hA.reads] at h
     cases hc:stepC tab G o st2 with
     | none=>rw [hc] at h;cases h
     | some c=>
       rw [hc] at h
       obtain ⟨u,h1,st',fs,st3,h2,h3,h4⟩:=go (rs:=reads st2 o) hA h
       refine ⟨st',⟨tagRes u++reads st2 o,u.writes⟩::fs,st3,?_,h3,by simpa using h4⟩
       cases c<;>simp only [] at h1 ⊢ <;> rw [h1]<;>simp [h2]
   | some gw=>
     obtain ⟨g,want⟩:=gw
     rw [hg] at h;simp only [] at h ⊢
     cases hgt:guardT ops g with
     | none=>rw [hgt] at h;cases h
     | some t=>
       rw [hgt] at h;simp only [] at h ⊢
       have skip : ∀ {st:St},Alike st st2→drawK tab G ops rest (Nat.succ i) (setKn (apply st (skipU o)) o.dst false) (acc++[⟨[.tmp t],(skipU o).writes⟩]) k=some r→∃st' fs st3,(match (some (skipU o,[Res.tmp t]):Option (Upd×List Res)) with
        | some (u,rs)=>(runT tab G ops rest (apply st2 u)).map fun x=>(x.1,(⟨tagRes u++rs,u.writes⟩:FP)::x.2)
        | none=>none)=some (st',fs)∧Alike st3 st'∧k st3 (acc++fs)=some r:=by
        intro st hA hk
        obtain ⟨st',fs,st3,h2,h3,h4⟩:=ih (hA.apply (skipU o) o.dst false) hk
        exact ⟨st',⟨[.tmp t],(skipU o).writes⟩::fs,st3,by simp [h2,show tagRes (skipU o)=[] from rfl],h3,by simpa using h4⟩
       have step : ∀ {st:St},Alike st st2→(match stepC tab G o st with
        | some c=>c.runT st (.tmp t::reads st o) fun st' f=>drawK tab G ops rest (Nat.succ i) (setKn st' o.dst (knOf o st)) (acc++[f]) k
        | none=>none)=some r→∃st' fs st3,(match (match stepC tab G o st2 with
          | some (.ret c u)=>cond (chkB c) (some (u,Res.tmp t::reads st2 o)) none
          | some (.call _ _ F u)=>F.map fun r=>(u r,Res.tmp t::reads st2 o)
          | none=>none:Option (Upd×List Res)) with
        | some (u,rs)=>(runT tab G ops rest (apply st2 u)).map fun x=>(x.1,(⟨tagRes u++rs,u.writes⟩:FP)::x.2)
        | none=>none)=some (st',fs)∧Alike st3 st'∧k st3 (acc++fs)=some r:=by
        intro st hA hk
        rw [hA.step,hA.reads] at hk
        cases hc:stepC tab G o st2 with
        | none=>rw [hc] at hk;cases hk
        | some c=>
          rw [hc] at hk
          obtain ⟨u,h1,st',fs,st3,h2,h3,h4⟩:=go (rs:=Res.tmp t::reads st2 o) hA hk
          refine ⟨st',⟨tagRes u++Res.tmp t::reads st2 o,u.writes⟩::fs,st3,?_,h3,by simpa using h4⟩
          cases c<;>simp only [] at h1 ⊢ <;> rw [h1]<;>simp [h2]
       rw [hA.env] at h
       cases hav:(st2.env t).av with
       | dat ty b=>
         rw [hav] at h
         cases ty<;>try (simp only [] at h;cases h;done)
         simp only [] at h ⊢
         have hset:=hA.setAV hav
         cases b with
         | true=>
           cases hkn:st.kn t with
           | true=>
             rw [hkn] at h
             have h:cnd want _ _=some r:=h
             cases want with
             | true=>exact step hA h
             | false=>exact skip hA h
           | false=>
             rw [hkn] at h
             have h:cnd want _ _=some r:=h
             cases want with
             | true=>exact step (hset.setKn _ _) h
             | false=>exact skip (hset.setKn _ _) h
         | false=>
           cases hkn:st.kn t with
           | true=>
             rw [hkn] at h
             have h:cnd want _ _=some r:=h
             cases want with
             | true=>exact skip hA h
             | false=>exact step hA h
           | false=>
             rw [hkn] at h
             have h:cnd want _ _=some r:=h
             cases want with
             | true=>exact skip (hset.setKn _ _) h
             | false=>exact step (hset.setKn _ _) h
       | skp=>rw [hav] at h;exact skip hA h
       | _=>rw [hav] at h;simp only [] at h;cases h
theorem one_sound (hT:TabOk P tab) (hG:GamOk P G) {ops:Array Oper} (h:Sim w0 lim0 rb n st a w lim β) (hrb : ∀k,some k=rb→k<w0.heap.size) (hd : ∀d,o.dst=some d→d<n) {u:Upd} {rs:List Res} (hu:oneU tab G ops.toList o st=some (u,rs))
 (K:Act→World→Prop) (Q:Exit→Act→World→Prop) (hK : ∀a' w' lim' β',Sim w0 lim0 rb n (apply st u) a' w' lim' β'→K a' w') :
 if Region.wanted o (yielded ops a.tmps)=true then o.wp P a w K Q else K (a.put o.dst undef) w:=by
 have go : ∀ {rs':List Res},(match stepC tab G o st with
  | some (.ret c u)=>cond (chkB c) (some (u,rs')) none
  | some (.call _ _ F u)=>F.map fun r=>(u r,rs')
  | none=>none:Option (Upd×List Res))=some (u,rs)→o.wp P a w K Q:=by
  intro rs' hgo
  cases hc:stepC tab G o st with
  | none=>rw [hc] at hgo;cases hgo
  | some c=>
    rw [hc] at hgo
    have hout:c.out st=some (apply st u):=by
     cases c with
     | ret c u'=>
       simp only [Comp.out]
       cases hck:chkB c with
       | false=>simp only [hck] at hgo;cases hgo
       | true=>simp only [hck] at hgo;injection hgo with hgo;injection hgo with hgo _;subst hgo;rfl
     | call rt rdt F u'=>
       cases F with
       | none=>cases hgo
       | some r=>injection hgo with hgo;injection hgo with hgo _;subst hgo;rfl
    exact step_ok hT hG h hrb hd hc hout K Q hK
 have skip:(some (skipU o,rs):Option (Upd×List Res))=some (u,rs)→K (a.put o.dst undef) w:=by
  intro hs
  injection hs with hs;injection hs with hs _;subst hs
  exact hK _ _ _ _ (h.plain _ _ _ hd rfl)
 unfold oneU at hu
 cases hg:o.guard with
 | none=>
   rw [hg] at hu
   rw [if_pos (by simp [Region.wanted,hg])]
   exact go hu
 | some gw=>
   obtain ⟨g,want⟩:=gw
   rw [hg] at hu;simp only [] at hu
   cases hgt:guardT ops.toList g with
   | none=>rw [hgt] at hu;cases hu
   | some t=>
     rw [hgt] at hu;simp only [] at hu
     have ht:=h.env t
     cases hav:(st.env t).av with
     | dat ty b=>
       rw [hav] at hu ht
       cases ty<;>try (simp only [] at hu;cases hu;done)
       simp only [] at hu
       have hv:=bool_rep ht
       have hy:=yielded_bool (ops:=ops) hgt hv
       have hwt:Region.wanted o (yielded ops a.tmps)=eqW b want:=by
        unfold Region.wanted eqW
        rw [hg]
        show (yielded ops a.tmps g == some want)=_
        rw [hy]
        exact Option.some_beq_some
       cases hq:eqW b want with
       | true=>
         rw [hq] at hu hwt
         rw [if_pos hwt]
         exact go hu
       | false=>
         rw [hq] at hu hwt
         rw [if_neg (by rw [hwt];simp)]
         injection hu with hu;injection hu with h1 h2;subst h1;subst h2
         exact skip rfl
     | skp=>
       rw [hav] at hu ht
       have hy:=yielded_skip (ops:=ops) hgt ht
       rw [if_neg (by simp [Region.wanted,hg,hy])]
       injection hu with hu;injection hu with h1 h2;subst h1;subst h2
       exact skip rfl
     | _=>rw [hav] at hu;simp only [] at hu;cases hu
theorem opsDst_mem {m:Nat} : ∀ {os:List Oper},opsDst m os=true→∀o∈os,∀d,o.dst=some d→d<m
 | [],_,o,ho,_,_=>by cases ho
 | x::os,h,o,ho,d,hd=>by
   simp only [opsDst] at h
   have h2:opsDst m os=true∧∀d,x.dst=some d→d<m:=by
    cases hx:x.dst with
    | none=>rw [hx] at h;exact ⟨h,fun d hd=>by cases hd⟩
    | some e=>
      rw [hx] at h;simp only [] at h
      cases hb:Nat.blt e m with
      | false=>rw [hb] at h;cases h
      | true=>rw [hb] at h;exact ⟨h,fun d hd=>by injection hd with hd;subst hd;simpa [Nat.blt_eq] using hb⟩
   rcases List.mem_cons.1 ho with rfl|ho
   ·exact h2.2 d hd
   ·exact opsDst_mem h2.1 o ho d hd
theorem run_sound (hT:TabOk P tab) (hG:GamOk P G) {ops:Array Oper} {Q:Exit→Act→World→Prop} (hrb : ∀k,some k=rb→k<w0.heap.size) : ∀ {rest:List Oper} {st:St} {a:Act} {w:World} {lim:Lim} {β:Mp} {fs:List FP},
 runT tab G ops.toList rest st=some (st',fs)→(∀o∈rest,∀d,o.dst=some d→d<n)→Sim w0 lim0 rb n st a w lim β→(∀a' w' lim' β',Sim w0 lim0 rb n st' a' w' lim' β'→Q .normal a' w')→wpList P ops Q rest a w:=by
 intro rest
 induction rest with
 | nil=>
   intro st a w lim β fs hr _ h hQ
   injection hr with hr;injection hr with h1 _;subst h1
   exact hQ _ _ _ _ h
 | cons o rest ih=>
   intro st a w lim β fs hr hd h hQ
   simp only [runT] at hr
   cases hu:oneU tab G ops.toList o st with
   | none=>rw [hu] at hr;cases hr
   | some ur=>
     obtain ⟨u,rs⟩:=ur
     rw [hu] at hr;simp only [] at hr
     cases hrest:runT tab G ops.toList rest (apply st u) with
     | none=>rw [hrest] at hr;cases hr
     | some sf=>
       obtain ⟨s',fs'⟩:=sf
       rw [hrest] at hr
       injection hr with hr;injection hr with h1 _;subst h1
       have:=one_sound (ops:=ops) hT hG h hrb (hd o (by simp)) hu (wpList P ops Q rest) Q (fun a' w' lim' β' hs=>ih hrest (fun o' ho'=>hd o' (by simp [ho'])) hs hQ)
       unfold wpList
       split
       ·rename_i hw;rw [if_pos hw] at this;exact .inl this
       ·rename_i hw;rw [if_neg hw] at this;exact this
end
end Go.Den
namespace Go.Den
section
variable {P:Program} {tab:Tab} {G:Gam}
variable {st st':St} {o:Oper} {c:Comp}
structure Look (st st':St) (x:Operand):Prop where
 ent:st'.ent x=st.ent x
 own : ∀p,st'.ownOp x p=st.ownOp x p
 box : ∀b p,(st.ent x).av = .cel b p→st'.box b=st.box b∧∀q,st'.own (.box b q)=st.own (.box b q)
 rd : ∀p,(st.ent x).av = .rdr p→st'.rd=st.rd
 tag : ∀k l,(st.ent x).tag=some (k,l)→st'.own l=st.own l∧st'.own (starL l)=st.own (starL l)
 tr : ∀r,Res.box r∈avRes (st.ent x).av→st'.io r=st.io r
 tb : ∀b p,(st.ent x).av = .cx b p→st'.xb b=st.xb b
 tr2 : ∀b p,(st.ent x).av = .cx b p→st'.rb b=st.rb b
 tx2 : ∀b p d ps r,(st.ent x).av = .cx b p→st.rb b=some (d,ps)→Res.box r∈mxRes ps→st'.io r=st.io r
 tx : ∀b p t r q,(st.ent x).av = .cx b p→st.xb b=some (t,some (r,q))→st'.io r=st.io r
theorem atX_eq {r:Tmp} (h:st'.io r=st.io r) (p:List Nat):st'.atX r p=st.atX r p:=by unfold St.atX;rw [h]
theorem Look.argX {x:Operand} (h:Look st st' x):Den.argX st' (st.ent x).av=Den.argX st (st.ent x).av:=by
 cases hav:(st.ent x).av with
 | xf r p=>simp only [Den.argX,atX_eq (h.tr r (by rw [hav];simp [avRes])) p]
 | _=>rfl
theorem anyX_local : ∀ {l:List Operand},(∀x∈l,Look st st' x)→anyX st' l=anyX st l
 | [],_=>rfl
 | x::l,h=>by
   have hl:=anyX_local (l:=l) fun y hy=>h y (List.mem_cons_of_mem _ hy)
   simp only [anyX,(h x (by simp)).ent,hl]
theorem Look.owned {x:Operand} (h:Look st st' x) : ∀ps,st'.owned x ps=st.owned x ps
 | []=>rfl
 | p::ps=>by simp only [St.owned,h.own,h.owned ps]
theorem Look.owner {x:Operand} (h:Look st st' x):st'.owner x=st.owner x:=by
 cases x with
 | tmp t=>
   have h1:=h.own []
   have h2:st'.env t=st.env t:=h.ent
   simp only [St.ownOp] at h1
   simp only [St.owner,h1,h2]
   cases hq:(st.env t).tag with
   | none=>rfl
   | some kl=>
     obtain ⟨k,l⟩:=kl
     have:=(h.tag k l hq).1
     cases k<;>simp [this]
 | const _=>rfl
 | global _=>rfl
 | func _=>rfl
theorem Look.starOf {x:Operand} (h:Look st st' x) (em:mkD st' o.dst=mkD st o.dst) (u:Ty):Den.starOf st' o x u=Den.starOf st o x u:=by
 unfold Den.starOf
 rw [em,h.ent]
 cases hq:(st.ent x).tag with
 | none=>rfl
 | some kl=>
   obtain ⟨k,l⟩:=kl
   have:=(h.tag k l hq).1
   cases k<;>simp [this]
theorem Look.starTag {x:Operand} (h:Look st st' x) (em:mkD st' o.dst=mkD st o.dst) (e:Ty):Den.starTag st' o x e=Den.starTag st o x e:=by
 unfold Den.starTag
 rw [em,h.own]
theorem Look.ownerStar {x:Operand} (h:Look st st' x) {l:Loc} (hl:st.owner x=some (some l)):st'.own (starL l)=st.own (starL l):=by
 cases x with
 | tmp t=>
   simp only [St.owner] at hl
   cases hot:st.own (.tmp t []) with
   | true=>
     rw [hot] at hl;simp only [cnd_true] at hl
     injection hl with hl;injection hl with hl;subst hl
     exact h.own [0]
   | false=>
     rw [hot] at hl;simp only [cnd_false] at hl
     cases hq:(st.env t).tag with
     | none=>rw [hq] at hl;cases hl
     | some kl=>
       obtain ⟨k,l'⟩:=kl
       rw [hq] at hl
       cases k with
       | false=>cases hl
       | true=>
         simp only [] at hl
         cases hol:st.own l' with
         | false=>rw [hol] at hl;cases hl
         | true=>
           rw [hol] at hl;simp only [cnd_true] at hl
           injection hl with hl;injection hl with hl;subst hl
           exact (h.tag true l' hq).2
 | const _=>simp [St.owner] at hl
 | global _=>cases hl
 | func _=>cases hl
theorem stAssignM_local {x:Operand} (h:Look st st' x) {c:Comp} : stAssignM o x st' c=stAssignM o x st c:=by
 unfold stAssignM
 rw [h.ent,h.owner]
 simp only [h.owned]
 split
 ·rename_i l _ hl
  rw [h.ownerStar hl]
 ·rfl
 ·rfl
theorem allOwn_local {f:List Nat→Loc} (h : ∀p,st'.own (f p)=st.own (f p)) : ∀ps,allOwn st'.own f ps=allOwn st.own f ps
 | []=>rfl
 | p::ps=>by simp only [allOwn,h,allOwn_local h ps]
theorem starPart_local {e:Ty} : ∀ {parts:List (Nat×Operand)} {l:List Tmp},(∀p∈parts,Look st st' p.2)→starPart st' e parts l=starPart st e parts l
 | [],_,_=>rfl
 | (i,.tmp s)::ps,l,h=>by
   have hx:=(h (i,.tmp s) (by simp)).own
   simp only [starPart]
   rw [allOwn_local (f:=(.tmp s ·)) (fun p=>hx p),starPart_local (parts:=ps) fun p hp=>h p (List.mem_cons_of_mem _ hp)]
 | (_,.const _)::_,_,_=>rfl
 | (_,.global _)::_,_,_=>rfl
 | (_,.func _)::_,_,_=>rfl
theorem starParts_local {e:Ty} {parts:List (Nat×Operand)} (h : ∀p∈parts,Look st st' p.2):starParts st' e parts=starParts st e parts:=by
 unfold starParts;rw [starPart_local h]
theorem starApp_local {e:Ty} {x y:Operand} {ol:Option Loc} (hx:Look st st' x) (hy:Look st st' y) (hl:st.owner x=some ol):starApp st' e ol y=starApp st e ol y:=by
 unfold starApp
 cases y with
 | tmp t=>
   have h1:st'.own (.tmp t [0])=st.own (.tmp t [0]):=hy.own [0]
   simp only [h1]
   cases ol with
   | none=>rfl
   | some l=>simp only [hx.ownerStar hl]
 | _=>rfl
theorem stAppend_local {tab:Tab} {t:TypeId} {x y:Operand} (hx:Look st st' x) (hy:Look st st' y):stAppend tab o t x y st'=stAppend tab o t x y st:=by
 unfold stAppend
 rw [hx.ent,hy.ent,hx.owner]
 cases tab t with
 | none=>rfl
 | some ty=>
   cases ty with
   | slice e=>
     cases h:st.owner x with
     | none=>
       simp only []
       cases AV.as (.slice e) (st.ent x).av<;>cases AV.as (.slice e) (st.ent y).av<;>rfl
     | some ol=>
       have hs:=starApp_local (e:=e) hx hy h
       simp only []
       generalize AV.as (.slice e) (st.ent x).av=ax
       generalize AV.as (.slice e) (st.ent y).av=ay
       cases ax with
       | none=>rfl
       | some xs=>cases ay with
         | none=>rfl
         | some ys=>simp only [hs]
   | _=>rfl
theorem fillP_local : ∀ {parts:List (Nat×Operand)} {t:Ty} {z:t.val},(∀p∈parts,Look st st' p.2)→fillP st' t z parts=fillP st t z parts
 | [],_,_,_=>rfl
 | (i,x)::ps,t,z,h=>by
   have hx:=(h (i,x) (by simp)).ent
   simp only [fillP,hx]
   cases getF t z i with
   | none=>rfl
   | some d=>
     simp only []
     cases AV.as d.1 (st.ent x).av with
     | none=>rfl
     | some v=>
       simp only []
       cases setF t z i ⟨d.1,v⟩ with
       | none=>rfl
       | some z'=>exact fillP_local fun p hp=>h p (by simp [hp])
theorem fillX_local : ∀ {parts:List (Nat×Operand)} {t:Ty} {z:t.val} {k:Option Tmp},(∀p∈parts,Look st st' p.2)→fillX st' t z parts k=fillX st t z parts k
 | [],_,_,_,_=>rfl
 | (i,x)::ps,t,z,k,h=>by
   have hx:=h (i,x) (by simp)
   have ih : ∀z k,fillX st' t z ps k=fillX st t z ps k:=fun z k=>fillX_local fun p hp=>h p (by simp [hp])
   simp only [fillX,hx.ent,ih]
   cases hav:(st.ent x).av with
   | xf r p=>cases p with
     | nil=>simp only [atX_eq (hx.tr r (by rw [hav];simp [avRes]))]
     | cons i p=>rfl
   | _=>rfl
theorem fillR_local : ∀ {parts:List (Nat×Operand)} {t:Ty} {z:t.val} {k:List (List Nat×Tmp×List Nat)},(∀p∈parts,Look st st' p.2)→fillR st' t z parts k=fillR st t z parts k
 | [],_,_,_,_=>rfl
 | (i,x)::ps,t,z,k,h=>by
   have hx:=h (i,x) (by simp)
   have ih : ∀z k,fillR st' t z ps k=fillR st t z ps k:=fun z k=>fillR_local fun p hp=>h p (by simp [hp])
   simp only [fillR,hx.ent,ih]
   cases hav:(st.ent x).av with
   | xf r p=>simp only [atX_eq (hx.tr r (by rw [hav];simp [avRes]))]
   | _=>rfl
theorem fillS_local : ∀ {parts:List (Nat×Operand)} {e:Ty} {z:List e.val},(∀p∈parts,Look st st' p.2)→fillS st' e z parts=fillS st e z parts
 | [],_,_,_=>rfl
 | (i,x)::ps,e,z,h=>by
   have hx:=(h (i,x) (by simp)).ent
   simp only [fillS,hx]
   cases AV.as e (st.ent x).av with
   | none=>rfl
   | some v=>exact fillS_local fun p hp=>h p (by simp [hp])
theorem partOf_mem : ∀ {parts:List (Nat×Operand)} {i:Nat} {x:Operand},partOf i parts=some x→∃j,(j,x)∈parts
 | [],_,_,h=>by cases h
 | (j,y)::ps,i,x,h=>by
   simp only [partOf] at h
   cases hb:Nat.beq i j with
   | true=>rw [hb] at h;simp only [cnd_true] at h;injection h with h;subst h;exact ⟨j,by simp⟩
   | false=>
     rw [hb] at h
     obtain ⟨k,hk⟩:=partOf_mem h
     exact ⟨k,by simp [hk]⟩
theorem builtOwn_local {parts:List (Nat×Operand)} (h : ∀p∈parts,Look st st' p.2) : ∀ps,st'.builtOwn parts ps=st.builtOwn parts ps
 | []=>rfl
 | []::ps=>by simp only [St.builtOwn];exact builtOwn_local h ps
 | (i::p)::ps=>by
   simp only [St.builtOwn,builtOwn_local h ps]
   cases hq:partOf i parts with
   | none=>rfl
   | some x=>
     obtain ⟨j,hj⟩:=partOf_mem hq
     simp only [(h _ hj).own]
theorem avOpt_local {x:Option Operand} (h : ∀y,x=some y→Look st st' y):avOpt st' x=avOpt st x:=by
 cases x with
 | none=>rfl
 | some y=>simp only [avOpt,(h y rfl).ent]
theorem ownedB_local {b:Tmp} {p:List Nat} (h : ∀q,st'.own (.box b q)=st.own (.box b q)) : ∀qs,st'.ownedB b p qs=st.ownedB b p qs
 | []=>rfl
 | q::qs=>by simp only [St.ownedB,h,ownedB_local h qs]
theorem mxRes_mem : ∀ {ps:List (List Nat×Tmp×List Nat)} {p:List Nat} {r:Tmp} {q:List Nat},(p,r,q)∈ps→Res.box r∈mxRes ps
 | (p',r',q')::ps,p,r,q,h=>by
   simp only [mxRes]
   rcases List.mem_cons.1 h with h|h
   ·injection h with _ h;injection h with h _;subst h;exact List.mem_cons_self
   ·exact List.mem_cons_of_mem _ (mxRes_mem h)
theorem step_local (h : ∀x∈o.op.operands.toList,Look st st' x) (hdx : ∀d,o.dst=some d→st'.box d=st.box d∧st'.io d=st.io d∧st'.xb d=st.xb d) (hmk:st'.mkt=st.mkt):stepC tab G o st'=stepC tab G o st:=by
 have hd : ∀d,o.dst=some d→st'.box d=st.box d:=fun d h=>(hdx d h).1
 have em:mkD st' o.dst=mkD st o.dst:=by cases o.dst<;>simp only [mkD,hmk]
 have ef:freeD st' o.dst=freeD st o.dst:=by
  cases hq:o.dst with
  | none=>rfl
  | some d=>obtain ⟨h1,h2,h3⟩:=hdx d hq;simp only [freeD,h1,h2,h3]
 unfold stepC
 cases hop:o.op with
 | move x=>
   have hx:=h x (by simp [hop,Op.operands])
   simp only [stAssignM_local hx,em]
   have:stMove tab o x st'=stMove tab o x st:=by
    simp only [stMove,hx.ent]
    cases x with
    | tmp t=>have:=hx.own [];simp only [St.ownOp] at this;simp only [this]
    | _=>rfl
   rw [this]
 | assign x=>
   have hx:=h x (by simp [hop,Op.operands])
   simp only [stAssignM_local hx,stAssign,hx.ent,hx.owned,em]
 | pick x y z=>
   have hx:=h x (by simp [hop,Op.operands])
   have hy:=h y (by simp [hop,Op.operands])
   have hz:=h z (by simp [hop,Op.operands])
   simp only [stPick,hx.ent,hy.ent,hz.ent]
 | alloc e=>
   simp only [em,stAllocX,ef]
   congr 1
   simp only [stAlloc]
   cases tab e with
   | none=>rfl
   | some ty=>
     cases hq:o.dst with
     | none=>rfl
     | some d=>simp only [hd d hq]
 | box e x=>
   have hx:=h x (by simp [hop,Op.operands])
   have hb:stBox tab o e x st'=stBox tab o e x st:=by
    simp only [stBox]
    cases tab e with
    | none=>rfl
    | some ty=>
      cases hq:o.dst with
      | none=>rfl
      | some d=>simp only [hd d hq,hx.ent,hx.owned]
   simp only [hx.ent,hb]
   cases hav:(st.ent x).av with
   | xf r p=>simp only [stBoxX,ef,atX_eq (hx.tr r (by rw [hav];simp [avRes])) p]
   | _=>rfl
 | build t ps=>
   have hp : ∀p∈ps.toList,Look st st' p.2:=fun p hp=>h p.2 (by simp only [hop,Op.operands];exact List.mem_map.2 ⟨p,hp,rfl⟩)
   have ha:=anyX_local (l:=ps.toList.map fun p=>p.2) (fun x hx=>by obtain ⟨p,h1,h2⟩:=List.mem_map.1 hx;rw [←h2];exact hp p h1)
   simp only [stBuild,stBuildX,stBuildR,fillP_local hp,builtOwn_local hp,fillX_local hp,fillR_local hp,em,ef,ha]
 | buildSlice t k ps=>
   have hp : ∀p∈ps.toList,Look st st' p.2:=fun p hp=>h p.2 (by simp only [hop,Op.operands];exact List.mem_map.2 ⟨p,hp,rfl⟩)
   simp only [stBuildSlice,fillS_local hp,starParts_local hp]
 | load t x=>
   have hx:=h x (by simp [hop,Op.operands])
   simp only [stLoad,hx.ent,hx.starOf em]
   cases hav:(st.ent x).av with
   | cel b p=>
     obtain ⟨h1,h2⟩:=hx.box b p hav
     simp only [h1,h2,em,ownedB_local h2]
   | rdr p=>simp only [hx.rd p hav]
   | xp r p k q=>simp only [stLoadP,hx.tr r (by rw [hav];simp [avRes])]
   | cx b p=>
     simp only [stLoadX,hx.tb b p hav]
     split
     ·rename_i ty r q hq
      simp only [atX_eq (hx.tx b p ty r q hav hq) q]
     ·simp only [stLoadR,hx.tr2 b p hav]
      cases hq:st.rb b with
      | none=>rfl
      | some dp=>
        obtain ⟨d,ps⟩:=dp
        simp only []
        cases hp:partAtX p ps with
        | none=>rfl
        | some rq=>
          obtain ⟨r,q⟩:=rq
          simp only []
          rw [atX_eq (hx.tx2 b p d ps r hav hq (mxRes_mem (partAtX_mem hp))) q]
     ·rfl
   | _=>rfl
 | store t x v=>
   have hx:=h x (by simp [hop,Op.operands])
   have hv:=h v (by simp [hop,Op.operands])
   simp only [stStore,hx.ent,hv.ent,hv.owned]
   cases hav:(st.ent x).av with
   | cel b p=>obtain ⟨h1,h2⟩:=hx.box b p hav;simp only [h1]
   | rdr p=>simp only [hx.rd p hav]
   | xp r p k q=>
     have e:=hx.tr r (by rw [hav];simp [avRes])
     have hg : ∀r2 m,(st.ent v).av = .xf r2 m→stGraftX tab o t r p k q r2 st'=stGraftX tab o t r p k q r2 st:=fun r2 m hvv=>by
      have e2:=hv.tr r2 (by rw [hvv];simp [avRes])
      simp only [stGraftX,e,atX_eq e p,atX_eq e2 []]
     have hs:stStoreX tab o t r p k q v st'=stStoreX tab o t r p k q v st:=by simp only [stStoreX,e,atX_eq e p,hv.ent]
     cases hvv:(st.ent v).av with
     | xf r2 m=>cases m with
       | nil=>exact hg r2 [] hvv
       | cons i m=>exact hs
     | _=>exact hs
   | cx b p=>
     cases p with
     | cons i p=>
       cases hvv:(st.ent v).av with
       | xf r q=>simp only [stPartR,hx.tb b _ hav,hx.tr2 b _ hav,atX_eq (hv.tr r (by rw [hvv];simp [avRes])) q]
       | _=>rfl
     | nil=>
       cases hvv:(st.ent v).av with
       | xf r q=>simp only [stPutX,hx.tb b [] hav,hx.tr2 b [] hav,atX_eq (hv.tr r (by rw [hvv];simp [avRes])) q]
       | mx ty x ps=>simp only [stPutR,hx.tb b [] hav]
       | _=>rfl
   | _=>rfl
 | nilCheck x=>simp only [(h x (by simp [hop,Op.operands])).ent]
 | binOp op xt x y yt=>simp only [stBin,(h x (by simp [hop,Op.operands])).ent,(h y (by simp [hop,Op.operands])).ent]
 | unOp op t x=>simp only [stUn,(h x (by simp [hop,Op.operands])).ent]
 | convert s t x=>
   have hx:=h x (by simp [hop,Op.operands])
   simp only [stConv,hx.ent]
   cases hav:(st.ent x).av with
   | xf r p=>simp only [stConvX,atX_eq (hx.tr r (by rw [hav];simp [avRes])) p]
   | _=>rfl
 | makeSlice t x y=>simp only [em,stMakeX,ef,stMakeSlice,(h x (by simp [hop,Op.operands])).ent,(h y (by simp [hop,Op.operands])).ent]
 | slice t x lo hi mx=>
   have h1 : ∀y,lo=some y→Look st st' y:=fun y hy=>h y (by simp [hop,Op.operands,hy])
   have h2 : ∀y,hi=some y→Look st st' y:=fun y hy=>h y (by simp [hop,Op.operands,hy])
   have hx:=h x (by simp [hop,Op.operands])
   simp only [hx.ent]
   cases hav:(st.ent x).av with
   | xf r p=>
     have hio:st'.io r=st.io r:=hx.tr r (by rw [hav];simp [avRes])
     cases p<;>cases mx<;>cases lo<;>simp only [stSliceX,hx.ent,hav,hio,ef,avOpt_local h2]
   | _=>simp only [stSlice,hx.ent,avOpt_local h1,avOpt_local h2]
 | fieldAddr s x f=>
   have hx:=h x (by simp [hop,Op.operands])
   simp only [stFieldAddr,hx.ent]
   cases hav:(st.ent x).av with
   | cel b p=>obtain ⟨h1,h2⟩:=hx.box b p hav;simp only [h1]
   | rdr p=>simp only [hx.rd p hav]
   | xp r p k q=>simp only [stFieldAddrX,atX_eq (hx.tr r (by rw [hav];simp [avRes])) p]
   | cx b p=>
     simp only [stFieldAddrC,hx.tb b p hav]
     split
     ·rename_i ty r q hq
      simp only [atX_eq (hx.tx b p ty r q hav hq) q]
     ·simp only [stFieldAddrR,hx.tr2 b p hav]
     ·rfl
   | _=>rfl
 | field s x f=>simp only [stField,(h x (by simp [hop,Op.operands])).ent]
 | indexAddr t x i=>
   have hx:=h x (by simp [hop,Op.operands])
   simp only [stIndexAddr,hx.ent,hx.starTag em,(h i (by simp [hop,Op.operands])).ent]
   cases hav:(st.ent x).av with
   | xf r p=>simp only [stIndexAddrX,atX_eq (hx.tr r (by rw [hav];simp [avRes])) p,(h i (by simp [hop,Op.operands])).ent]
   | _=>rfl
 | index t x i=>simp only [stIndex,(h x (by simp [hop,Op.operands])).ent,(h i (by simp [hop,Op.operands])).ent]
 | extract x i=>
   have hx:=h x (by simp [hop,Op.operands])
   simp only [stExtract,hx.ent,hx.owned,em]
   cases hav:(st.ent x).av with
   | xt r=>simp only [stExtractX,hx.tr r (by rw [hav];simp [avRes])]
   | _=>rfl
 | call cl=>
   have ha : ∀x∈cl.args.toList,Look st st' x:=fun x hx=>h x (by simp only [hop,Op.operands,Call.operands];simp;right;simpa using hx)
   have hm:(cl.args.toList.map fun x=>(st'.ent x).av)=cl.args.toList.map fun x=>(st.ent x).av:=List.map_congr_left fun x hx=>by rw [(ha x hx).ent]
   have hrdv : ∀(l:List Operand),(∀x∈l,Look st st' x)→(∀p,rdrOf (l.map fun x=>(st.ent x).av)=some (.rdr p)→st'.rd=st.rd)∧(∀b p,rdrOf (l.map fun x=>(st.ent x).av)=some (.cel b p)→st'.box b=st.box b):=by
    intro l
    induction l with
    | nil=>intro _;exact ⟨fun p hh=>(by cases hh),fun b p hh=>(by cases hh)⟩
    | cons y l ih=>
      intro hl
      obtain ⟨i1,i2⟩:=ih (fun x hx=>hl x (by simp [hx]))
      simp only [List.map_cons]
      cases hav:(st.ent y).av with
      | rdr p=>exact ⟨fun q hh=>(hl y (by simp)).rd p hav,fun b q hh=>(by injection hh with hh;cases hh)⟩
      | cel b p=>exact ⟨fun q hh=>(by injection hh with hh;cases hh),fun c q hh=>(by injection hh with hh;injection hh with hh _;subst hh;exact ((hl y (by simp)).box b p hav).1)⟩
      | _=>exact ⟨i1,i2⟩
   have hCall : ∀f,stCall G o f cl.args.toList st'=stCall G o f cl.args.toList st:=by
    intro f
    simp only [stCall,hm]
    cases G f with
    | none=>rfl
    | some s=>
      simp only []
      cases hmu:s.muts with
      | true=>rfl
      | false=>
      simp only [cnd_false]
      cases hfv:isF s.fv with
      | true=>rfl
      | false=>
      simp only [cnd_false]
      obtain ⟨q1,q2⟩:=hrdv _ ha
      cases s.usesRd with
      | true=>
        cases s.opens with
        | true=>rfl
        | false=>
          simp only []
          cases hr:rdrOf (cl.args.toList.map fun x=>(st.ent x).av) with
          | none=>rfl
          | some rv=>
            cases rv with
            | rdr p=>cases p<;>simp only [q1 _ hr]
            | cel b p=>cases p<;>simp only [q2 b _ hr]
            | _=>rfl
      | false=>
        cases s.opens with
        | false=>rfl
        | true=>
          simp only []
          cases hq:o.dst with
          | none=>cases packArgs none s.aty (cl.args.toList.map fun x=>(st.ent x).av)<;>cases Ty.unit.cast s.rdty ()<;>rfl
          | some d=>
            have e:=hd d hq
            cases packArgs none s.aty (cl.args.toList.map fun x=>(st.ent x).av) with
            | none=>rfl
            | some x=>
              cases Ty.cast .unit s.rdty () with
              | none=>rfl
              | some rd=>
                show (match st'.box d with|none=>_|some _=>none)=(match st.box d with|none=>_|some _=>none)
                rw [e]
   simp only []
   split
   ·rename_i f hcal
    have hmx:(cl.args.toList.map fun x=>argX st' (st'.ent x).av)=cl.args.toList.map fun x=>argX st (st.ent x).av:=List.map_congr_left fun x hx=>by rw [(ha x hx).ent,(ha x hx).argX]
    have hFF:stCallF G o f cl.args.toList st'=stCallF G o f cl.args.toList st:=by simp only [stCallF,hm]
    have hC:stCallC G o f cl.args.toList st'=stCallC G o f cl.args.toList st:=by
     simp only [stCallC]
     cases G f with
     | none=>rfl
     | some s=>
       simp only []
       cases hfv:isF s.fv with
       | true=>rfl
       | false=>
       simp only [cnd_false]
       cases hl:cl.args.toList with
       | nil=>rfl
       | cons x0 xs=>
         cases s.opens with
         | true=>rfl
         | false=>
         have hx0:=ha x0 (by rw [hl];simp)
         have hms:(xs.map fun x=>(st'.ent x).av)=xs.map fun x=>(st.ent x).av:=List.map_congr_left fun x hx=>by rw [(ha x (by rw [hl];simp [hx])).ent]
         simp only [hx0.ent,hms]
         cases hav:(st.ent x0).av with
         | xf r p=>
           have e:=hx0.tr r (by rw [hav];simp [avRes])
           cases p with
           | nil=>simp only [atX_eq e []]
           | cons _ _=>rfl
         | _=>rfl
    have hXR:stCallXR G o f cl.args.toList st'=stCallXR G o f cl.args.toList st:=by
     simp only [stCallXR,hm,ef]
     cases G f with
     | none=>rfl
     | some s=>
       simp only []
       cases hfv:isF s.fv with
       | true=>rfl
       | false=>
       simp only [cnd_false]
       obtain ⟨q1,_⟩:=hrdv _ ha
       split
       ·rename_i hr
        rw [q1 _ hr]
       ·rfl
    rw [anyX_local ha,em,hFF,hC,hXR]
    congr 1
    congr 1
    congr 1
    have hX:stCallX G o f cl.args.toList st'=stCallX G o f cl.args.toList st:=by
     simp only [stCallX,hmx,em,ef]
     cases G f with
     | none=>rfl
     | some s=>
       simp only []
       cases hfv:isF s.fv with
       | true=>rfl
       | false=>
       simp only [cnd_false]
       split
       ·rfl
       ·cases hl:cl.args.toList with
        | nil=>rfl
        | cons x0 xs=>
          have hx0:=ha x0 (by rw [hl];simp)
          have hms:(xs.map fun x=>(st'.ent x).av)=xs.map fun x=>(st.ent x).av:=List.map_congr_left fun x hx=>by rw [(ha x (by rw [hl];simp [hx])).ent]
          simp only [hx0.ent,hms]
          cases hav:(st.ent x0).av with
          | xf r p=>
            have e:=hx0.tr r (by rw [hav];simp [avRes])
            simp only [e,atX_eq e p]
          | xe k q=>
            have e:=hx0.tr 0 (by rw [hav];simp [avRes])
            simp only [e]
          | _=>rfl
       ·rfl
    rw [hX]
    congr 1
    exact hCall f
   ·rename_i t hcal
    have e:st'.env t=st.env t:=(h (.tmp t) (by simp [hop,Op.operands,Call.operands,hcal])).ent
    rw [e]
    split
    ·rename_i f _;exact hCall f
    ·rfl
   ·split
    ·rename_i x t hx ht
     have hxx:=ha x (by simp [hx])
     simp only [stLen,hxx.ent]
     cases hav:(st.ent x).av with
     | xf r p=>simp only [stLenX,atX_eq (hxx.tr r (by rw [hav];simp [avRes])) p]
     | _=>rfl
    ·rfl
   ·split
    ·rename_i x y t t' hx ht
     have hxx:=ha x (by simp [hx])
     simp only [hxx.ent]
     cases hav:(st.ent x).av with
     | xf r p=>
       have hio:st'.io r=st.io r:=hxx.tr r (by rw [hav];simp [avRes])
       rfl
     | _=>simp only [stAppend_local hxx (ha y (by simp [hx])),stAppendX,em,ef,(ha y (by simp [hx])).argX,hxx.ent,(ha y (by simp [hx])).ent,hxx.owner]
    ·rfl
   ·split
    ·rename_i x y hx
     simp only [stMinMax,(ha x (by simp [hx])).ent,(ha y (by simp [hx])).ent]
    ·rfl
   ·split
    ·rename_i x y hx
     simp only [stMinMax,(ha x (by simp [hx])).ent,(ha y (by simp [hx])).ent]
    ·rfl
   ·rfl
 | _=>rfl
/-! ### operations that do not touch each other -/
theorem Res.beq_iff {r s:Res} : Res.beq r s=true↔r=s:=by
 cases r<;>cases s<;>simp [Res.beq,Nat.beq_eq]
theorem hit_iff {r:Res} : ∀ {ss:List Res},hit r ss=true↔r∈ss
 | []=>by simp [hit]
 | s::ss=>by
   cases h:Res.beq r s with
   | true=>simp only [hit,h,cnd_true,true_iff];rw [Res.beq_iff.1 h];exact List.mem_cons_self
   | false=>
     have:r≠s:=fun e=>by rw [Res.beq_iff.2 e] at h;cases h
     simp [hit,h,this,hit_iff (ss:=ss)]
theorem hits_false : ∀ {rs ss:List Res},hits rs ss=false→∀r∈rs,r∉ss
 | [],_,_,r,hr=>by cases hr
 | x::rs,ss,h,r,hr=>by
   simp only [hits] at h
   cases hx:hit x ss with
   | true=>rw [hx] at h;cases h
   | false=>
     rw [hx] at h
     rcases List.mem_cons.1 hr with rfl|hr
     ·intro hm;rw [hit_iff.2 hm] at hx;cases hx
     ·exact hits_false h r hr
theorem indep_iff {f g:FP} (h:indep f g=true):(∀r∈f.writes,r∉g.reads)∧(∀r∈f.writes,r∉g.writes)∧(∀r∈g.writes,r∉f.reads):=by
 unfold indep at h
 cases h1:hits f.writes g.reads with
 | true=>rw [h1] at h;cases h
 | false=>
   cases h2:hits f.writes g.writes with
   | true=>rw [h1,h2] at h;cases h
   | false=>
     cases h3:hits g.writes f.reads with
     | true=>rw [h1,h2,h3] at h;cases h
     | false=>exact ⟨hits_false h1,hits_false h2,hits_false h3⟩
theorem mem_dst {u:Upd} {t:Tmp} (h:u.dst=some t):Res.tmp t∈u.writes∧Res.box t∈u.writes:=by
 unfold Upd.writes dstRes;rw [h];simp
theorem mem_dstO {u:Upd} {t:Tmp} (h:u.dst=some t):Res.own t∈u.writes:=by
 unfold Upd.writes dstRes;rw [h];simp
theorem mem_takes {u:Upd} {l:Loc} (h:l∈u.takes):l.res∈u.writes:=by
 unfold Upd.writes;simp;right;left;exact ⟨l,h,rfl⟩
theorem mem_bw {u:Upd} {b:Tmp} {d:Dat} {o':List (List Nat)} {q:List Nat} (h:u.bw=some (b,d,o',q)):Res.box b∈u.writes:=by
 unfold Upd.writes;rw [h];simp
theorem mem_rd {u:Upd} {d:Dat} (h:u.rd=some d):Res.rd∈u.writes:=by
 unfold Upd.writes;rw [h];simp
theorem zju {u:Upd} {t:Tmp} (h:Res.tmp t∉u.writes):(apply st u).env t=⟨(st.env t).av,keepTag u (st.env t).tag⟩:=by
 have:u.dst≠some t:=fun e=>h (mem_dst e).1
 simp [apply,isT_ne.2 this]
theorem keepTag_off {u:Upd} {k:Bool} {l:Loc} (h:l.res∉u.writes):keepTag u (some (k,l))=some (k,l):=by
 cases l with
 | tmp t p=>
   have:u.dst≠some t:=fun e=>h (mem_dstO e)
   simp [keepTag,isT_ne.2 this]
 | box b p=>
   simp only [keepTag]
   cases hb:u.bw with
   | none=>rfl
   | some x=>
     obtain ⟨c,d,o',q⟩:=x
     have:Nat.beq b c=false:=by
      cases hq:Nat.beq b c with
      | true=>exact absurd (mem_bw (by rw [nbeq hq];exact hb)) h
      | false=>rfl
     simp only [this,cnd_false]
theorem keepTag_loc {u:Upd} {x:Option (Bool×Loc)} {k:Bool} {l:Loc} (h:x=some (k,l)) : ∃k',keepTag u x=some (k',l):=by
 subst h
 cases l with
 | tmp t p=>exact ⟨_,rfl⟩
 | box b p=>exact ⟨_,rfl⟩
theorem not_takes {u:Upd} {l:Loc} (h:l.res∉u.writes):inLocs l u.takes=false:=by
 cases hq:inLocs l u.takes with
 | true=>exact absurd (mem_takes (zmh.1 hq)) h
 | false=>rfl
theorem own_off {u:Upd} {l:Loc} (h:l.res∉u.writes):(apply st u).own l=st.own l:=by
 have ht:=not_takes h
 cases l with
 | tmp t p=>
   have:u.dst≠some t:=fun e=>h (mem_dstO e)
   simp [apply,isT_ne.2 this,ht]
 | box b p=>
   simp only [apply]
   cases hb:u.bw with
   | none=>simp [ht]
   | some x=>
     obtain ⟨c,d,o',q⟩:=x
     have:Nat.beq b c=false:=by
      cases hq:Nat.beq b c with
      | true=>exact absurd (mem_bw (by rw [nbeq hq];exact hb)) h
      | false=>rfl
     simp [this,ht]
theorem box_off {u:Upd} {b:Tmp} (h:Res.box b∉u.writes):(apply st u).box b=st.box b:=by
 simp only [apply]
 cases hb:u.bw with
 | none=>rfl
 | some x=>
   obtain ⟨c,d,o',q⟩:=x
   have:Nat.beq b c=false:=by
    cases hq:Nat.beq b c with
    | true=>exact absurd (mem_bw (by rw [nbeq hq];exact hb)) h
    | false=>rfl
   simp [this]
theorem rd_off {u:Upd} (h:Res.rd∉u.writes):(apply st u).rd=st.rd:=by
 simp only [apply]
 cases hr:u.rd with
 | none=>rfl
 | some d=>exact absurd (mem_rd hr) h
theorem mem_xw {u:Upd} {r:Tmp} {d:Dat} (h:u.xw=some (r,d)):Res.box r∈u.writes:=by
 unfold Upd.writes;rw [h];simp
theorem mem_xbw {u:Upd} {b:Tmp} {x:Ty×Option (Tmp×List Nat)} (h:u.xbw=some (b,x)):Res.box b∈u.writes:=by
 unfold Upd.writes;rw [h];simp
theorem mem_xk {u:Upd} {r:Tmp} (h:u.xk=some r):Res.box r∈u.writes:=by
 unfold Upd.writes;rw [h];simp
theorem mem_rw {u:Upd} {b:Tmp} {x:Dat×List (List Nat×Tmp×List Nat)} (h:u.rw=some (b,x)):Res.box b∈u.writes:=by
 unfold Upd.writes;rw [h];simp
theorem rb_off {u:Upd} {b:Tmp} (h:Res.box b∉u.writes):(apply st u).rb b=st.rb b:=by
 simp only [apply]
 cases hb:u.rw with
 | none=>rfl
 | some x=>
   obtain ⟨c,d⟩:=x
   have:Nat.beq b c=false:=by
    cases hq:Nat.beq b c with
    | true=>exact absurd (mem_rw (by rw [nbeq hq];exact hb)) h
    | false=>rfl
   simp [this]
theorem io_off {u:Upd} {b:Tmp} (h:Res.box b∉u.writes):(apply st u).io b=st.io b:=by
 have hk : ∀k,u.xk=some k→Nat.beq b k=false:=fun k hk=>by
  cases hq:Nat.beq b k with
  | true=>exact absurd (mem_xk (by rw [nbeq hq];exact hk)) h
  | false=>rfl
 have hw : ∀c d,u.xw=some (c,d)→Nat.beq b c=false:=fun c d hw=>by
  cases hq:Nat.beq b c with
  | true=>exact absurd (mem_xw (by rw [nbeq hq];exact hw)) h
  | false=>rfl
 unfold apply
 cases hb:u.xw with
 | none=>
   cases hx:u.xk with
   | none=>rfl
   | some k=>simp only [hk k hx,cnd_false]
 | some x=>
   obtain ⟨c,d⟩:=x
   cases hx:u.xk with
   | none=>simp only [hw c d hb,cnd_false]
   | some k=>simp only [hw c d hb,hk k hx,cnd_false]
theorem xb_off {u:Upd} {b:Tmp} (h:Res.box b∉u.writes):(apply st u).xb b=st.xb b:=by
 simp only [apply]
 cases hb:u.xbw with
 | none=>rfl
 | some x=>
   obtain ⟨c,d⟩:=x
   have:Nat.beq b c=false:=by
    cases hq:Nat.beq b c with
    | true=>exact absurd (mem_xbw (by rw [nbeq hq];exact hb)) h
    | false=>rfl
   simp [this]
theorem readsX_off {u:Upd} {x:Operand} (h : ∀r∈readsX (apply st u) x,r∉u.writes):readsX (apply st u) x=readsX st x:=by
 cases x with
 | tmp t=>
   have ht:Res.tmp t∉u.writes:=h _ (by simp [readsX])
   have he:=zju (st:=st) ht
   have hx:xbRes (apply st u) (st.env t).av=xbRes st (st.env t).av:=by
    cases hav:(st.env t).av with
    | cx b p=>
      have:Res.box b∉u.writes:=h _ (by simp [readsX,he,hav,avRes])
      simp only [xbRes,xb_off this,rb_off this]
    | _=>rfl
   simp only [readsX,he,hx]
   cases hq:(st.env t).tag with
   | none=>rfl
   | some kl=>
     obtain ⟨k,l⟩:=kl
     obtain ⟨k',hk⟩:=keepTag_loc (u:=u) hq
     rw [hq] at hk
     rw [hk]
 | _=>rfl
theorem look_off {u:Upd} {x:Operand} (h : ∀r∈readsX st x,r∉u.writes):Look st (apply st u) x:=by
 cases x with
 | tmp t=>
   have ht:Res.tmp t∉u.writes:=h _ (by simp [readsX])
   have he:(apply st u).env t=st.env t:=by
    rw [zju ht]
    cases hq:(st.env t).tag with
    | none=>
      have:st.env t=⟨(st.env t).av,(st.env t).tag⟩:=rfl
      rw [this,hq];rfl
    | some kl=>
      obtain ⟨k,l⟩:=kl
      have hl:l.res∉u.writes:=h _ (by simp [readsX,hq])
      rw [keepTag_off hl]
      have:st.env t=⟨(st.env t).av,(st.env t).tag⟩:=rfl
      rw [this,hq]
   have hto:Res.own t∉u.writes:=h _ (by simp [readsX])
   refine ⟨he,fun p=>own_off (l:=.tmp t p) hto,fun b p hav=>?_,fun p hav=>?_,fun k l hl=>?_,fun r hr=>?_,fun b p hav=>?_,fun b p hav=>?_,fun b p d ps r hav hb hr=>?_,fun b p ty r q hav hb=>?_⟩
   ·have hav:(st.env t).av = .cel b p:=hav
    have hb:Res.box b∉u.writes:=h _ (by simp [readsX,hav,avRes])
    exact ⟨box_off hb,fun q=>own_off (l:=.box b q) hb⟩
   ·have hav:(st.env t).av = .rdr p:=hav
    exact rd_off (h _ (by simp [readsX,hav,avRes]))
   ·have hl:(st.env t).tag=some (k,l):=hl
    have hr:l.res∉u.writes:=h _ (by simp [readsX,hl])
    exact ⟨own_off hr,own_off (by cases l<;>exact hr)⟩
   ·have hr:Res.box r∈avRes (st.env t).av:=hr
    exact io_off (h _ (by simp [readsX,hr]))
   ·have hav:(st.env t).av = .cx b p:=hav
    exact xb_off (h _ (by simp [readsX,hav,avRes]))
   ·have hav:(st.env t).av = .cx b p:=hav
    exact rb_off (h _ (by simp [readsX,hav,avRes]))
   ·have hav:(st.env t).av = .cx b p:=hav
    exact io_off (h _ (by simp [readsX,hav,avRes,xbRes,hb,hr]))
   ·have hav:(st.env t).av = .cx b p:=hav
    exact io_off (h _ (by simp [readsX,hav,avRes,xbRes,hb]))
 | const v=>
   refine ⟨rfl,fun _=>rfl,fun b p hav=>?_,fun p hav=>?_,fun k l hl=>(by cases hl),fun r hr=>?_,fun b p hav=>?_,fun b p hav=>?_,fun b p d ps r hav=>?_,fun b p ty r q hav=>?_⟩
   ·simp only [St.ent] at hav;unfold constAV at hav;split at hav<;>cases hav
   ·simp only [St.ent] at hav;unfold constAV at hav;split at hav<;>cases hav
   ·simp only [St.ent] at hr;unfold constAV at hr;split at hr<;>simp [avRes] at hr
   ·simp only [St.ent] at hav;unfold constAV at hav;split at hav<;>cases hav
   ·simp only [St.ent] at hav;unfold constAV at hav;split at hav<;>cases hav
   ·simp only [St.ent] at hav;unfold constAV at hav;split at hav<;>cases hav
   ·simp only [St.ent] at hav;unfold constAV at hav;split at hav<;>cases hav
 | global g=>exact ⟨rfl,fun _=>rfl,fun _ _ hav=>(by cases hav),fun _ hav=>(by cases hav),fun _ _ hl=>(by cases hl),fun _ hr=>(by simp [St.ent,avRes] at hr),fun _ _ hav=>(by cases hav),fun _ _ hav=>(by cases hav),fun _ _ _ _ _ hav=>(by cases hav),fun _ _ _ _ _ hav=>(by cases hav)⟩
 | func f=>exact ⟨rfl,fun _=>rfl,fun _ _ hav=>(by cases hav),fun _ hav=>(by cases hav),fun _ _ hl=>(by cases hl),fun _ hr=>(by simp [St.ent,avRes] at hr),fun _ _ hav=>(by cases hav),fun _ _ hav=>(by cases hav),fun _ _ _ _ _ hav=>(by cases hav),fun _ _ _ _ _ hav=>(by cases hav)⟩
theorem readsL_mem : ∀ {l:List Operand} {x:Operand} {r:Res},x∈l→r∈readsX st x→r∈readsL st l
 | [],_,_,h,_=>by cases h
 | y::l,x,r,h,hr=>by
   simp only [readsL,List.mem_append]
   rcases List.mem_cons.1 h with rfl|h
   ·exact .inl hr
   ·exact .inr (readsL_mem h hr)
theorem readsL_off {u:Upd} : ∀ {l:List Operand},(∀r∈readsL (apply st u) l,r∉u.writes)→readsL (apply st u) l=readsL st l
 | [],_=>rfl
 | x::l,h=>by
   simp only [readsL] at h ⊢
   rw [readsX_off fun r hr=>h r (by simp [hr]),readsL_off fun r hr=>h r (by simp [hr])]
theorem mkD_apply (u:Upd) (d:Option Tmp):mkD (apply st u) d=mkD st d:=by cases d<;>rfl
theorem exNo_eq {p:Op} {dd:Option Tmp} (hm:mkD st' dd=mkD st dd) (h : ∀t i,p = .extract (.tmp t) i→(st'.env t).av=(st.env t).av):exNo st' dd p=exNo st dd p:=by
 cases p with
 | extract x i=>
   cases x with
   | tmp t=>simp only [exNo,h t i rfl,hm]
   | _=>rfl
 | _=>rfl
theorem exNo_some {p:Op} {dd:Option Tmp} {t:Tmp} (h:exNo st dd p=some t) : ∃i ty v d,p = .extract (.tmp t) i∧(st.env t).av = .tup ty v∧getF ty v i=some d∧(slicePaths d.1=[]∨mkD st dd=true):=by
 cases p with
 | extract x i=>
   cases x with
   | tmp s=>
     simp only [exNo] at h
     cases hav:(st.env s).av with
     | tup ty v=>
       rw [hav] at h;simp only [] at h
       cases hf:getF ty v i with
       | none=>rw [hf] at h;cases h
       | some d=>
         rw [hf] at h;simp only [] at h
         cases hm:mkD st dd with
         | true=>simp only [hm,cnd_true] at h;injection h with h;subst h;exact ⟨i,ty,v,d,rfl,hav,hf,.inr rfl⟩
         | false=>
           simp only [hm,cnd_false] at h
           cases hp:slicePaths d.1 with
           | nil=>rw [hp] at h;injection h with h;subst h;exact ⟨i,ty,v,d,rfl,hav,hf,.inl hp⟩
           | cons a b=>rw [hp] at h;cases h
     | _=>rw [hav] at h;cases h
   | _=>cases h
 | _=>cases h
theorem mvNo_eq {p:Op} (h : ∀t,p = .move (.tmp t)→(st'.env t).av=(st.env t).av):mvNo st' p=mvNo st p:=by
 cases p with
 | move x=>
   cases x with
   | tmp t=>simp only [mvNo,h t rfl]
   | _=>rfl
 | _=>rfl
theorem mvNo_some {p:Op} {t:Tmp} (h:mvNo st p=some t) : ∃q:AV,p = .move (.tmp t)∧(st.env t).av=q∧((∃r,q = .rdr r)∨∃b r,q = .cel b r):=by
 cases p with
 | move x=>
   cases x with
   | tmp s=>
     simp only [mvNo] at h
     cases hav:(st.env s).av with
     | rdr q=>rw [hav] at h;injection h with h;subst h;exact ⟨_,rfl,hav,.inl ⟨q,rfl⟩⟩
     | cel b q=>rw [hav] at h;injection h with h;subst h;exact ⟨_,rfl,hav,.inr ⟨b,q,rfl⟩⟩
     | _=>rw [hav] at h;cases h
   | _=>cases h
 | _=>cases h
theorem exNo_reads {t:Tmp} {i:Nat} (h:o.op = .extract (.tmp t) i):Res.tmp t∈reads st o:=by
 unfold reads
 simp only [List.mem_append]
 right
 cases hq:exNo st o.dst o.op with
 | some s=>
   obtain ⟨j,ty,v,d,e,_⟩:=exNo_some hq
   rw [h] at e;injection e with e _;injection e with e;subst e;simp
 | none=>
   have:mvNo st o.op=none:=by rw [h];rfl
   rw [this]
   exact readsL_mem (x:=.tmp t) (by simp [h,Op.operands]) (by simp [readsX])
theorem mvNo_reads {t:Tmp} (h:o.op = .move (.tmp t)):Res.tmp t∈reads st o:=by
 unfold reads
 simp only [List.mem_append]
 right
 have:exNo st o.dst o.op=none:=by rw [h];rfl
 rw [this]
 cases hq:mvNo st o.op with
 | some s=>
   obtain ⟨q,e,_⟩:=mvNo_some hq
   rw [h] at e;injection e with e;injection e with e;subst e;simp [readsM]
 | none=>exact readsL_mem (x:=.tmp t) (by simp [h,Op.operands]) (by simp [readsX])
theorem readsM_off {u:Upd} {t:Tmp} (h:Res.tmp t∉u.writes):readsM (apply st u) t=readsM st t:=by
 simp only [readsM,zju h]
 cases hq:(st.env t).tag with
 | none=>rfl
 | some kl=>
   obtain ⟨k,l⟩:=kl
   obtain ⟨k',hk⟩:=keepTag_loc (u:=u) hq
   rw [hq] at hk
   rw [hk]
theorem mv_off {u:Upd} {t:Tmp} (h : ∀r∈readsM st t,r∉u.writes):(apply st u).env t=st.env t∧(apply st u).own (.tmp t [])=st.own (.tmp t []):=by
 have ht:Res.tmp t∉u.writes:=h _ (by simp [readsM])
 refine ⟨?_,own_off (l:=.tmp t []) (h _ (by simp [readsM,Loc.res]))⟩
 rw [zju ht]
 cases hq:(st.env t).tag with
 | none=>
   have:st.env t=⟨(st.env t).av,(st.env t).tag⟩:=rfl
   rw [this,hq];rfl
 | some kl=>
   obtain ⟨k,l⟩:=kl
   have hl:l.res∉u.writes:=h _ (by simp [readsM,hq])
   rw [keepTag_off hl]
   have:st.env t=⟨(st.env t).av,(st.env t).tag⟩:=rfl
   rw [this,hq]
theorem reads_off {u:Upd} (h : ∀r∈reads (apply st u) o,r∉u.writes):reads (apply st u) o=reads st o:=by
 have e:exNo (apply st u) o.dst o.op=exNo st o.dst o.op:=exNo_eq (mkD_apply _ _) fun t i hp=>by rw [zju (h _ (exNo_reads hp))]
 have e2:mvNo (apply st u) o.op=mvNo st o.op:=mvNo_eq fun t hp=>by rw [zju (h _ (mvNo_reads hp))]
 have e3 : ∀t,mvNo st o.op=some t→Res.tmp t∉u.writes:=fun t hq=>by
  obtain ⟨q,hp,_⟩:=mvNo_some hq
  exact h _ (mvNo_reads hp)
 unfold reads at h ⊢
 rw [e,e2] at h ⊢
 cases hq:exNo st o.dst o.op with
 | some t=>rfl
 | none=>
   rw [hq] at h
   simp only [] at h ⊢
   cases hm:mvNo st o.op with
   | some t=>simp only [];rw [readsM_off (e3 t hm)]
   | none=>
     rw [hm] at h
     simp only [] at h ⊢
     rw [readsL_off fun r hr=>h r (by simp [hr])]
theorem step_same {u:Upd} (h : ∀r∈reads st o,r∉u.writes):stepC tab G o (apply st u)=stepC tab G o st:=by
 have hdm : ∀d,o.dst=some d→Res.box d∉u.writes:=fun d hd=>h _ (by unfold reads dstRes;rw [hd];simp)
 cases hq:exNo st o.dst o.op with
 | some t=>
   obtain ⟨i,ty,v,d,hp,hav,hf,hs⟩:=exNo_some hq
   have hav':((apply st u).env t).av = .tup ty v:=by rw [zju (h _ (exNo_reads hp))];exact hav
   have e1:(st.ent (.tmp t)).av = .tup ty v:=hav
   have e2:((apply st u).ent (.tmp t)).av = .tup ty v:=hav'
   rcases hs with hs|hs
   ·simp only [stepC,hp,e1,e2,stExtract,hf,hs,List.map_nil,St.owned,mkD_apply]
   ·have hs':mkD (apply st u) o.dst=true:=by rw [mkD_apply];exact hs
    simp only [stepC,hp,e1,e2,stExtract,hf,hs,hs',cnd_true]
 | none=>
   cases hm:mvNo st o.op with
   | some t=>
     obtain ⟨q,hp,hav,hq'⟩:=mvNo_some hm
     have hr : ∀r∈readsM st t,r∉u.writes:=fun r hr=>h r (by unfold reads;rw [hq,hm];simp [hr])
     obtain ⟨k1,k2⟩:=mv_off hr
     have e1:(st.ent (.tmp t))=st.env t:=rfl
     have e2:((apply st u).ent (.tmp t))=st.env t:=k1
     have e3:mkD (apply st u) o.dst=mkD st o.dst:=by cases o.dst<;>rfl
     rcases hq' with ⟨r,rfl⟩|⟨b,r,rfl⟩<;>simp only [stepC,hp,stAssignM,stMove,isSlV,cnd_false,e1,e2,e3,k2,hav]
   | none=>
     refine step_local (fun x hx=>look_off fun r hr=>h r ?_) (fun d hd=>⟨box_off (hdm d hd),io_off (hdm d hd),xb_off (hdm d hd)⟩) rfl
     unfold reads;rw [hq,hm];simp only [List.mem_append];exact .inr (readsL_mem hx hr)
theorem step_off {u:Upd} (h : ∀r∈reads (apply st u) o,r∉u.writes):stepC tab G o (apply st u)=stepC tab G o st:=by
 rw [reads_off h] at h
 exact step_same h
theorem one_off {ops:List Oper} {u' u:Upd} {rs:List Res} (h:oneU tab G ops o (apply st u')=some (u,rs)) (hr : ∀r∈rs,r∉u'.writes):oneU tab G ops o st=some (u,rs):=by
 have rsOf : ∀ {st:St} {rs':List Res},(match stepC tab G o st with
  | some (.ret c u)=>cond (chkB c) (some (u,rs')) none
  | some (.call _ _ F u)=>F.map fun r=>(u r,rs')
  | none=>none:Option (Upd×List Res))=some (u,rs)→rs'=rs:=by
  intro st rs' hgo
  cases hc:stepC tab G o st with
  | none=>rw [hc] at hgo;cases hgo
  | some c=>
    rw [hc] at hgo
    cases c with
    | ret c u2=>
      cases hck:chkB c with
      | false=>simp only [hck] at hgo;cases hgo
      | true=>simp only [hck] at hgo;injection hgo with hgo;injection hgo
    | call rt rdt F u2=>
      cases F with
      | none=>cases hgo
      | some r=>injection hgo with hgo;injection hgo
 unfold oneU at h ⊢
 cases hg:o.guard with
 | none=>
   rw [hg] at h
   simp only [] at h ⊢
   have:=rsOf h
   subst this
   rw [←reads_off hr,←step_off (tab:=tab) (G:=G) hr];exact h
 | some gw=>
   obtain ⟨g,want⟩:=gw
   rw [hg] at h
   simp only [] at h ⊢
   cases hgt:guardT ops g with
   | none=>rw [hgt] at h;cases h
   | some t=>
     rw [hgt] at h
     simp only [] at h ⊢
     have hav:Res.tmp t∈rs→((apply st u').env t).av=(st.env t).av:=fun hm=>by rw [zju (hr _ hm)]
     cases hq:((apply st u').env t).av with
     | dat ty b=>
       rw [hq] at h
       cases ty<;>try (simp only [] at h;cases h;done)
       simp only [] at h
       cases hw:eqW b want with
       | true=>
         rw [hw] at h
         have h:(match stepC tab G o (apply st u') with
          | some (.ret c u)=>cond (chkB c) (some (u,Res.tmp t::reads (apply st u') o)) none
          | some (.call _ _ F u)=>F.map fun r=>(u r,Res.tmp t::reads (apply st u') o)
          | none=>none:Option (Upd×List Res))=some (u,rs):=h
         have:=rsOf h
         subst this
         have hr' : ∀r∈reads (apply st u') o,r∉u'.writes:=fun r hm=>hr r (by simp [hm])
         have ha:=hav (by simp)
         rw [←ha,hq]
         simp only [hw]
         rw [←reads_off hr',←step_off (tab:=tab) (G:=G) hr'];exact h
       | false=>
         rw [hw] at h
         have h:some (skipU o,[Res.tmp t])=some (u,rs):=h
         have hrs:rs=[Res.tmp t]:=by injection h with h;injection h with _ h;exact h.symm
         have ha:=hav (by rw [hrs];simp)
         rw [←ha,hq]
         simp only [hw];exact h
     | skp=>
       rw [hq] at h
       have h:some (skipU o,[Res.tmp t])=some (u,rs):=h
       have hrs:rs=[Res.tmp t]:=by injection h with h;injection h with _ h;exact h.symm
       have ha:=hav (by rw [hrs];simp)
       rw [←ha,hq];exact h
     | _=>rw [hq] at h;simp only [] at h;cases h
end
end Go.Den
namespace Go.Den
section
variable {P:Program} {tab:Tab} {G:Gam}
variable {st st':St} {o:Oper}
theorem keepTag_comm (u1 u2:Upd) (x:Option (Bool×Loc)):keepTag u1 (keepTag u2 x)=keepTag u2 (keepTag u1 x):=by
 cases x with
 | none=>rfl
 | some kl=>
   obtain ⟨k,l⟩:=kl
   cases l with
   | tmp t p=>
     simp only [keepTag]
     cases isT t u1.dst<;>cases isT t u2.dst<;>rfl
   | box b p=>
     simp only [keepTag]
     cases u1.bw with
     | none=>rfl
     | some x1=>
       cases u2.bw with
       | none=>rfl
       | some x2=>
         obtain ⟨c1,_⟩:=x1
         obtain ⟨c2,_⟩:=x2
         simp only []
         cases Nat.beq b c1<;>cases Nat.beq b c2<;>rfl
theorem tagRes_off {u u':Upd} (h : ∀r∈tagRes u,r∉u'.writes):keepTag u' u.ent.tag=u.ent.tag:=by
 unfold tagRes at h
 cases hq:u.ent.tag with
 | none=>rfl
 | some kl=>
   obtain ⟨k,l⟩:=kl
   rw [hq] at h
   exact keepTag_off (h _ (by simp))
theorem isT_true {t:Tmp} {d:Option Tmp} (h:isT t d=true):d=some t:=by
 cases d with
 | none=>cases h
 | some e=>have:=nbeq h;subst this;rfl
theorem apply_comm {u1 u2:Upd} (hw : ∀r∈u1.writes,r∉u2.writes) (h1 : ∀r∈tagRes u1,r∉u2.writes) (h2 : ∀r∈tagRes u2,r∉u1.writes):apply (apply st u1) u2=apply (apply st u2) u1:=by
 have hw' : ∀r∈u2.writes,r∉u1.writes:=fun r hr hq=>hw r hq hr
 have henv:(apply (apply st u1) u2).env=(apply (apply st u2) u1).env:=by
  funext t
  have e1:=tagRes_off h1
  have e2:=tagRes_off h2
  cases hq1:isT t u1.dst with
  | true=>
    have hd:=isT_true hq1
    have hn:isT t u2.dst=false:=isT_ne.2 fun e=>hw _ (mem_dst hd).1 (mem_dst e).1
    simp only [apply,hq1,hn,cnd_true,cnd_false,e1]
  | false=>
    cases hq2:isT t u2.dst with
    | true=>simp only [apply,hq1,hq2,cnd_true,cnd_false,e2]
    | false=>simp only [apply,hq1,hq2,cnd_false,keepTag_comm u1 u2]
 have hrd:(apply (apply st u1) u2).rd=(apply (apply st u2) u1).rd:=by
  simp only [apply]
  cases hq1:u1.rd with
  | none=>rfl
  | some d1=>
    cases hq2:u2.rd with
    | none=>rfl
    | some d2=>exact absurd (mem_rd hq2) (hw _ (mem_rd hq1))
 have hbox:(apply (apply st u1) u2).box=(apply (apply st u2) u1).box:=by
  funext b
  by_cases hb1:Res.box b∈u1.writes
  ·have hb2:=hw _ hb1
   rw [box_off hb2]
   simp only [apply]
   cases hq1:u1.bw with
   | none=>
     simp only []
     cases hq2:u2.bw with
     | none=>rfl
     | some x2=>
       obtain ⟨c,d,o',q⟩:=x2
       have:Nat.beq b c=false:=by
        cases hq:Nat.beq b c with
        | true=>exact absurd (mem_bw (by rw [nbeq hq];exact hq2)) hb2
        | false=>rfl
       simp [this]
   | some x1=>
     obtain ⟨c1,d1,o1,q1⟩:=x1
     simp only []
     cases hq2:u2.bw with
     | none=>rfl
     | some x2=>
       obtain ⟨c,d,o',q⟩:=x2
       have:Nat.beq b c=false:=by
        cases hq:Nat.beq b c with
        | true=>exact absurd (mem_bw (by rw [nbeq hq];exact hq2)) hb2
        | false=>rfl
       simp [this]
  ·rw [box_off hb1]
   simp only [apply]
   cases hq2:u2.bw with
   | none=>exact box_off hb1
   | some x2=>
     obtain ⟨c,d,o',q⟩:=x2
     simp only []
     have:_=st.box b:=box_off (st:=st) hb1
     simp only [apply] at this
     rw [this]
 have hown:(apply (apply st u1) u2).own=(apply (apply st u2) u1).own:=by
  funext l
  by_cases hb1:l.res∈u1.writes
  ·have hb2:=hw _ hb1
   rw [own_off hb2]
   have e2:=own_off (st:=st) hb2
   have : ∀ {s s':St},s.own l=s'.own l→(apply s u1).own l=(apply s' u1).own l:=by
    intro s s' he
    cases l with
    | tmp t p=>simp only [apply,he]
    | box b p=>
      simp only [apply]
      cases u1.bw with
      | none=>simp only [he]
      | some x=>simp only [he]
   exact (this e2).symm
  ·rw [own_off hb1]
   have e1:=own_off (st:=st) hb1
   have : ∀ {s s':St},s.own l=s'.own l→(apply s u2).own l=(apply s' u2).own l:=by
    intro s s' he
    cases l with
    | tmp t p=>simp only [apply,he]
    | box b p=>
      simp only [apply]
      cases u2.bw with
      | none=>simp only [he]
      | some x=>simp only [he]
   exact this e1
 have hio:(apply (apply st u1) u2).io=(apply (apply st u2) u1).io:=by
  have cong : ∀(u:Upd) (b:Tmp) {s s':St},s.io b=s'.io b→(apply s u).io b=(apply s' u).io b:=by
   intro u b s s' he
   unfold apply
   cases u.xw with
   | none=>cases u.xk<;>simp only [he]
   | some x=>cases u.xk<;>simp only [he]
  funext b
  by_cases hb1:Res.box b∈u1.writes
  ·have hb2:=hw _ hb1
   rw [io_off hb2]
   exact (cong u1 b (io_off hb2)).symm
  ·rw [io_off hb1]
   exact cong u2 b (io_off hb1)
 have hxb:(apply (apply st u1) u2).xb=(apply (apply st u2) u1).xb:=by
  have cong : ∀(u:Upd) (b:Tmp) {s s':St},s.xb b=s'.xb b→(apply s u).xb b=(apply s' u).xb b:=by
   intro u b s s' he
   simp only [apply]
   cases u.xbw with
   | none=>exact he
   | some x=>simp only [he]
  funext b
  by_cases hb1:Res.box b∈u1.writes
  ·have hb2:=hw _ hb1
   rw [xb_off hb2]
   exact (cong u1 b (xb_off hb2)).symm
  ·rw [xb_off hb1]
   exact cong u2 b (xb_off hb1)
 have hrb:(apply (apply st u1) u2).rb=(apply (apply st u2) u1).rb:=by
  have cong : ∀(u:Upd) (b:Tmp) {s s':St},s.rb b=s'.rb b→(apply s u).rb b=(apply s' u).rb b:=by
   intro u b s s' he
   simp only [apply]
   cases u.rw with
   | none=>exact he
   | some x=>simp only [he]
  funext b
  by_cases hb1:Res.box b∈u1.writes
  ·have hb2:=hw _ hb1
   rw [rb_off hb2]
   exact (cong u1 b (rb_off hb2)).symm
  ·rw [rb_off hb1]
   exact cong u2 b (rb_off hb1)
 have ext : ∀ {s s':St},s.env=s'.env→s.box=s'.box→s.own=s'.own→s.rd=s'.rd→s.kn=s'.kn→s.io=s'.io→s.xb=s'.xb→s.mkt=s'.mkt→s.rb=s'.rb→s=s':=by
  intro s s' a b c d e f g k l
  cases s;cases s'
  simp only at a b c d e f g k l
  subst a;subst b;subst c;subst d;subst e;subst f;subst g;subst k;subst l;rfl
 exact ext henv hbox hown hrd rfl hio hxb rfl hrb
theorem readsX_on {u:Upd} {x:Operand} (h : ∀r∈readsX st x,r∉u.writes):readsX (apply st u) x=readsX st x:=by
 cases x with
 | tmp t=>
   have he:(apply st u).env t=st.env t:=(look_off (x:=.tmp t) h).ent
   have hx:xbRes (apply st u) (st.env t).av=xbRes st (st.env t).av:=by
    cases hav:(st.env t).av with
    | cx b p=>
      have:Res.box b∉u.writes:=h _ (by simp [readsX,hav,avRes])
      simp only [xbRes,xb_off this,rb_off this]
    | _=>rfl
   simp only [readsX,he,hx]
 | _=>rfl
theorem readsL_on {u:Upd} : ∀ {l:List Operand},(∀r∈readsL st l,r∉u.writes)→readsL (apply st u) l=readsL st l
 | [],_=>rfl
 | x::l,h=>by
   simp only [readsL] at h ⊢
   rw [readsX_on fun r hr=>h r (by simp [hr]),readsL_on fun r hr=>h r (by simp [hr])]
theorem reads_on {u:Upd} (h : ∀r∈reads st o,r∉u.writes):reads (apply st u) o=reads st o:=by
 have e:exNo (apply st u) o.dst o.op=exNo st o.dst o.op:=exNo_eq (mkD_apply _ _) fun t i hp=>by rw [zju (h _ (exNo_reads hp))]
 have e2:mvNo (apply st u) o.op=mvNo st o.op:=mvNo_eq fun t hp=>by rw [zju (h _ (mvNo_reads hp))]
 have e3 : ∀t,mvNo st o.op=some t→Res.tmp t∉u.writes:=fun t hq=>by
  obtain ⟨q,hp,_⟩:=mvNo_some hq
  exact h _ (mvNo_reads hp)
 unfold reads at h ⊢
 rw [e,e2]
 cases hq:exNo st o.dst o.op with
 | some t=>rfl
 | none=>
   rw [hq] at h
   simp only [] at h ⊢
   cases hm:mvNo st o.op with
   | some t=>simp only [];rw [readsM_off (e3 t hm)]
   | none=>
     rw [hm] at h
     simp only [] at h ⊢
     rw [readsL_on fun r hr=>h r (by simp [hr])]
theorem step_on {u:Upd} (h : ∀r∈reads st o,r∉u.writes):stepC tab G o (apply st u)=stepC tab G o st:=step_same h
theorem one_on {ops:List Oper} {u' u:Upd} {rs:List Res} (h:oneU tab G ops o st=some (u,rs)) (hr : ∀r∈rs,r∉u'.writes):oneU tab G ops o (apply st u')=some (u,rs):=by
 have rsOf : ∀ {st:St} {rs':List Res},(match stepC tab G o st with
  | some (.ret c u)=>cond (chkB c) (some (u,rs')) none
  | some (.call _ _ F u)=>F.map fun r=>(u r,rs')
  | none=>none:Option (Upd×List Res))=some (u,rs)→rs'=rs:=by
  intro st rs' hgo
  cases hc:stepC tab G o st with
  | none=>rw [hc] at hgo;cases hgo
  | some c=>
    rw [hc] at hgo
    cases c with
    | ret c u2=>
      cases hck:chkB c with
      | false=>simp only [hck] at hgo;cases hgo
      | true=>simp only [hck] at hgo;injection hgo with hgo;injection hgo
    | call rt rdt F u2=>
      cases F with
      | none=>cases hgo
      | some r=>injection hgo with hgo;injection hgo
 unfold oneU at h ⊢
 cases hg:o.guard with
 | none=>
   rw [hg] at h
   simp only [] at h ⊢
   have:=rsOf h
   subst this
   rw [reads_on hr,step_on (tab:=tab) (G:=G) hr];exact h
 | some gw=>
   obtain ⟨g,want⟩:=gw
   rw [hg] at h
   simp only [] at h ⊢
   cases hgt:guardT ops g with
   | none=>rw [hgt] at h;cases h
   | some t=>
     rw [hgt] at h
     simp only [] at h ⊢
     have hav:Res.tmp t∈rs→((apply st u').env t).av=(st.env t).av:=fun hm=>by rw [zju (hr _ hm)]
     cases hq:(st.env t).av with
     | dat ty b=>
       rw [hq] at h
       cases ty<;>try (simp only [] at h;cases h;done)
       simp only [] at h
       cases hw:eqW b want with
       | true=>
         rw [hw] at h
         have h:(match stepC tab G o st with
          | some (.ret c u)=>cond (chkB c) (some (u,Res.tmp t::reads st o)) none
          | some (.call _ _ F u)=>F.map fun r=>(u r,Res.tmp t::reads st o)
          | none=>none:Option (Upd×List Res))=some (u,rs):=h
         have:=rsOf h
         subst this
         have hr' : ∀r∈reads st o,r∉u'.writes:=fun r hm=>hr r (by simp [hm])
         have ha:=hav (by simp)
         rw [ha,hq]
         simp only [hw]
         rw [reads_on hr',step_on (tab:=tab) (G:=G) hr'];exact h
       | false=>
         rw [hw] at h
         have h:some (skipU o,[Res.tmp t])=some (u,rs):=h
         have hrs:rs=[Res.tmp t]:=by injection h with h;injection h with _ h;exact h.symm
         have ha:=hav (by rw [hrs];simp)
         rw [ha,hq]
         simp only [hw];exact h
     | skp=>
       rw [hq] at h
       have h:some (skipU o,[Res.tmp t])=some (u,rs):=h
       have hrs:rs=[Res.tmp t]:=by injection h with h;injection h with _ h;exact h.symm
       have ha:=hav (by rw [hrs];simp)
       rw [ha,hq];exact h
     | _=>rw [hq] at h;simp only [] at h;cases h
/-! ### a run, its operations listed with what they change -/
structure Item where
 i:Nat
 o:Oper
 u:Upd
 rs:List Res
def Item.fp (x:Item):FP:=⟨tagRes x.u++x.rs,x.u.writes⟩
def RunI (tab:Tab) (G:Gam) (ops:List Oper):List Item→St→St→Prop
 | [],st,st'=>st=st'
 | x::xs,st,st'=>oneU tab G ops x.o st=some (x.u,x.rs)∧RunI tab G ops xs (apply st x.u) st'
theorem runI_swap {ops:List Oper} {x y:Item} {r:List Item} (hi:indep x.fp y.fp=true) (h:RunI tab G ops (x::y::r) st st'):RunI tab G ops (y::x::r) st st':=by
 obtain ⟨h1,h2,h3⟩:=h
 obtain ⟨i1,i2,i3⟩:=indep_iff hi
 have i3' : ∀r∈x.fp.reads,r∉y.fp.writes:=fun r hr hq=>i3 r hq hr
 refine ⟨one_off h2 (fun r hr hq=>i1 r hq (by simp [Item.fp,hr])),one_on h1 (fun r hr=>i3' r (by simp [Item.fp,hr])),?_⟩
 rw [apply_comm (fun r hr hq=>i2 r hq hr) (fun r hr hq=>i1 r hq (by simp [Item.fp,hr])) (fun r hr=>i3' r (by simp [Item.fp,hr]))]
 exact h3
theorem runI_bubble {ops:List Oper} {y:Item} {post:List Item} : ∀ {pre:List Item} {st:St},(∀x∈pre,indep x.fp y.fp=true)→RunI tab G ops (pre++y::post) st st'→RunI tab G ops (y::(pre++post)) st st'
 | [],_,_,h=>h
 | x::pre,st,hi,h=>by
   obtain ⟨h1,h2⟩:=h
   have:=runI_bubble (fun z hz=>hi z (by simp [hz])) h2
   exact runI_swap (hi x (by simp)) ⟨h1,this⟩
theorem runT_items {ops:List Oper} : ∀ {rest:List Oper} {i:Nat} {st:St} {fs:List FP},runT tab G ops rest st=some (st',fs) →
 ∃xs:List Item,RunI tab G ops xs st st'∧xs.map Item.fp=fs∧xs.map (·.o)=rest∧xs.map (·.i)=List.range' i rest.length:=by
 intro rest
 induction rest with
 | nil=>intro i st fs h;injection h with h;injection h with h1 h2;subst h1;subst h2;exact ⟨[],rfl,rfl,rfl,rfl⟩
 | cons o rest ih=>
   intro i st fs h
   simp only [runT] at h
   cases hu:oneU tab G ops o st with
   | none=>rw [hu] at h;cases h
   | some ur=>
     obtain ⟨u,rs⟩:=ur
     rw [hu] at h;simp only [] at h
     cases hrest:runT tab G ops rest (apply st u) with
     | none=>rw [hrest] at h;cases h
     | some sf=>
       obtain ⟨s',fs'⟩:=sf
       rw [hrest] at h
       injection h with h;injection h with h1 h2;subst h1;subst h2
       obtain ⟨xs,k1,k2,k3,k4⟩:=ih (i:=i+1) hrest
       exact ⟨⟨i,o,u,rs⟩::xs,⟨hu,k1⟩,by simp [k2,Item.fp],by simp [k3],by simp [k4,List.range'_succ]⟩
end
end Go.Den
namespace Go.Den
section
variable {P:Program} {tab:Tab} {G:Gam} {w0:Base} {lim0:Lim} {rb:Option Nat} {n:Nat}
variable {st st':St} {a:Act} {w:World} {lim:Lim} {β:Mp}
theorem bget_bor : ∀ {k:Nat} {xs ys:List Bool},bget k (bor xs ys)=true→bget k xs=true∨bget k ys=true
 | _,[],_,h=>.inr h
 | 0,true::_,[],_=>.inl rfl
 | 0,false::_,[],h=>by cases h
 | _+1,_::_,[],h=>.inl h
 | 0,x::xs,y::ys,h=>by
   cases x with
   | true=>exact .inl rfl
   | false=>exact .inr h
 | k+1,x::xs,y::ys,h=>bget_bor (k:=k) (xs:=xs) (ys:=ys) h
theorem bget_bset : ∀ {k m:Nat} {xs:List Bool},bget k (bset m xs)=true→k=m∨bget k xs=true
 | 0,0,_,_=>.inl rfl
 | k+1,0,[],h=>by cases k<;>cases h
 | k+1,0,_::_,h=>.inr h
 | 0,m+1,[],h=>by cases h
 | 0,m+1,_::_,h=>.inr h
 | k+1,m+1,[],h=>by
   rcases bget_bset (k:=k) (m:=m) (xs:=[]) h with h|h
   ·exact .inl (by rw [h])
   ·cases k<;>cases h
 | k+1,m+1,_::xs,h=>by
   rcases bget_bset (k:=k) (m:=m) (xs:=xs) h with h|h
   ·exact .inl (by rw [h])
   ·exact .inr h
theorem bget_maskOf {acc:List (List Bool)} {k:Nat} : ∀ {es:List Edge},bget k (maskOf acc es)=true→∃e∈es,bindsAny e=true∧(k=e.on∨bget k (nthM e.on acc)=true)
 | [],h=>by cases k<;>cases h
 | e::es,h=>by
   simp only [maskOf] at h
   cases hb:bindsAny e with
   | true=>
     rw [hb] at h
     rcases bget_bor h with h|h
     ·exact ⟨e,by simp,hb,bget_bset h⟩
     ·obtain ⟨e',h1,h2⟩:=bget_maskOf h
      exact ⟨e',by simp [h1],h2⟩
   | false=>
     rw [hb] at h
     obtain ⟨e',h1,h2⟩:=bget_maskOf h
     exact ⟨e',by simp [h1],h2⟩
theorem nthM_app : ∀ {acc more:List (List Bool)} {k j:Nat},bget j (nthM k acc)=true→nthM k (acc++more)=nthM k acc
 | [],_,k,j,h=>by cases k<;>cases j<;>cases h
 | m::acc,more,0,_,_=>rfl
 | m::acc,more,k+1,j,h=>nthM_app (acc:=acc) (k:=k) (j:=j) h
theorem nthM_at : ∀ {acc more:List (List Bool)} {m:List Bool},nthM acc.length (acc++m::more)=m
 | [],_,_=>rfl
 | _::acc,more,m=>nthM_at (acc:=acc)
theorem masks_ext : ∀ {os:List Oper} {acc:List (List Bool)},∃more,masks os acc=acc++more
 | [],acc=>⟨[],by simp [masks]⟩
 | o::os,acc=>by
   obtain ⟨more,h⟩:=masks_ext (os:=os) (acc:=acc++[maskOf acc o.after.toList])
   exact ⟨maskOf acc o.after.toList::more,by simp [masks,h]⟩
theorem masks_spec : ∀ {os:List Oper} {acc:List (List Bool)} {i k:Nat} {o:Oper},os[i]?=some o→bget k (nthM (acc.length+i) (masks os acc))=true →
 ∃e∈o.after.toList,bindsAny e=true∧(k=e.on∨bget k (nthM e.on (masks os acc))=true)
 | [],_,_,_,_,h,_=>by cases h
 | x::os,acc,0,k,o,h,hb=>by
   injection h with h;subst h
   simp only [masks] at hb ⊢
   obtain ⟨more,hm⟩:=masks_ext (os:=os) (acc:=acc++[maskOf acc x.after.toList])
   rw [hm] at hb ⊢
   rw [List.append_assoc] at hb ⊢
   have:nthM (acc.length+0) (acc++([maskOf acc x.after.toList]++more))=maskOf acc x.after.toList:=nthM_at
   rw [this] at hb
   obtain ⟨e,h1,h2,h3⟩:=bget_maskOf hb
   refine ⟨e,h1,h2,h3.imp id fun h=>?_⟩
   rw [nthM_app h];exact h
 | x::os,acc,i+1,k,o,h,hb=>by
   simp only [masks] at hb ⊢
   refine masks_spec (os:=os) (i:=i) (by simpa using h) ?_
   have:(acc++[maskOf acc x.after.toList]).length+i=acc.length+(i+1):=by simp;omega
   rw [this];exact hb
theorem edgesBack_spec {i:Nat} : ∀ {es:List Edge},edgesBack i es=true→∀e∈es,bindsAny e=true→e.on<i
 | [],_,e,he,_=>by cases he
 | x::es,h,e,he,hb=>by
   simp only [edgesBack] at h
   cases hq:cnd (bindsAny x) (Nat.blt x.on i) true with
   | false=>rw [hq] at h;cases h
   | true=>
     rw [hq] at h
     rcases List.mem_cons.1 he with rfl|he
     ·rw [hb] at hq;simpa [Nat.blt_eq] using hq
     ·exact edgesBack_spec h e he hb
theorem edgesOk_spec : ∀ {os:List Oper} {i j:Nat} {o:Oper},edgesOk os i=true→os[j]?=some o→∀e∈o.after.toList,bindsAny e=true→e.on<i+j
 | [],_,_,_,_,h=>by cases h
 | x::os,i,j,o,h,hj=>by
   simp only [edgesOk] at h
   cases hq:edgesBack i x.after.toList with
   | false=>rw [hq] at h;cases h
   | true=>
     rw [hq] at h
     cases j with
     | zero=>injection hj with hj;subst hj;exact edgesBack_spec hq
     | succ j=>
       have:=edgesOk_spec (os:=os) (i:=i+1) (j:=j) h (by simpa using hj)
       intro e he hb
       have:=this e he hb
       omega
theorem pairOk_spec {m:List Bool} {f:FP} : ∀ {gs:List FP} {j:Nat},pairOk m f gs j=true→∀(k:Nat) g,gs[k]?=some g→bget (j+k) m=true∨indep g f=true
 | [],_,_,_,_,h=>by cases h
 | x::gs,j,h,k,g,hk=>by
   simp only [pairOk] at h
   cases hq:cnd (bget j m) true (indep x f) with
   | false=>rw [hq] at h;cases h
   | true=>
     rw [hq] at h
     cases k with
     | zero=>
       injection hk with hk;subst hk
       rw [Nat.add_zero]
       cases hb:bget j m with
       | true=>exact .inl rfl
       | false=>rw [hb] at hq;exact .inr hq
     | succ k=>
       have:=pairOk_spec (j:=j+1) h k g (by simpa using hk)
       rwa [Nat.add_assoc,Nat.add_comm 1 k] at this
theorem pairsOk_spec {ms:List (List Bool)} : ∀ {fs seen:List FP},pairsOk ms seen fs seen.length=true→∀(k j:Nat) g f,k<j→(seen++fs)[k]?=some g→(seen++fs)[j]?=some f→seen.length≤j→bget k (nthM j ms)=true∨indep g f=true
 | [],seen,_,k,j,g,f,_,_,hj,hl=>by
   rw [List.append_nil] at hj
   have:=(List.getElem?_eq_some_iff.1 hj).1;omega
 | x::fs,seen,h,k,j,g,f,hkj,hk,hj,hl=>by
   simp only [pairsOk] at h
   cases hq:pairOk (nthM seen.length ms) x seen 0 with
   | false=>rw [hq] at h;cases h
   | true=>
     rw [hq] at h
     have h:pairsOk ms (seen++[x]) fs (seen++[x]).length=true:=by simpa using h
     by_cases he:j=seen.length
     ·subst he
      have hf:f=x:=by
       rw [List.getElem?_append_right (Nat.le_refl _)] at hj
       simpa using hj.symm
      subst hf
      rw [List.getElem?_append_left hkj] at hk
      have:=pairOk_spec hq k g hk
      rwa [Nat.zero_add] at this
     ·refine pairsOk_spec h k j g f hkj (by simpa using hk) (by simpa using hj) (by simp;omega)
theorem binds_any (e:Edge):Region.binds .any e=bindsAny e:=by
 unfold Region.binds bindsAny
 cases e.ground<;>rfl
theorem ready_mem {ops:Array Oper} {L:Array Bool} {i:Nat} (h:i∈Region.ready .any ops L):i<ops.size∧L.getD i true=false∧∃o,ops[i]?=some o∧∀e∈o.after.toList,bindsAny e=true→L.getD e.on false=true:=by
 unfold Region.ready at h
 simp only [List.mem_filter,List.mem_range,Bool.and_eq_true] at h
 obtain ⟨h1,h2,h3⟩:=h
 refine ⟨h1,by simpa using h2,ops[i],by simp [h1],fun e he hb=>?_⟩
 have:(ops[i]?).map (·.after.all fun e=>!Region.binds .any e||L.getD e.on false)=some (ops[i].after.all fun e=>!Region.binds .any e||L.getD e.on false):=by simp [h1]
 rw [this] at h3
 simp only [Option.getD_some] at h3
 rw [←Array.all_toList,List.all_eq_true] at h3
 have:=h3 e he
 rw [binds_any,hb] at this
 simpa using this
theorem ready_of {ops:Array Oper} {L:Array Bool} {i:Nat} {o:Oper} (h1:L.getD i true=false) (h2:ops[i]?=some o) (h3 : ∀e∈o.after.toList,bindsAny e=true→L.getD e.on false=true):i∈Region.ready .any ops L:=by
 unfold Region.ready
 have hi:=(Array.getElem?_eq_some_iff.1 h2).1
 simp only [List.mem_filter,List.mem_range,Bool.and_eq_true]
 refine ⟨hi,by simpa using h1,?_⟩
 rw [h2]
 simp only [Option.map_some,Option.getD_some]
 rw [←Array.all_toList,List.all_eq_true]
 intro e he
 rw [binds_any]
 cases hb:bindsAny e with
 | false=>rfl
 | true=>simpa using h3 e he hb
structure Left (ops:Array Oper) (ms:List (List Bool)) (L:Array Bool) (xs:List Item):Prop where
 size:L.size=ops.size
 at' : ∀x∈xs,ops[x.i]?=some x.o
 inc:xs.Pairwise fun x y=>x.i<y.i
 pairs:xs.Pairwise fun x y=>bget x.i (nthM y.i ms)=true∨indep x.fp y.fp=true
 all : ∀i,i<ops.size→L.getD i true=false→∃x∈xs,x.i=i
 not : ∀x∈xs,L.getD x.i true=false
 closed : ∀(i k:Nat),L.getD i false=true→bget k (nthM i ms)=true→L.getD k false=true
theorem getD_set {L:Array Bool} {i j:Nat} {d:Bool} : (L.setIfInBounds i true).getD j d=if i=j∧j<L.size then true else L.getD j d:=by
 rw [Array.getD_eq_getD_getElem?,Array.getD_eq_getD_getElem?,Array.getElem?_setIfInBounds]
 by_cases h:i=j
 ·subst h
  by_cases hl:i<L.size
  ·simp [hl]
  ·simp [hl,Array.getElem?_eq_none (Nat.le_of_not_lt hl)]
 ·simp [h]
theorem any_sound (hT:TabOk P tab) (hG:GamOk P G) {ops:Array Oper} {ms:List (List Bool)} (hms:ms=masks ops.toList []) (hE:edgesOk ops.toList 0=true) {Q:Exit→Act→World→Prop} (hrb : ∀k,some k=rb→k<w0.heap.size)
 (hd : ∀o∈ops.toList,∀d,o.dst=some d→d<n) (hQ : ∀a' w' lim' β',Sim w0 lim0 rb n st' a' w' lim' β'→Q .normal a' w') :
 ∀(fuel:Nat) (L:Array Bool) (xs:List Item) (st:St) (a:Act) (w:World) (lim:Lim) (β:Mp),xs.length=fuel→Left ops ms L xs→RunI tab G ops.toList xs st st'→Sim w0 lim0 rb n st a w lim β→wpAny P .any ops Q fuel L a w:=by
 intro fuel
 induction fuel with
 | zero=>
   intro L xs st a w lim β hl hx hr h
   have:xs=[]:=List.length_eq_zero_iff.1 hl
   subst this
   have hr:st=st':=hr
   subst hr
   refine ⟨?_,hQ _ _ _ _ h⟩
   cases hq:Region.ready .any ops L with
   | nil=>rfl
   | cons i is=>
     obtain ⟨h1,h2,_⟩:=ready_mem (i:=i) (by rw [hq];simp)
     obtain ⟨x,hx',_⟩:=hx.all i h1 h2
     cases hx'
 | succ fuel ih=>
   intro L xs st a w lim β hl hx hr h
   refine ⟨fun hnil=>?_,fun i hi=>?_⟩
   · -- the first that is left is ready
    exfalso
    cases xs with
    | nil=>simp at hl
    | cons x xs=>
      have:x.i∈Region.ready .any ops L:=by
       refine ready_of (hx.not x (by simp)) (hx.at' x (by simp)) fun e he hb=>?_
       have hop:ops.toList[x.i]?=some x.o:=by simpa using hx.at' x (by simp)
       have hlt:=edgesOk_spec hE hop e he hb
       rw [Nat.zero_add] at hlt
       have hxs:=(Array.getElem?_eq_some_iff.1 (hx.at' x (by simp))).1
       have hsz:e.on<L.size:=by rw [hx.size];omega
       cases hq:L.getD e.on true with
       | true=>
         rw [Array.getD_eq_getD_getElem?,Array.getElem?_eq_getElem hsz] at hq ⊢
         simpa using hq
       | false=>
         obtain ⟨y,hy,hyi⟩:=hx.all e.on (by rw [←hx.size];exact hsz) hq
         rcases List.mem_cons.1 hy with rfl|hy
         ·omega
         ·have:=(List.pairwise_cons.1 hx.inc).1 y hy
          omega
      rw [hnil] at this;cases this
   ·obtain ⟨h1,h2,o,h3,h4⟩:=ready_mem hi
    obtain ⟨y,hy,hyi⟩:=hx.all i h1 h2
    have hyo:y.o=o:=by
     have:=hx.at' y hy
     rw [hyi,h3] at this;injection this with this;exact this.symm
    obtain ⟨pre,post,rfl⟩:=List.append_of_mem hy
    -- what comes before it in every order is done
    have hmask : ∀k,bget k (nthM i ms)=true→L.getD k false=true:=by
     intro k hk
     rw [hms] at hk
     have hop:ops.toList[i]?=some o:=by simpa using h3
     obtain ⟨e,he,hb,hk'⟩:=masks_spec (acc:=[]) hop (by simpa using hk)
     have hon:=h4 e he hb
     rcases hk' with rfl|hk'
     ·exact hon
     ·exact hx.closed e.on k hon (by rw [hms];exact hk')
    have hpre : ∀x∈pre,indep x.fp y.fp=true:=by
     intro x hxm
     have hp:=(List.pairwise_append.1 hx.pairs).2.2 x hxm y (by simp)
     rcases hp with hp|hp
     ·exfalso
      rw [hyi] at hp
      have h5:=hmask _ hp
      have h6:=hx.not x (by simp [hxm])
      have:x.i<L.size:=by rw [hx.size];exact (Array.getElem?_eq_some_iff.1 (hx.at' x (by simp [hxm]))).1
      rw [Array.getD_eq_getD_getElem?,Array.getElem?_eq_getElem this] at h5 h6
      simp at h5 h6
      rw [h5] at h6;cases h6
     ·exact hp
    obtain ⟨r1,r2⟩:=runI_bubble hpre hr
    have hL:Left ops ms (L.setIfInBounds i true) (pre++post):=by
     refine ⟨by simp [hx.size],fun x hxm=>hx.at' x (by simp at hxm ⊢;rcases hxm with h|h<;>simp [h]),?_,?_,fun j hj hq=>?_,fun x hxm=>?_,fun j k hj hk=>?_⟩
     ·exact List.Pairwise.sublist (List.Sublist.append (List.Sublist.refl _) (List.sublist_cons_self _ _)) hx.inc
     ·exact List.Pairwise.sublist (List.Sublist.append (List.Sublist.refl _) (List.sublist_cons_self _ _)) hx.pairs
     ·rw [getD_set] at hq
      split at hq
      ·cases hq
      ·rename_i hne
       obtain ⟨x,hxm,hxi⟩:=hx.all j hj hq
       refine ⟨x,?_,hxi⟩
       simp only [List.mem_append,List.mem_cons] at hxm ⊢
       rcases hxm with h|h|h
       ·exact .inl h
       ·exfalso;subst h;exact hne ⟨by omega,by rw [hx.size];exact hj⟩
       ·exact .inr h
     ·rw [getD_set]
      have hlt:x.i≠i:=by
       intro he
       rcases List.mem_append.1 hxm with h|h
       ·have:=(List.pairwise_append.1 hx.inc).2.2 x h y (by simp);omega
       ·have:=(List.pairwise_cons.1 (List.pairwise_append.1 hx.inc).2.1).1 x h;omega
      rw [if_neg (fun hc=>hlt hc.1.symm)]
      exact hx.not x (by simp at hxm ⊢;rcases hxm with h|h<;>simp [h])
     ·rw [getD_set] at hj ⊢
      split
      ·rfl
      ·split at hj
       ·rename_i hij
        rw [←hij.1] at hk
        exact hmask k hk
       ·exact hx.closed j k hj hk
    unfold wpOp
    rw [h3]
    simp only []
    have hyu:oneU tab G ops.toList o st=some (y.u,y.rs):=by rw [←hyo];exact r1
    have hdo : ∀d,o.dst=some d→d<n:=hd o (by have:=Array.mem_of_getElem? h3;simpa using this)
    have:=one_sound (ops:=ops) hT hG h hrb hdo hyu (wpAny P .any ops Q fuel (L.setIfInBounds i true)) Q
     (fun a' w' lim' β' hs=>ih _ _ _ _ _ _ _ (by simp at hl ⊢;omega) hL r2 hs)
    split
    ·rename_i hw;rw [if_pos hw] at this;exact .inl this
    ·rename_i hw;rw [if_neg hw] at this;exact this
theorem Sim.drew (h:Sim w0 lim0 rb n st a w lim β):Sim w0 lim0 rb n st a {w with drawn:=w.drawn+1} lim β:=by
 have he:Ext w lim {w with drawn:=w.drawn+1} lim:=⟨Nat.le_refl _,fun _ _ _ _ _ h=>h,fun _ _ _ h=>h⟩
 have locv : ∀l,locV st a {w with drawn:=w.drawn+1} β l=locV st a w β l:=fun l=>by cases l<;>rfl
 have has : ∀l g,HasL st a {w with drawn:=w.drawn+1} β l g→HasL st a w β l g:=by
  rintro l g ⟨T,v,h1,h2,h3⟩
  rw [locv] at h2
  obtain ⟨e,hT,xs,hc⟩:=h.vis h1 h2 h3.oty
  exact ⟨T,v,h1,h2,(Blk_ext he hT hc).1 h3⟩
 refine ⟨h.size,h.defers,⟨h.grow.os,h.grow.tape,h.grow.output,h.grow.size,h.grow.block⟩,h.limOld,h.xrb,h.rdk,fun t=>?_,fun b d hb=>?_,h.inj,fun l hl=>?_,fun l g hl hg=>h.ownb l g hl (has l g hg),fun l l' g h1 h2 h3 h4=>h.sep l l' g h1 h2 (has l g h3) (has l' g h4),fun t l h1 h2=>?_,fun d hd=>?_,?_⟩
 ·have:=h.env t
  cases hav:(st.env t).av<;>rw [hav] at this
  case any=>trivial
  case skp=>exact this
  case nil=>exact this
  case dat ty x=>exact TRep.mono he this
  case cel=>exact this
  case ref ty x=>
   obtain ⟨b,o,cs,h1,h2,h3,h4,h5⟩:=this
   exact ⟨b,o,cs,h1,h2,h3.mono he,h4,h5⟩
  case tup ty x=>
   obtain ⟨vs,h1,h2⟩:=this
   exact ⟨vs,h1,h2.mono he⟩
  case rdr=>exact this
  case xf=>exact this
  case xp=>exact this
  case xt=>exact this
  case cx=>exact this
  case fn=>exact this
  case xe=>exact this
  case mx=>exact this
 ·obtain ⟨cells,e,h1,h2,h3,h4⟩:=h.box b d hb
  exact ⟨cells,e,h1,h2.mono he,h3,h4⟩
 ·obtain ⟨T,v,h1,h2,h3⟩:=h.own l hl
  obtain ⟨e,hT,xs,hc⟩:=h.vis h1 h2 h3.oty
  exact ⟨T,v,h1,by rw [locv];exact h2,OwnT_ext he hT hc h3 (fun _ _=>⟨rfl,rfl⟩)⟩
 ·rw [locv];exact h.tag t l h1 h2
 ·obtain ⟨b,cells,e,h1,h2,h3,h4,h5⟩:=h.rd d hd
  exact ⟨b,cells,e,h1,h2,h3,h4.mono he,h5⟩
 ·exact h.xs.keep rfl rfl (fun _ _ _=>⟨rfl,rfl⟩) (fun _ _ _ _=>rfl) (fun _ _=>⟨rfl,rfl⟩) (fun b d hb=>h.xs.offb hb) (fun l g hl hg=>h.xs.off hl (has l g hg))
theorem draw_sound (hT:TabOk P tab) (hG:GamOk P G) (hm:P.follows .mixedOrders=true) {id:Nat} {ops:Array Oper} {Q:Exit→Act→World→Prop} (hrb : ∀k,some k=rb→k<w0.heap.size)
 (hd : ∀o∈ops.toList,∀d,o.dst=some d→d<n) {fs:List FP} (hr:runT tab G ops.toList ops.toList st=some (st',fs)) (hE:edgesOk ops.toList 0=true) (hP:pairsOk (masks ops.toList []) [] fs 0=true)
 (h:Sim w0 lim0 rb n st a w lim β) (hQ : ∀a' w' lim' β',Sim w0 lim0 rb n st' a' w' lim' β'→Q .normal a' w'):(Code.region id ops true).wp P Q a w:=by
 refine wp_region_any hm ?_
 obtain ⟨xs,k1,k2,k3,k4⟩:=runT_items (i:=0) hr
 have hlen:xs.length=ops.size:=by have:=congrArg List.length k3;simpa using this
 have hi : ∀(j:Nat) (x:Item),xs[j]?=some x→x.i=j:=by
  intro j x hj
  have h1:(xs.map (·.i))[j]?=some x.i:=by simp [hj]
  rw [k4] at h1
  have hlt:=(List.getElem?_eq_some_iff.1 h1).1
  simp at hlt
  rw [List.getElem?_range' (by simpa using hlt)] at h1
  injection h1 with h1;omega
 have hpw : ∀(R:Item→Item→Prop),(∀(k j:Nat) x y,k<j→xs[k]?=some x→xs[j]?=some y→R x y)→xs.Pairwise R:=by
  intro R hR
  rw [List.pairwise_iff_getElem]
  intro i j hi' hj' hij
  exact hR i j _ _ hij (List.getElem?_eq_getElem hi') (List.getElem?_eq_getElem hj')
 refine any_sound hT hG rfl hE hrb hd hQ ops.size _ xs _ _ _ _ _ hlen ⟨by simp,fun x hx=>?_,?_,?_,fun i hi' _=>?_,fun x hx=>?_,fun i k hL _=>?_⟩ k1 h.drew
 ·obtain ⟨j,hj⟩:=List.getElem?_of_mem hx
  have h1:(xs.map (·.o))[j]?=some x.o:=by simp [hj]
  rw [k3] at h1
  rw [hi j x hj]
  simpa using h1
 ·exact hpw _ fun k j x y hkj hx hy=>by rw [hi k x hx,hi j y hy];exact hkj
 ·refine hpw _ fun k j x y hkj hx hy=>?_
  rw [hi k x hx,hi j y hy]
  have hfs : ∀(j:Nat) x,xs[j]?=some x→fs[j]?=some x.fp:=fun j x hj=>by rw [←k2];simp [hj]
  exact pairsOk_spec (seen:=[]) hP k j x.fp y.fp hkj (by simpa using hfs k x hx) (by simpa using hfs j y hy) (by simp)
 ·have:i<xs.length:=by omega
  exact ⟨xs[i],by simp,hi i _ (List.getElem?_eq_getElem this)⟩
 ·obtain ⟨j,hj⟩:=List.getElem?_of_mem hx
  have hlt:=(List.getElem?_eq_some_iff.1 hj).1
  rw [hi j x hj,Array.getD_eq_getD_getElem?]
  simp [show j<ops.size by omega]
 ·exfalso
  rw [Array.getD_eq_getD_getElem?] at hL
  by_cases hlt:i<ops.size<;>simp [hlt] at hL
end
end Go.Den
namespace Go.Den
section
variable {P:Program} {tab:Tab} {G:Gam} {w0:Base} {lim0:Lim} {rb:Option Nat} {n:Nat}
variable {st st':St} {a:Act} {w:World} {lim:Lim} {β:Mp}
structure Weak (st' st:St):Prop where
 env : ∀t,((st'.env t).av = .any∨∃f,(st'.env t).av = .fn f∧(st.env t).av = .fn f)∨(∃ty x,(st'.env t).av = .dat ty x∧AV.as ty (st.env t).av=some x) ∨
  (∃b p d,(st'.env t).av = .cel b p∧(st.env t).av = .cel b p∧st'.box b=some d)∨(∃d,(st'.env t).av = .rdr []∧(st.env t).av = .rdr []∧st'.rd=some d) ∨
  (∃r p d,(st'.env t).av = .xf r p∧(st.env t).av = .xf r p∧st'.io r=some d)∨(∃b p d,(st'.env t).av = .cx b p∧(st.env t).av = .cx b p∧st'.xb b=some d)
 tag : ∀t,(st'.env t).tag=none
 box : ∀b d,st'.box b=some d→st.box b=some d
 own : ∀l,st'.own l=true→st.own l=true
 ownT : ∀t p,st'.own (.tmp t p)=true→∃ty x,(st'.env t).av = .dat ty x
 ownB : ∀b p,st'.own (.box b p)=true→∃d,st'.box b=some d
 rd : ∀d,st'.rd=some d→st.rd=some d
 io : ∀r d,st'.io r=some d→st.io r=some d
 xb : ∀b t o,st'.xb b=some (t,o)→st.xb b=some (t,o)∧∀r q,o=some (r,q)→∃d,st'.io r=some d
theorem as_dat {t:Ty} {av:AV} {x:t.val} (h:AV.as t av=some x):av = .dat t x∨av = .nil:=by
 cases av with
 | dat u y=>
   obtain ⟨h1,h2⟩:=zbm h
   subst h1;subst h2;exact .inl rfl
 | nil=>exact .inr rfl
 | _=>cases h
theorem unpackRd_rb {st:St} : ∀ {r:Option Ty} {x:(rdTy r).val},(unpackRd st r x).rb=st.rb
 | none,_=>rfl
 | some _,_=>rfl
theorem unpackIo_rb {st:St} {r:Option Ty} : ∀ {is:List (Tmp×Ty)} {x:(ioTy is (rdTy r)).val},(unpackIo st r is x).rb=st.rb
 | [],_=>unpackRd_rb
 | (_,_)::is,x=>unpackIo_rb (is:=is) (x:=x.2)
theorem unpackBox_rb {st:St} {S:Shp} : ∀ {bs:List (Tmp×Ty×List (List Nat))} {x:(boxTy bs S.low).val},(unpackBox st S bs x).rb=st.rb
 | [],x=>unpackIo_rb (is:=S.io) (x:=x)
 | (_,_,_)::bs,x=>unpackBox_rb (bs:=bs) (x:=x.2)
theorem zhz {st:St} {S:Shp} : ∀ {es:List (Tmp×ShE)} {x:(envTy es (boxTy S.box S.low)).val},(unpackEnv st S es x).rb=st.rb
 | [],x=>unpackBox_rb (bs:=S.box) (x:=x)
 | (_,.dat _ _)::es,x=>zhz (es:=es) (x:=x.2)
 | (_,.cel _ _)::es,x=>zhz (es:=es) (x:=x)
 | (_,.rdr)::es,x=>zhz (es:=es) (x:=x)
 | (_,.xf _ _)::es,x=>zhz (es:=es) (x:=x)
 | (_,.cx _ _)::es,x=>zhz (es:=es) (x:=x)
 | (_,.fn _)::es,x=>zhz (es:=es) (x:=x)
theorem unpack_rb {S:Shp} {x:S.ty.val} (b:Tmp):(unpack S x).rb b=none:=by
 have:(unpack S x).rb=st00.rb:=zhz (es:=S.env) (x:=x)
 rw [this];rfl
theorem Sim.weak (h:Sim w0 lim0 rb n st a w lim β) (hw:Weak st' st) (hrw : ∀b,st'.rb b=none):Sim w0 lim0 rb n st' a w lim β:=by
 have loc : ∀l,st'.own l=true→locTy st' l=locTy st l∧locV st' a w β l=locV st a w β l:=by
  intro l hl
  have ho:=hw.own l hl
  cases l with
  | tmp t p=>
    obtain ⟨ty,x,h1⟩:=hw.ownT t p hl
    obtain ⟨e,v,k1,k2,_⟩:=h.own _ ho
    have:(st.env t).av = .dat ty x:=by
     rcases hw.env t with (h2|⟨_,h2,_⟩)|⟨ty',x',h2,h3⟩|⟨b,q,d,h2,_⟩|⟨d,h2,_⟩|⟨_,_,_,h2,_⟩|⟨_,_,_,h2,_⟩
     ·rw [h1] at h2;cases h2
     ·rw [h1] at h2;cases h2
     ·rw [h1] at h2;injection h2 with h4 h5;subst h4;have h5:=eq_of_heq h5;subst h5
      rcases as_dat h3 with h6|h6
      ·exact h6
      ·simp only [locTy,h6] at k1;cases k1
     ·rw [h1] at h2;cases h2
     ·rw [h1] at h2;cases h2
     ·rw [h1] at h2;cases h2
     ·rw [h1] at h2;cases h2
    simp only [locTy,locV,h1,this,and_self]
  | box b p=>
    obtain ⟨d,h1⟩:=hw.ownB b p hl
    have:=hw.box b d h1
    simp only [locTy,locV,h1,this,and_self]
 have has : ∀l g,st'.own l=true→HasL st' a w β l g→HasL st a w β l g:=by
  rintro l g hl ⟨T,v,h1,h2,h3⟩
  obtain ⟨m1,m2⟩:=loc l hl
  exact ⟨T,v,by rw [←m1];exact h1,by rw [←m2];exact h2,h3⟩
 refine ⟨h.size,h.defers,h.grow,h.limOld,h.xrb,(fun d b hd=>h.rdk d b (hw.rd d hd)),fun t=>?_,fun b d hb=>h.box b d (hw.box b d hb),fun b c d d' h1 h2 h3=>h.inj b c d d' (hw.box b d h1) (hw.box c d' h2) h3,fun l hl=>?_,fun l g hl hg b d hb=>h.ownb l g (hw.own l hl) (has l g hl hg) b d (hw.box b d hb),fun l l' g h1 h2 h3 h4=>h.sep l l' g (hw.own l h1) (hw.own l' h2) (has l g h1 h3) (has l' g h2 h4),fun t l h1 h2=>?_,fun d hd=>h.rd d (hw.rd d hd),?_⟩
 ·have ht:=h.env t
  rcases hw.env t with (h2|⟨f,h2,h3⟩)|⟨ty,x,h2,h3⟩|⟨b,q,d,h2,h3,h4⟩|⟨d,h2,h3,h4⟩|⟨r,p,d,h2,h3,h4⟩|⟨b,p,d,h2,h3,h4⟩
  ·rw [h2];trivial
  ·rw [h3] at ht;rw [h2];exact ht
  ·rw [h2];exact as_rep h3 ht
  ·rw [h3] at ht;rw [h2]
   obtain ⟨d',k1,k2⟩:=ht
   have:=hw.box b d h4
   rw [k1] at this;injection this with this;subst this
   exact ⟨d',h4,k2⟩
  ·rw [h3] at ht;rw [h2]
   obtain ⟨d',b,k1,k2,k3⟩:=ht
   have:=hw.rd d h4
   rw [k1] at this;injection this with this;subst this
   exact ⟨d',b,h4,k2,k3⟩
  ·rw [h3] at ht;rw [h2]
   obtain ⟨d',k1,k2⟩:=ht
   have:=hw.io r d h4
   rw [k1] at this;injection this with this;subst this
   exact ⟨d',h4,k2⟩
  ·rw [h3] at ht;rw [h2]
   obtain ⟨t',o',k1,k2⟩:=ht
   obtain ⟨dt,dO⟩:=d
   have:=(hw.xb b dt dO h4).1
   rw [k1] at this;injection this with this;injection this with e1 e2;subst e1
   exact ⟨t',dO,h4,k2⟩
 ·obtain ⟨e,v,k1,k2,k3⟩:=h.own l (hw.own l hl)
  obtain ⟨m1,m2⟩:=loc l hl
  exact ⟨e,v,m1.trans k1,m2.trans k2,k3⟩
 ·rw [hw.tag t] at h1;cases h1
 ·have hown : ∀l g,st'.own l=true→HasL st' a w β l g→st.own l=true∧HasL st a w β l g:=fun l g hl hv=>⟨hw.own l hl,has l g hl hv⟩
  refine ⟨fun r d hr=>h.xs.io r d (hw.io r d hr),fun r d g hr hg=>h.xs.base r d g (hw.io r d hr) hg,fun r d g hr hg b d' hb=>h.xs.box r d g (hw.io r d hr) hg b d' (hw.box b d' hb),
   fun r d g hr hg l hl hv=>h.xs.own r d g (hw.io r d hr) hg l (hown l g hl hv).1 (hown l g hl hv).2,fun r d r' d' g hr hr'=>h.xs.dis r d r' d' g (hw.io r d hr) (hw.io r' d' hr'),fun b t o hb=>?_,fun b t o hb=>?_,
   fun b c t o t' o' hb hc=>h.xs.xinj b c t o t' o' (hw.xb b t o hb).1 (hw.xb c t' o' hc).1,fun d hd=>h.xs.fix d (hw.io 0 d hd),fun d hd=>h.xs.kx d (hw.io 0 d hd),fun b d ps hb=>(by rw [hrw] at hb;cases hb)⟩
  ·obtain ⟨k1,k2⟩:=hw.xb b t o hb
   obtain ⟨cells,e,m1,m2,m3,m4,m5⟩:=h.xs.xb b t o k1
   refine ⟨cells,e,m1,m2,m3,m4,fun r q ho=>?_⟩
   obtain ⟨d,n1,n2⟩:=m5 r q ho
   obtain ⟨d',n4⟩:=k2 r q ho
   have:=hw.io r d' n4
   rw [n1] at this;injection this with this;subst this
   exact ⟨d,n4,n2⟩
  ·obtain ⟨k1,_⟩:=hw.xb b t o hb
   obtain ⟨m1,m2,m3⟩:=h.xs.xbox b t o k1
   exact ⟨fun c d hc=>m1 c d (hw.box c d hc),fun l hl hv=>m2 l (hown l _ hl hv).1 (hown l _ hl hv).2,fun r d hr=>m3 r d (hw.io r d hr)⟩
theorem swT_swT (r c k:Tmp):swT r c (swT r c k)=k:=by
 unfold swT
 by_cases h1:k=r
 ·subst h1
  rw [Nat.beq_refl,cnd_true]
  by_cases h2:c=k
  ·subst h2;rw [Nat.beq_refl,cnd_true]
  ·have:Nat.beq c k=false:=by
     cases hq:Nat.beq c k with
     | true=>exact absurd (nbeq hq) h2
     | false=>rfl
   rw [this,cnd_false,Nat.beq_refl,cnd_true]
 ·have e1:Nat.beq k r=false:=by
    cases hq:Nat.beq k r with
    | true=>exact absurd (nbeq hq) h1
    | false=>rfl
  rw [e1,cnd_false]
  by_cases h2:k=c
  ·subst h2
   rw [Nat.beq_refl,cnd_true,Nat.beq_refl,cnd_true]
  ·have e2:Nat.beq k c=false:=by
     cases hq:Nat.beq k c with
     | true=>exact absurd (nbeq hq) h2
     | false=>rfl
   rw [e2,cnd_false,e1,cnd_false,e2,cnd_false]
theorem swT_zero {r c:Tmp} (hr:r≠0) (hc:c≠0):swT r c 0=0:=by
 have e1:Nat.beq 0 r=false:=by
  cases hq:Nat.beq 0 r with
  | true=>exact absurd (nbeq hq).symm hr
  | false=>rfl
 have e2:Nat.beq 0 c=false:=by
  cases hq:Nat.beq 0 c with
  | true=>exact absurd (nbeq hq).symm hc
  | false=>rfl
 simp only [swT,e1,e2,cnd_false]
def swM (r c:Tmp) (β:Mp):Mp:={β with V:=fun k=>β.V (swT r c k),B:=fun k=>β.B (swT r c k)}
theorem swPs_mem {r c:Tmp} : ∀ {ps:List (List Nat×Tmp×List Nat)} {p:List Nat} {k:Tmp} {q:List Nat},(p,k,q)∈swPs r c ps→(p,swT r c k,q)∈ps
 | [],_,_,_,h=>by cases h
 | (p',k',q')::ps,p,k,q,h=>by
   simp only [swPs] at h
   rcases List.mem_cons.1 h with h|h
   ·injection h with h1 h2;injection h2 with h2 h3
    subst h1;subst h2;subst h3
    rw [swT_swT];exact List.mem_cons_self
   ·exact List.mem_cons_of_mem _ (swPs_mem h)
theorem swPs_mem' {r c:Tmp} : ∀ {ps:List (List Nat×Tmp×List Nat)} {p:List Nat} {k:Tmp} {q:List Nat},(p,k,q)∈ps→(p,swT r c k,q)∈swPs r c ps
 | (p',k',q')::ps,p,k,q,h=>by
   simp only [swPs]
   rcases List.mem_cons.1 h with h|h
   ·injection h with h1 h2;injection h2 with h2 h3
    subst h1;subst h2;subst h3
    exact List.mem_cons_self
   ·exact List.mem_cons_of_mem _ (swPs_mem' h)
theorem MixOk.swap {r c:Tmp} {d:Dat} {ps:List (List Nat×Tmp×List Nat)} {cs:List Value} (h:MixOk st β d ps cs):MixOk (swSt r c st) (swM r c β) d (swPs r c ps) cs:=by
 obtain ⟨⟨vc,k1,k2,k3⟩,h2⟩:=h
 refine ⟨⟨vc,k1,k2,fun j hj=>k3 j fun p k q u hp=>hj p (swT r c k) q u (swPs_mem' hp)⟩,fun p k q hp=>?_⟩
 obtain ⟨dr,m1,m2⟩:=h2 p _ q (swPs_mem hp)
 exact ⟨dr,m1,m2⟩
theorem Sim.swap (h:Sim w0 lim0 rb n st a w lim β) {r c:Tmp} (hr:r≠0) (hc:c≠0):Sim w0 lim0 rb n (swSt r c st) a w lim (swM r c β):=by
 have lt : ∀l,locTy (swSt r c st) l=locTy st l:=fun l=>by
  cases l with
  | tmp t p=>simp only [locTy,swSt];cases (st.env t).av<;>rfl
  | box b p=>rfl
 have lv : ∀l,locV (swSt r c st) a w (swM r c β) l=locV st a w β l:=fun l=>by
  cases l with
  | tmp t p=>simp only [locV,swSt];cases (st.env t).av<;>rfl
  | box b p=>rfl
 have lh : ∀l g,HasL (swSt r c st) a w (swM r c β) l g↔HasL st a w β l g:=fun l g=>by unfold HasL;rw [lt,lv]
 have xb0 : ∀ {b t o},(swSt r c st).xb b=some (t,o)→∃o',st.xb b=some (t,o')∧∀k q,o=some (k,q)→o'=some (swT r c k,q):=fun {b t o} hb=>by
  have hb:swXb r c (st.xb b)=some (t,o):=hb
  cases hx:st.xb b with
  | none=>rw [hx] at hb;cases hb
  | some y=>
    obtain ⟨t',o'⟩:=y
    rw [hx] at hb
    cases o' with
    | none=>
      injection hb with hb;injection hb with e1 e2
      subst e1;subst e2
      exact ⟨none,rfl,fun k q hk=>by cases hk⟩
    | some kq=>
      obtain ⟨k,q⟩:=kq
      injection hb with hb;injection hb with e1 e2
      subst e1;subst e2
      refine ⟨_,rfl,fun k' q' hk=>?_⟩
      injection hk with hk;injection hk with e1 e2
      subst e1;subst e2
      rw [swT_swT]
 refine ⟨h.size,h.defers,h.grow,h.limOld,h.xrb,h.rdk,fun t=>?_,h.box,h.inj,fun l hl=>?_,fun l g hl hg=>h.ownb l g hl ((lh l g).1 hg),fun l l' g h1 h2 h3 h4=>h.sep l l' g h1 h2 ((lh l g).1 h3) ((lh l' g).1 h4),fun t l h1 h2=>?_,h.rd,?_⟩
 ·have ht:=h.env t
  show ERep (swSt r c st) w lim (swM r c β) rb (swAV r c (st.env t).av) (tmpOf a t)
  cases hav:(st.env t).av with
  | xf k p=>
    rw [hav] at ht
    obtain ⟨x,k1,k2⟩:=ht
    exact ⟨x,by show st.io (swT r c (swT r c k))=some x;rw [swT_swT];exact k1,by simp only [swM,swT_swT];exact k2⟩
  | xp k p m q=>
    rw [hav] at ht
    obtain ⟨x,k1,k2⟩:=ht
    exact ⟨x,by show st.io (swT r c (swT r c k))=some x;rw [swT_swT];exact k1,by simp only [swM,swT_swT];exact k2⟩
  | xt k=>
    rw [hav] at ht
    obtain ⟨x,k1,k2⟩:=ht
    exact ⟨x,by show st.io (swT r c (swT r c k))=some x;rw [swT_swT];exact k1,by simp only [swM,swT_swT];exact k2⟩
  | cx b p=>
    rw [hav] at ht
    obtain ⟨t',o,k1,k2⟩:=ht
    have : ∃o',(swSt r c st).xb b=some (t',o'):=by
     show ∃o',swXb r c (st.xb b)=some (t',o')
     rw [k1]
     cases o with
     | none=>exact ⟨_,rfl⟩
     | some kq=>exact ⟨_,rfl⟩
    obtain ⟨o',k3⟩:=this
    exact ⟨t',o',k3,k2⟩
  | xe m q=>
    rw [hav] at ht
    obtain ⟨x,k1,k2⟩:=ht
    exact ⟨x,by show st.io (swT r c 0)=some x;rw [swT_zero hr hc];exact k1,by simp only [swM,swT_zero hr hc];exact k2⟩
  | mx ty x ps=>
    rw [hav] at ht
    obtain ⟨cs,k1,k2,k3,k5,k4⟩:=ht
    exact ⟨cs,k1,k2,k3,k5,k4.swap⟩
  | _=>rw [hav] at ht;exact ht
 ·rw [lt,lv];exact h.own l hl
 ·have h1:(st.env t).tag=some (true,l):=h1
  rw [lv,lt]
  rcases h.tag t l h1 h2 with ⟨k1,e,x,k2,k3⟩|⟨e,x,g,o,m,cc,i,k2,k3⟩
  ·refine .inl ⟨k1,e,x,?_,k3⟩
   show swAV r c (st.env t).av=_
   rw [k2];rfl
  ·refine .inr ⟨e,x,g,o,m,cc,i,?_,k3⟩
   show swAV r c (st.env t).av=_
   rw [k2];rfl
 ·refine ⟨fun k x hk=>h.xs.io _ x hk,fun k x g hk hg=>h.xs.base _ x g hk hg,fun k x g hk hg b d' hb=>h.xs.box _ x g hk hg b d' hb,fun k x g hk hg l hl hv=>?_,fun k x k' x' g hk hk' hg hg'=>?_,fun b t o hb=>?_,fun b t o hb=>?_,fun b b' t o t' o' hb hb'=>?_,fun x hx hm=>?_,fun x hx=>?_,fun b d ps hb=>?_⟩
  ·rw [lh] at hv
   exact h.xs.own _ x g hk hg l hl hv
  ·have:=h.xs.dis _ x _ x' g hk hk' hg hg'
   have e:=congrArg (swT r c) this
   rwa [swT_swT,swT_swT] at e
  ·obtain ⟨o',k1,k2⟩:=xb0 hb
   obtain ⟨cells,e,m1,m2,m3,m4,m5⟩:=h.xs.xb b t o' k1
   refine ⟨cells,e,m1,m2,m3,m4,fun k q ho=>?_⟩
   obtain ⟨x,n1,n2⟩:=m5 _ q (k2 k q ho)
   exact ⟨x,n1,n2⟩
  ·obtain ⟨o',k1,_⟩:=xb0 hb
   obtain ⟨m1,m2,m3⟩:=h.xs.xbox b t o' k1
   exact ⟨m1,fun l hl hv=>by rw [lh] at hv;exact m2 l hl hv,fun k x hk=>m3 _ x hk⟩
  ·obtain ⟨o1,k1,_⟩:=xb0 hb
   obtain ⟨o2,k2,_⟩:=xb0 hb'
   exact h.xs.xinj b b' t o1 t' o2 k1 k2
  ·have e0:=swT_zero hr hc
   have hx:st.io (swT r c 0)=some x:=hx
   rw [e0] at hx
   simp only [swM,e0]
   exact h.xs.fix x hx hm
  ·have e0:=swT_zero hr hc
   have hx:st.io (swT r c 0)=some x:=hx
   rw [e0] at hx
   simp only [swM,e0]
   exact h.xs.kx x hx
  ·have hb:(match st.rb b with|some (d,ps)=>some (d,swPs r c ps)|none=>none)=some (d,ps):=hb
   cases hq:st.rb b with
   | none=>rw [hq] at hb;cases hb
   | some y=>
     obtain ⟨d0,ps0⟩:=y
     rw [hq] at hb
     injection hb with hb;injection hb with e1 e2
     subst e1;subst e2
     obtain ⟨k1,cells,e,k2,k3⟩:=h.xs.rbx b d0 ps0 hq
     refine ⟨?_,cells,e,k2,k3.swap⟩
     show swXb r c (st.xb b)=_
     rw [k1];rfl
theorem Sim.ren : ∀(es:List (Tmp×ShE)) {st:St} {β:Mp},Sim w0 lim0 rb n st a w lim β→∃β',Sim w0 lim0 rb n (renS st es) a w lim β'
 | [],_,β,h=>⟨β,h⟩
 | (t,.xf r p)::es,st,β,h=>by
   simp only [renS]
   split
   ·rename_i c q hav
    cases h1:Nat.beq r c with
    | true=>exact h.ren es
    | false=>
    cases h2:Nat.beq r 0 with
    | true=>exact h.ren es
    | false=>
    cases h3:Nat.beq c 0 with
    | true=>exact h.ren es
    | false=>
      have hr:r≠0:=fun e=>by subst e;cases h2
      have hc:c≠0:=fun e=>by subst e;cases h3
      exact (h.swap hr hc).ren es
   ·exact h.ren es
 | (t,.dat _ _)::es,_,_,h=>h.ren es
 | (t,.cel _ _)::es,_,_,h=>h.ren es
 | (t,.rdr)::es,_,_,h=>h.ren es
 | (t,.cx _ _)::es,_,_,h=>h.ren es
 | (t,.fn _)::es,_,_,h=>h.ren es
theorem allOwn_spec {own:Loc→Bool} {f:List Nat→Loc} : ∀ {ps:List (List Nat)},allOwn own f ps=true→∀p,inPaths p ps=true→own (f p)=true
 | [],_,p,hp=>by cases hp
 | q::ps,h,p,hp=>by
   simp only [allOwn] at h
   cases ho:own (f q) with
   | false=>rw [ho] at h;cases h
   | true=>
     rw [ho] at h
     simp only [inPaths] at hp
     cases hb:pbeq p q with
     | true=>rw [zjp.1 hb];exact ho
     | false=>rw [hb] at hp;exact allOwn_spec h p hp
theorem weak_rd : ∀ {r:Option Ty} {x:(rdTy r).val},packRd st r=some x→Weak (unpackRd st00 r x) st∧(∀b d,(unpackRd st00 r x).box b=some d→False)∧(isSomeTy r=true→∃d,(unpackRd st00 r x).rd=some d):=by
 intro r x h
 cases r with
 | none=>exact ⟨⟨fun t=>.inl (.inl rfl),fun t=>rfl,fun _ _ h=>(by cases h),fun _ h=>(by cases h),fun _ _ h=>(by cases h),fun _ _ h=>(by cases h),fun _ h=>(by cases h),fun _ _ h=>(by cases h),fun _ _ _ h=>(by cases h)⟩,fun _ _ h=>(by cases h),fun h=>(by cases h)⟩
 | some t=>
   unfold packRd at h
   cases hd:st.rd with
   | none=>rw [hd] at h;cases h
   | some d=>
     rw [hd] at h
     obtain ⟨h1,h2⟩:=zbm h
     obtain ⟨dt,dv⟩:=d
     simp only at h1 h2
     subst h1;subst h2
     refine ⟨⟨fun t=>.inl (.inl rfl),fun t=>rfl,fun _ _ h=>(by cases h),fun _ h=>(by cases h),fun _ _ h=>(by cases h),fun _ _ h=>(by cases h),fun d' h=>?_,fun _ _ h=>(by cases h),fun _ _ _ h=>(by cases h)⟩,fun _ _ h=>(by cases h),fun _=>⟨_,rfl⟩⟩
     injection h with h;subst h;exact hd
theorem weak_io {r:Option Ty} : ∀ {is:List (Tmp×Ty)} {x:(ioTy is (rdTy r)).val},packIo st r is=some x →
 Weak (unpackIo st00 r is x) st∧(∀b d,(unpackIo st00 r is x).box b=some d→False)∧(isSomeTy r=true→∃d,(unpackIo st00 r is x).rd=some d)∧(∀c,ioIn c is=true→∃d,(unpackIo st00 r is x).io c=some d)∧(∀b,(unpackIo st00 r is x).xb b=none)
 | [],x,h=>by
   obtain ⟨h1,h2,h3⟩:=weak_rd h
   exact ⟨h1,h2,h3,fun c hc=>(by cases hc),fun b=>by cases r<;>rfl⟩
 | (c,t)::is,x,h=>by
   simp only [packIo] at h
   cases hb:st.io c with
   | none=>rw [hb] at h;cases h
   | some d=>
     rw [hb] at h;simp only [] at h
     cases hc:Ty.cast d.1 t d.2 with
     | none=>rw [hc] at h;cases h
     | some y=>
       cases hp:packIo st r is with
       | none=>rw [hc,hp] at h;cases h
       | some z=>
         rw [hc,hp] at h
         injection h with h;subst h
         obtain ⟨h1,h2⟩:=zbm hc
         obtain ⟨dt,dv⟩:=d
         simp only at h1 h2
         subst h1;subst h2
         obtain ⟨k1,k2,k3,k4,k5⟩:=weak_io (is:=is) hp
         have hio : ∀k,(unpackIo st00 r ((c,dt)::is) (y,z)).io k=cnd (Nat.beq k c) (some ⟨dt,y⟩) ((unpackIo st00 r is z).io k):=fun k=>rfl
         have keep : ∀k,(∃d,(unpackIo st00 r is z).io k=some d)→∃d,(unpackIo st00 r ((c,dt)::is) (y,z)).io k=some d:=by
          intro k hk
          rw [hio]
          cases Nat.beq k c with
          | true=>exact ⟨_,rfl⟩
          | false=>exact hk
         refine ⟨⟨fun t=>?_,k1.tag,k1.box,k1.own,k1.ownT,k1.ownB,k1.rd,fun k d hk=>?_,fun b t o hb'=>?_⟩,k2,k3,fun k hk=>?_,k5⟩
         ·rcases k1.env t with h2|h2|h2|h2|⟨k,p,d,h2,h3,h4⟩|h2
          ·exact .inl h2
          ·exact .inr (.inl h2)
          ·exact .inr (.inr (.inl h2))
          ·exact .inr (.inr (.inr (.inl h2)))
          ·obtain ⟨d',hd'⟩:=keep k ⟨d,h4⟩
           exact .inr (.inr (.inr (.inr (.inl ⟨k,p,d',h2,h3,hd'⟩))))
          ·exact .inr (.inr (.inr (.inr (.inr h2))))
         ·rw [hio] at hk
          cases hq:Nat.beq k c with
          | true=>rw [hq] at hk;rw [nbeq hq,hb];exact hk
          | false=>rw [hq] at hk;exact k1.io k d hk
         ·have hb':(unpackIo st00 r is z).xb b=some (t,o):=hb'
          rw [k5] at hb';cases hb'
         ·simp only [ioIn] at hk
          cases hq:Nat.beq k c with
          | true=>rw [hio,hq];exact ⟨_,rfl⟩
          | false=>rw [hq] at hk;exact keep k (k4 k hk)
theorem xbAll_spec {is:List (Tmp×Ty)} : ∀ {bs:List (Tmp×Ty×Tmp×List Nat)},xbAll st is bs=true →
 (∀b t o,unpackXb bs b=some (t,o)→st.xb b=some (t,o)∧∀r q,o=some (r,q)→ioIn r is=true)∧∀b,xbIn b bs=true→∃d,unpackXb bs b=some d
 | [],_=>⟨fun _ _ _ h=>(by cases h),fun _ h=>(by cases h)⟩
 | (b,t,r,q)::bs,h=>by
   simp only [xbAll] at h
   split at h
   ·rename_i u r' q' hx
    cases h1:Ty.beq u t with
    | false=>rw [h1] at h;cases h
    | true=>
    cases h2:Nat.beq r' r with
    | false=>rw [h1,h2] at h;cases h
    | true=>
    cases h3:pbeq q' q with
    | false=>rw [h1,h2,h3] at h;cases h
    | true=>
    cases h4:ioIn r is with
    | false=>rw [h1,h2,h3,h4] at h;cases h
    | true=>
      rw [h1,h2,h3,h4] at h
      have h1:=Ty.of_beq h1
      have h2:=nbeq h2
      have h3:=zjp.1 h3
      subst h1;subst h2;subst h3
      obtain ⟨k1,k2⟩:=xbAll_spec (bs:=bs) h
      refine ⟨fun c t' o hc=>?_,fun c hc=>?_⟩
      ·simp only [unpackXb] at hc
       cases hq:Nat.beq c b with
       | true=>
         rw [hq] at hc
         injection hc with hc;injection hc with e1 e2;subst e1;subst e2
         rw [nbeq hq]
         exact ⟨hx,fun r2 q2 he=>by injection he with he;injection he with he _;rw [←he];exact h4⟩
       | false=>rw [hq] at hc;exact k1 c t' o hc
      ·simp only [xbIn] at hc
       simp only [unpackXb]
       cases hq:Nat.beq c b with
       | true=>exact ⟨_,rfl⟩
       | false=>rw [hq] at hc;exact k2 c hc
   ·cases h
structure Has (S:Shp) (s:St):Prop where
 rd:isSomeTy S.rd=true→∃d,s.rd=some d
 io : ∀c,ioIn c S.io=true→∃d,s.io c=some d
 xb : ∀b,xbIn b S.xb=true→∃d,s.xb b=some d
theorem weak_box {S:Shp} : ∀ {bs:List (Tmp×Ty×List (List Nat))} {x:(boxTy bs S.low).val},packBox st S bs=some x →
 Weak (unpackBox st00 S bs x) st∧(∀b,boxIn b bs=true→∃d,(unpackBox st00 S bs x).box b=some d)∧Has S (unpackBox st00 S bs x)
 | [],x,h=>by
   simp only [packBox] at h
   cases hx:xbAll st S.io S.xb with
   | false=>rw [hx] at h;cases h
   | true=>
     rw [hx] at h
     obtain ⟨h1,h2,h3,h4,h5⟩:=weak_io (x:=x) h
     obtain ⟨g1,g2⟩:=xbAll_spec hx
     refine ⟨⟨fun t=>?_,h1.tag,h1.box,h1.own,h1.ownT,h1.ownB,h1.rd,h1.io,fun b t o hb=>?_⟩,fun b hb=>(by cases hb),h3,h4,g2⟩
     ·rcases h1.env t with k|k|k|k|k|⟨b,p,d,_,_,k⟩
      ·exact .inl k
      ·exact .inr (.inl k)
      ·exact .inr (.inr (.inl k))
      ·exact .inr (.inr (.inr (.inl k)))
      ·exact .inr (.inr (.inr (.inr (.inl k))))
      ·rw [h5] at k;cases k
     ·obtain ⟨k1,k2⟩:=g1 b t o hb
      exact ⟨k1,fun r q ho=>h4 r (k2 r q ho)⟩
 | (b,t,ps)::bs,x,h=>by
   simp only [packBox] at h
   cases hb:st.box b with
   | none=>rw [hb] at h;cases h
   | some d=>
     rw [hb] at h;simp only [] at h
     cases hc:Ty.cast d.1 t d.2 with
     | none=>rw [hc] at h;cases h
     | some y=>
       cases ho:allOwn st.own (.box b ·) ps with
       | false=>rw [hc,ho] at h;cases h
       | true=>
         cases hp:packBox st S bs with
         | none=>rw [hc,ho,hp] at h;cases h
         | some z=>
           rw [hc,ho,hp] at h
           injection h with h;subst h
           obtain ⟨h1,h2⟩:=zbm hc
           obtain ⟨dt,dv⟩:=d
           simp only at h1 h2
           subst h1;subst h2
           obtain ⟨k1,k2,k3⟩:=weak_box (bs:=bs) hp
           have hbox : ∀c,(unpackBox st00 S ((b,dt,ps)::bs) (y,z)).box c=cnd (Nat.beq c b) (some ⟨dt,y⟩) ((unpackBox st00 S bs z).box c):=fun c=>rfl
           have keep : ∀c,(∃d,(unpackBox st00 S bs z).box c=some d)→∃d,(unpackBox st00 S ((b,dt,ps)::bs) (y,z)).box c=some d:=by
            intro c hc
            rw [hbox]
            cases Nat.beq c b with
            | true=>exact ⟨_,rfl⟩
            | false=>exact hc
           refine ⟨⟨fun t=>?_,k1.tag,fun c d hc=>?_,fun l hl=>?_,k1.ownT,fun c p hc=>?_,k1.rd,k1.io,k1.xb⟩,fun c hc=>?_,⟨k3.rd,k3.io,k3.xb⟩⟩
           ·rcases k1.env t with h2|h2|⟨c,q,d,h2,h3,h4⟩|h2
            ·exact .inl h2
            ·exact .inr (.inl h2)
            ·obtain ⟨d',hd'⟩:=keep c ⟨d,h4⟩
             exact .inr (.inr (.inl ⟨c,q,d',h2,h3,hd'⟩))
            ·exact .inr (.inr (.inr h2))
           ·rw [hbox] at hc
            cases hq:Nat.beq c b with
            | true=>rw [hq] at hc;rw [nbeq hq,hb];exact hc
            | false=>rw [hq] at hc;exact k1.box c d hc
           ·cases l with
            | tmp t p=>exact k1.own _ hl
            | box c p=>
              have hl:cnd (Nat.beq c b) (inPaths p ps) ((unpackBox st00 S bs z).own (.box c p))=true:=hl
              cases hq:Nat.beq c b with
              | true=>rw [hq] at hl;rw [nbeq hq];exact allOwn_spec ho p hl
              | false=>rw [hq] at hl;exact k1.own _ hl
           ·have hc:cnd (Nat.beq c b) (inPaths p ps) ((unpackBox st00 S bs z).own (.box c p))=true:=hc
            rw [hbox]
            cases hq:Nat.beq c b with
            | true=>exact ⟨_,rfl⟩
            | false=>rw [hq] at hc;exact k1.ownB c p hc
           ·simp only [boxIn] at hc
            cases hq:Nat.beq c b with
            | true=>rw [hbox,hq];exact ⟨_,rfl⟩
            | false=>rw [hq] at hc;exact keep c (k2 c hc)
theorem weak_putE {s:St} {t:Tmp} {v:AV} {ps:List (List Nat)} (h:Weak s st) (hv:(∃ty x,v = .dat ty x∧AV.as ty (st.env t).av=some x∧allOwn st.own (.tmp t ·) ps=true) ∨
 (ps=[]∧((∃b p d,v = .cel b p∧(st.env t).av = .cel b p∧s.box b=some d)∨(∃d,v = .rdr []∧(st.env t).av = .rdr []∧s.rd=some d)∨(∃r p d,v = .xf r p∧(st.env t).av = .xf r p∧s.io r=some d)∨(∃b p d,v = .cx b p∧(st.env t).av = .cx b p∧s.xb b=some d)))):Weak (putE s t v ps) st:=by
 have he : ∀u,(putE s t v ps).env u=cnd (Nat.beq u t) ⟨v,none⟩ (s.env u):=fun u=>rfl
 have ho : ∀u p,(putE s t v ps).own (.tmp u p)=cnd (Nat.beq u t) (inPaths p ps) (s.own (.tmp u p)):=fun u p=>rfl
 refine ⟨fun u=>?_,fun u=>?_,h.box,fun l hl=>?_,fun u p hu=>?_,h.ownB,h.rd,h.io,h.xb⟩
 ·rw [he]
  cases hq:Nat.beq u t with
  | false=>exact h.env u
  | true=>
    rw [nbeq hq]
    rcases hv with ⟨ty,x,h1,h2,_⟩|⟨_,⟨b,p,d,h1,h2,h3⟩|⟨d,h1,h2,h3⟩|⟨r,p,d,h1,h2,h3⟩|⟨b,p,d,h1,h2,h3⟩⟩
    ·exact .inr (.inl ⟨ty,x,h1,h2⟩)
    ·exact .inr (.inr (.inl ⟨b,p,d,h1,h2,h3⟩))
    ·exact .inr (.inr (.inr (.inl ⟨d,h1,h2,h3⟩)))
    ·exact .inr (.inr (.inr (.inr (.inl ⟨r,p,d,h1,h2,h3⟩))))
    ·exact .inr (.inr (.inr (.inr (.inr ⟨b,p,d,h1,h2,h3⟩))))
 ·rw [he]
  cases Nat.beq u t with
  | false=>exact h.tag u
  | true=>rfl
 ·cases l with
  | box c p=>exact h.own _ hl
  | tmp u p=>
    rw [ho] at hl
    cases hq:Nat.beq u t with
    | false=>rw [hq] at hl;exact h.own _ hl
    | true=>
      rw [hq] at hl;rw [nbeq hq]
      rcases hv with ⟨ty,x,_,_,h3⟩|⟨rfl,_⟩
      ·exact allOwn_spec h3 p hl
      ·cases hl
 ·rw [ho] at hu
  rw [he]
  cases hq:Nat.beq u t with
  | false=>rw [hq] at hu;exact h.ownT u p hu
  | true=>
    rw [hq] at hu
    rcases hv with ⟨ty,x,h1,_,_⟩|⟨rfl,_⟩
    ·exact ⟨ty,x,h1⟩
    ·cases hu
theorem weak_putF {s:St} {t:Tmp} {f:FuncId} (h:Weak s st) (hv:(st.env t).av = .fn f):Weak (putE s t (.fn f) []) st:=by
 have he : ∀u,(putE s t (.fn f) []).env u=cnd (Nat.beq u t) ⟨.fn f,none⟩ (s.env u):=fun u=>rfl
 have ho : ∀u p,(putE s t (.fn f) []).own (.tmp u p)=cnd (Nat.beq u t) (inPaths p []) (s.own (.tmp u p)):=fun u p=>rfl
 refine ⟨fun u=>?_,fun u=>?_,h.box,fun l hl=>?_,fun u p hu=>?_,h.ownB,h.rd,h.io,h.xb⟩
 ·rw [he]
  cases hq:Nat.beq u t with
  | false=>exact h.env u
  | true=>rw [nbeq hq];exact .inl (.inr ⟨f,rfl,hv⟩)
 ·rw [he]
  cases Nat.beq u t with
  | false=>exact h.tag u
  | true=>rfl
 ·cases l with
  | box c p=>exact h.own _ hl
  | tmp u p=>
    rw [ho] at hl
    cases hq:Nat.beq u t with
    | false=>rw [hq] at hl;exact h.own _ hl
    | true=>rw [hq] at hl;cases hl
 ·rw [ho] at hu
  rw [he]
  cases hq:Nat.beq u t with
  | false=>rw [hq] at hu;exact h.ownT u p hu
  | true=>rw [hq] at hu;cases hu
theorem weak_env {S:Shp} : ∀ {es:List (Tmp×ShE)} {x:(envTy es (boxTy S.box S.low)).val},packEnv st S es=some x →
 Weak (unpackEnv st00 S es x) st∧(∀b,boxIn b S.box=true→∃d,(unpackEnv st00 S es x).box b=some d)∧Has S (unpackEnv st00 S es x)
 | [],x,h=>weak_box h
 | (t,.dat ty ps)::es,x,h=>by
   simp only [packEnv] at h
   cases hc:AV.as ty (st.env t).av with
   | none=>rw [hc] at h;cases h
   | some y=>
     cases ho:allOwn st.own (.tmp t ·) ps with
     | false=>rw [hc,ho] at h;cases h
     | true=>
       cases hp:packEnv st S es with
       | none=>rw [hc,ho,hp] at h;cases h
       | some z=>
         rw [hc,ho,hp] at h
         injection h with h;subst h
         obtain ⟨k1,k2,k3⟩:=weak_env (es:=es) hp
         exact ⟨weak_putE k1 (.inl ⟨ty,y,rfl,hc,ho⟩),k2,⟨k3.rd,k3.io,k3.xb⟩⟩
 | (t,.cel b p)::es,x,h=>by
   simp only [packEnv] at h
   split at h
   ·rename_i c q hav
    cases hq:cnd (Nat.beq b c) (cnd (pbeq p q) (boxIn b S.box) false) false with
    | false=>rw [hq] at h;cases h
    | true=>
      rw [hq] at h
      cases h1:Nat.beq b c with
      | false=>rw [h1] at hq;cases hq
      | true=>
        rw [h1] at hq
        cases h2:pbeq p q with
        | false=>rw [h2] at hq;cases hq
        | true=>
          rw [h2] at hq
          have:=nbeq h1;subst this
          have:=zjp.1 h2;subst this
          obtain ⟨k1,k2,k3⟩:=weak_env (es:=es) (x:=x) h
          obtain ⟨d,hd⟩:=k2 b hq
          exact ⟨weak_putE k1 (.inr ⟨rfl,.inl ⟨b,p,d,rfl,hav,hd⟩⟩),k2,⟨k3.rd,k3.io,k3.xb⟩⟩
   ·cases h
 | (t,.rdr)::es,x,h=>by
   simp only [packEnv] at h
   split at h
   ·rename_i hav
    cases hq:isSomeTy S.rd with
    | false=>rw [hq] at h;cases h
    | true=>
      rw [hq] at h
      obtain ⟨k1,k2,k3⟩:=weak_env (es:=es) (x:=x) h
      obtain ⟨d,hd⟩:=k3.rd hq
      exact ⟨weak_putE k1 (.inr ⟨rfl,.inr (.inl ⟨d,rfl,hav,hd⟩)⟩),k2,⟨k3.rd,k3.io,k3.xb⟩⟩
   ·cases h
 | (t,.xf r p)::es,x,h=>by
   simp only [packEnv] at h
   split at h
   ·rename_i c q hav
    cases hq:cnd (Nat.beq r c) (cnd (pbeq p q) (ioIn r S.io) false) false with
    | false=>rw [hq] at h;cases h
    | true=>
      rw [hq] at h
      cases h1:Nat.beq r c with
      | false=>rw [h1] at hq;cases hq
      | true=>
        rw [h1] at hq
        cases h2:pbeq p q with
        | false=>rw [h2] at hq;cases hq
        | true=>
          rw [h2] at hq
          have:=nbeq h1;subst this
          have:=zjp.1 h2;subst this
          obtain ⟨k1,k2,k3⟩:=weak_env (es:=es) (x:=x) h
          obtain ⟨d,hd⟩:=k3.io r hq
          exact ⟨weak_putE k1 (.inr ⟨rfl,.inr (.inr (.inl ⟨r,p,d,rfl,hav,hd⟩))⟩),k2,⟨k3.rd,k3.io,k3.xb⟩⟩
   ·cases h
 | (t,.cx r p)::es,x,h=>by
   simp only [packEnv] at h
   split at h
   ·rename_i c q hav
    cases hq:cnd (Nat.beq r c) (cnd (pbeq p q) (xbIn r S.xb) false) false with
    | false=>rw [hq] at h;cases h
    | true=>
      rw [hq] at h
      cases h1:Nat.beq r c with
      | false=>rw [h1] at hq;cases hq
      | true=>
        rw [h1] at hq
        cases h2:pbeq p q with
        | false=>rw [h2] at hq;cases hq
        | true=>
          rw [h2] at hq
          have:=nbeq h1;subst this
          have:=zjp.1 h2;subst this
          obtain ⟨k1,k2,k3⟩:=weak_env (es:=es) (x:=x) h
          obtain ⟨d,hd⟩:=k3.xb r hq
          exact ⟨weak_putE k1 (.inr ⟨rfl,.inr (.inr (.inr ⟨r,p,d,rfl,hav,hd⟩))⟩),k2,⟨k3.rd,k3.io,k3.xb⟩⟩
   ·cases h
 | (t,.fn f)::es,x,h=>by
   simp only [packEnv] at h
   split at h
   ·rename_i g hav
    cases h1:Nat.beq f g with
    | false=>rw [h1] at h;cases h
    | true=>
      rw [h1] at h
      have:=nbeq h1;subst this
      obtain ⟨k1,k2,k3⟩:=weak_env (es:=es) (x:=x) h
      exact ⟨weak_putF k1 hav,k2,⟨k3.rd,k3.io,k3.xb⟩⟩
   ·cases h
theorem pack_weak {S:Shp} {x:S.ty.val} (h:pack S st=some x):Weak (unpack S x) (renS st S.env):=(weak_env h).1
theorem Sim.packed {S:Shp} {x:S.ty.val} (h:Sim w0 lim0 rb n st a w lim β) (hp:pack S st=some x) : ∃β',Sim w0 lim0 rb n (unpack S x) a w lim β':=by
 obtain ⟨β',h'⟩:=h.ren S.env
 exact ⟨β',h'.weak (pack_weak hp) unpack_rb⟩
theorem map_inl {α β γ:Type} {o:Option α} {e:α ⊕ β} (h:o.map (Sum.inl (β:=β))=some e) : ∃x,o=some x∧e = .inl x:=by
 cases o with
 | none=>cases h
 | some x=>injection h with h;exact ⟨x,rfl,h.symm⟩
theorem map_inr {α β:Type} {o:Option β} {e:α ⊕ β} (h:o.map (Sum.inr (α:=α))=some e) : ∃x,o=some x∧e = .inr x:=by
 cases o with
 | none=>cases h
 | some x=>injection h with h;exact ⟨x,rfl,h.symm⟩
theorem obind_some {α β:Type} {o:Option α} {f:α→Option β} {r:β} (h:obind o f=some r) : ∃x,o=some x∧f x=some r:=by
 cases o with
 | none=>cases h
 | some x=>exact ⟨x,rfl,h⟩
theorem loop_sound {b:Code} {σ ρ:Type} {f:σ→Option (σ ⊕ ρ)} {U:σ→St} {Q:Exit→Act→World→Prop} {r:ρ}
 (hb : ∀s e,f s=some e→∀(k:σ→Prop) a w lim β,Sim w0 lim0 rb n (U s) a w lim β→(∀s',e = .inl s'→k s')→(∀r',e = .inr r'→r'=r) →
   b.wp P (Exit.then (fun a' w'=>∃s' lim' β',k s'∧Sim w0 lim0 rb n (U s') a' w' lim' β') Q) a w) {fuel:Nat} {s0:σ} (hi:iter fuel f s0=some r)
 (h:Sim w0 lim0 rb n (U s0) a w lim β):(Code.loop b).wp P Q a w:=by
 refine wp_loop_ghost (fun k a w=>∃s lim β,iter k f s=some r∧Sim w0 lim0 rb n (U s) a w lim β) fuel ⟨s0,lim,β,hi,h⟩ ?_
 intro k a w ⟨s,lim,β,hk,hs⟩
 cases k with
 | zero=>cases hk
 | succ k=>
   simp only [iter] at hk
   cases hf:f s with
   | none=>rw [hf] at hk;cases hk
   | some e=>
     rw [hf] at hk
     refine Code.wp_mono ?_ (hb s e hf (fun s'=>iter k f s'=some r) a w lim β hs (fun s' he=>?_) (fun r' he=>?_))
     ·intro x a' w' hx
      cases x<;>try exact hx
      obtain ⟨s',lim',β',h1,h2⟩:=hx
      exact ⟨k,Nat.lt_succ_self k,s',lim',β',h1,h2⟩
     ·subst he;exact hk
     ·subst he;injection hk
theorem cnd_cond {α:Type} (k b:Bool) (x y:α):cnd k (cnd b x y) (cndS b x y)=cond b x y:=by cases k<;>cases b<;>rfl
theorem ERep_kn {st:St} {f:Tmp→Bool} {w:World} {lim:Lim} {β:Mp} {rb:Option Nat} {av:AV} {v:Value} (h:ERep st w lim β rb av v):ERep {st with kn:=f} w lim β rb av v:=by cases av<;>exact h
theorem Sim.alike {st3 st':St} (h:Sim w0 lim0 rb n st' a w lim β) (hA:Alike st3 st'):Sim w0 lim0 rb n st3 a w lim β:=by
 obtain ⟨f,rfl⟩:=hA
 exact ⟨h.size,h.defers,h.grow,h.limOld,h.xrb,h.rdk,fun t=>ERep_kn (h.env t),h.box,h.inj,fun l hl=>(by cases l<;>exact h.own _ hl),fun l g hl hg=>(by cases l<;>exact h.ownb _ g hl hg),fun l l' g h1 h2 h3 h4=>(by cases l<;>cases l'<;>exact h.sep _ _ g h1 h2 h3 h4),fun t l h1 h2=>(by cases l<;>exact h.tag t _ h1 h2),h.rd,h.xs.keep rfl rfl (fun _ _ _=>⟨rfl,rfl⟩) (fun _ _ _ _=>rfl) (fun _ _=>⟨rfl,rfl⟩) (fun b d hb=>h.xs.offb hb) (fun l g hl hg=>by cases l<;>exact h.xs.off (m:=_) hl hg)⟩
theorem ERep_mk {st:St} {f:Tmp→Bool} {w:World} {lim:Lim} {β:Mp} {rb:Option Nat} {av:AV} {v:Value} (h:ERep st w lim β rb av v):ERep {st with mkt:=f} w lim β rb av v:=by cases av<;>exact h
theorem Sim.marks (h:Sim w0 lim0 rb n st a w lim β) (f:Tmp→Bool):Sim w0 lim0 rb n {st with mkt:=f} a w lim β:=
 ⟨h.size,h.defers,h.grow,h.limOld,h.xrb,h.rdk,fun t=>ERep_mk (h.env t),h.box,h.inj,fun l hl=>(by cases l<;>exact h.own _ hl),fun l g hl hg=>(by cases l<;>exact h.ownb _ g hl hg),fun l l' g h1 h2 h3 h4=>(by cases l<;>cases l'<;>exact h.sep _ _ g h1 h2 h3 h4),fun t l h1 h2=>(by cases l<;>exact h.tag t _ h1 h2),h.rd,
   h.xs.keep rfl rfl (fun _ _ _=>⟨rfl,rfl⟩) (fun _ _ _ _=>rfl) (fun _ _=>⟨rfl,rfl⟩) (fun b d hb=>h.xs.offb hb) (fun l g hl hg=>by cases l<;>exact h.xs.off (m:=_) hl hg)⟩
end
end Go.Den
