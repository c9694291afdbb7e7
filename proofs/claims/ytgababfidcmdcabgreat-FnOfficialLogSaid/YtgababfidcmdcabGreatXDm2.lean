/- Operations that make boxes, write them, and build structs. -/
import Derived.Lib.ConvBytes
import Derived.Test.YtgababfidcmdcabGreatXDm1
set_option linter.unusedVariables false
set_option linter.unusedSimpArgs false
namespace Go.Den
section
variable {P:Program} {tab:Tab} {w0:Base} {lim0:Lim} {rb:Option Nat} {n:Nat}
variable {st st':St} {a:Act} {w w':World} {lim lim':Lim} {β:Mp} {o:Oper} {c:Comp}
theorem ext_keep (hs:w.heap.size≤w'.heap.size) (hk : ∀k,k<w.heap.size→w'.heap[k]?=w.heap[k]?) (hl : ∀k,k<w.heap.size→lim' k=lim k):Ext w lim w' lim':=
 ⟨hs,fun b oo v hb _ hc=>(World.cell?_of_block (hk b hb)).trans hc,fun b m hb hu=>by unfold under;rw [hl b hb];exact hu⟩
theorem zkb (hg:w0.grownBy w rb) (h1:w'.os=w.os) (h2:w'.tape=w.tape) (h3:w'.output=w.output) (hs:w.heap.size≤w'.heap.size)
 (hk : ∀k,k<w0.heap.size→some k≠rb→w'.heap[k]?=w.heap[k]?):w0.grownBy w' rb:=
 ⟨h1.trans hg.os,h2.trans hg.tape,h3.trans hg.output,Nat.le_trans hg.size hs,fun k hk' hne hX=>(hk k hk' hne).trans (hg.block k hk' hne hX)⟩
theorem grow_keepX (hg:w0.grownBy w rb) (h1:w'.os=w.os) (h2:w'.tape=w.tape) (h3:w'.output=w.output) (hs:w.heap.size≤w'.heap.size)
 (hk : ∀k,k<w0.heap.size→some k≠rb→¬w0.X k→w'.heap[k]?=w.heap[k]?):w0.grownBy w' rb:=
 ⟨h1.trans hg.os,h2.trans hg.tape,h3.trans hg.output,Nat.le_trans hg.size hs,fun k hk' hne hX=>(hk k hk' hne hX).trans (hg.block k hk' hne hX)⟩
theorem ziv (ob:Obj) {k:Nat} (hk:k<w.heap.size):(w.alloc ob).heap[k]?=w.heap[k]?:=by
 have:k≠w.heap.size:=by omega
 simp [World.alloc,-World.alloc_eq,Array.getElem?_push,this]
theorem ziu (ob:Obj):(w.alloc ob).heap[w.heap.size]?=some ob:=by
 simp [World.alloc,-World.alloc_eq]
def limSet (lim:Lim) (b:Nat) (m:Option Nat):Lim:=fun k=>if k=b then m else lim k
theorem zero_at : ∀ {t:Ty} {p:List Nat} {T:Ty},typeAt t p=some T→OTy T=true→(zeroCells t)[offs t p]?=some (.slice none 0 0):=by
 intro t
 induction t with
 | prod x y ihx ihy=>
   intro p e h ho
   cases p with
   | nil=>
     simp only [typeAt] at h;injection h with h;subst h
     cases x with
     | slice e=>rfl
     | _=>cases y<;>cases ho
   | cons i p=>
     cases i with
     | zero=>
       simp only [typeAt] at h
       have:=ihx h ho
       simp only [offs,zeroCells]
       rw [List.getElem?_append_left (List.getElem?_eq_some_iff.1 this).1];exact this
     | succ i=>
       simp only [typeAt] at h
       have:=ihy h ho
       have hl:=(zec default (fun _=>none) x).length
       simp only [offs,zeroCells]
       rw [List.getElem?_append_right (by omega),hl,show x.size+offs y (i::p)-x.size=offs y (i::p) by omega];exact this
 | slice t=>intro p e h ho;rcases zce h with ⟨rfl,rfl⟩|⟨rfl,rfl⟩<;>simp [offs,zeroCells]
 | int k=>intro p e h ho;cases p<;>simp [typeAt] at h;subst h;cases ho
 | bool=>intro p e h ho;cases p<;>simp [typeAt] at h;subst h;cases ho
 | str=>intro p e h ho;cases p<;>simp [typeAt] at h;subst h;cases ho
 | unit=>intro p e h ho;cases p<;>simp [typeAt] at h;subst h;cases ho
theorem Sim.newbox (h:Sim w0 lim0 rb n st a w lim β) (hrb : ∀k,some k=rb→k<w0.heap.size) {d:Tmp} {ty:Ty} {v:ty.val} {o':List (List Nat)} {takes:List Loc} (hdst:o.dst=some d) (hd:d<n) (hno:st.box d=none)
 {cells:Array Value} {el:TypeId} (hr:CRep w lim ty v cells.toList) (src:List Nat→Loc)
 (hown : ∀p∈o',∃T x,typeAt ty p=some T∧cells[offs ty p]?=some x ∧
   ((x = .slice none 0 0∧OTy T=true)∨(src p∈takes∧st.own (src p)=true∧locV st a w β (src p)=some x∧locTy st (src p)=some T)))
 (hinj : ∀p∈o',∀q∈o',src p=src q→p=q) :
 Sim w0 lim0 rb n (apply st {upd0 (some d) (.cel d []) none with takes:=takes,bw:=some (d,⟨ty,v⟩,o',[])}) (a.put o.dst (.pointer (some ⟨w.heap.size,0,none⟩))) (w.alloc (.cells cells el)) (limSet lim w.heap.size (some 0)) {β with b:=fun t=>if t=d then w.heap.size else β t}:=by
 have hl : ∀k,k<w.heap.size→limSet lim w.heap.size (some 0) k=lim k:=fun k hk=>by simp [limSet,show k≠w.heap.size by omega]
 have hext:Ext w lim (w.alloc (.cells cells el)) (limSet lim w.heap.size (some 0)):=ext_keep (by simp) (fun k hk=>ziv _ hk) hl
 rw [hdst]
 refine h.boxw {upd0 (some d) (.cel d []) none with takes:=takes,bw:=some (d,⟨ty,v⟩,o',[])} _ _ _ {β with b:=fun t=>if t=d then w.heap.size else β t} d ⟨ty,v⟩ o' [] (fun d' hd'=>by have hd':some d=some d':=hd';injection hd' with hd';subst hd';exact hd) rfl rfl rfl rfl hext
  (zkb h.grow rfl rfl rfl (by simp) (fun k hk _=>ziv _ (Nat.lt_of_lt_of_le hk h.grow.size))) (fun k hk _=>⟨ziv _ hk,hl k hk⟩)
  (fun b d' hb=>?_) (fun _=>by simp) hrb cells el (by simp only [if_true];exact ziu _) (hr.mono hext) (by simp [limSet]) (fun d0 h0=>by rw [hno] at h0;cases h0) (fun d' hd'=>?_) src hown hinj
 ·have:b≠d:=fun e=>by rw [e,hno] at hb;cases hb
  simp [this]
 ·exact ⟨⟨ty,v⟩,by simp [apply],by simp [offs]⟩
theorem ok_box (h:Sim w0 lim0 rb n st a w lim β) (hrb : ∀k,some k=rb→k<w0.heap.size) (hd : ∀d,o.dst=some d→d<n) {el:TypeId} {x:Operand} (hop:o.op = .box el x) (hc:stBox tab o el x st=some c) (ho:c.out st=some st'):OpOk P w0 lim0 rb n o st' a w:=by
 unfold stBox at hc
 split at hc
 ·rename_i ty d hty hdst
  split at hc
  ·rename_i v hno hv
   injection hc with hc;subst hc
   obtain ⟨_,rfl⟩:=zap ho
   have hr:=as_rep hv (h.ent x)
   have he:(execOp a.eval o).run P w = .ok (.value (.pointer (some ⟨w.heap.size,0,none⟩))) (w.alloc (.cells (a.eval x).cells el)):=by
    simp [execOp,hop,Instr.box,newVar,newRow]
   refine .value he (h.newbox hrb hdst (hd d hdst) hno hr.cells (srcOf x) (fun p hp=>?_) (fun p _ q _ hpq=>srcOf_inj x hpq))
   obtain ⟨h1,h2⟩:=owned_mem hp
   have hav : ∀u,x = .tmp u→(∃v,(st.env u).av = .dat ty v)∨(st.env u).av = .nil:=by
    intro u hu;subst hu
    simp only [St.ent] at hv
    cases hk:(st.env u).av with
    | dat t' y=>
      rw [hk] at hv
      obtain ⟨e,_⟩:=zbm hv
      subst e;exact .inl ⟨y,rfl⟩
    | nil=>exact .inr rfl
    | _=>rw [hk] at hv;cases hv
   have hcn : ∀k,x = .const k→(st.ent x).av = .nil∨slicePaths ty=[]:=by
    intro k hk;subst hk
    cases hq:(st.ent (.const k)).av with
    | nil=>exact .inl rfl
    | dat t' y=>
      rw [hq] at hv
      obtain ⟨e,_⟩:=zbm hv
      subst e
      have hco:coerce none (st.ent (.const k)).av = .dat t' y:=by rw [hq];rfl
      exact const_own hco |>.imp (fun h=>by rw [hq] at h;cases h) id
    | _=>rw [hq] at hv;cases hv
   obtain ⟨e,y,k1,k2,k3⟩:=handed h hav hcn hr h1 h2
   refine ⟨e,y,k1,by simpa using k2,?_⟩
   rcases k3 with k3|⟨k3,k4⟩
   ·exact .inl k3
   ·exact .inr ⟨mem_takesOf k3 h2 hp,k4⟩
  ·cases hc
 ·cases hc
theorem ok_alloc (hT:TabOk P tab) (h:Sim w0 lim0 rb n st a w lim β) (hrb : ∀k,some k=rb→k<w0.heap.size) (hd : ∀d,o.dst=some d→d<n) {el:TypeId} (hop:o.op = .alloc el) (hc:stAlloc tab o el st=some c) (ho:c.out st=some st'):OpOk P w0 lim0 rb n o st' a w:=by
 unfold stAlloc at hc
 split at hc
 ·rename_i ty d hty hdst
  split at hc
  ·rename_i hno
   injection hc with hc;subst hc
   obtain ⟨_,rfl⟩:=zap ho
   have hcl:(wrapV ty (zeroCells ty)).cells=(zeroCells ty).toArray:=za6 (zec w lim ty)
   have he:(execOp a.eval o).run P w = .ok (.value (.pointer (some ⟨w.heap.size,0,none⟩))) (w.alloc (.cells (zeroCells ty).toArray el)):=by
    simp [execOp,hop,Instr.alloc,zmg (hT _ _ hty),newVar,newRow,hcl]
   refine .value he (h.newbox hrb hdst (hd d hdst) hno (by simpa using zec w lim ty) (fun p=>.tmp 0 p) (fun p hp=>?_) (fun p _ q _ hpq=>by injection hpq))
   obtain ⟨⟨e,he1,ho1⟩,_⟩:=zaw hp
   exact ⟨e,_,he1,by simpa using zero_at he1 ho1,.inl ⟨rfl,ho1⟩⟩
  ·cases hc
 ·cases hc
structure Wrote (w w':World) (g:Nat) (ob:Obj):Prop where
 at_:w'.heap[g]?=some ob
 other : ∀k,k≠g→w'.heap[k]?=w.heap[k]?
 size:w'.heap.size=w.heap.size
 os:w'.os=w.os
 tape:w'.tape=w.tape
 output:w'.output=w.output
theorem zld : ∀(vs:List Value) (arr:Array Value) (el:TypeId) (fr:Nat×Nat) (g i oo:Nat) (w:World) (c1 c2 c3:List Value),w.heap[g]?=some (.cells arr el fr)→arr.toList=c1++(c2++c3)→c1.length=oo+i→c2.length=vs.length →
 (∀v∈vs,notAgg v)→(∀k,k<arr.size→¬(fr.1≤k∧k<fr.2)) →
 ∃w',(storeCells ⟨g,oo,none⟩ vs i).run P w = .ok () w'∧Wrote w w' g (.cells (c1++(vs++c3)).toArray el fr):=by
 intro vs
 induction vs with
 | nil=>
   intro arr el fr g i oo w c1 c2 c3 hg ha hl hl2 _ _
   have:c2=[]:=List.eq_nil_of_length_eq_zero (by simpa using hl2)
   subst this
   refine ⟨w,by simp [storeCells],?_,fun _ _=>rfl,rfl,rfl,rfl,rfl⟩
   have harr:(c1++([]++c3)).toArray=arr:=by apply Array.ext';simpa using ha.symm
   rw [harr];exact hg
 | cons v vs ih=>
   intro arr el fr g i oo w c1 c2 c3 hg ha hl hl2 hv hfr
   cases c2 with
   | nil=>simp at hl2
   | cons u c2=>
     have hsz:oo+i<arr.size:=by
      have:arr.size=arr.toList.length:=by simp
      rw [this,ha];simp;omega
     have hcell:w.cell? ⟨g,oo+i,none⟩=some u:=by
      simp only [World.cell?,hg]
      have:arr[oo+i]?=arr.toList[oo+i]?:=by simp
      simp only [Option.isSome_none,Bool.false_eq_true,if_false]
      rw [this,ha,←hl]
      simp
     have hfz:w.frozen? ⟨g,oo+i,none⟩=false:=by
      simp only [World.frozen?,hg]
      have:=hfr (oo+i) hsz
      obtain ⟨f1,f2⟩:=fr
      simp only at this ⊢
      simpa using this
     have hone:v.oneCell'=true:=by
      have:=hv v (by simp)
      cases v<;>first|rfl|exact this.elim
     have hlt:g<w.heap.size:=(Array.getElem?_eq_some_iff.1 hg).1
     have h1:(w.setCell ⟨g,oo+i,none⟩ v).heap[g]?=some (.cells (arr.setIfInBounds (oo+i) v) el fr):=by
      simp only [World.setCell,Array.getElem?_modify,hg]
      simp
     have h2 : ∀k,k≠g→(w.setCell ⟨g,oo+i,none⟩ v).heap[k]?=w.heap[k]?:=fun k hk=>by
      simp only [World.setCell,Array.getElem?_modify,if_neg (Ne.symm hk)]
     have hset:(arr.setIfInBounds (oo+i) v).toList=(c1++[v])++(c2++c3):=by
      simp only [Array.toList_setIfInBounds,ha,←hl]
      simp
     obtain ⟨w',k1,k2⟩:=ih (arr.setIfInBounds (oo+i) v) el fr g (i+1) oo (w.setCell ⟨g,oo+i,none⟩ v) (c1++[v]) c2 c3 h1 hset (by simp [hl];omega) (by simpa using hl2) (fun x hx=>hv x (by simp [hx])) (fun k hk=>hfr k (by simpa using hk))
     refine ⟨w',?_,by simpa using k2.at_,fun k hk=>(k2.other k hk).trans (h2 k hk),by rw [k2.size];simp,k2.os,k2.tape,k2.output⟩
     simp only [storeCells,Sem.run_bind,addr_add]
     rw [run_store P w ⟨g,oo+i,none⟩ v .plain hone,hcell]
     simp only [hfz,Bool.false_eq_true,if_false,Result.andThen_ok]
     exact k1
theorem getP_size {t:Ty} {x:t.val} {p:List Nat} {y:Dat} (h:getP t x p=some y):offs t p+y.1.size≤t.size:=zbf (zb0 h)
theorem as_av {x:Operand} {ty:Ty} {v:ty.val} (hv:AV.as ty (st.ent x).av=some v) :
 (∀u,x = .tmp u→(∃v,(st.env u).av = .dat ty v)∨(st.env u).av = .nil)∧(∀k,x = .const k→(st.ent x).av = .nil∨slicePaths ty=[]):=by
 refine ⟨fun u hu=>?_,fun k hk=>?_⟩
 ·subst hu
  simp only [St.ent] at hv
  cases hk:(st.env u).av with
  | dat t' y=>
    rw [hk] at hv
    obtain ⟨e,_⟩:=zbm hv
    subst e;exact .inl ⟨y,rfl⟩
  | nil=>exact .inr rfl
  | _=>rw [hk] at hv;cases hv
 ·subst hk
  cases hq:(st.ent (.const k)).av with
  | nil=>exact .inl rfl
  | dat t' y=>
    rw [hq] at hv
    obtain ⟨e,_⟩:=zbm hv
    subst e
    have hco:coerce none (st.ent (.const k)).av = .dat t' y:=by rw [hq];rfl
    exact const_own hco |>.imp (fun h=>by rw [hq] at h;cases h) id
  | _=>rw [hq] at hv;cases hv
theorem farSl_far {p:List Nat} : ∀ {qs:List (List Nat)},farSl qs p=true→∀ {q},q∈qs→pcomp q p=false
 | [],_,q,hq=>by cases hq
 | r::qs,h,q,hq=>by
   simp only [farSl] at h
   cases hc:pcomp r p with
   | true=>rw [hc] at h;cases h
   | false=>
     rw [hc] at h
     rcases List.mem_cons.1 hq with rfl|hq
     ·exact hc
     ·exact farSl_far h hq
theorem ok_store (hT:TabOk P tab) (h:Sim w0 lim0 rb n st a w lim β) (hrb : ∀k,some k=rb→k<w0.heap.size) (hd : ∀d,o.dst=some d→d<n) {t:TypeId} {x v:Operand} (hop:o.op = .store t x v) (hc:stStore tab o t x v st=some c) (ho:c.out st=some st'):OpOk P w0 lim0 rb n o st' a w:=by
 unfold stStore at hc
 have hx:=h.ent x
 -- the write
 have run : ∀ {g:Nat} {cells:Array Value} {e:TypeId} {d:Dat} {p:List Nat} {y:Dat} {z:y.1.val} {d':d.1.val},w.heap[g]?=some (.cells cells e (0,0))→CRep w lim d.1 d.2 cells.toList→getP d.1 d.2 p=some y→tab t=some y.1 →
  AV.as y.1 (st.ent v).av=some z→setP d.1 d.2 p ⟨y.1,z⟩=some d'→a.eval x = .pointer (some ⟨g,offs d.1 p,none⟩) →
  ∃w' c1 c2 c3,(execOp a.eval o).run P w = .ok .skip w'∧cells.toList=c1++(c2++c3)∧c1.length=offs d.1 p∧c2.length=y.1.size∧(a.eval v).cells.toList.length=y.1.size ∧
   Wrote w w' g (.cells (c1++((a.eval v).cells.toList++c3)).toArray e (0,0))∧CRep w lim d.1 d' (c1++((a.eval v).cells.toList++c3)):=by
  intro g cells e d p y z d' hg hr hp ht hz hset he
  obtain ⟨c1,c2,c3,h1,h2,h3,h4⟩:=hr.part hp
  have hv:=(as_rep hz (h.ent v)).cells
  obtain ⟨w',k1,k2⟩:=zld (P:=P) (a.eval v).cells.toList cells e (0,0) g 0 (offs d.1 p) w c1 c2 c3 hg h1 (by omega) (by rw [h3.length,hv.length]) (fun u hu=>hv.cells u hu) (fun k _ hk=>by omega)
  refine ⟨w',c1,c2,c3,?_,h1,h2,h3.length,hv.length,k2,h4 z _ d' hv hset⟩
  have hsz:(a.eval v).cells.size=y.1.size:=by have:=hv.length;simpa using this
  simp only [execOp,hop,Instr.storeAt,Instr.sureAddr,he,Sem.run_bind,Sem.run_pure,Result.andThen_ok,storeVar,zby (hT _ _ ht),hsz,ne_eq,not_true_eq_false,if_false]
  simp only [k1,Result.andThen_ok]
 cases hx':(st.ent x).av with
 | cel b p=>
   rw [hx'] at hc hx
   obtain ⟨d,h1,h2⟩:=hx
   simp only [h1] at hc
   cases hp:getP d.1 d.2 p with
   | none=>rw [hp] at hc;cases hc
   | some y=>
     rw [hp] at hc;simp only [] at hc
     cases hty:tyIs (tab t) y.1 with
     | false=>rw [hty] at hc;cases hc
     | true=>
       cases hz:AV.as y.1 (st.ent v).av with
       | none=>rw [hty,hz] at hc;cases hc
       | some z=>
         rw [hty,hz] at hc;simp only [] at hc
         cases hset:setP d.1 d.2 p ⟨y.1,z⟩ with
         | none=>rw [hset] at hc;cases hc
         | some d'=>
           rw [hset] at hc
           injection hc with hc;subst hc
           obtain ⟨_,rfl⟩:=zap ho
           obtain ⟨cells,e,m1,m2,m3,m4⟩:=h.box b d h1
           obtain ⟨w',c1,c2,c3,r1,r2,r3,r4,r4',r5,r6⟩:=run m1 m2 hp (zax hty) hz hset h2
           have hr:=as_rep hz (h.ent v)
           have hext:Ext w lim w' lim:=⟨by rw [r5.size];exact Nat.le_refl _,fun g oo u hg hu hcell=>by
            by_cases hgb:g=β b
            ·subst hgb;have:=hu 0 m4;omega
            ·exact (World.cell?_of_block (r5.other g hgb)).trans hcell,fun _ _ _ hu=>hu⟩
           refine .skip r1 (h.boxw {upd0 o.dst .skp none with takes:=takesOf v (st.owned v (slicePaths y.1)),bw:=some (b,⟨d.1,d'⟩,(st.owned v (slicePaths y.1)).map (p ++ ·),p)} undef w' lim β b ⟨d.1,d'⟩ _ p hd rfl rfl rfl rfl hext
            (zkb h.grow r5.os r5.tape r5.output (by rw [r5.size];exact Nat.le_refl _) (fun k hk _=>r5.other k (by omega))) (fun k _ hk=>⟨r5.other k (hk d h1),rfl⟩) (fun _ _ _=>rfl) (fun hn=>by rw [h1] at hn;cases hn) hrb
            _ e r5.at_ (by simpa using r6.mono hext) m4 (fun d0 h0=>?_) (fun _ _=>rfl) (fun q=>srcOf v (q.drop p.length)) (fun q hq=>?_) (fun q hq q' hq' hqq=>?_))
           ·rw [h1] at h0;injection h0 with h0;subst h0
            refine ⟨rfl,fun q e' hq hoq hpc=>?_⟩
            have hb:=beside hq (zb0 hp) hpc
            have hs1:e'.size=1:=oty_size hoq
            simp only [World.cell?,r5.at_,m1]
            simp only [Option.isSome_none,Bool.false_eq_true,if_false]
            have e1:cells[offs d.1 q]?=cells.toList[offs d.1 q]?:=by simp
            rw [e1,r2]
            rw [hs1] at hb
            simp only [List.getElem?_toArray]
            rcases hb with hb|hb
            ·rw [List.getElem?_append_left (by omega),List.getElem?_append_left (by omega)]
            ·rw [List.getElem?_append_right (by omega),List.getElem?_append_right (by omega),List.getElem?_append_right (by omega),List.getElem?_append_right (by omega),r4,r4']
           ·obtain ⟨q',hq',rfl⟩:=List.mem_map.1 hq
            obtain ⟨g1,g2⟩:=owned_mem hq'
            obtain ⟨e',u,k1,k2,k3⟩:=handed h (as_av hz).1 (as_av hz).2 hr g1 g2
            have hta:typeAt d.1 (p++q')=some e'∧offs d.1 (p++q')=offs d.1 p+offs y.1 q':=getP_app hp q' k1
            refine ⟨e',u,hta.1,?_,?_⟩
            ·rw [hta.2]
             have hlt:=(List.getElem?_eq_some_iff.1 k2).1
             simp only [List.getElem?_toArray]
             rw [List.getElem?_append_right (by omega),←r3,show c1.length+offs y.1 q'-c1.length=offs y.1 q' by omega,List.getElem?_append_left hlt];exact k2
            ·simp only [List.drop_left']
             rcases k3 with k3|⟨k3,k4⟩
             ·exact .inl k3
             ·exact .inr ⟨mem_takesOf k3 g2 hq',k4⟩
           ·obtain ⟨q1,_,rfl⟩:=List.mem_map.1 hq
            obtain ⟨q2,_,rfl⟩:=List.mem_map.1 hq'
            simp only [List.drop_left'] at hqq
            rw [srcOf_inj v hqq]
 | rdr p=>
   rw [hx'] at hc hx
   obtain ⟨d,b,h1,h2,h3⟩:=hx
   simp only [h1] at hc
   cases hp:getP d.1 d.2 p with
   | none=>rw [hp] at hc;cases hc
   | some y=>
     rw [hp] at hc;simp only [] at hc
     cases hty0:cnd (cnd (flatT d.1) (farSl (slicePaths d.1) p) false) (tyIs (tab t) y.1) false with
     | false=>rw [hty0] at hc;cases hc
     | true=>
       obtain ⟨hflat,hfar,hty⟩:flatT d.1=true∧farSl (slicePaths d.1) p=true∧tyIs (tab t) y.1=true:=by
        cases q1:flatT d.1 with
        | false=>rw [q1] at hty0;cases hty0
        | true=>
          cases q2:farSl (slicePaths d.1) p with
          | false=>rw [q1,q2] at hty0;cases hty0
          | true=>rw [q1,q2] at hty0;exact ⟨rfl,rfl,hty0⟩
       cases hz:AV.as y.1 (st.ent v).av with
       | none=>rw [hty0,hz] at hc;cases hc
       | some z=>
         rw [hty0,hz] at hc;simp only [] at hc
         cases hset:setP d.1 d.2 p ⟨y.1,z⟩ with
         | none=>rw [hset] at hc;cases hc
         | some d'=>
           rw [hset] at hc
           injection hc with hc;subst hc
           obtain ⟨_,rfl⟩:=zap ho
           obtain ⟨b',cells,e,m0,m0',m1,m2,m4⟩:=h.rd d h1
           rw [h2] at m0;injection m0 with m0;subst m0
           obtain ⟨w',c1,c2,c3,r1,r2,r3,r4,r4',r5,r6⟩:=run m1 m2 hp (zax hty) hz hset h3
           have hext:Ext w lim w' lim:=⟨by rw [r5.size];exact Nat.le_refl _,fun g oo u hg hu hcell=>by
            by_cases hgb:g=b
            ·subst hgb;have:=hu 0 m4;omega
            ·exact (World.cell?_of_block (r5.other g hgb)).trans hcell,fun _ _ _ hu=>hu⟩
           refine .skip r1 (h.grown {upd0 o.dst .skp none with rd:=some ⟨d.1,d'⟩} undef w' lim hd rfl hext
            (zkb h.grow r5.os r5.tape r5.output (by rw [r5.size];exact Nat.le_refl _) (fun k _ hne=>r5.other k (fun e=>hne (by rw [e,h2])))) (fun k _ hne _=>⟨r5.other k (fun e=>hne (by rw [e,h2])),rfl⟩) (fun k hk=>⟨hrb k hk,rfl⟩) rfl
            (fun p hp=>by cases hp) (fun p hp=>by cases hp) rfl (.inr ⟨⟨d.1,d'⟩,d,rfl,h1,rfl,b,_,e,h2,m0',r5.at_,by simpa using r6.mono hext,m4,fun q e' hq=>?_⟩))
           have hq:typeAt d.1 q=some (.slice e'):=hq
           show w'.cell? ⟨b,offs d.1 q,none⟩=w.cell? ⟨b,offs d.1 q,none⟩
           have hb:=beside hq (zb0 hp) (farSl_far hfar (flat_paths hflat hq))
           simp only [World.cell?,r5.at_,m1]
           simp only [Option.isSome_none,Bool.false_eq_true,if_false]
           have e1:cells[offs d.1 q]?=cells.toList[offs d.1 q]?:=by simp
           have hs1:(Ty.slice e').size=1:=rfl
           rw [e1,r2]
           rw [hs1] at hb
           simp only [List.getElem?_toArray]
           rcases hb with hb|hb
           ·rw [List.getElem?_append_left (by omega),List.getElem?_append_left (by omega)]
           ·rw [List.getElem?_append_right (by omega),List.getElem?_append_right (by omega),List.getElem?_append_right (by omega),List.getElem?_append_right (by omega),r4,r4']
 | _=>rw [hx'] at hc;cases hc
end
end Go.Den
namespace Go.Den
section
variable {P:Program} {tab:Tab} {w0:Base} {lim0:Lim} {rb:Option Nat} {n:Nat}
variable {st st':St} {a:Act} {w w':World} {lim lim':Lim} {β:Mp} {o:Oper} {c:Comp}
theorem fold_set : ∀(vs:List Value) (k off:Nat) (cells:Array Value) (c1 c2 c3:List Value),cells.toList=c1++(c2++c3)→c1.length=off+k→c2.length=vs.length →
 (((vs.zipIdx k).foldl (fun cs (p:Value×Nat)=>cs.setIfInBounds (off+p.2) p.1) cells)).toList=c1++(vs++c3):=by
 intro vs
 induction vs with
 | nil=>
   intro k off cells c1 c2 c3 h hl hl2
   have:c2=[]:=List.eq_nil_of_length_eq_zero (by simpa using hl2)
   subst this
   simpa using h
 | cons v vs ih=>
   intro k off cells c1 c2 c3 h hl hl2
   cases c2 with
   | nil=>simp at hl2
   | cons u c2=>
     simp only [List.zipIdx_cons,List.foldl_cons]
     have:=ih (k+1) off (cells.setIfInBounds (off+k) v) (c1++[v]) c2 c3 (by simp only [Array.toList_setIfInBounds,h,←hl];simp) (by simp [hl];omega) (by simpa using hl2)
     simpa using this
theorem fill_step {place:Nat→Option (Nat×Nat)} {cells:Array Value} {i:Nat} {v:Value} {rest:List (Nat×Value)} {off size:Nat} {c1 c2 c3:List Value} (hp:place i=some (off,size)) (hv:v.cells.size=size)
 (hc:cells.toList=c1++(c2++c3)) (hl:c1.length=off) (hl2:c2.length=size) :
 Instr.fill place cells ((i,v)::rest)=Instr.fill place (c1++(v.cells.toList++c3)).toArray rest:=by
 have hsz:cells.size=c1.length+(c2.length+c3.length):=by
  have:cells.size=cells.toList.length:=by simp
  rw [this,hc];simp
 simp only [Instr.fill,hp]
 rw [if_neg (by simp [hv];omega)]
 congr 1
 apply Array.ext'
 have:=fold_set v.cells.toList 0 off cells c1 c2 c3 hc (by omega) (by simp [hl2,hv])
 rw [←this]
 congr 1
 rw [←Array.foldl_toList]
 simp
theorem run_fill (h:Sim w0 lim0 rb n st a w lim β) {ty:Ty} {place:Nat→Option (Nat×Nat)} (hplace : ∀(x:ty.val) i d,getF ty x i=some d→place i=some (offs ty [i],d.1.size)) :
 ∀(parts:List (Nat×Operand)) (z v:ty.val) (cells:Array Value),CRep w lim ty z cells.toList→noDup parts=true→fillP st ty z parts=some v →
 ∃cells',Instr.fill place cells (parts.map fun p=>(p.1,a.eval p.2))=some cells'∧CRep w lim ty v cells'.toList ∧
  ∀i q e,typeAt ty (i::q)=some e→OTy e=true→match partOf i parts with
   | some x=>∃u,(∃y,AV.as u (st.ent x).av=some y)∧typeAt u q=some e∧cells'[offs ty (i::q)]?=(a.eval x).cells.toList[offs u q]?
   | none=>cells'[offs ty (i::q)]?=cells[offs ty (i::q)]?:=by
 intro parts
 induction parts with
 | nil=>
   intro z v cells hc _ hf
   simp only [fillP] at hf;injection hf with hf;subst hf
   exact ⟨cells,rfl,hc,fun i q e _ _=>rfl⟩
 | cons px parts ih=>
   intro z v cells hc hn hf
   obtain ⟨i,x⟩:=px
   simp only [fillP] at hf
   cases hg:getF ty z i with
   | none=>rw [hg] at hf;cases hf
   | some d=>
     rw [hg] at hf;simp only [] at hf
     cases hv:AV.as d.1 (st.ent x).av with
     | none=>rw [hv] at hf;cases hf
     | some y=>
       rw [hv] at hf;simp only [] at hf
       cases hs:setF ty z i ⟨d.1,y⟩ with
       | none=>rw [hs] at hf;cases hf
       | some z'=>
         rw [hs] at hf;simp only [] at hf
         have hn':noDup parts=true∧partOf i parts=none:=by
          simp only [noDup] at hn
          cases hq:partOf i parts with
          | none=>rw [hq] at hn;exact ⟨hn,rfl⟩
          | some _=>rw [hq] at hn;cases hn
         have hr:=(as_rep hv (h.ent x)).cells
         obtain ⟨c1,c2,c3,k1,k2,k3,k4⟩:=hc.field hg
         have hcell:=k4 y _ z' hr hs
         obtain ⟨cells',m1,m2,m3⟩:=ih z' v (c1++((a.eval x).cells.toList++c3)).toArray (by simpa using hcell) hn'.1 hf
         refine ⟨cells',?_,m2,fun j q e hj hoe=>?_⟩
         ·simp only [List.map_cons]
          rw [fill_step (hplace z i d hg) (by have:=hr.length;simpa using this) k1 k2 k3.length];exact m1
         ·have m3:=m3 j q e hj hoe
          have hjl:=(zbf hj)
          simp only [partOf]
          cases hb:Nat.beq j i with
          | true=>
            have:=nbeq hb;subst this
            rw [hn'.2] at m3
            simp only [cnd_true]
            obtain ⟨g1,g2⟩:=zdu q hg
            rw [g1] at hj
            refine ⟨d.1,⟨y,hv⟩,hj,?_⟩
            rw [m3,g2]
            have hlt:=zbf hj
            have hlen:=hr.length
            have hs1:e.size=1:=oty_size hoe
            simp only [List.getElem?_toArray]
            rw [List.getElem?_append_right (by omega),←k2,show c1.length+offs d.1 q-c1.length=offs d.1 q by omega,List.getElem?_append_left (by omega)]
          | false=>
            simp only [cnd_false]
            cases hp:partOf j parts with
            | some x'=>rw [hp] at m3;exact m3
            | none=>
              rw [hp] at m3
              simp only [] at m3 ⊢
              rw [m3]
              -- another field's cells
              have hti:typeAt ty [i]=some d.1:=by
               have:=(zdu [] hg).1;rw [this];simp [typeAt]
              have hpc:pcomp (j::q) [i]=false:=by simp only [pcomp,hb,cnd_false]
              have hb2:=beside hj hti hpc
              have hlen:=hr.length
              have hl2:=k3.length
              have hs1:e.size=1:=oty_size hoe
              have e1:cells[offs ty (j::q)]?=cells.toList[offs ty (j::q)]?:=by simp
              simp only [List.getElem?_toArray]
              rw [e1,k1]
              rcases hb2 with hb2|hb2
              ·rw [List.getElem?_append_left (by omega),List.getElem?_append_left (by omega)]
              ·rw [List.getElem?_append_right (by omega),List.getElem?_append_right (by omega),List.getElem?_append_right (by omega),List.getElem?_append_right (by omega),hlen,hl2]
theorem zhn {parts:List (Nat×Operand)} {p:List Nat} : ∀ {ps:List (List Nat)},p∈st.builtOwn parts ps→p∈ps∧∃i q,p=i::q∧∀x,partOf i parts=some x→st.ownOp x q=true
 | [],h=>by simp [St.builtOwn] at h
 | []::ps,h=>by
   simp only [St.builtOwn] at h
   obtain ⟨h1,h2⟩:=zhn h;exact ⟨by simp [h1],h2⟩
 | (i::q)::ps,h=>by
   simp only [St.builtOwn] at h
   cases hp:partOf i parts with
   | none=>
     rw [hp] at h
     rcases List.mem_cons.1 h with rfl|h
     ·exact ⟨by simp,i,q,rfl,fun x hx=>by rw [hp] at hx;cases hx⟩
     ·obtain ⟨h1,h2⟩:=zhn h;exact ⟨by simp [h1],h2⟩
   | some x=>
     rw [hp] at h
     cases ho:st.ownOp x q with
     | true=>
       simp only [ho,cnd_true] at h
       rcases List.mem_cons.1 h with rfl|h
       ·exact ⟨by simp,i,q,rfl,fun x' hx=>by rw [hp] at hx;injection hx with hx;subst hx;exact ho⟩
       ·obtain ⟨h1,h2⟩:=zhn h;exact ⟨by simp [h1],h2⟩
     | false=>
       simp only [ho,cnd_false] at h
       obtain ⟨h1,h2⟩:=zhn h;exact ⟨by simp [h1],h2⟩
theorem builtTakes_mem {parts:List (Nat×Operand)} {i:Nat} {q:List Nat} {t:Tmp} (hp:partOf i parts=some (.tmp t)) : ∀ {ps:List (List Nat)},(i::q)∈ps→Loc.tmp t q∈builtTakes parts ps
 | [],h=>by cases h
 | []::ps,h=>by
   simp only [builtTakes]
   rcases List.mem_cons.1 h with h|h
   ·cases h
   ·exact builtTakes_mem hp h
 | (j::r)::ps,h=>by
   simp only [builtTakes]
   rcases List.mem_cons.1 h with h|h
   ·injection h with h1 h2;subst h1;subst h2
    rw [hp];simp
   ·have:=builtTakes_mem hp h
    cases hq:partOf j parts with
    | none=>exact this
    | some x=>cases x<;>simp [this]
theorem places_spec : ∀(fs:List Field),(∀f∈fs,∃ty,TyOk P tab (Field.type f) ty) →
 ∃ps:List (Nat×Nat),(fs.mapM fun f=>Prod.mk f.offset <$> sizeOf f.type).run P w = .ok ps w∧∀(i:Nat) (f:Field) ty,fs[i]?=some f→TyOk P tab f.type ty→ps[i]?=some (f.offset,ty.size):=by
 intro fs
 induction fs with
 | nil=>intro _;exact ⟨[],by simp [List.mapM_nil],fun i f ty h=>by simp at h⟩
 | cons f fs ih=>
   intro h
   obtain ⟨ty,hty⟩:=h f (by simp)
   obtain ⟨ps,h1,h2⟩:=ih (fun g hg=>h g (by simp [hg]))
   refine ⟨(f.offset,ty.size)::ps,?_,fun i g t hi ht=>?_⟩
   ·simp [List.mapM_cons,zby hty,h1]
   ·cases i with
    | zero=>
      simp at hi;subst hi
      have e1:=zby (w:=w) hty
      have e2:=zby (w:=w) ht
      rw [e1] at e2;injection e2 with e2
      simp [e2]
    | succ i=>simp at hi;simpa using h2 i g t hi ht
theorem hasT_of : ∀ {ps:List (Nat×Operand)} {i:Nat} {t:Tmp},partOf i ps=some (.tmp t)→hasT t ps=true
 | [],_,_,h=>by cases h
 | (j,x)::ps,i,t,h=>by
   simp only [partOf] at h
   cases hb:Nat.beq i j with
   | true=>
     rw [hb] at h;simp only [cnd_true] at h;injection h with h;subst h
     simp [hasT]
   | false=>
     rw [hb] at h;simp only [cnd_false] at h
     have:=hasT_of h
     cases x with
     | tmp u=>cases hq:Nat.beq t u<;>simp [hasT,hq,this]
     | const _=>simpa [hasT] using this
     | global _=>simpa [hasT] using this
     | func _=>simpa [hasT] using this
theorem noDupT_inj : ∀ {ps:List (Nat×Operand)},noDupT ps=true→∀ {i j:Nat} {t:Tmp},partOf i ps=some (.tmp t)→partOf j ps=some (.tmp t)→i=j
 | [],_,_,_,_,h,_=>by cases h
 | (k,x)::ps,hn,i,j,t,hi,hj=>by
   have hn':noDupT ps=true∧∀u,x = .tmp u→hasT u ps=false:=by
    cases x with
    | tmp u=>
      simp only [noDupT] at hn
      cases hu:hasT u ps with
      | true=>rw [hu] at hn;cases hn
      | false=>rw [hu] at hn;exact ⟨hn,fun v hv=>by injection hv with hv;subst hv;exact hu⟩
    | const _=>exact ⟨hn,fun v hv=>by cases hv⟩
    | global _=>exact ⟨hn,fun v hv=>by cases hv⟩
    | func _=>exact ⟨hn,fun v hv=>by cases hv⟩
   simp only [partOf] at hi hj
   cases hbi:Nat.beq i k with
   | true=>
     have:=nbeq hbi;subst this
     rw [hbi] at hi;simp only [cnd_true] at hi;injection hi with hi
     cases hbj:Nat.beq j i with
     | true=>exact (nbeq hbj).symm
     | false=>
       rw [hbj] at hj;simp only [cnd_false] at hj
       have:=hn'.2 t hi
       rw [hasT_of hj] at this;cases this
   | false=>
     rw [hbi] at hi;simp only [cnd_false] at hi
     cases hbj:Nat.beq j k with
     | true=>
       rw [hbj] at hj;simp only [cnd_true] at hj;injection hj with hj
       have:=hn'.2 t hj
       rw [hasT_of hi] at this;cases this
     | false=>
       rw [hbj] at hj;simp only [cnd_false] at hj
       exact noDupT_inj hn'.1 hi hj
theorem FieldsOk.all (hT:TabOk P tab) : ∀ {ty:Ty} {off:Nat} {fs:List Field},FieldsOk tab ty off fs→∀f∈fs,∃t,TyOk P tab f.type t:=by
 intro ty
 induction ty with
 | prod p q ihp ihq=>
   intro off fs h f hf
   cases fs with
   | nil=>cases hf
   | cons g gs=>
     obtain ⟨h1,h2,h3,_,h4⟩:=h
     rcases List.mem_cons.1 hf with rfl|hf
     ·exact ⟨p,hT _ _ h2⟩
     ·exact ihq h4 f hf
 | unit=>intro off fs h f hf;cases fs with
   | nil=>cases hf
   | cons g gs=>exact h.elim
 | int k=>intro off fs h f hf;cases fs<;>exact h.elim
 | bool=>intro off fs h f hf;cases fs<;>exact h.elim
 | str=>intro off fs h f hf;cases fs<;>exact h.elim
 | slice t=>intro off fs h f hf;cases fs<;>exact h.elim
def buildSrc (parts:List (Nat×Operand)):List Nat→Loc
 | i::q=>match partOf i parts with
   | some (.tmp t)=>.tmp t q
   | _=>.box 0 (i::q)
 | []=>.box 0 []
theorem ok_build (hT:TabOk P tab) (h:Sim w0 lim0 rb n st a w lim β) (hd : ∀d,o.dst=some d→d<n) {t:TypeId} {parts:Array (Nat×Operand)} (hop:o.op = .build t parts) (hc:stBuild tab o t parts.toList st=some c) (ho:c.out st=some st'):OpOk P w0 lim0 rb n o st' a w:=by
 unfold stBuild at hc
 cases hty:tab t with
 | none=>rw [hty] at hc;cases hc
 | some ty=>
   rw [hty] at hc;simp only [] at hc
   split at hc
   ·rename_i v hpr hnd hfl
    injection hc with hc;subst hc
    obtain ⟨_,rfl⟩:=zap ho
    have hnd:noDup parts.toList=true∧noDupT parts.toList=true:=by
     cases hq:noDup parts.toList with
     | true=>rw [hq] at hnd;exact ⟨rfl,hnd⟩
     | false=>rw [hq] at hnd;cases hnd
    have htok:=hT _ _ hty
    obtain ⟨fs,hfs,hff⟩ : ∃fs,P.underlying t=some (.struct fs)∧FieldsOk tab ty 0 fs.toList:=by
     have:=htok.desc
     cases ty<;>first|exact this|cases hpr
    obtain ⟨ps,hps1,hps2⟩:=places_spec (P:=P) (w:=w) fs.toList (FieldsOk.all hT hff)
    have hplace : ∀(x:ty.val) i d,getF ty x i=some d→ps.toArray[i]?=some (offs ty [i],d.1.size):=by
     intro x i d hg
     obtain ⟨f,k1,k2,k3,k4⟩:=fields_at hff hg
     have:=hps2 i f d.1 k1 (hT _ _ k3)
     simpa [k2] using this
    have hzc:(wrapV ty (zeroCells ty)).cells=(zeroCells ty).toArray:=za6 (zec w lim ty)
    obtain ⟨cells',m1,m2,m3⟩:=run_fill h (place:=(ps.toArray[·]?)) hplace parts.toList ty.zero v (zeroCells ty).toArray (by simpa using zec w lim ty) hnd.1 hfl
    have hr:TRep w lim ty v (.agg cells'):=⟨cells'.toList,m2,by cases ty<;>first|rfl|cases hpr⟩
    have hm1:Instr.fill (fun i=>ps[i]?) (zeroCells ty).toArray (parts.toList.map fun p=>(p.1,a.eval p.2))=some cells':=by simpa using m1
    have he:(execOp a.eval o).run P w = .ok (.value (.agg cells')) w:=by
     simp [execOp,hop,Instr.build,zmg htok,underlying,hfs,Array.mapM_eq_mapM_toList,hps1,hzc,hm1]
    refine .value he (h.val {upd0 o.dst (.dat ty v) none with own:=st.builtOwn parts.toList (slicePaths ty),takes:=builtTakes parts.toList (st.builtOwn parts.toList (slicePaths ty))} _ hd rfl rfl hr
     (buildSrc parts.toList) (fun p hp=>?_) (fun p hp q hq hpq=>?_) (fun l hl=>by cases hl) (fun l hl=>by cases hl))
    ·obtain ⟨h1,i,q,rfl,h2⟩:=zhn hp
     obtain ⟨⟨e,he1,ho1⟩,_⟩:=zaw h1
     have hm:=m3 i q e he1 ho1
     obtain ⟨bb,mm,kk,hk⟩:=hr.cells.sliceAt he1 ho1
     refine ⟨e,_,he1,by simp only [upd0,partAV];rw [zdl hr];exact hk,?_⟩
     have hk':cells'[offs ty (i::q)]?=some (.slice bb mm kk):=by simpa [Value.cells] using hk
     cases hpo:partOf i parts.toList with
     | none=>
       rw [hpo] at hm
       left
       refine ⟨?_,ho1⟩
       have:=zero_at he1 ho1
       rw [hk'] at hm
       simp only [List.getElem?_toArray] at hm
       rw [this] at hm
       injection hm
     | some x=>
       rw [hpo] at hm
       obtain ⟨u,⟨y,hy⟩,k1,k2⟩:=hm
       have hxo:=h2 x hpo
       have hr':=as_rep hy (h.ent x)
       rw [hk'] at k2
       cases x with
       | tmp s=>
         right
         obtain ⟨v',hav⟩ : ∃v,(st.env s).av = .dat u v:=by
          rcases (as_av hy).1 s rfl with hav|hav
          ·exact hav
          ·obtain ⟨e',y',g1,_⟩:=h.own (.tmp s q) hxo
           rw [zbb,hav] at g1;cases g1
         refine ⟨by simp only [buildSrc,hpo];exact builtTakes_mem hpo hp,by simp only [buildSrc,hpo];exact hxo,?_,?_⟩
         ·simp only [buildSrc,hpo]
          rw [zda,hav]
          simp only [partAV]
          have:flatV (tmpOf a s)=(a.eval (.tmp s)).cells.toList:=zdl hr'
          rw [this];exact k2.symm
         ·simp only [buildSrc,hpo]
          rw [zbb,hav];exact k1
       | const kk'=>
         left
         refine ⟨?_,ho1⟩
         have hps:q∈slicePaths u∨True:=.inr trivial
         rcases (as_av hy).2 kk' rfl with hn|hn
         ·have hev:=h.ent (.const kk')
          rw [hn] at hev
          have hev:a.eval (.const kk') = .slice none 0 0:=hev
          rw [hev] at k2
          have e0:(Value.slice none 0 0).cells.toList=[.slice none 0 0]:=rfl
          rw [e0] at k2
          cases ho:offs u q with
          | zero=>rw [ho] at k2;simp at k2;obtain ⟨rfl,rfl,rfl⟩:=k2;rfl
          | succ j=>rw [ho] at k2;simp at k2
         ·exfalso
          -- a constant without slices
          have this : ∀ {t:Ty} {p:List Nat} {e:Ty},typeAt t p=some e→OTy e=true→isProd t=false→slicePaths t≠[]:=by
           intro t p e ht hoe hp hz
           cases t with
           | slice e=>have:=zc3 e;rw [hz] at this;cases this
           | prod _ _=>cases hp
           | int k=>cases p<;>simp [typeAt] at ht;subst ht;cases hoe
           | bool=>cases p<;>simp [typeAt] at ht;subst ht;cases hoe
           | str=>cases p<;>simp [typeAt] at ht;subst ht;cases hoe
           | unit=>cases hp
          cases hup:isProd u with
          | false=>exact this k1 ho1 hup hn
          | true=>
            -- no constant is a struct
            cases hco:(st.ent (.const kk')).av with
            | dat t' y'=>
              rw [hco] at hy
              obtain ⟨e1,_⟩:=zbm hy
              subst e1
              simp only [St.ent,constAV] at hco
              split at hco<;>first|(injection hco with h3;subst h3;cases hup)|cases hco
            | nil=>
              rw [hco] at hy
              cases u<;>first|(simp [isProd] at hup;done)|(simp [AV.as] at hy;done)
            | _=>rw [hco] at hy;cases hy
       | global g=>cases hxo
       | func f=>cases hxo
    ·obtain ⟨_,i,p',rfl,h2⟩:=zhn hp
     obtain ⟨_,j,q',rfl,h2'⟩:=zhn hq
     have hsrc : ∀i q,(∃s,partOf i parts.toList=some (.tmp s)∧buildSrc parts.toList (i::q) = .tmp s q)∨buildSrc parts.toList (i::q) = .box 0 (i::q):=by
      intro i q
      simp only [buildSrc]
      cases hpi:partOf i parts.toList with
      | none=>exact .inr rfl
      | some x=>cases x<;>first|exact .inl ⟨_,rfl,rfl⟩|exact .inr rfl
     rcases hsrc i p' with ⟨s,h1,h3⟩|h1<;>rcases hsrc j q' with ⟨s',h1',h3'⟩|h1'
     ·rw [h3,h3'] at hpq;injection hpq with h4 h5;subst h4;subst h5
      rw [noDupT_inj hnd.2 h1 h1']
     ·rw [h3,h1'] at hpq;cases hpq
     ·rw [h1,h3'] at hpq;cases hpq
     ·rw [h1,h1'] at hpq;injection hpq
   ·cases hc
end
end Go.Den
namespace Go.Den
section
variable {P:Program} {tab:Tab} {w0:Base} {lim0:Lim} {rb:Option Nat} {n:Nat}
variable {st st':St} {a:Act} {w w':World} {lim lim':Lim} {β:Mp} {o:Oper} {c:Comp}
def RRep (w:World) (lim:Lim) (e:Ty) (xs:List e.val) (L:List Value):Prop:=
 L.length=xs.length*e.size∧∀i x,xs[i]?=some x→∃cs,CRep w lim e x cs∧∀j v,cs[j]?=some v→L[i*e.size+j]?=some v
theorem RRep.mono (he:Ext w lim w' lim') {e:Ty} {xs:List e.val} {L:List Value} (h:RRep w lim e xs L):RRep w' lim' e xs L:=
 ⟨h.1,fun i x hx=>let ⟨cs,h1,h2⟩:=h.2 i x hx;⟨cs,h1.mono he,h2⟩⟩
theorem RRep.nil (e:Ty):RRep w lim e [] []:=⟨by simp,fun i x hx=>by simp at hx⟩
theorem RRep.append {e:Ty} {xs ys:List e.val} {L M:List Value} (h:RRep w lim e xs L) (k:RRep w lim e ys M):RRep w lim e (xs++ys) (L++M):=by
 refine ⟨by simp [h.1,k.1,Nat.add_mul],fun i x hx=>?_⟩
 by_cases hi:i<xs.length
 ·rw [List.getElem?_append_left hi] at hx
  obtain ⟨cs,h1,h2⟩:=h.2 i x hx
  refine ⟨cs,h1,fun j v hv=>?_⟩
  have:=h2 j v hv
  rw [List.getElem?_append_left (List.getElem?_eq_some_iff.1 this).1];exact this
 ·rw [List.getElem?_append_right (by omega)] at hx
  obtain ⟨cs,h1,h2⟩:=k.2 _ x hx
  refine ⟨cs,h1,fun j v hv=>?_⟩
  have:=h2 j v hv
  have hm:xs.length*e.size+(i-xs.length)*e.size=i*e.size:=by rw [←Nat.add_mul];congr 1;omega
  rw [List.getElem?_append_right (by rw [h.1];omega),h.1,show i*e.size+j-xs.length*e.size=(i-xs.length)*e.size+j by omega];exact this
theorem RRep.set {e:Ty} {xs:List e.val} {c1 c2 c3 cs:List Value} {i:Nat} {v:e.val} (h:RRep w lim e xs (c1++(c2++c3))) (hl:c1.length=i*e.size) (hl2:c2.length=e.size) (hv:CRep w lim e v cs) :
 RRep w lim e (xs.set i v) (c1++(cs++c3)):=by
 have hcs:=hv.length
 refine ⟨by have:=h.1;simp at this ⊢;omega,fun k x hx=>?_⟩
 by_cases hk:k=i
 ·subst hk
  rw [List.getElem?_set] at hx
  simp only [if_true] at hx
  split at hx
  ·injection hx with hx;subst hx
   refine ⟨cs,hv,fun j u hu=>?_⟩
   have hlt:=(List.getElem?_eq_some_iff.1 hu).1
   rw [List.getElem?_append_right (by omega),hl,show k*e.size+j-k*e.size=j by omega,List.getElem?_append_left hlt];exact hu
  ·cases hx
 ·rw [List.getElem?_set_ne (by omega)] at hx
  obtain ⟨ds,h1,h2⟩:=h.2 k x hx
  refine ⟨ds,h1,fun j u hu=>?_⟩
  have:=h2 j u hu
  have hj:=(List.getElem?_eq_some_iff.1 hu).1
  rw [h1.length] at hj
  rcases Nat.lt_or_gt_of_ne hk with hk|hk
  ·have hm:(k+1)*e.size≤i*e.size:=Nat.mul_le_mul_right _ hk
   rw [Nat.succ_mul] at hm
   rw [List.getElem?_append_left (by omega)] at this ⊢;exact this
  ·have hm:(i+1)*e.size≤k*e.size:=Nat.mul_le_mul_right _ hk
   rw [Nat.succ_mul] at hm
   rw [List.getElem?_append_right (by omega),List.getElem?_append_right (by omega)] at this
   rw [List.getElem?_append_right (by omega),List.getElem?_append_right (by omega),show k*e.size+j-c1.length-cs.length=k*e.size+j-c1.length-c2.length by omega];exact this
theorem made_at (w:World) (e:Ty) (k:Nat) {i:Nat} (hi:i<k) {j:Nat} {v:Value} (hv:(zeroCells e)[j]?=some v):((Array.range (k*e.size)).map ((zeroCells e).toArray[· % (zeroCells e).toArray.size]!)).toList[i*e.size+j]?=some v:=by
 have hz:=(zec w (fun _=>none) e).length
 have hj:=(List.getElem?_eq_some_iff.1 hv).1
 have hb:i*e.size+j<k*e.size:=by
  have hm:(i+1)*e.size≤k*e.size:=Nat.mul_le_mul_right _ hi
  rw [Nat.succ_mul] at hm
  omega
 have hmod:(i*e.size+j) % e.size=j:=by
  rw [Nat.mul_comm,Nat.mul_add_mod];exact Nat.mod_eq_of_lt (by omega)
 have hv':=(List.getElem?_eq_some_iff.1 hv).2
 simp only [Array.toList_map,List.getElem?_map,Array.toList_range,List.getElem?_range hb,Option.map_some]
 simp only [List.size_toArray,hz,hmod]
 congr 1
 simp [hj,hv']
theorem RRep.made (e:Ty) (k:Nat):RRep w lim e (List.replicate k e.zero) ((Array.range (k*e.size)).map ((zeroCells e).toArray[· % (zeroCells e).toArray.size]!)).toList:=by
 have hz:=(zec w lim e).length
 refine ⟨by simp,fun i x hx=>?_⟩
 rw [List.getElem?_replicate] at hx
 split at hx
 ·rename_i hi
  injection hx with hx;subst hx
  exact ⟨zeroCells e,zec w lim e,fun j v hv=>made_at w e k hi hv⟩
 ·cases hx
theorem SRep_block {e:Ty} {xs:List e.val} {L:List Value} {arr:Array Value} {el:TypeId} {fr:Nat×Nat} {b:Nat} {rest:List Value} (hb:w.heap[b]?=some (.cells arr el fr)) (ha:arr.toList=L++rest) (hr:RRep w lim e xs L) (hu:under lim b (xs.length*e.size)) :
 SRep w lim (CRep w lim e) e.size xs (some ⟨b,0,none⟩):=by
 refine .inr ⟨b,0,rfl,(Array.getElem?_eq_some_iff.1 hb).1,by simpa using hu,fun i x hx=>?_⟩
 obtain ⟨cs,h1,h2⟩:=hr.2 i x hx
 refine ⟨cs,h1,fun j v hv=>?_⟩
 have:=h2 j v hv
 simp only [World.cell?,hb]
 simp only [Option.isSome_none,Bool.false_eq_true,if_false,Nat.zero_add]
 have e1:arr[i*e.size+j]?=arr.toList[i*e.size+j]?:=by simp
 rw [e1,ha,List.getElem?_append_left (List.getElem?_eq_some_iff.1 this).1];exact this
theorem SRep_cells {e:Ty} : ∀ {xs:List e.val} {b oo:Nat},(∀i x,xs[i]?=some x→∃cs,CRep w lim e x cs∧∀j v,cs[j]?=some v→w.cell? ⟨b,oo+i*e.size+j,none⟩=some v) →
 ∃L,RRep w lim e xs L∧∀k v,L[k]?=some v→w.cell? ⟨b,oo+k,none⟩=some v:=by
 intro xs
 induction xs with
 | nil=>intro b oo _;exact ⟨[],RRep.nil e,fun k v hk=>by simp at hk⟩
 | cons x xs ih=>
   intro b oo hc
   obtain ⟨cs,k1,k2⟩:=hc 0 x rfl
   obtain ⟨L,h1,h2⟩:=ih (b:=b) (oo:=oo+e.size) (fun i y hy=>by
    obtain ⟨ds,g1,g2⟩:=hc (i+1) y (by simpa using hy)
    refine ⟨ds,g1,fun j v hv=>?_⟩
    have:=g2 j v hv
    rw [Nat.succ_mul] at this
    rw [show oo+e.size+i*e.size+j=oo+(i*e.size+e.size)+j by omega];exact this)
   have hone:RRep w lim e [x] cs:=⟨by simp [k1.length],fun i y hy=>by
    cases i with
    | zero=>simp at hy;subst hy;exact ⟨cs,k1,fun j v hv=>by simpa using hv⟩
    | succ i=>simp at hy⟩
   refine ⟨cs++L,hone.append h1,fun k v hk=>?_⟩
   by_cases hlt:k<cs.length
   ·rw [List.getElem?_append_left hlt] at hk
    have:=k2 k v hk
    simpa using this
   ·rw [List.getElem?_append_right (by omega)] at hk
    have:=h2 _ v hk
    rw [k1.length] at this hlt
    rw [show oo+k=oo+e.size+(k-e.size) by omega];exact this
theorem RRep.notAgg {e:Ty} {xs:List e.val} {L:List Value} (h:RRep w lim e xs L) : ∀v∈L,notAgg v:=by
 intro v hv
 obtain ⟨k,hk,rfl⟩:=List.getElem_of_mem hv
 have hk':=hk
 rw [h.1] at hk'
 have hs:0<e.size:=by
  rcases Nat.eq_zero_or_pos e.size with hz|hz
  ·rw [hz] at hk';simp at hk'
  ·exact hz
 have hi:k / e.size<xs.length:=Nat.div_lt_of_lt_mul (by rw [Nat.mul_comm];exact hk')
 obtain ⟨cs,h1,h2⟩:=h.2 _ _ (List.getElem?_eq_getElem hi)
 have hj:k % e.size<cs.length:=by rw [h1.length];exact Nat.mod_lt _ hs
 have:=h2 _ _ (List.getElem?_eq_getElem hj)
 rw [Nat.mul_comm,Nat.div_add_mod,List.getElem?_eq_getElem hk] at this
 injection this with this
 rw [this]
 exact h1.cells _ (List.getElem_mem hj)
theorem Sim.freshG (h:Sim w0 lim0 rb n st a w lim β) (hrb : ∀k,some k=rb→k<w0.heap.size) (hd : ∀d,o.dst=some d→d<n) {e:Ty} {xs:List e.val} {L rest:List Value} {arr:Array Value} {el:TypeId} {fr:Nat×Nat} {cc:Nat} {takes:List Loc} (ps:List (List Nat)) (hps : ∀p∈ps,p=[]∨p=[0])
 (hs:w.heap.size≤w'.heap.size) (hk : ∀k,k<w.heap.size→w'.heap[k]?=w.heap[k]?) (h1:w'.os=w.os) (h2:w'.tape=w.tape) (h3:w'.output=w.output)
 (hb:w'.heap[w.heap.size]?=some (.cells arr el fr)) (hfr : ∀k,k<arr.size→¬(fr.1≤k∧k<fr.2)) (hr:RRep w lim e xs L) (ha:arr.toList=L++rest) (hle:xs.length≤cc) (hcc:cc*e.size≤arr.size)
 (hstar:[0]∈ps→(∀i q e' u,typeAt e q=some (.slice e')→elemAt w' e (.slice (some ⟨w.heap.size,0,none⟩) xs.length cc) i q=some u→Tip w lim w0.fr e'.size u∧∀g,blockOf u=some g→∃l,l∈takes∧st.own l=true∧HasL st a w β l g) ∧
   ∀i q e' u j r e'' u' g,typeAt e q=some (.slice e')→typeAt e r=some (.slice e'')→elemAt w' e (.slice (some ⟨w.heap.size,0,none⟩) xs.length cc) i q=some u→elemAt w' e (.slice (some ⟨w.heap.size,0,none⟩) xs.length cc) j r=some u'→blockOf u=some g→blockOf u'=some g→i=j∧q=r) :
 Sim w0 lim0 rb n (apply st {upd0 o.dst (.dat (.slice e) xs) none with own:=ps,takes:=takes}) (a.put o.dst (.slice (some ⟨w.heap.size,0,none⟩) xs.length cc)) w' (limSet lim w.heap.size (some (xs.length*e.size))) β:=by
 have hl : ∀k,k<w.heap.size→limSet lim w.heap.size (some (xs.length*e.size)) k=lim k:=fun k hk=>by simp [limSet,show k≠w.heap.size by omega]
 have hext:Ext w lim w' (limSet lim w.heap.size (some (xs.length*e.size))):=ext_keep hs hk hl
 have hrep:SRep w' (limSet lim w.heap.size (some (xs.length*e.size))) (CRep w' (limSet lim w.heap.size (some (xs.length*e.size))) e) e.size xs (some ⟨w.heap.size,0,none⟩):=
  SRep_block hb ha (hr.mono hext) (fun m hm=>by simp [limSet] at hm;omega)
 refine h.grown {upd0 o.dst (.dat (.slice e) xs) none with own:=ps,takes:=takes} _ w' _ hd rfl hext (zkb h.grow h1 h2 h3 hs (fun k hk' _=>hk k (Nat.lt_of_lt_of_le hk' h.grow.size))) (fun k hk' _ _=>⟨hk k hk',hl k hk'⟩)
  (fun k hk'=>⟨hrb k hk',hl k (Nat.lt_of_lt_of_le (hrb k hk') h.grow.size)⟩) ⟨[_],⟨some ⟨w.heap.size,0,none⟩,cc,rfl,hle,hrep⟩,rfl⟩ (fun p hp=>?_) (fun p hp q hq T T' x y g ht ht' hx hy hb1 hb2=>?_) rfl
  (.inl ⟨rfl,fun b hb'=>hk b (Nat.lt_of_lt_of_le (hrb b hb'.symm) h.grow.size)⟩)
 ·rcases hps p hp with rfl|rfl
  ·refine ⟨.slice e,.slice (some ⟨w.heap.size,0,none⟩) xs.length cc,rfl,rfl,.inr ⟨w.heap.size,xs.length,cc,arr,el,fr,rfl,.inl h.grow.size,hb,hfr,hle,hcc,by simp [limSet]⟩,fun g hg=>?_⟩
   injection hg with hg;left;rw [←hg];exact Nat.le_refl _
  ·obtain ⟨s1,s2⟩:=hstar hp
   refine ⟨.prod (.slice e) .unit,.slice (some ⟨w.heap.size,0,none⟩) xs.length cc,rfl,rfl,⟨fun i q e' u hq hu=>?_,s2⟩,fun g hg=>.inr ?_⟩
   ·obtain ⟨k1,k2⟩:=s1 i q e' u hq hu
    refine k1.keep fun g hg=>?_
    obtain ⟨l,_,m2,m3⟩:=k2 g hg
    have hlt:=(h.lt m2 m3).1
    exact ⟨hk g hlt,hl g hlt⟩
   ·obtain ⟨i,q,e',u,hq,hu,hgu⟩:=hg
    exact (s1 i q e' u hq hu).2 g hgu
 · -- the outer block is new, the inner ones are old
  have inner:[0]∈ps→∀ {T:Ty} {x:Value} {g:Nat},T = .prod (.slice e) .unit→x = .slice (some ⟨w.heap.size,0,none⟩) xs.length cc→Blk w' T x g→g<w.heap.size:=by
   rintro h0 T x g rfl rfl ⟨i,q,e',u,hq,hu,hgu⟩
   obtain ⟨l,_,m2,m3⟩:=((hstar h0).1 i q e' u hq hu).2 g hgu
   exact (h.lt m2 m3).1
  have ty0 : ∀ {T:Ty},typeAV [] (AV.dat (.slice e) xs)=some T→T = .slice e:=fun ht=>by
   have ht:some (Ty.slice e)=some _:=ht
   injection ht with ht;exact ht.symm
  have ty1 : ∀ {T:Ty},typeAV [0] (AV.dat (.slice e) xs)=some T→T = .prod (.slice e) .unit:=fun ht=>by
   have ht:some (Ty.prod (.slice e) .unit)=some _:=ht
   injection ht with ht;exact ht.symm
  have v0 : ∀ {p:List Nat} {x:Value},(p=[]∨p=[0])→partAV (.slice (some ⟨w.heap.size,0,none⟩) xs.length cc) p (AV.dat (.slice e) xs)=some x→x = .slice (some ⟨w.heap.size,0,none⟩) xs.length cc:=fun hp hx=>by
   rcases hp with rfl|rfl<;>(simp only [partAV,zh9,offs] at hx;simpa using hx.symm)
  rcases hps p hp with rfl|rfl<;>rcases hps q hq with rfl|rfl
  ·rfl
  ·exfalso
   have:=ty0 ht;subst this
   have hx:=v0 (.inl rfl) hx
   subst hx
   have:=inner hq (ty1 ht') (v0 (.inr rfl) hy) hb2
   have hb1:some w.heap.size=some g:=hb1
   injection hb1 with hb1;omega
  ·exfalso
   have:=ty0 ht';subst this
   have hy:=v0 (.inl rfl) hy
   subst hy
   have:=inner hp (ty1 ht) (v0 (.inr rfl) hx) hb1
   have hb2:some w.heap.size=some g:=hb2
   injection hb2 with hb2;omega
  ·rfl
theorem Sim.fresh (h:Sim w0 lim0 rb n st a w lim β) (hrb : ∀k,some k=rb→k<w0.heap.size) (hd : ∀d,o.dst=some d→d<n) {e:Ty} {xs:List e.val} {L rest:List Value} {arr:Array Value} {el:TypeId} {fr:Nat×Nat} {cc:Nat} {takes:List Loc}
 (hs:w.heap.size≤w'.heap.size) (hk : ∀k,k<w.heap.size→w'.heap[k]?=w.heap[k]?) (h1:w'.os=w.os) (h2:w'.tape=w.tape) (h3:w'.output=w.output)
 (hb:w'.heap[w.heap.size]?=some (.cells arr el fr)) (hfr : ∀k,k<arr.size→¬(fr.1≤k∧k<fr.2)) (hr:RRep w lim e xs L) (ha:arr.toList=L++rest) (hle:xs.length≤cc) (hcc:cc*e.size≤arr.size) :
 Sim w0 lim0 rb n (apply st {upd0 o.dst (.dat (.slice e) xs) none with own:=[[]],takes:=takes}) (a.put o.dst (.slice (some ⟨w.heap.size,0,none⟩) xs.length cc)) w' (limSet lim w.heap.size (some (xs.length*e.size))) β:=
 h.freshG hrb hd [[]] (fun p hp=>.inl (by simpa using hp)) hs hk h1 h2 h3 hb hfr hr ha hle hcc (fun h0=>by simp at h0)
theorem run_fillS (h:Sim w0 lim0 rb n st a w lim β) {e:Ty} : ∀(parts:List (Nat×Operand)) (z v:List e.val) (cells:Array Value),RRep w lim e z cells.toList→partsBelow z.length parts=true→fillS st e z parts=some v →
 ∃cells',Instr.fill (fun i=>some (i*e.size,e.size)) cells (parts.map fun p=>(p.1,a.eval p.2))=some cells'∧RRep w lim e v cells'.toList∧v.length=z.length ∧
  ∀j k u,j<z.length→k<e.size→cells'.toList[j*e.size+k]?=some u→(∃x y,(j,x)∈parts∧AV.as e (st.ent x).av=some y∧(a.eval x).cells.toList[k]?=some u)∨cells.toList[j*e.size+k]?=some u:=by
 intro parts
 induction parts with
 | nil=>
   intro z v cells hc _ hf
   simp only [fillS] at hf;injection hf with hf;subst hf
   exact ⟨cells,rfl,hc,rfl,fun _ _ _ _ _ h=>.inr h⟩
 | cons px parts ih=>
   intro z v cells hc hb hf
   obtain ⟨i,x⟩:=px
   simp only [fillS] at hf
   cases hv:AV.as e (st.ent x).av with
   | none=>rw [hv] at hf;cases hf
   | some y=>
     rw [hv] at hf;simp only [] at hf
     have hb':i<z.length∧partsBelow z.length parts=true:=by
      simp only [partsBelow] at hb
      cases hq:Nat.blt i z.length with
      | true=>rw [hq] at hb;exact ⟨by simpa [Nat.blt_eq] using hq,hb⟩
      | false=>rw [hq] at hb;cases hb
     have hr:=(as_rep hv (h.ent x)).cells
     have hm:(i+1)*e.size≤z.length*e.size:=Nat.mul_le_mul_right _ hb'.1
     rw [Nat.succ_mul] at hm
     have hlen:=hc.1
     obtain ⟨c1,c2,c3,k1,k2,k3⟩ : ∃c1 c2 c3,cells.toList=c1++(c2++c3)∧c1.length=i*e.size∧c2.length=e.size:=by
      refine ⟨cells.toList.take (i*e.size),(cells.toList.drop (i*e.size)).take e.size,(cells.toList.drop (i*e.size)).drop e.size,?_,?_,?_⟩
      ·rw [List.take_append_drop,List.take_append_drop]
      ·rw [List.length_take];omega
      ·rw [List.length_take,List.length_drop];omega
     rw [k1] at hc
     have hset:=hc.set (v:=y) k2 k3 hr
     obtain ⟨cells',m1,m2,m3,m4⟩:=ih (z.set i y) v (c1++((a.eval x).cells.toList++c3)).toArray (by simpa using hset) (by simpa using hb'.2) hf
     have hvl:=hr.length
     refine ⟨cells',?_,m2,by simpa using m3,fun j k u hj hk hu=>?_⟩
     rotate_left
     ·have hjm:(j+1)*e.size≤z.length*e.size:=Nat.mul_le_mul_right _ hj
      rw [Nat.succ_mul] at hjm
      rcases m4 j k u (by simpa using hj) hk hu with ⟨x',y',q1,q2,q3⟩|hu
      ·exact .inl ⟨x',y',List.mem_cons_of_mem _ q1,q2,q3⟩
      ·have hu:(c1++((a.eval x).cells.toList++c3))[j*e.size+k]?=some u:=by simpa using hu
       by_cases hji:j=i
       ·subst hji
        rw [List.getElem?_append_right (by omega),k2,List.getElem?_append_left (by omega),show j*e.size+k-j*e.size=k by omega] at hu
        exact .inl ⟨x,y,by simp,hv,hu⟩
       ·right
        rw [k1]
        rcases Nat.lt_or_gt_of_ne hji with hlt|hgt
        ·have hjm2:(j+1)*e.size≤i*e.size:=Nat.mul_le_mul_right _ hlt
         rw [Nat.succ_mul] at hjm2
         rw [List.getElem?_append_left (by omega)] at hu ⊢
         exact hu
        ·have hjm2:(i+1)*e.size≤j*e.size:=Nat.mul_le_mul_right _ hgt
         rw [Nat.succ_mul] at hjm2
         rw [List.getElem?_append_right (by omega),List.getElem?_append_right (by omega)] at hu ⊢
         rw [hvl] at hu
         rw [k3];exact hu
     simp only [List.map_cons]
     rw [fill_step rfl (by have:=hr.length;simpa using this) k1 k2 k3];exact m1
theorem allOwn_mem {own:Loc→Bool} {f:List Nat→Loc} : ∀ {ps:List (List Nat)},allOwn own f ps=true→∀p∈ps,own (f p)=true
 | [],_,p,hp=>by cases hp
 | q::ps,h,p,hp=>by
   simp only [allOwn] at h
   cases hq:own (f q) with
   | false=>rw [hq] at h;cases h
   | true=>
     rw [hq] at h
     rcases List.mem_cons.1 hp with rfl|hp
     ·exact hq
     ·exact allOwn_mem h p hp
theorem inT_mem {t:Tmp} : ∀ {l:List Tmp},inT t l=true↔t∈l
 | []=>by simp [inT]
 | s::l=>by
   simp only [inT]
   cases hq:Nat.beq t s with
   | true=>have:=nbeq hq;subst this;simp
   | false=>have hne:t≠s:=fun e=>by subst e;simp at hq
            simp [hne,inT_mem]
theorem starPart_some {e:Ty} : ∀ {parts:List (Nat×Operand)} {seen:List Tmp} {l:List Loc},starPart st e parts seen=some l →
 (∀i x,(i,x)∈parts→∃s,x = .tmp s∧s∉seen∧∀q∈slicePaths e,st.own (.tmp s q)=true∧Loc.tmp s q∈l)∧∀i i' s,(i,.tmp s)∈parts→(i',.tmp s)∈parts→i=i'
 | [],_,_,_=>⟨(by intro i x h;cases h),(by intro i i' s h;cases h)⟩
 | (k,.tmp s)::ps,seen,l,h=>by
   simp only [starPart] at h
   cases h1:inT s seen with
   | true=>rw [h1] at h;cases h
   | false=>
     cases h2:allOwn st.own (.tmp s ·) (slicePaths e) with
     | false=>rw [h1,h2] at h;cases h
     | true=>
       rw [h1,h2] at h
       simp only [cnd_true,cnd_false] at h
       cases h3:starPart st e ps (s::seen) with
       | none=>rw [h3] at h;cases h
       | some l'=>
         rw [h3] at h
         injection h with h;subst h
         obtain ⟨m1,m2⟩:=starPart_some h3
         have hns:s∉seen:=fun hm=>by rw [inT_mem.2 hm] at h1;cases h1
         refine ⟨fun i x hi=>?_,fun i i' t hi hi'=>?_⟩
         ·rcases List.mem_cons.1 hi with hi|hi
          ·injection hi with e1 e2;subst e1;subst e2
           exact ⟨s,rfl,hns,fun q hq=>⟨allOwn_mem h2 q hq,List.mem_append_left _ (List.mem_map.2 ⟨q,hq,rfl⟩)⟩⟩
          ·obtain ⟨t,q1,q2,q3⟩:=m1 i x hi
           exact ⟨t,q1,fun hm=>q2 (List.mem_cons_of_mem _ hm),fun q hq=>⟨(q3 q hq).1,List.mem_append_right _ (q3 q hq).2⟩⟩
         ·rcases List.mem_cons.1 hi with g1|g1<;>rcases List.mem_cons.1 hi' with g2|g2
          ·injection g1 with e1 _;injection g2 with e2 _;rw [e1,e2]
          ·injection g1 with _ e1;injection e1 with e1
           obtain ⟨t',q1,q2,_⟩:=m1 i' _ g2
           injection q1 with q1
           exact absurd (by rw [←q1,e1];simp) q2
          ·injection g2 with _ e1;injection e1 with e1
           obtain ⟨t',q1,q2,_⟩:=m1 i _ g1
           injection q1 with q1
           exact absurd (by rw [←q1,e1];simp) q2
          ·exact m2 i i' t g1 g2
 | (_,.const _)::_,_,_,h=>by cases h
 | (_,.global _)::_,_,_,h=>by cases h
 | (_,.func _)::_,_,_,h=>by cases h
theorem starParts_some {e:Ty} {parts:List (Nat×Operand)} {l:List Loc} (h:starParts st e parts=some l):flatT e=true∧(∀i x,(i,x)∈parts→∃s,x = .tmp s∧∀q∈slicePaths e,st.own (.tmp s q)=true∧Loc.tmp s q∈l) ∧
 ∀i i' s,(i,.tmp s)∈parts→(i',.tmp s)∈parts→i=i':=by
 unfold starParts at h
 cases h1:noSl e with
 | true=>rw [h1] at h;cases h
 | false=>
   cases h2:flatT e with
   | false=>rw [h1,h2] at h;cases h
   | true=>
     rw [h1,h2] at h
     obtain ⟨m1,m2⟩:=starPart_some h
     exact ⟨rfl,fun i x hi=>by obtain ⟨s,q1,_,q3⟩:=m1 i x hi;exact ⟨s,q1,q3⟩,m2⟩
theorem ok_buildSlice (hT:TabOk P tab) (h:Sim w0 lim0 rb n st a w lim β) (hrb : ∀k,some k=rb→k<w0.heap.size) (hd : ∀d,o.dst=some d→d<n) {t:TypeId} {len:Nat} {parts:Array (Nat×Operand)} (hop:o.op = .buildSlice t len parts)
 (hc:stBuildSlice tab o t len parts.toList st=some c) (ho:c.out st=some st'):OpOk P w0 lim0 rb n o st' a w:=by
 unfold stBuildSlice at hc
 cases hty:tab t with
 | none=>rw [hty] at hc;cases hc
 | some ty=>
   cases ty with
   | slice e=>
     rw [hty] at hc;simp only [] at hc
     split at hc
     ·rename_i v hlen hbl hfl
      obtain ⟨el,h1,h2⟩:=elemTy hT hty
      obtain ⟨cells',m1,m2,m3,m4⟩:=run_fillS h parts.toList (List.replicate len e.zero) v _ (RRep.made e len) (by simpa using hbl) hfl
      have hl:len*e.size≤65536:=Nat.le_of_ble_eq_true hlen
      have hzc:(wrapV e (zeroCells e)).cells=(zeroCells e).toArray:=za6 (zec w lim e)
      have hbound : ¬(len*e.size>2 ^ 24):=by omega
      have hvl:v.length=len:=by simpa using m3
      have he:(execOp a.eval o).run P w = .ok (.value (.slice (some ⟨w.heap.size,0,none⟩) v.length len)) (w.alloc (.cells cells' el)):=by
       have hmade : ∀z:Array Value,(len*e.size=0∨z=(zeroCells e).toArray)→(Array.range (len*e.size)).map (z[· % z.size]!)=(Array.range (len*e.size)).map ((zeroCells e).toArray[· % (zeroCells e).toArray.size]!):=by
        intro z hz
        rcases hz with hz|rfl
        ·rw [hz];simp
        ·rfl
       have hfill : ∀z:Array Value,(len*e.size=0∨z=(zeroCells e).toArray)→Instr.fill (fun i=>some (i*e.size,e.size)) ((Array.range (len*e.size)).map (z[· % z.size]!)) (parts.toList.map fun p=>(p.1,a.eval p.2))=some cells':=by
        intro z hz
        rw [hmade z hz];exact m1
       rw [hvl]
       by_cases hz:len*e.size=0
       ·have:=hfill #[] (.inl hz)
        simp only [execOp,hop,Instr.buildSlice,Sem.run_bind,underlying,run_program,h1,Result.andThen_ok,Sem.run_pure,zby h2,hbound,if_false,Array.toList_map]
        simp [hz,newRow] at this ⊢
        simp [this]
       ·have:=hfill (zeroCells e).toArray (.inr rfl)
        simp only [execOp,hop,Instr.buildSlice,Sem.run_bind,underlying,run_program,h1,Result.andThen_ok,Sem.run_pure,zby h2,hbound,if_false,Array.toList_map,hz,zmg h2,hzc,this]
        simp [newRow]
      cases hsp:starParts st e parts.toList with
      | none=>
        rw [hsp] at hc
        injection hc with hc;subst hc
        obtain ⟨_,rfl⟩:=zap ho
        refine .value he (h.fresh hrb hd (by simp) (fun k hk=>ziv _ hk) rfl rfl rfl (ziu _) (fun k _ hk=>by simp at hk) m2 (rest:=[]) (by simp) (by omega) ?_)
        have:=m2.1
        simp at this
        rw [this,hvl];exact Nat.le_refl _
      | some tk=>
        rw [hsp] at hc
        injection hc with hc;subst hc
        obtain ⟨_,rfl⟩:=zap ho
        obtain ⟨hfe,hown,hdis⟩:=starParts_some hsp
        have hat : ∀j q e' u,typeAt e q=some (.slice e')→elemAt (w.alloc (.cells cells' el)) e (.slice (some ⟨w.heap.size,0,none⟩) v.length len) j q=some u →
         (∃s,(j,Operand.tmp s)∈parts.toList∧st.own (.tmp s q)=true∧Loc.tmp s q∈tk∧locTy st (.tmp s q)=some (.slice e')∧locV st a w β (.tmp s q)=some u)∨u = .slice none 0 0:=by
         intro j q e' u hq hu
         have hlt:=zbf hq
         have hs1:(Ty.slice e').size=1:=rfl
         simp only [elemAt] at hu
         split at hu
         ·rename_i hj
          rw [hvl] at hj
          simp only [World.cell?,ziu,Option.isSome_none,Bool.false_eq_true,if_false,Nat.zero_add] at hu
          have hu:cells'.toList[j*e.size+offs e q]?=some u:=by simpa using hu
          rcases m4 j (offs e q) u (by simpa using hj) (by omega) hu with ⟨x,y,hx,hy,hv⟩|hu
          ·obtain ⟨s,rfl,hs⟩:=hown j x hx
           have hqm:=flat_paths hfe hq
           obtain ⟨ho1,ho2⟩:=hs q hqm
           have hr1:=as_rep hy (h.ent (.tmp s))
           obtain ⟨v',hav⟩ : ∃v,(st.env s).av = .dat e v:=by
            rcases (as_av hy).1 s rfl with hav|hav
            ·exact hav
            ·obtain ⟨T',y',g1,_⟩:=h.own (.tmp s q) ho1
             rw [zbb,hav] at g1;cases g1
           refine .inl ⟨s,hx,ho1,ho2,by rw [zbb,hav];exact hq,?_⟩
           rw [zda,hav]
           simp only [partAV]
           have:flatV (tmpOf a s)=(a.eval (.tmp s)).cells.toList:=zdl hr1
           rw [this];exact hv
          ·right
           have hz:((Array.range (len*e.size)).map ((zeroCells e).toArray[· % (zeroCells e).toArray.size]!)).toList[j*e.size+offs e q]?=some (.slice none 0 0):=made_at w e len hj (zero_at hq rfl)
           rw [hz] at hu
           injection hu with hu;exact hu.symm
         ·cases hu
        refine .value he (h.freshG hrb hd [[],[0]] (fun p hp=>by simpa using hp) (by simp) (fun k hk=>ziv _ hk) rfl rfl rfl (ziu _) (fun k _ hk=>by simp at hk) m2 (rest:=[]) (by simp) (by omega) ?_ (fun _=>⟨fun j q e' u hq hu=>?_,fun j q e' u j2 q2 e2 u2 g hq hq2 hu hu2 hg hg2=>?_⟩))
        ·have:=m2.1
         simp at this
         rw [this,hvl];exact Nat.le_refl _
        ·rcases hat j q e' u hq hu with ⟨s,_,o1,o2,o3,o4⟩|rfl
         ·obtain ⟨T,y,k1,k2,k3⟩:=h.own _ o1
          rw [o3] at k1;injection k1 with k1;subst k1
          rw [o4] at k2;injection k2 with k2;subst k2
          exact ⟨k3,fun g hg=>⟨_,o2,o1,_,_,o3,o4,hg⟩⟩
         ·exact ⟨.inl rfl,fun g hg=>by cases hg⟩
        ·rcases hat j q e' u hq hu with ⟨s,p0,o1,o2,o3,o4⟩|rfl
         ·rcases hat j2 q2 e2 u2 hq2 hu2 with ⟨s2,r0,p1,p2,p3,p4⟩|rfl
          ·have:=h.sep _ _ g o1 p1 ⟨_,_,o3,o4,hg⟩ ⟨_,_,p3,p4,hg2⟩
           injection this with e1 this
           subst e1
           exact ⟨hdis j j2 s p0 r0,this⟩
          ·cases hg2
         ·cases hg
     ·cases hc
   | _=>rw [hty] at hc;cases hc
theorem RRep.ints (k:IntKind) (xs:List Int):RRep w lim (.int k) xs (xs.map (Value.int k)):=by
 refine ⟨?_,fun i (x:Int) hx=>⟨[.int k x],rfl,fun j v hj=>?_⟩⟩
 ·show (xs.map (Value.int k)).length=xs.length*1
  simp
 ·show (xs.map (Value.int k))[i*1+j]?=some v
  have hx:xs[i]?=some x:=hx
  cases j with
  | zero=>simp at hj;subst hj;simp [hx]
  | succ j=>simp at hj
theorem ok_conv (hT:TabOk P tab) (h:Sim w0 lim0 rb n st a w lim β) (hd : ∀d,o.dst=some d→d<n) {s t:TypeId} {x:Operand} (hop:o.op = .convert s t x) (hc:stConv tab o s t x st=some c) (ho:c.out st=some st')
 (hrb : ∀k,some k=rb→k<w0.heap.size):OpOk P w0 lim0 rb n o st' a w:=by
 unfold stConv at hc
 split at hc
 ·rename_i k0 k k1 m hs ht hx
  change Int at m
  injection hc with hc;subst hc
  obtain ⟨_,rfl⟩:=zap ho
  have h1:P.underlying s=some (.int k0):=(hT _ _ hs).desc
  have h2:P.underlying t=some (.int k):=(hT _ _ ht).desc
  have h3:=zi3 h hx
  refine .value (v:=.int k (wrapI k m)) ?_ (h.plain _ _ _ hd mk_int)
  simp [execOp,hop,convert,underlying,h1,h2,h3,Conv.intToInt,wrapI]
 ·rename_i xs hs ht hx
  change List Int at xs
  injection hc with hc;subst hc
  obtain ⟨_,rfl⟩:=zap ho
  obtain ⟨el,h1,h1'⟩:=elemTy hT hs
  have h1':P.underlying el=some (.int .u8):=h1'.desc
  have h2:P.underlying t=some .string:=(hT _ _ ht).desc
  obtain ⟨b,cc,hv,hle,hsr⟩:=zhv (hx▸h.ent x)
  refine .value (v:=.string ⟨⟨byteList xs⟩⟩) ?_ (h.plain _ _ _ hd mk_str)
  have hrun:(convert s t (.slice b xs.length cc)).run P w = .ok (.string ⟨⟨byteList xs⟩⟩) w:=by
   rcases hsr with hsr|⟨bb,oo,rfl,hb,hu,hcell⟩
   ·subst hsr
    cases b with
    | none=>rw [run_convert_bytes_nil w s el h1 h1' _ _ t h2];rfl
    | some b=>simp [convert,underlying,h1,h2,h1',Conv.bytesToString,loadCells];rfl
   ·rw [run_convert_bytes_arg w s el h1 h1' bb oo xs.length cc xs rfl ?_ t h2,strOf_bytes]
    intro i hi
    obtain ⟨cs,hcs,hj⟩:=hcell i _ (List.getElem?_eq_getElem hi)
    have hcs:cs=[.int .u8 xs[i]]:=hcs
    subst hcs
    have:=hj 0 _ rfl
    simpa [Ty.size,hi] using this
  have hv':a.eval x = .slice b xs.length cc:=hv
  simp [execOp,hop,hv',hrun]
 ·rename_i ss hs ht hx
  change List UInt8 at ss
  injection hc with hc;subst hc
  obtain ⟨hb,rfl⟩:=zap ho
  obtain ⟨el,h1,h1'⟩:=elemTy hT ht
  have h1':P.underlying el=some (.int .u8):=h1'.desc
  have h2:P.underlying s=some .string:=(hT _ _ hs).desc
  have h3:=eval_str h hx
  have hge:=grownCap_ge w ss.length 0 el
  have hcell:(Lib.bytesCells w el ⟨⟨ss⟩⟩).toList=(intList ss).map (Value.int .u8)++(Array.replicate (grownCap w ss.length 0 el-ss.length) (Value.int .u8 0)).toList:=by
   simp [Lib.bytesCells,intList]
   rfl
  have hrr:RRep w lim (.int .u8) (intList ss) ((intList ss).map (Value.int .u8)):=RRep.ints .u8 _
  have hlen:(intList ss).length=ss.length:=by simp [intList]
  have he:(execOp a.eval o).run P w = .ok (.value (.slice (some ⟨w.heap.size,0,none⟩) (intList ss).length (grownCap w ss.length 0 el))) (Lib.bytesWorld w el ⟨⟨ss⟩⟩):=by
   have:=Lib.run_convert_string_bytes (P:=P) w s t el ⟨⟨ss⟩⟩ h2 h1 h1'
   simp only [execOp,hop,Sem.run_bind,h3,this,Result.andThen_ok,Sem.run_pure,hlen]
   rfl
  refine .value he (h.fresh hrb hd (by rw [Lib.bytesWorld_size];omega) (fun k hk=>Lib.bytesWorld_at_old w el _ k hk) rfl rfl rfl (Lib.bytesWorld_at_new w el _) (fun k hk=>by simp only;omega) hrr hcell (show (intList ss).length≤_ from hlen▸hge) ?_)
  simp [Lib.bytesCells,Ty.size]
  rw [show (ByteArray.mk ⟨ss⟩).size=ss.length from rfl];omega
 ·rename_i ss hs ht hx
  change List UInt8 at ss
  injection hc with hc;subst hc
  obtain ⟨_,rfl⟩:=zap ho
  have h1:P.underlying s=some .string:=(hT _ _ hs).desc
  have h2:P.underlying t=some .string:=(hT _ _ ht).desc
  have h3:=eval_str h hx
  refine .value (v:=.string ⟨⟨ss⟩⟩) ?_ (h.plain _ _ _ hd mk_str)
  simp [execOp,hop,convert,underlying,h1,h2,h3]
 ·cases hc
theorem ok_makeSlice (hT:TabOk P tab) (h:Sim w0 lim0 rb n st a w lim β) (hrb : ∀k,some k=rb→k<w0.heap.size) (hd : ∀d,o.dst=some d→d<n) {t:TypeId} {x y:Operand} (hop:o.op = .makeSlice t x y)
 (hc:stMakeSlice tab o t x y st=some c) (ho:c.out st=some st'):OpOk P w0 lim0 rb n o st' a w:=by
 unfold stMakeSlice at hc
 split at hc
 ·rename_i e k l k' m hty hx hy
  change Int at l
  change Int at m
  injection hc with hc;subst hc
  obtain ⟨hchk,rfl⟩:=zap ho
  have q1:=andB_iff.1 hchk
  have q2:=andB_iff.1 q1.2
  have g0:0≤l:=le0_iff.1 q1.1
  have g1:l≤m:=leI_iff.1 q2.1
  have g2:m<big:=ltI_iff.1 q2.2
  unfold big at g2
  obtain ⟨el,h1,h2⟩:=elemTy hT hty
  obtain ⟨i,hi1,hi2,hi3,hi4⟩:=h2.info
  have hzc:(wrapV e (zeroCells e)).cells=(zeroCells e).toArray:=za6 (zec w lim e)
  have hb:(i.bytes:Int)*m≤281474976710656:=by
   have e1:(i.bytes:Int)*m≤4096*m:=Int.mul_le_mul_of_nonneg_right (by omega) (by omega)
   omega
  have hrun:=run_make (P:=P) w t el i (wrapV e (zeroCells e)) h1 hi1 hi3 k k' l m g0 g1 hb (by omega)
  have hlen:(repL l e.zero).length=l.toNat:=by simp [repL]
  have he:(execOp a.eval o).run P w = .ok (.value (.slice (some ⟨w.heap.size,0,none⟩) (repL l e.zero).length m.toNat)) (w.alloc (.cells (madeCells (zeroCells e).toArray (m.toNat*e.size)) el)):=by
   simp only [execOp,hop,Sem.run_bind,zi3 h hx,zi3 h hy,hrun,Result.andThen_ok,Sem.run_pure,hi2,hzc,hlen]
  have hm:=(RRep.made (w:=w) (lim:=lim) e m.toNat)
  have hmc:(madeCells (zeroCells e).toArray (m.toNat*e.size)).toList=((madeCells (zeroCells e).toArray (m.toNat*e.size)).toList.take (l.toNat*e.size))++((madeCells (zeroCells e).toArray (m.toNat*e.size)).toList.drop (l.toNat*e.size)):=(List.take_append_drop _ _).symm
  have hle:l.toNat*e.size≤m.toNat*e.size:=Nat.mul_le_mul_right _ (by omega)
  have hpre:RRep w lim e (repL l e.zero) ((madeCells (zeroCells e).toArray (m.toNat*e.size)).toList.take (l.toNat*e.size)):=by
   refine ⟨by rw [hlen,List.length_take,Array.length_toList,size_madeCells];omega,fun j z hj=>?_⟩
   have hjl:j<l.toNat:=by have:=(List.getElem?_eq_some_iff.1 hj).1;omega
   have hz:z=e.zero:=by
    simp only [repL,List.getElem?_replicate,hjl,if_true] at hj
    injection hj with hj;exact hj.symm
   subst hz
   obtain ⟨cs,k1,k2⟩:=hm.2 j e.zero (by rw [List.getElem?_replicate];exact if_pos (by omega))
   refine ⟨cs,k1,fun q v hv=>?_⟩
   have hq:=(List.getElem?_eq_some_iff.1 hv).1
   rw [k1.length] at hq
   have hmm:(j+1)*e.size≤l.toNat*e.size:=Nat.mul_le_mul_right _ hjl
   rw [Nat.succ_mul] at hmm
   rw [List.getElem?_take_of_lt (by omega)]
   exact k2 q v hv
  refine .value he (h.fresh hrb hd (by simp) (fun k hk=>ziv _ hk) rfl rfl rfl (ziu _) (fun k _ hk=>by simp at hk) hpre hmc (by rw [hlen];omega) (by rw [size_madeCells];exact Nat.le_refl _))
 ·cases hc
theorem owner_spec (h:Sim w0 lim0 rb n st a w lim β) {x:Operand} {ol:Option Loc} {e:Ty} {xs:List e.val} (ho:st.owner x=some ol) (hx:AV.as (.slice e) (st.ent x).av=some xs) :
 (∃l,ol=some l∧st.own l=true∧locV st a w β l=some (a.eval x)∧locTy st l=some (.slice e))∨(ol=none∧a.eval x = .slice none 0 0):=by
 cases x with
 | const k=>
   simp only [St.owner] at ho;injection ho with ho;subst ho
   right
   refine ⟨rfl,?_⟩
   rcases (as_av hx).2 k rfl with hn|hn
   ·have:=h.ent (.const k);rw [hn] at this;exact this
   ·have:=zc3 e;rw [hn] at this;cases this
 | tmp t=>
   left
   have hav : ∃v:List e.val,(st.env t).av = .dat (.slice e) v∨(st.env t).av = .nil:=by
    rcases (as_av hx).1 t rfl with ⟨v,hv⟩|hv
    ·exact ⟨v,.inl hv⟩
    ·exact ⟨[],.inr hv⟩
   obtain ⟨v,hav⟩:=hav
   simp only [St.owner] at ho
   cases hot:st.own (.tmp t []) with
   | true=>
     rw [hot] at ho;simp only [cnd_true] at ho;injection ho with ho;subst ho
     rcases hav with hav|hav
     ·refine ⟨_,rfl,hot,?_,by rw [zbb,hav];rfl⟩
      rw [zda,hav]
      have hev:=h.env t
      rw [hav] at hev
      obtain ⟨b,cc,hv,_⟩:=zhv hev
      simp only [partAV,hv,zh9,offs]
      have:a.eval (.tmp t)=tmpOf a t:=rfl
      rw [this,hv];rfl
     ·obtain ⟨e',y',k1,_⟩:=h.own _ hot
      rw [zbb,hav] at k1;cases k1
   | false=>
     rw [hot] at ho;simp only [cnd_false] at ho
     cases htg:(st.env t).tag with
     | none=>rw [htg] at ho;cases ho
     | some kl=>
       obtain ⟨k,l⟩:=kl
       rw [htg] at ho
       cases k with
       | false=>cases ho
       | true=>
       simp only [] at ho
       cases hol:st.own l with
       | false=>rw [hol] at ho;cases ho
       | true=>
         rw [hol] at ho;simp only [cnd_true] at ho;injection ho with ho;subst ho
         rcases h.tag t l htg hol with ⟨k1,e',x',k2,k3⟩|⟨e',x',_,_,_,_,_,k2,_⟩
         rotate_left
         ·rcases hav with hav|hav<;>(rw [hav] at k2;cases k2)
         refine ⟨l,rfl,hol,k1,?_⟩
         rcases hav with hav|hav
         ·rw [hav] at k2;injection k2 with k2 _;injection k2 with k2;subst k2;exact k3
         ·rw [hav] at k2;cases k2
 | global g=>cases ho
 | func f=>cases ho
theorem zj1 {e:Ty} {ys:List e.val} {news:List Value} {b:Option Addr} {cc:Nat} {w2:World} (hr:RRep w lim e ys news) (hb:ys=[]∨∃bb oo,b=some ⟨bb,oo,none⟩∧∀k v,news[k]?=some v→w2.cell? ⟨bb,oo+k,none⟩=some v) :
 (Builtin.firstCells e.size ys.length (.slice b ys.length cc)).run P w2 = .ok news.toArray w2:=by
 rcases hb with hb|⟨bb,oo,rfl,hc⟩
 ·subst hb
  have:news=[]:=List.eq_nil_of_length_eq_zero (by have:=hr.1;simpa using this)
  subst this
  cases b<;>simp [Builtin.firstCells,loadCells,loadCellsFrom]
 ·exact run_firstCells_some w2 e.size ys.length ⟨bb,oo,none⟩ ys.length cc news hr.1 (fun j v hv=>by rw [addr_add];exact hc j v hv)
end
end Go.Den
namespace Go.Den
section
variable {P:Program} {tab:Tab} {w0:Base} {lim0:Lim} {rb:Option Nat} {n:Nat}
variable {st st':St} {a:Act} {w w':World} {lim lim':Lim} {β:Mp} {o:Oper} {c:Comp}
theorem run_append_at_new {t ty el:TypeId} {e:Ty} (h1:P.underlying t=some (.slice el)) (h2:TyOk P tab el e) {sv:Value} {b:Option Addr} {s sc m cc:Nat} {olds news:List Value} (hsv:sv = .slice b s sc)
 (hold:(Builtin.firstCells e.size s sv).run P w.drew = .ok olds.toArray w.drew) {bx:Option Addr} (hnew:(Builtin.firstCells e.size m (.slice bx m cc)).run P w.drew = .ok news.toArray w.drew)
 (hg:sc<s+m) (hb:s+m<4294967296) :
 (Builtin.append_ #[t,t] ty #[sv,.slice bx m cc]).run P w = .ok (.slice (some ⟨w.heap.size,0,none⟩) (s+m) (grownCap w (s+m) sc el))
   (w.drew.alloc (.cells (olds++(news++(Builtin.zeroCells (zeroCells e).toArray (grownCap w (s+m) sc el-(s+m))).toList)).toArray el)):=by
 subst hsv
 obtain ⟨i,hi1,hi2,hi3,hi4⟩:=h2.info
 have hzc:(wrapV e (zeroCells e)).cells=(zeroCells e).toArray:=za6 (zec w (fun _=>none) e)
 have hn : ¬(s+m≤sc):=by omega
 have h63 : ¬(9223372036854775807<((s:Int)+(m:Int))):=by omega
 have hfit:Builtin.nextslicecap (s+m) sc*i.bytes≤281474976710656:=growslice_fits (by omega) (by
  have e1:(s+m)*i.bytes≤4294967296*4096:=Nat.mul_le_mul (by omega) hi4
  omega)
 have h48 : ¬(281474976710656<Builtin.nextslicecap (s+m) sc*i.bytes):=by omega
 rw [←hi2] at hold hnew
 simp [Builtin.append_,run_underlying h1,sizeOf,typeInfo,zeroValue,hi1,hi3,Builtin.lenOf,hn,h63,h48,Question.forced,hold,hnew,newRow,grownCap,hzc]
 congr 2
 apply Array.ext'
 simp
theorem zm6 {t ty el:TypeId} {e:Ty} (h1:P.underlying t=some (.slice el)) (h2:TyOk P tab el e) {g s sc m cc:Nat} {news c1 c2 c3:List Value} {arr:Array Value} {el':TypeId} {fr:Nat×Nat} {bx:Option Addr}
 (hnew:(Builtin.firstCells e.size m (.slice bx m cc)).run P w = .ok news.toArray w) (hroom:s+m≤sc)
 (hb:w.heap[g]?=some (.cells arr el' fr)) (ha:arr.toList=c1++(c2++c3)) (hl:c1.length=s*e.size) (hl2:c2.length=news.length) (hna : ∀v∈news,notAgg v) (hfr : ∀k,k<arr.size→¬(fr.1≤k∧k<fr.2)) :
 ∃w',(Builtin.append_ #[t,t] ty #[.slice (some ⟨g,0,none⟩) s sc,.slice bx m cc]).run P w = .ok (.slice (some ⟨g,0,none⟩) (s+m) sc) w'∧Wrote w w' g (.cells (c1++(news++c3)).toArray el' fr):=by
 obtain ⟨w',k1,k2⟩:=zld (P:=P) news arr el' fr g 0 (s*e.size) w c1 c2 c3 hb ha (by omega) hl2 hna hfr
 refine ⟨w',?_,k2⟩
 obtain ⟨i,hi1,hi2,hi3,hi4⟩:=h2.info
 rw [←hi2] at hnew k1
 have hadd:(⟨g,0,none⟩:Addr).add (s*i.size)=⟨g,s*i.size,none⟩:=by rw [addr_add];simp
 simp [Builtin.append_,run_underlying h1,sizeOf,typeInfo,hi1,Builtin.lenOf,hroom,hnew,hadd,k1]
theorem zjv {t ty el:TypeId} {e:Ty} (h1:P.underlying t=some (.slice el)) (h2:TyOk P tab el e) {cc:Nat} {bx:Option Addr} {news:List Value}
 (hnew:(Builtin.firstCells e.size 0 (.slice bx 0 cc)).run P w = .ok news.toArray w) :
 (Builtin.append_ #[t,t] ty #[.slice none 0 0,.slice bx 0 cc]).run P w = .ok (.slice none 0 0) w:=by
 obtain ⟨i,hi1,hi2,hi3,hi4⟩:=h2.info
 rw [←hi2] at hnew
 simp [Builtin.append_,run_underlying h1,sizeOf,typeInfo,hi1,Builtin.lenOf,hnew]
theorem pre_cells {e:Ty} {xs:List e.val} {b:Nat} {arr:Array Value} {el:TypeId} {fr:Nat×Nat} {olds c1 rest:List Value} (g6:w.heap[b]?=some (.cells arr el fr)) (hl:olds.length=xs.length*e.size)
 (hoc:xs=[]∨∃bb oo,(some ⟨b,0,none⟩:Option Addr)=some ⟨bb,oo,none⟩∧∀k v,olds[k]?=some v→w.cell? ⟨bb,oo+k,none⟩=some v) (k1:arr.toList=c1++rest) (k2:c1.length=xs.length*e.size):olds=c1:=by
 rcases hoc with hoc|⟨bb,oo,hbb,hcell⟩
 ·subst hoc
  have e1:olds=[]:=List.eq_nil_of_length_eq_zero (by simpa using hl)
  have e2:c1=[]:=List.eq_nil_of_length_eq_zero (by simpa using k2)
  rw [e1,e2]
 ·injection hbb with hbb;injection hbb with e1 e2
  subst e1;subst e2
  apply List.ext_getElem?
  intro k
  by_cases hk:k<c1.length
  ·have hk':k<olds.length:=by rw [hl,←k2];exact hk
   have:=hcell k _ (List.getElem?_eq_getElem hk')
   simp only [World.cell?,g6] at this
   simp only [Option.isSome_none,Bool.false_eq_true,if_false,Nat.zero_add] at this
   have e1:arr[k]?=arr.toList[k]?:=by simp
   rw [e1,k1,List.getElem?_append_left hk] at this
   rw [this,List.getElem?_eq_getElem hk']
  ·rw [List.getElem?_eq_none (by omega),List.getElem?_eq_none (by omega)]
theorem typeAt_star : ∀ {t:Ty} {p:List Nat} {e:Ty},typeAt t p=some (.slice e)→typeAt t (p++[0])=some (.prod (.slice e) .unit)∧offs t (p++[0])=offs t p:=by
 intro t
 induction t with
 | slice u _=>intro p e h;obtain ⟨rfl,rfl⟩:=zb4 h;exact ⟨rfl,rfl⟩
 | prod a b iha ihb=>
   intro p e h
   cases p with
   | nil=>simp [typeAt] at h
   | cons i p=>
     cases i with
     | zero=>simp only [typeAt] at h;obtain ⟨h1,h2⟩:=iha h;exact ⟨by simp only [List.cons_append,typeAt];exact h1,by simp only [List.cons_append,offs];exact h2⟩
     | succ i=>
       simp only [typeAt] at h
       obtain ⟨h1,h2⟩:=ihb h
       exact ⟨by simp only [List.cons_append,typeAt];exact h1,by simp only [List.cons_append,offs];rw [←h2];rfl⟩
 | int k=>intro p e h;cases p<;>simp [typeAt] at h
 | bool=>intro p e h;cases p<;>simp [typeAt] at h
 | str=>intro p e h;cases p<;>simp [typeAt] at h
 | unit=>intro p e h;cases p<;>simp [typeAt] at h
theorem starL_loc {l:Loc} {e:Ty} (h:locTy st l=some (.slice e)):locTy st (starL l)=some (.prod (.slice e) .unit)∧locV st a w β (starL l)=locV st a w β l:=by
 cases l with
 | tmp t p=>
   simp only [starL]
   rw [zbb] at h ⊢
   rw [zda,zda]
   cases hav:(st.env t).av with
   | dat ty x=>rw [hav] at h;obtain ⟨h1,h2⟩:=typeAt_star (t:=ty) h;exact ⟨h1,by simp only [partAV];rw [h2]⟩
   | tup ty x=>rw [hav] at h;obtain ⟨h1,h2⟩:=typeAt_star (t:=ty) h;exact ⟨h1,by simp only [partAV];rw [h2]⟩
   | _=>rw [hav] at h;cases h
 | box b p=>
   simp only [starL,locTy,locV] at h ⊢
   cases hb:st.box b with
   | none=>rw [hb] at h;cases h
   | some d=>rw [hb] at h;obtain ⟨h1,h2⟩:=typeAt_star h;exact ⟨h1,by simp only [];rw [h2]⟩
theorem starL_ne (l:Loc):starL l≠l:=by
 cases l with
 | tmp t p=>intro h;injection h with _ h;have:=congrArg List.length h;simp at this
 | box t p=>intro h;injection h with _ h;have:=congrArg List.length h;simp at this
theorem starApp_some {e:Ty} {ol:Option Loc} {y:Operand} {tk:List Loc} (h:starApp st e ol y=some tk) :
 flatT e=true∧(∀l∈ol.toList,l∈tk)∧∃t,y = .tmp t∧st.own (.tmp t [0])=true∧Loc.tmp t [0]∈tk∧∀l,ol=some l→st.own (starL l)=true∧starL l∈tk∧starL l≠.tmp t [0]:=by
 unfold starApp at h
 cases h1:noSl e with
 | true=>rw [h1] at h;cases h
 | false=>
 rw [h1] at h
 cases h2:flatT e with
 | false=>rw [h2] at h;cases h
 | true=>
 rw [h2] at h
 refine ⟨rfl,?_⟩
 simp only [cnd_true,cnd_false] at h
 split at h
 ·rename_i t
  cases h3:st.own (.tmp t [0]) with
  | false=>rw [h3] at h;cases h
  | true=>
    rw [h3] at h;simp only [cnd_true] at h
    split at h
    ·rename_i l
     cases h4:Loc.beq (starL l) (.tmp t [0]) with
     | true=>rw [h4] at h;cases h
     | false=>
       rw [h4] at h
       cases h5:st.own (starL l) with
       | false=>rw [h5] at h;cases h
       | true=>
         rw [h5] at h
         injection h with h;subst h
         refine ⟨fun l' hl'=>(by simp at hl';subst hl';simp),t,rfl,h3,by simp,fun l' hl'=>?_⟩
         injection hl' with hl';subst hl'
         exact ⟨h5,by simp,fun e0=>by rw [Loc.beq_iff.2 e0] at h4;cases h4⟩
    ·injection h with h;subst h
     exact ⟨fun l' hl'=>(by simp at hl'),t,rfl,h3,by simp,fun l' hl'=>(by cases hl')⟩
 ·cases h
theorem elem_of {e:Ty} {bx:Option Addr} {L:List Value} {m cx:Nat} (hL:L.length=m*e.size) (hc:m=0∨∃bb oo,bx=some ⟨bb,oo,none⟩∧∀k v,L[k]?=some v→w.cell? ⟨bb,oo+k,none⟩=some v)
 {i:Nat} (hi:i<m) {q:List Nat} {e':Ty} (hq:typeAt e q=some (.slice e')):elemAt w e (.slice bx m cx) i q=L[i*e.size+offs e q]?:=by
 rcases hc with hc|⟨bb,oo,rfl,hc⟩
 ·omega
 ·have hlt:=zbf hq
  have hs1:(Ty.slice e').size=1:=rfl
  have hm:(i+1)*e.size≤m*e.size:=Nat.mul_le_mul_right _ hi
  rw [Nat.succ_mul] at hm
  have hj:i*e.size+offs e q<L.length:=by omega
  have:=hc _ _ (List.getElem?_eq_getElem hj)
  simp only [elemAt,hi,if_true]
  rw [Nat.add_assoc,this,List.getElem?_eq_getElem hj]
theorem app_elem {e:Ty} {bx by':Option Addr} {olds news rest:List Value} {m k cx cy cn nb:Nat} {arr:Array Value} {el:TypeId} {fr:Nat×Nat} (ho:olds.length=m*e.size) (hn:news.length=k*e.size)
 (hoc:m=0∨∃bb oo,bx=some ⟨bb,oo,none⟩∧∀k v,olds[k]?=some v→w.cell? ⟨bb,oo+k,none⟩=some v)
 (hnc:k=0∨∃bb oo,by'=some ⟨bb,oo,none⟩∧∀k v,news[k]?=some v→w.cell? ⟨bb,oo+k,none⟩=some v)
 (hb:w'.heap[nb]?=some (.cells arr el fr)) (ha:arr.toList=(olds++news)++rest) {j:Nat} {q:List Nat} {e':Ty} {u:Value} (hq:typeAt e q=some (.slice e')) (hu:elemAt w' e (.slice (some ⟨nb,0,none⟩) (m+k) cn) j q=some u) :
 (j<m∧elemAt w e (.slice bx m cx) j q=some u)∨(m≤j∧elemAt w e (.slice by' k cy) (j-m) q=some u):=by
 have hlt:=zbf hq
 have hs1:(Ty.slice e').size=1:=rfl
 simp only [elemAt] at hu
 split at hu
 ·rename_i hj
  simp only [World.cell?,hb,Option.isSome_none,Bool.false_eq_true,if_false,Nat.zero_add] at hu
  rw [←Array.getElem?_toList,ha] at hu
  have hjm:(j+1)*e.size≤(m+k)*e.size:=Nat.mul_le_mul_right _ hj
  rw [Nat.succ_mul,Nat.add_mul] at hjm
  rw [List.getElem?_append_left (by simp only [List.length_append];omega)] at hu
  by_cases hm:j<m
  ·left
   refine ⟨hm,?_⟩
   have hjm2:(j+1)*e.size≤m*e.size:=Nat.mul_le_mul_right _ hm
   rw [Nat.succ_mul] at hjm2
   rw [List.getElem?_append_left (by omega)] at hu
   rw [elem_of ho hoc hm hq];exact hu
  ·right
   refine ⟨by omega,?_⟩
   have hjm2:m*e.size≤j*e.size:=Nat.mul_le_mul_right _ (by omega)
   rw [List.getElem?_append_right (by omega)] at hu
   rw [elem_of hn hnc (by omega) hq,←hu]
   congr 1
   rw [Nat.sub_mul];omega
 ·cases hu
theorem ok_append (hT:TabOk P tab) (h:Sim w0 lim0 rb n st a w lim β) (hrb : ∀k,some k=rb→k<w0.heap.size) (hd : ∀d,o.dst=some d→d<n) {t:TypeId} {x y:Operand} {cl:Call} (hop:o.op = .call cl) (hcal:cl.callee = .builtin .append) (ha:cl.args = #[x,y]) (hat:cl.argTypes = #[t,t])
 (hc:stAppend tab o t x y st=some c) (ho:c.out st=some st'):OpOk P w0 lim0 rb n o st' a w:=by
 unfold stAppend at hc
 cases hty:tab t with
 | none=>rw [hty] at hc;cases hc
 | some ty=>
   cases ty with
   | slice e=>
     rw [hty] at hc;simp only [] at hc
     split at hc
     ·rename_i xs ys ol hx hy hol
      change List e.val at xs
      change List e.val at ys
      obtain ⟨ps,tks,hce,htk,hps,hps0,hst⟩ : ∃ps tks,c = .ret (some (ltI (addI (lenL xs) (lenL ys)) big)) {upd0 o.dst (.dat (.slice e) (appL xs ys)) none with own:=ps,takes:=tks}∧(∀l∈ol.toList,l∈tks)∧(∀p∈ps,p=[]∨p=[0])∧True ∧
       ([0]∈ps→flatT e=true∧∃t,y = .tmp t∧st.own (.tmp t [0])=true∧Loc.tmp t [0]∈tks∧∀l,ol=some l→st.own (starL l)=true∧starL l∈tks∧starL l≠.tmp t [0]):=by
       cases hsa:starApp st e ol y with
       | none=>rw [hsa] at hc;injection hc with hc;exact ⟨_,_,hc.symm,fun _ h=>h,fun p hp=>.inl (by simpa using hp),trivial,fun h0=>by simp at h0⟩
       | some tk=>
         rw [hsa] at hc;injection hc with hc
         obtain ⟨f1,f2,f3⟩:=starApp_some hsa
         exact ⟨_,_,hc.symm,f2,fun p hp=>by simpa using hp,trivial,fun _=>⟨f1,f3⟩⟩
      subst hce
      obtain ⟨hchk,rfl⟩:=zap ho
      have hlt:((xs.length:Int)+ys.length)<big:=ltI_iff.1 hchk
      unfold big at hlt
      obtain ⟨el,h1,h2⟩:=elemTy hT hty
      obtain ⟨bx,cx,hvx,hlx,hsx⟩:=zhv (st:=st) (β:=β) (rb:=rb) (as_rep hx (h.ent x))
      obtain ⟨by',cy,hvy,hly,hsy⟩:=zhv (st:=st) (β:=β) (rb:=rb) (as_rep hy (h.ent y))
      have hvx:a.eval x = .slice bx xs.length cx:=hvx
      have hvy:a.eval y = .slice by' ys.length cy:=hvy
      have hsx:SRep w lim (CRep w lim e) e.size xs bx:=hsx
      have hsy:SRep w lim (CRep w lim e) e.size ys by':=hsy
      -- the new cells
      obtain ⟨news,hrn,hnc⟩ : ∃news,RRep w lim e ys news∧(ys=[]∨∃bb oo,by'=some ⟨bb,oo,none⟩∧∀k v,news[k]?=some v→w.cell? ⟨bb,oo+k,none⟩=some v):=by
       rcases hsy with hsy|⟨bb,oo,rfl,hb,hu,hcell⟩
       ·subst hsy;exact ⟨[],RRep.nil e,.inl rfl⟩
       ·obtain ⟨L,k1,k2⟩:=SRep_cells hcell
        exact ⟨L,k1,.inr ⟨bb,oo,rfl,k2⟩⟩
      obtain ⟨olds,hro,hoc⟩ : ∃olds,RRep w lim e xs olds∧(xs=[]∨∃bb oo,bx=some ⟨bb,oo,none⟩∧∀k v,olds[k]?=some v→w.cell? ⟨bb,oo+k,none⟩=some v):=by
       rcases hsx with hsx|⟨bb,oo,rfl,hb,hu,hcell⟩
       ·subst hsx;exact ⟨[],RRep.nil e,.inl rfl⟩
       ·obtain ⟨L,k1,k2⟩:=SRep_cells hcell
        exact ⟨L,k1,.inr ⟨bb,oo,rfl,k2⟩⟩
      have exec : ∀ {r w2},(Builtin.append_ #[t,t] o.type #[a.eval x,a.eval y]).run P w = .ok r w2→(execOp a.eval o).run P w = .ok (.value r) w2:=by
       intro r w2 hr
       have e0:cl.args.map a.eval = #[a.eval x,a.eval y]:=by rw [ha];simp
       simp only [execOp,hop,resolve,hcal,Sem.run_bind,Sem.run_pure,Result.andThen_ok,invoke,builtin,e0,hat,hr]
      have happ:=hro.append hrn
      -- what is owned in the elements
      have hown0:=owner_spec h hol hx
      have SX:[0]∈ps→(∀i q e' u,typeAt e q=some (.slice e')→elemAt w e (.slice bx xs.length cx) i q=some u→Tip w lim w0.fr e'.size u∧∀g,blockOf u=some g→∃l,ol=some l∧HasL st a w β (starL l) g) ∧
       (∀i q e' u j r e'' u' g,typeAt e q=some (.slice e')→typeAt e r=some (.slice e'')→elemAt w e (.slice bx xs.length cx) i q=some u→elemAt w e (.slice bx xs.length cx) j r=some u'→blockOf u=some g→blockOf u'=some g→i=j∧q=r):=by
       intro h0
       obtain ⟨_,t0,_,_,_,hl⟩:=hst h0
       rcases hown0 with ⟨l,rfl,ho1,ho2,ho3⟩|⟨rfl,hnil⟩
       ·obtain ⟨s1,s2⟩:=starL_loc (a:=a) (w:=w) (β:=β) ho3
        obtain ⟨T,v',g1,g2,g3⟩:=h.own _ (hl l rfl).1
        rw [s1] at g1;injection g1 with g1;subst g1
        rw [s2,ho2] at g2;injection g2 with g2;subst g2
        rw [hvx] at g3
        obtain ⟨r1,r2⟩:=g3
        refine ⟨fun i q e' u hq hu=>⟨r1 i q e' u hq hu,fun g hg=>⟨l,rfl,_,_,s1,s2.trans ho2,?_⟩⟩,r2⟩
        rw [hvx]
        exact ⟨i,q,e',u,hq,hu,hg⟩
       ·rw [hvx] at hnil
        rw [hnil]
        exact ⟨fun i q e' u _ hu=>(by cases hu),fun i q e' u j r e'' u' g _ _ hu=>(by cases hu)⟩
      have SY:[0]∈ps→(∀i q e' u,typeAt e q=some (.slice e')→elemAt w e (.slice by' ys.length cy) i q=some u→Tip w lim w0.fr e'.size u∧∀g,blockOf u=some g→∃t,y = .tmp t∧HasL st a w β (.tmp t [0]) g) ∧
       (∀i q e' u j r e'' u' g,typeAt e q=some (.slice e')→typeAt e r=some (.slice e'')→elemAt w e (.slice by' ys.length cy) i q=some u→elemAt w e (.slice by' ys.length cy) j r=some u'→blockOf u=some g→blockOf u'=some g→i=j∧q=r):=by
       intro h0
       obtain ⟨_,t0,rfl,hot,_,_⟩:=hst h0
       obtain ⟨T,v',g1,g2,g3⟩:=h.own _ hot
       obtain ⟨v0,hav⟩ : ∃v,(st.env t0).av = .dat (.slice e) v:=by
        rcases (as_av hy).1 t0 rfl with hav|hav
        ·exact hav
        ·rw [zbb,hav] at g1;cases g1
       have s1:locTy st (.tmp t0 [0])=some (.prod (.slice e) .unit):=by rw [zbb,hav];rfl
       have s2:locV st a w β (.tmp t0 [0])=some (.slice by' ys.length cy):=by
        rw [zda,hav]
        have:tmpOf a t0 = .slice by' ys.length cy:=hvy
        simp only [partAV,this,zh9,offs];rfl
       rw [s1] at g1;injection g1 with g1;subst g1
       rw [s2] at g2;injection g2 with g2;subst g2
       obtain ⟨r1,r2⟩:=g3
       exact ⟨fun i q e' u hq hu=>⟨r1 i q e' u hq hu,fun g hg=>⟨t0,rfl,_,_,s1,s2,i,q,e',u,hq,hu,hg⟩⟩,r2⟩
      -- the elements' slices behind the new list
      have star:[0]∈ps→∀ {w2:World} {nb cn:Nat} {arr2:Array Value} {el2:TypeId} {fr2:Nat×Nat} {rest:List Value},w2.heap[nb]?=some (.cells arr2 el2 fr2)→arr2.toList=(olds++news)++rest →
       (∀i q e' u,typeAt e q=some (.slice e')→elemAt w2 e (.slice (some ⟨nb,0,none⟩) (xs.length+ys.length) cn) i q=some u→Tip w lim w0.fr e'.size u∧∀g,blockOf u=some g→∃l,l∈tks∧st.own l=true∧HasL st a w β l g∧∀l0,ol=some l0→l≠l0) ∧
       ∀i q e' u j r e'' u' g,typeAt e q=some (.slice e')→typeAt e r=some (.slice e'')→elemAt w2 e (.slice (some ⟨nb,0,none⟩) (xs.length+ys.length) cn) i q=some u→elemAt w2 e (.slice (some ⟨nb,0,none⟩) (xs.length+ys.length) cn) j r=some u'→blockOf u=some g→blockOf u'=some g→i=j∧q=r:=by
       intro h0 w2 nb cn arr2 el2 fr2 rest hb2 ha2
       obtain ⟨x1,x2⟩:=SX h0
       obtain ⟨y1,y2⟩:=SY h0
       obtain ⟨_,t0,rfl,hot,hott,hl⟩:=hst h0
       have hoc':xs.length=0∨∃bb oo,bx=some ⟨bb,oo,none⟩∧∀k v,olds[k]?=some v→w.cell? ⟨bb,oo+k,none⟩=some v:=hoc.imp (fun h=>by rw [h];rfl) id
       have hnc':ys.length=0∨∃bb oo,by'=some ⟨bb,oo,none⟩∧∀k v,news[k]?=some v→w.cell? ⟨bb,oo+k,none⟩=some v:=hnc.imp (fun h=>by rw [h];rfl) id
       have spl:=fun {j q e' u} (hq:typeAt e q=some (.slice e')) (hu:elemAt w2 e (.slice (some ⟨nb,0,none⟩) (xs.length+ys.length) cn) j q=some u)=>app_elem (cx:=cx) (cy:=cy) hro.1 hrn.1 hoc' hnc' hb2 ha2 hq hu
       refine ⟨fun i q e' u hq hu=>?_,fun i q e' u j r e'' u' g hq hr hu hu' hg hg'=>?_⟩
       ·rcases spl hq hu with ⟨_,hu⟩|⟨_,hu⟩
        ·obtain ⟨k1,k2⟩:=x1 _ q e' u hq hu
         refine ⟨k1,fun g hg=>?_⟩
         obtain ⟨l,hl0,hh⟩:=k2 g hg
         exact ⟨starL l,(hl l hl0).2.1,(hl l hl0).1,hh,fun l0 h0'=>by rw [hl0] at h0';injection h0' with h0';subst h0';exact starL_ne l⟩
        ·obtain ⟨k1,k2⟩:=y1 _ q e' u hq hu
         refine ⟨k1,fun g hg=>?_⟩
         obtain ⟨t1,ht1,hh⟩:=k2 g hg
         injection ht1 with ht1;subst ht1
         refine ⟨_,hott,hot,hh,fun l0 h0' he=>?_⟩
         rcases hown0 with ⟨l,rfl,_,_,ho3⟩|⟨rfl,_⟩
         ·injection h0' with h0';subst h0'
          obtain ⟨T,v',g1,g2,g3⟩:=hh
          rw [he,ho3] at g1;injection g1 with g1;subst g1
          obtain ⟨v0,hav⟩ : ∃v,(st.env t0).av = .dat (.slice e) v:=by
           rcases (as_av hy).1 t0 rfl with hav|hav
           ·exact hav
           ·rw [←he,zbb,hav] at ho3;cases ho3
          rw [←he,zbb,hav] at ho3
          have ho3:some (Ty.prod (.slice e) .unit)=some (Ty.slice e):=ho3
          injection ho3 with ho3;cases ho3
         ·cases h0'
       ·have cross : ∀ {g:Nat},(∃l,ol=some l∧HasL st a w β (starL l) g)→(∃t,(Operand.tmp t0) = .tmp t∧HasL st a w β (.tmp t [0]) g)→False:=by
          rintro g ⟨l,hl0,hh⟩ ⟨t1,ht1,hh'⟩
          injection ht1 with ht1;subst ht1
          exact (hl l hl0).2.2 (h.sep _ _ g (hl l hl0).1 hot hh hh')
        rcases spl hq hu with ⟨c1,hu⟩|⟨c1,hu⟩<;>rcases spl hr hu' with ⟨c2,hu'⟩|⟨c2,hu'⟩
        ·exact x2 i q e' u j r e'' u' g hq hr hu hu' hg hg'
        ·exact (cross ((x1 _ q e' u hq hu).2 g hg) ((y1 _ r e'' u' hr hu').2 g hg')).elim
        ·exact (cross ((x1 _ r e'' u' hr hu').2 g hg') ((y1 _ q e' u hq hu).2 g hg)).elim
        ·obtain ⟨d1,d2⟩:=y2 _ q e' u _ r e'' u' g hq hr hu hu' hg hg'
         exact ⟨by omega,d2⟩
      -- a block of its own
      have grow:cx<xs.length+ys.length→OpOk P w0 lim0 rb n o (apply st {upd0 o.dst (.dat (.slice e) (appL xs ys)) none with own:=ps,takes:=tks}) a w:=by
       intro hg
       have r1:=zj1 (P:=P) (cc:=cx) (w2:=w.drew) hro hoc
       have r2:=zj1 (P:=P) (cc:=cy) (w2:=w.drew) hrn hnc
       have hrun:=run_append_at_new (ty:=o.type) h1 h2 (sv:=.slice bx xs.length cx) rfl r1 r2 hg (by omega)
       have hlen:(appL xs ys).length=xs.length+ys.length:=by simp [appL]
       refine .value (v:=.slice (some ⟨w.heap.size,0,none⟩) (appL xs ys).length (grownCap w (xs.length+ys.length) cx el)) (exec (by rw [hvx,hvy,hrun,hlen])) (h.freshG (ps:=ps) (hps:=hps) (w':=w.drew.alloc (.cells (olds++(news++(Builtin.zeroCells (zeroCells e).toArray (grownCap w (xs.length+ys.length) cx el-(xs.length+ys.length))).toList)).toArray el)) hrb hd (by simp) (fun k hk=>?_) rfl rfl rfl (ziu (w:=w.drew) _) (fun k _ hk=>by simp at hk) (L:=olds++news) happ
        (rest:=(Builtin.zeroCells (zeroCells e).toArray (grownCap w (xs.length+ys.length) cx el-(xs.length+ys.length))).toList) (by simp) (by rw [hlen];exact grownCap_ge _ _ _ _) ?_ (fun h0=>?_))
       ·exact ziv (w:=w.drew) _ hk
       ·have hz:(zeroCells e).toArray.size=e.size:=by simpa using (zec w lim e).length
        have hge:=grownCap_ge w (xs.length+ys.length) cx el
        simp only [List.size_toArray,List.length_append,Array.length_toList,size_zeroCells,hz,hro.1,hrn.1]
        rw [←Nat.add_mul,←Nat.add_mul]
        exact Nat.mul_le_mul_right _ (by omega)
       ·obtain ⟨s1,s2⟩:=star h0 (ziu (w:=w.drew) (.cells (olds++(news++(Builtin.zeroCells (zeroCells e).toArray (grownCap w (xs.length+ys.length) cx el-(xs.length+ys.length))).toList)).toArray el)) (cn:=grownCap w (xs.length+ys.length) cx el) (rest:=(Builtin.zeroCells (zeroCells e).toArray (grownCap w (xs.length+ys.length) cx el-(xs.length+ys.length))).toList) (by simp)
        rw [hlen]
        exact ⟨fun i q e' u hq hu=>⟨(s1 i q e' u hq hu).1,fun g hg=>let ⟨l,m1,m2,m3,_⟩:=(s1 i q e' u hq hu).2 g hg;⟨l,m1,m2,m3⟩⟩,s2⟩
      rcases hown0 with ⟨l,rfl,ho1,ho2,ho3⟩|⟨rfl,hnil⟩
      ·obtain ⟨e',v',g1,g2,g3⟩:=h.own l ho1
       rw [ho3] at g1;injection g1 with g1;subst g1
       rw [ho2] at g2;injection g2 with g2;subst g2
       have hasl : ∀g,blockOf (a.eval x)=some g→HasL st a w β l g:=fun g hg=>⟨_,_,ho3,ho2,hg⟩
       rcases g3 with g3|⟨b,m,cap,arr,el',fr,g3,g5,g6,g7,g8,g9,g10⟩
       · -- a nil of its own
        rw [hvx] at g3;injection g3 with q1 q2 q3
        by_cases hz:ys.length=0
        ·have hxs:xs=[]:=List.eq_nil_of_length_eq_zero q2
         have hys:ys=[]:=List.eq_nil_of_length_eq_zero hz
         have r2:=zj1 (P:=P) (cc:=cy) (w2:=w) hrn hnc
         rw [hz] at r2
         have hrun:=zjv (ty:=o.type) h1 h2 r2
         refine .value (exec (by rw [hvx,hvy,q1,q2,q3,hz];exact hrun)) (h.val {upd0 o.dst (.dat (.slice e) (appL xs ys)) none with own:=ps,takes:=tks} _ hd rfl rfl ?_ (fun p=>.tmp 0 p) (fun p hp=>?_) (fun p hp q hq hpq=>?_) (fun l hl=>by cases hl) (fun l hl=>by cases hl))
         ·rw [hxs,hys];exact ⟨[_],⟨none,0,rfl,Nat.le_refl _,.inl rfl⟩,rfl⟩
         ·rcases hps p hp with rfl|rfl
          ·exact ⟨.slice e,.slice none 0 0,rfl,rfl,.inl ⟨rfl,rfl⟩⟩
          ·exact ⟨.prod (.slice e) .unit,.slice none 0 0,rfl,rfl,.inl ⟨rfl,rfl⟩⟩
         ·injection hpq
        ·exact grow (by omega)
       ·rw [hvx] at g3;injection g3 with q1 q2 q3
        subst q1;subst q2;subst q3
        by_cases hroom:xs.length+ys.length≤cx
        · -- there is room
         have r2:=zj1 (P:=P) (cc:=cy) (w2:=w) hrn hnc
         have hfit:(xs.length+ys.length)*e.size≤arr.size:=Nat.le_trans (Nat.mul_le_mul_right _ hroom) g9
         rw [Nat.add_mul] at hfit
         have hnl:=hrn.1
         have hal:arr.toList.length=arr.size:=by simp
         obtain ⟨c1,c2,c3,k1,k2,k3⟩ : ∃c1 c2 c3,arr.toList=c1++(c2++c3)∧c1.length=xs.length*e.size∧c2.length=news.length:=by
          refine ⟨arr.toList.take (xs.length*e.size),(arr.toList.drop (xs.length*e.size)).take news.length,(arr.toList.drop (xs.length*e.size)).drop news.length,?_,?_,?_⟩
          ·rw [List.take_append_drop,List.take_append_drop]
          ·rw [List.length_take];omega
          ·rw [List.length_take,List.length_drop];omega
         obtain ⟨w',m1,m2⟩:=zm6 (ty:=o.type) (s:=xs.length) h1 h2 r2 hroom g6 k1 k2 k3 hrn.notAgg g7
         have hlen:(appL xs ys).length=xs.length+ys.length:=by simp [appL]
         have hlimb:limSet lim b (some ((xs.length+ys.length)*e.size)) b=some ((xs.length+ys.length)*e.size):=by simp [limSet]
         have hext:Ext w lim w' (limSet lim b (some ((xs.length+ys.length)*e.size))):=by
          refine ⟨by rw [m2.size];exact Nat.le_refl _,fun k oo u hk hu hcell=>?_,fun k q hk hu=>?_⟩
          ·by_cases hkb:k=b
           ·subst hkb
            have:=hu _ g10
            simp only [World.cell?,g6] at hcell
            simp only [World.cell?,m2.at_]
            simp only [Option.isSome_none,Bool.false_eq_true,if_false] at hcell ⊢
            have e1:arr[oo]?=arr.toList[oo]?:=by simp
            rw [e1,k1,List.getElem?_append_left (by omega)] at hcell
            simp only [List.getElem?_toArray]
            rw [List.getElem?_append_left (by omega)];exact hcell
           ·exact (World.cell?_of_block (m2.other k hkb)).trans hcell
          ·by_cases hkb:k=b
           ·subst hkb
            intro z hz
            rw [hlimb] at hz;injection hz with hz;subst hz
            have:=hu _ g10
            rw [Nat.add_mul];omega
           ·intro z hz
            simp [limSet,hkb] at hz
            exact hu z hz
         -- the old elements' cells are the block's first
         have hoc1:olds=c1:=pre_cells g6 hro.1 hoc k1 k2
         have hpre:RRep w lim e xs c1:=by
          rw [←hoc1];exact hro
         have hrr:RRep w' (limSet lim b (some ((xs.length+ys.length)*e.size))) e (appL xs ys) (c1++news):=(hpre.append hrn).mono hext
         have hblt:b<w.heap.size:=(Array.getElem?_eq_some_iff.1 g6).1
         have hbrb:some b≠rb:=fun hh=>h.fr_rb g5 hh (hrb b hh)
         have hsrep:SRep w' (limSet lim b (some ((xs.length+ys.length)*e.size))) (CRep w' (limSet lim b (some ((xs.length+ys.length)*e.size))) e) e.size (appL xs ys) (some ⟨b,0,none⟩):=
          SRep_block m2.at_ (rest:=c3) (by simp) hrr (fun z hz=>by rw [hlimb] at hz;injection hz with hz;subst hz;rw [hlen];exact Nat.le_refl _)
         refine .value (v:=.slice (some ⟨b,0,none⟩) (appL xs ys).length cx) (lim:=limSet lim b (some ((xs.length+ys.length)*e.size))) (β:=β) (exec (by rw [hvx,hvy,hlen];exact m1)) ?_
         refine h.grown {upd0 o.dst (.dat (.slice e) (appL xs ys)) none with own:=ps,takes:=tks} _ w' _ hd rfl hext (grow_keepX h.grow m2.os m2.tape m2.output (by rw [m2.size];exact Nat.le_refl _) (fun k hk _ hX=>m2.other k (fun e=>by subst e;rcases g5 with g5|g5;exact absurd hk (by omega);exact hX g5)))
          (fun k hk _ hnot=>?_) (fun k hk=>⟨hrb k hk,by simp [limSet,show k≠b from fun hh=>hbrb (by rw [←hh];exact hk)]⟩) ⟨[_],⟨some ⟨b,0,none⟩,cx,rfl,by rw [hlen];exact hroom,hsrep⟩,rfl⟩ (fun p hp=>?_) (fun p hp q hq T T' x2 y2 g ht ht' hx2 hy2 hb1 hb2=>?_) rfl
          (.inl ⟨rfl,fun k hk=>m2.other k (fun hh=>hbrb (by rw [←hh];exact hk.symm))⟩)
         ·have hkb:k≠b:=fun hh=>hnot l (htk l (by simp)) ho1 (hasl _ (by rw [hvx,hh];rfl))
          exact ⟨m2.other k hkb,by simp [limSet,hkb]⟩
         ·rcases hps p hp with rfl|rfl
          ·refine ⟨.slice e,.slice (some ⟨b,0,none⟩) (appL xs ys).length cx,rfl,rfl,.inr ⟨b,_,cx,_,el',fr,rfl,g5,m2.at_,fun k hk=>g7 k ?_,by rw [hlen];exact hroom,?_,by rw [hlimb,hlen]⟩,fun g hg=>.inr ⟨l,htk l (by simp),ho1,hasl _ (by rw [hvx];exact hg)⟩⟩
           ·have e1:arr.size=arr.toList.length:=by simp
            rw [e1,k1]
            simp only [List.size_toArray,List.length_append] at hk ⊢
            omega
           ·have e1:arr.size=arr.toList.length:=by simp
            rw [e1,k1] at g9
            simp only [List.size_toArray,List.length_append] at g9 ⊢
            omega
          ·obtain ⟨s1,s2⟩:=star hp m2.at_ (cn:=cx) (rest:=c3) (by rw [hoc1];simp)
           rw [hlen]
           refine ⟨.prod (.slice e) .unit,.slice (some ⟨b,0,none⟩) (xs.length+ys.length) cx,rfl,rfl,⟨fun i q e' u hq hu=>?_,s2⟩,fun g hg=>.inr ?_⟩
           ·obtain ⟨q1,q2⟩:=s1 i q e' u hq hu
            refine q1.keep fun g hg=>?_
            obtain ⟨l1,_,r2,r3,r4⟩:=q2 g hg
            have hgb:g≠b:=fun e0=>by
             subst e0
             exact r4 l rfl (h.sep _ _ g r2 ho1 r3 (hasl _ (by rw [hvx];rfl)))
            exact ⟨m2.other g hgb,by simp [limSet,hgb]⟩
           ·obtain ⟨i,q,e',u,hq,hu,hgu⟩:=hg
            obtain ⟨l1,r1,r2,r3,_⟩:=(s1 i q e' u hq hu).2 g hgu
            exact ⟨l1,r1,r2,r3⟩
         ·have ty0 : ∀ {T:Ty},typeAV [] (AV.dat (.slice e) (appL xs ys))=some T→T = .slice e:=fun ht=>(Option.some.inj (show some (Ty.slice e)=some _ from ht)).symm
          have ty1 : ∀ {T:Ty},typeAV [0] (AV.dat (.slice e) (appL xs ys))=some T→T = .prod (.slice e) .unit:=fun ht=>(Option.some.inj (show some (Ty.prod (.slice e) .unit)=some _ from ht)).symm
          have v0 : ∀ {p:List Nat} {x:Value},(p=[]∨p=[0])→partAV (.slice (some ⟨b,0,none⟩) (appL xs ys).length cx) p (AV.dat (.slice e) (appL xs ys))=some x→x = .slice (some ⟨b,0,none⟩) (appL xs ys).length cx:=fun hp hx=>by
           rcases hp with rfl|rfl<;>(simp only [partAV,zh9,offs] at hx;simpa using hx.symm)
          have inner:[0]∈ps→∀ {T:Ty} {x:Value} {g:Nat},T = .prod (.slice e) .unit→x = .slice (some ⟨b,0,none⟩) (appL xs ys).length cx→Blk w' T x g→g≠b:=by
           rintro h0 T x g rfl rfl hbk rfl
           obtain ⟨s1,s2⟩:=star h0 m2.at_ (cn:=cx) (rest:=c3) (by rw [hoc1];simp)
           rw [hlen] at hbk
           obtain ⟨i,q,e',u,hq,hu,hgu⟩:=hbk
           obtain ⟨l1,_,r2,r3,r4⟩:=(s1 i q e' u hq hu).2 _ hgu
           exact r4 l rfl (h.sep _ _ _ r2 ho1 r3 (hasl _ (by rw [hvx];rfl)))
          rcases hps p hp with rfl|rfl<;>rcases hps q hq with rfl|rfl
          ·rfl
          ·exfalso
           have:=ty0 ht;subst this
           have hx:=v0 (.inl rfl) hx2
           subst hx
           have hb1:some b=some g:=hb1
           injection hb1 with hb1
           exact inner hq (ty1 ht') (v0 (.inr rfl) hy2) hb2 hb1.symm
          ·exfalso
           have:=ty0 ht';subst this
           have hy:=v0 (.inl rfl) hy2
           subst hy
           have hb2:some b=some g:=hb2
           injection hb2 with hb2
           exact inner hp (ty1 ht) (v0 (.inr rfl) hx2) hb1 hb2.symm
          ·rfl
        ·exact grow (by omega)
      ·rw [hvx] at hnil;injection hnil with q1 q2 q3
       by_cases hz:ys.length=0
       ·have hxs:xs=[]:=List.eq_nil_of_length_eq_zero q2
        have hys:ys=[]:=List.eq_nil_of_length_eq_zero hz
        have r2:=zj1 (P:=P) (cc:=cy) (w2:=w) hrn hnc
        rw [hz] at r2
        have hrun:=zjv (ty:=o.type) h1 h2 r2
        refine .value (exec (by rw [hvx,hvy,q1,q2,q3,hz];exact hrun)) (h.val {upd0 o.dst (.dat (.slice e) (appL xs ys)) none with own:=ps,takes:=tks} _ hd rfl rfl ?_ (fun p=>.tmp 0 p) (fun p hp=>?_) (fun p hp q hq hpq=>?_) (fun l hl=>by cases hl) (fun l hl=>by cases hl))
        ·rw [hxs,hys];exact ⟨[_],⟨none,0,rfl,Nat.le_refl _,.inl rfl⟩,rfl⟩
        ·rcases hps p hp with rfl|rfl
         ·exact ⟨.slice e,.slice none 0 0,rfl,rfl,.inl ⟨rfl,rfl⟩⟩
         ·exact ⟨.prod (.slice e) .unit,.slice none 0 0,rfl,rfl,.inl ⟨rfl,rfl⟩⟩
        ·injection hpq
       ·exact grow (by omega)
     ·cases hc
   | _=>rw [hty] at hc;cases hc
end
end Go.Den
namespace Go.Den
section
variable {P:Program} {tab:Tab} {w0:Base} {lim0:Lim} {rb:Option Nat} {n:Nat}
variable {st st':St} {a:Act} {w w':World} {lim lim':Lim} {β:Mp} {o:Oper} {c:Comp}
theorem za3 : ∀ {t:Ty} {x:t.val} {cs:List Value},noSl t=true→(CRep w lim t x cs↔cs=cellsV t x)
 | .int _,_,_,_=>Iff.rfl
 | .bool,_,_,_=>Iff.rfl
 | .str,_,_,_=>Iff.rfl
 | .unit,_,_,_=>Iff.rfl
 | .prod a b,x,cs,h=>by
   simp only [noSl] at h
   cases ha:noSl a with
   | false=>rw [ha] at h;cases h
   | true=>
     rw [ha] at h
     constructor
     ·rintro ⟨c1,c2,rfl,h1,h2⟩
      rw [(za3 ha).1 h1,(za3 h).1 h2];rfl
     ·intro e
      exact ⟨_,_,e,(za3 ha).2 rfl,(za3 h).2 rfl⟩
 | .slice _,_,_,h=>by cases h
theorem XRep.length : ∀ {t:Ty} {x:t.val} {cs:List Value} {B:Nat→Prop},XRep w t x cs B→cs.length=t.size
 | .int _,_,_,_,h=>by rw [h.1];rfl
 | .bool,_,_,_,h=>by rw [h.1];rfl
 | .str,_,_,_,h=>by rw [h.1];rfl
 | .unit,_,_,_,h=>by rw [h.1];rfl
 | .prod a b,_,_,_,h=>by
   obtain ⟨c1,c2,B1,B2,rfl,_,_,h4,h5⟩:=h
   simp [Ty.size,XRep.length h4,XRep.length h5]
 | .slice t,_,_,_,h=>by
   rcases h with ⟨h,_⟩|⟨g,c,arr,e,fr,Bs,h,_⟩<;>rw [h]<;>rfl
theorem zjw : ∀ {t:Ty} {x:t.val} {cs:List Value} {B:Nat→Prop},noSl t=true→(XRep w t x cs B↔(cs=cellsV t x∧∀g,¬B g))
 | .int _,_,_,_,_=>Iff.rfl
 | .bool,_,_,_,_=>Iff.rfl
 | .str,_,_,_,_=>Iff.rfl
 | .unit,_,_,_,_=>Iff.rfl
 | .prod a b,x,cs,B,h=>by
   simp only [noSl] at h
   cases ha:noSl a with
   | false=>rw [ha] at h;cases h
   | true=>
     rw [ha] at h
     constructor
     ·rintro ⟨c1,c2,B1,B2,rfl,h2,_,h4,h5⟩
      obtain ⟨e1,n1⟩:=(zjw ha).1 h4
      obtain ⟨e2,n2⟩:=(zjw h).1 h5
      refine ⟨by rw [e1,e2];rfl,fun g hg=>?_⟩
      rcases (h2 g).1 hg with hg|hg
      ·exact n1 g hg
      ·exact n2 g hg
     ·rintro ⟨e,hn⟩
      exact ⟨_,_,fun _=>False,fun _=>False,e,fun g=>⟨fun hg=>absurd hg (hn g),fun hg=>hg.elim (·.elim) (·.elim)⟩,fun _ h=>h.elim,(zjw ha).2 ⟨rfl,fun _ h=>h⟩,(zjw h).2 ⟨rfl,fun _ h=>h⟩⟩
 | .slice _,_,_,_,h=>by cases h
theorem XRep.mkFlat {t:Ty} (hns:noSl t=true) {xs:List t.val} {g c:Nat} {arr:Array Value} {e:TypeId} {fr:Nat×Nat} {B:Nat→Prop} {m:Nat} (hm:m=xs.length) (h2:xs.length≤c) (h3:c*t.size≤arr.size)
 (h4:w.heap[g]?=some (.cells arr e fr)) (hf : ∀o,o<arr.size→¬(fr.1≤o∧o<fr.2)) (h5 : ∀h,B h↔h=g)
 (h6 : ∀(i:Nat) (x:t.val),xs[i]?=some x→∀j v,(cellsV t x)[j]?=some v→arr[i*t.size+j]?=some v):XRep w (.slice t) xs [.slice (some ⟨g,0,none⟩) m c] B:=by
 subst hm
 exact .inr ⟨g,c,arr,e,fr,fun _ _=>False,rfl,h2,h3,h4,hf,fun k=>⟨fun hk=>.inl ((h5 k).1 hk),fun hk=>hk.elim (fun hk=>(h5 k).2 hk) (fun ⟨_,hk⟩=>hk.elim)⟩,fun _ _ hk=>hk.elim,fun _ _ _ hk=>hk.elim,
  fun i x hx=>⟨cellsV t x,(zjw hns).2 ⟨rfl,fun _ h=>h⟩,h6 i x hx⟩⟩
theorem XRep.flat {t:Ty} (hns:noSl t=true) {xs:List t.val} {cs:List Value} {B:Nat→Prop} (h:XRep w (.slice t) xs cs B):(cs=[.slice none 0 0]∧xs.length=0∧∀g,¬B g) ∨
 ∃g c arr e fr,cs=[.slice (some ⟨g,0,none⟩) xs.length c]∧xs.length≤c∧c*t.size≤arr.size∧w.heap[g]?=some (.cells arr e fr)∧(∀o,o<arr.size→¬(fr.1≤o∧o<fr.2))∧(∀h,B h↔h=g) ∧
  ∀(i:Nat) (x:t.val),xs[i]?=some x→∀j v,(cellsV t x)[j]?=some v→arr[i*t.size+j]?=some v:=by
 rcases h with h|⟨g,c,arr,e,fr,Bs,h1,h2,h3,h4,hf,h5,h6,h7,h8⟩
 ·exact .inl h
 ·have hno : ∀i k,¬Bs i k:=fun i k hk=>by
    obtain ⟨ds,k1,_⟩:=h8 i _ (List.getElem?_eq_getElem (h6 i k hk).1)
    exact ((zjw hns).1 k1).2 k hk
  refine .inr ⟨g,c,arr,e,fr,h1,h2,h3,h4,hf,fun k=>⟨fun hk=>((h5 k).1 hk).elim id (fun ⟨i,hi⟩=>absurd hi (hno i k)),fun hk=>(h5 k).2 (.inl hk)⟩,fun i x hx j v hv=>?_⟩
  obtain ⟨ds,k1,k2⟩:=h8 i x hx
  rw [((zjw hns).1 k1).1] at k2
  exact k2 j v hv
theorem XRep.crep : ∀ {t:Ty} {x:t.val} {cs:List Value} {B:Nat→Prop},XRep w t x cs B→(∀g,B g→lim g=none)→CRep w lim t x cs
 | .int _,_,_,_,h,_=>h.1
 | .bool,_,_,_,h,_=>h.1
 | .str,_,_,_,h,_=>h.1
 | .unit,_,_,_,h,_=>h.1
 | .prod a b,_,_,_,h,hl=>by
   obtain ⟨c1,c2,B1,B2,h1,h2,_,h4,h5⟩:=h
   exact ⟨c1,c2,h1,XRep.crep h4 (fun g hg=>hl g ((h2 g).2 (.inl hg))),XRep.crep h5 (fun g hg=>hl g ((h2 g).2 (.inr hg)))⟩
 | .slice t,xs,cs,B,h,hl=>by
   rcases h with ⟨h1,h2,_⟩|⟨g,c,arr,e,fr,Bs,h1,h2,h3,h4,_,h5,h6,h7,h8⟩
   ·exact ⟨none,0,by rw [h1,h2],by omega,.inl (List.eq_nil_of_length_eq_zero h2)⟩
   ·refine ⟨some ⟨g,0,none⟩,c,h1,h2,.inr ⟨g,0,rfl,(Array.getElem?_eq_some_iff.1 h4).1,(by intro m hm;rw [hl g ((h5 g).2 (.inl rfl))] at hm;cases hm),fun i x hx=>?_⟩⟩
    obtain ⟨ds,k1,k2⟩:=h8 i x hx
    refine ⟨ds,XRep.crep k1 (fun g' hg'=>hl g' ((h5 g').2 (.inr ⟨i,hg'⟩))),fun j v hv=>?_⟩
    have:=k2 j v hv
    simp only [World.cell?,h4]
    simpa using this
theorem mem_bump {q:List Nat} {ps:List (List Nat)} (h:q∈ps.map bump) (hn : ∀p∈ps,p≠[]) : ∃i p,q=(i+1)::p∧(i::p)∈ps:=by
 obtain ⟨p,hp,rfl⟩:=List.mem_map.1 h
 cases p with
 | nil=>exact absurd rfl (hn _ hp)
 | cons i p=>exact ⟨i,p,rfl,hp⟩
theorem XRep.of_crep : ∀ {t:Ty} {x:t.val} {cs:List Value} (base:Nat),CRep w lim t x cs→flatT t=true →
 (∀p∈slicePaths t,∀v,cs[offs t p]?=some v→v = .slice none 0 0∨∃b m cc arr e fr,v = .slice (some ⟨b,0,none⟩) m cc∧w.heap[b]?=some (.cells arr e fr)∧(∀o,o<arr.size→¬(fr.1≤o∧o<fr.2))∧m≤cc∧(∀e',typeAt t p=some (.slice e')→cc*e'.size≤arr.size)) →
 (∀p∈slicePaths t,∀q∈slicePaths t,∀u v g,cs[offs t p]?=some u→cs[offs t q]?=some v→blockOf u=some g→blockOf v=some g→p=q) →
 XRep w t x cs (fun g=>∃p∈slicePaths t,∃v,cs[offs t p]?=some v∧blockOf v=some g):=by
 intro t
 induction t with
 | int k=>intro x cs _ h _ _ _;exact ⟨h,fun g ⟨p,hp,_⟩=>by cases hp⟩
 | bool=>intro x cs _ h _ _ _;exact ⟨h,fun g ⟨p,hp,_⟩=>by cases hp⟩
 | str=>intro x cs _ h _ _ _;exact ⟨h,fun g ⟨p,hp,_⟩=>by cases hp⟩
 | unit=>intro x cs _ h _ _ _;exact ⟨h,fun g ⟨p,hp,_⟩=>by cases hp⟩
 | slice e _=>
   intro xs cs _ h hf ho _
   obtain ⟨ad,cc,h1,h2,h3⟩:=h
   subst h1
   have h0:=ho [] (zc3 e) (.slice ad (List.length (α:=e.val) xs) cc) (by simp [offs])
   rcases h0 with h0|⟨b,m,c',arr,el,fr,h0,h4,hfr,h5,h6⟩
   ·injection h0 with e1 e2 e3
    subst e1; 
    have e2:List.length (α:=e.val) xs=0:=e2
    have e3:cc=0:=e3
    subst e3
    refine .inl ⟨by rw [e2],e2,fun g ⟨p,hp,v,hv,hb⟩=>?_⟩
    have hp:p=[]:=by rw [slice_flat hf] at hp;simpa using hp
    subst hp
    simp [offs] at hv;subst hv;cases hb
   ·injection h0 with e1 e2 e3
    subst e1;subst e3
    have e2:List.length (α:=e.val) xs=m:=e2
    refine XRep.mkFlat hf rfl h2 (h6 e rfl) h4 hfr (fun g=>⟨fun ⟨p,hp,v,hv,hb⟩=>?_,fun hg=>⟨[],zc3 e,_,by simp [offs];rfl,by rw [hg];rfl⟩⟩) (fun i x hx j v hv=>?_)
    ·have hp:p=[]:=by rw [slice_flat hf] at hp;simpa using hp
     subst hp
     simp [offs] at hv;subst hv;injection hb with hb;exact hb.symm
    ·rcases h3 with h3|⟨b',o',q1,_,_,q4⟩
     ·rw [h3] at hx;simp at hx
     ·injection q1 with q1;injection q1 with q1 q2
      subst q1;subst q2
      obtain ⟨ds,k1,k2⟩:=q4 i x hx
      rw [(za3 hf).1 k1] at k2
      have:=k2 j v hv
      simp only [World.cell?,h4] at this
      simpa using this
 | prod p q ihp ihq=>
   intro x cs base h hf ho hd
   obtain ⟨c1,c2,rfl,h1,h2⟩:=h
   obtain ⟨f1,f2⟩:=flat_prod hf
   have l1:=h1.length
   have hne : ∀r∈slicePaths q,isProd q=true→r≠[]:=fun r hr hq=>(zaw hr).2 hq
   have at1 : ∀r∈slicePaths p,∀v,(c1++c2)[offs (.prod p q) (0::r)]?=some v↔c1[offs p r]?=some v:=by
    intro r hr v
    obtain ⟨⟨e,he,hoe⟩,_⟩:=zaw hr
    have:=zbf he
    have hs:e.size=1:=oty_size hoe
    simp only [offs]
    rw [List.getElem?_append_left (by omega)]
   have at2 : ∀i r v,(c1++c2)[offs (.prod p q) ((i+1)::r)]?=some v↔c2[offs q (i::r)]?=some v:=by
    intro i r v
    simp only [offs]
    rw [List.getElem?_append_right (by omega),l1,show p.size+offs q (i::r)-p.size=offs q (i::r) by omega]
   have in1 : ∀r∈slicePaths p,(0::r)∈slicePaths (.prod p q):=fun r hr=>by simp only [slicePaths];exact List.mem_append_left _ (List.mem_map.2 ⟨r,hr,rfl⟩)
   have X1:=ihp base h1 f1 (fun r hr v hv=>(ho (0::r) (in1 r hr) v ((at1 r hr v).2 hv))) (fun r hr r' hr' u v g hu hv hgu hgv=>by
    have:=hd _ (in1 r hr) _ (in1 r' hr') u v g ((at1 r hr u).2 hu) ((at1 r' hr' v).2 hv) hgu hgv
    injection this)
   rcases f2 with ⟨q1,q2,hq,f2⟩|hq
   ·subst hq
    have in2 : ∀i r,(i::r)∈slicePaths (.prod q1 q2)→((i+1)::r)∈slicePaths (.prod p (.prod q1 q2)):=fun i r hr=>by
     rw [slicePaths];exact List.mem_append_right _ (List.mem_map.2 ⟨i::r,hr,rfl⟩)
    have sh : ∀r∈slicePaths (.prod q1 q2),∃i s,r=i::s:=fun r hr=>by
     cases r with
     | nil=>exact absurd rfl (hne [] hr rfl)
     | cons i s=>exact ⟨i,s,rfl⟩
    have X2:=ihq base h2 f2 (fun r hr v hv=>by
     obtain ⟨i,s,rfl⟩:=sh r hr
     exact ho _ (in2 i s hr) v ((at2 i s v).2 hv)) (fun r hr r' hr' u v g hu hv hgu hgv=>by
     obtain ⟨i,s,rfl⟩:=sh r hr
     obtain ⟨i',s',rfl⟩:=sh r' hr'
     have:=hd _ (in2 i s hr) _ (in2 i' s' hr') u v g ((at2 i s u).2 hu) ((at2 i' s' v).2 hv) hgu hgv
     injection this with e1 e2
     injection e1 with e1
     rw [e1,e2])
    refine ⟨c1,c2,_,_,rfl,fun g=>⟨fun ⟨r,hr,v,hv,hg⟩=>?_,fun hg=>?_⟩,fun g ⟨r,hr,v,hv,hg⟩ ⟨r',hr',v',hv',hg'⟩=>?_,X1,X2⟩
    ·rw [slicePaths] at hr
     rcases List.mem_append.1 hr with hr|hr
     ·obtain ⟨s,hs,rfl⟩:=List.mem_map.1 hr
      exact .inl ⟨s,hs,v,(at1 s hs v).1 hv,hg⟩
     ·obtain ⟨i,s,rfl,hs⟩:=mem_bump hr (fun s hs=>hne s hs rfl)
      exact .inr ⟨_,hs,v,(at2 i s v).1 hv,hg⟩
    ·rcases hg with ⟨s,hs,v,hv,hg⟩|⟨s,hs,v,hv,hg⟩
     ·exact ⟨_,in1 s hs,v,(at1 s hs v).2 hv,hg⟩
     ·obtain ⟨i,s,rfl⟩:=sh s hs
      exact ⟨_,in2 i s hs,v,(at2 i s v).2 hv,hg⟩
    ·obtain ⟨i,s,rfl⟩:=sh r' hr'
     have:=hd _ (in1 r hr) _ (in2 i s hr') v v' g ((at1 r hr v).2 hv) ((at2 i s v').2 hv') hg hg'
     injection this with e1 _
     cases e1
   ·subst hq
    have hc2:c2=[]:=h2
    subst hc2
    refine ⟨c1,[],_,fun _=>False,rfl,fun g=>⟨fun ⟨r,hr,v,hv,hg⟩=>?_,fun hg=>?_⟩,fun _ _ h=>h,X1,⟨rfl,fun _ h=>h⟩⟩
    ·have hr:r∈(slicePaths p).map (0 :: ·)++[]:=hr
     simp only [List.append_nil] at hr
     obtain ⟨s,hs,rfl⟩:=List.mem_map.1 hr
     exact .inl ⟨s,hs,v,(at1 s hs v).1 hv,hg⟩
    ·rcases hg with ⟨s,hs,v,hv,hg⟩|hg
     ·exact ⟨_,in1 s hs,v,(at1 s hs v).2 hv,hg⟩
     ·exact hg.elim
theorem nest_prod {a b:Ty} (h:nestT (.prod a b)=true):nestT a=true∧((∃p q,b = .prod p q∧nestT b=true)∨b = .unit):=by
 simp only [nestT] at h
 cases ha:nestT a with
 | false=>rw [ha] at h;cases h
 | true=>
   rw [ha] at h
   refine ⟨rfl,?_⟩
   cases b with
   | prod p q=>exact .inl ⟨p,q,rfl,h⟩
   | unit=>exact .inr rfl
   | _=>cases h
theorem XRep.of_own : ∀ {t:Ty} {x:t.val} {cs:List Value} (base:Nat→Prop),CRep w lim t x cs→nestT t=true →
 (∀p∈slicePaths t,∃T v,typeAt t p=some T∧cs[offs t p]?=some v∧OwnT w lim base T v) →
 (∀p∈slicePaths t,∀q∈slicePaths t,∀T T' u v g,typeAt t p=some T→typeAt t q=some T'→cs[offs t p]?=some u→cs[offs t q]?=some v→Blk w T u g→Blk w T' v g→p=q) →
 XRep w t x cs (fun g=>∃p∈slicePaths t,∃T v,typeAt t p=some T∧cs[offs t p]?=some v∧Blk w T v g):=by
 intro t
 induction t with
 | int k=>intro x cs _ h _ _ _;exact ⟨h,fun g ⟨p,hp,_⟩=>by cases hp⟩
 | bool=>intro x cs _ h _ _ _;exact ⟨h,fun g ⟨p,hp,_⟩=>by cases hp⟩
 | str=>intro x cs _ h _ _ _;exact ⟨h,fun g ⟨p,hp,_⟩=>by cases hp⟩
 | unit=>intro x cs _ h _ _ _;exact ⟨h,fun g ⟨p,hp,_⟩=>by cases hp⟩
 | slice e _=>
   intro xs cs base h hf ho hd
   obtain ⟨ad,cc,h1,h2,h3⟩:=h
   subst h1
   obtain ⟨T0,v0,k1,k2,k3⟩:=ho [] (zc3 e)
   have k1:Ty.slice e=T0:=by simpa [typeAt] using k1
   subst k1
   have k2:v0 = .slice ad (List.length (α:=e.val) xs) cc:=by simpa [offs] using k2.symm
   subst k2
   rcases k3 with h0|⟨b,m,c',arr,el,fr,h0,hb0,h4,hfr,h5,h6,h7⟩
   ·injection h0 with e1 e2 e3
    subst e1
    have e2:List.length (α:=e.val) xs=0:=e2
    have e3:cc=0:=e3
    subst e3
    refine .inl ⟨by rw [e2],e2,fun g ⟨p,hp,T,v,ht,hv,hb⟩=>?_⟩
    have hv:v = .slice none 0 0:=by
     have:offs (.slice e) p=0:=by cases p<;>rfl
     rw [this] at hv
     have:List.length (α:=e.val) xs=0:=e2
     rw [this] at hv
     simpa using hv.symm
    subst hv
    exact hb.nil
   ·injection h0 with e1 e2 e3
    subst e1;subst e3
    have e2:List.length (α:=e.val) xs=m:=e2
    cases hns:noSl e with
    | true=>
      refine XRep.mkFlat hns rfl h2 h6 h4 hfr (fun g=>⟨fun ⟨p,hp,T,v,ht,hv,hb⟩=>?_,fun hg=>⟨[],zc3 e,.slice e,_,rfl,by simp [offs];rfl,by rw [hg];rfl⟩⟩) (fun i x hx j v hv=>?_)
      ·rw [slice_flat hns] at hp
       have hp:p=[]:=by simpa using hp
       subst hp
       have ht:Ty.slice e=T:=by simpa [typeAt] using ht
       subst ht
       simp [offs] at hv;subst hv;injection hb with hb;exact hb.symm
      ·rcases h3 with h3|⟨b',o',q1,_,_,q4⟩
       ·rw [h3] at hx;simp at hx
       ·injection q1 with q1;injection q1 with q1 q2
        subst q1;subst q2
        obtain ⟨ds,k1,k2⟩:=q4 i x hx
        rw [(za3 hns).1 k1] at k2
        have:=k2 j v hv
        simp only [World.cell?,h4] at this
        simpa using this
    | false=>
      have hfl:flatT e=true:=by
       simp only [nestT,hns] at hf;exact hf
      have hsp:slicePaths (.slice e)=[[],[0]]:=by simp [slicePaths,hns,hfl]
      obtain ⟨T1,v1,j1,j2,j3⟩:=ho [0] (by rw [hsp];simp)
      have j1:Ty.prod (.slice e) .unit=T1:=by simpa [typeAt] using j1
      subst j1
      have j2:v1 = .slice (some ⟨b,0,none⟩) (List.length (α:=e.val) xs) cc:=by simpa [offs] using j2.symm
      subst j2
      obtain ⟨s1,s2⟩:=j3
      have cross : ∀i q e' u,typeAt e q=some (.slice e')→elemAt w e (.slice (some ⟨b,0,none⟩) (List.length (α:=e.val) xs) cc) i q=some u→blockOf u≠some b:=by
       intro i q e' u hq hu hg
       have:=hd [] (zc3 e) [0] (by rw [hsp];simp) (.slice e) (.prod (.slice e) .unit) (.slice (some ⟨b,0,none⟩) (List.length (α:=e.val) xs) cc) (.slice (some ⟨b,0,none⟩) (List.length (α:=e.val) xs) cc) b rfl rfl (by simp [offs]) (by simp [offs]) (show blockOf (.slice (some ⟨b,0,none⟩) (List.length (α:=e.val) xs) cc)=some b from rfl) ⟨i,q,e',u,hq,hu,hg⟩
       cases this
      have hel : ∀(i:Nat) (x:e.val),(show List e.val from xs)[i]?=some x→∃ds,CRep w lim e x ds∧(∀j v,ds[j]?=some v→arr[i*e.size+j]?=some v)∧∀q e',typeAt e q=some (.slice e')→∀v,ds[offs e q]?=some v→elemAt w e (.slice (some ⟨b,0,none⟩) (List.length (α:=e.val) xs) cc) i q=some v:=by
       intro i x hx
       rcases h3 with h3|⟨b',o',q1,_,_,q4⟩
       ·rw [h3] at hx;simp at hx
       ·injection q1 with q1;injection q1 with q1 q2
        subst q1;subst q2
        obtain ⟨ds,k1,k2⟩:=q4 i x hx
        refine ⟨ds,k1,fun j v hv=>?_,fun q e' hq v hv=>?_⟩
        ·have:=k2 j v hv
         simp only [World.cell?,h4] at this
         simpa using this
        ·have hi:i<List.length (α:=e.val) xs:=(List.getElem?_eq_some_iff.1 hx).1
         simp only [elemAt,hi,if_true]
         exact k2 _ v hv
      refine .inr ⟨b,cc,arr,el,fr,fun i g=>∃q e' u,typeAt e q=some (.slice e')∧elemAt w e (.slice (some ⟨b,0,none⟩) (List.length (α:=e.val) xs) cc) i q=some u∧blockOf u=some g,rfl,h2,h6,h4,hfr,fun g=>⟨fun ⟨p,hp,T,v,ht,hv,hg⟩=>?_,fun hg=>?_⟩,fun i g hg=>?_,fun i j g hg hg'=>?_,fun i x hx=>?_⟩
      ·rw [hsp] at hp
       have hv:v = .slice (some ⟨b,0,none⟩) (List.length (α:=e.val) xs) cc:=by
        have:offs (.slice e) p=0:=by cases p<;>rfl
        rw [this] at hv;simpa using hv.symm
       subst hv
       rcases List.mem_cons.1 hp with rfl|hp
       ·have ht:Ty.slice e=T:=by simpa [typeAt] using ht
        subst ht
        injection hg with hg;exact .inl hg.symm
       ·have hp:p=[0]:=by simpa using hp
        subst hp
        have ht:Ty.prod (.slice e) .unit=T:=by simpa [typeAt] using ht
        subst ht
        obtain ⟨i,q,e',u,a1,a2,a3⟩:=hg
        exact .inr ⟨i,q,e',u,a1,a2,a3⟩
      ·rcases hg with rfl|⟨i,q,e',u,a1,a2,a3⟩
       ·exact ⟨[],zc3 e,.slice e,(.slice (some ⟨g,0,none⟩) (List.length (α:=e.val) xs) cc),rfl,by simp [offs],(show blockOf (.slice (some ⟨g,0,none⟩) (List.length (α:=e.val) xs) cc)=some g from rfl)⟩
       ·exact ⟨[0],by rw [hsp];simp,.prod (.slice e) .unit,(.slice (some ⟨b,0,none⟩) (List.length (α:=e.val) xs) cc),rfl,by simp [offs],i,q,e',u,a1,a2,a3⟩
      ·obtain ⟨q,e',u,a1,a2,a3⟩:=hg
       refine ⟨?_,fun hgb=>cross i q e' u a1 a2 (by rw [←hgb];exact a3)⟩
       simp only [elemAt] at a2
       split at a2
       ·rename_i hi;exact hi
       ·cases a2
      ·obtain ⟨q,e',u,a1,a2,a3⟩:=hg
       obtain ⟨r,e'',u',b1,b2,b3⟩:=hg'
       exact (s2 i q e' u j r e'' u' g a1 b1 a2 b2 a3 b3).1
      ·obtain ⟨ds,c1,c2,c3⟩:=hel i x hx
       have dl:=c1.length
       refine ⟨ds,?_,c2⟩
       have:=XRep.of_crep 0 c1 hfl (fun p hp v hv=>?_) (fun p hp q hq u v g hu hv hgu hgv=>?_)
       ·refine this.congr fun g=>⟨fun ⟨q,e',u,a1,a2,a3⟩=>?_,fun ⟨p,hp,v,hv,hg⟩=>?_⟩
        ·refine ⟨q,flat_paths hfl a1,u,?_,a3⟩
         have hlt:=zbf a1
         have hs:(Ty.slice e').size=1:=rfl
         have:=c3 q e' a1 _ (List.getElem?_eq_getElem (show offs e q<ds.length by omega))
         rw [a2] at this;injection this with this
         rw [List.getElem?_eq_getElem (show offs e q<ds.length by omega),this]
        ·obtain ⟨e',he'⟩:=flat_plain hfl hp
         exact ⟨p,e',v,he',c3 p e' he' v hv,hg⟩
       ·obtain ⟨e',he'⟩:=flat_plain hfl hp
        rcases s1 i p e' v he' (c3 p e' he' v hv) with k|⟨b2,m2,c4,arr2,el2,fr2,k4,_,k5,k6,k7,k8,_⟩
        ·exact .inl k
        ·refine .inr ⟨b2,m2,c4,arr2,el2,fr2,k4,k5,k6,k7,fun e2' he2=>?_⟩
         rw [he'] at he2;injection he2 with he2;injection he2 with he2;subst he2;exact k8
       ·obtain ⟨e',he'⟩:=flat_plain hfl hp
        obtain ⟨e'',he''⟩:=flat_plain hfl hq
        exact (s2 i p e' u i q e'' v g he' he'' (c3 p e' he' u hu) (c3 q e'' he'' v hv) hgu hgv).2
 | prod p q ihp ihq=>
   intro x cs base h hf ho hd
   obtain ⟨c1,c2,rfl,h1,h2⟩:=h
   obtain ⟨f1,f2⟩:=nest_prod hf
   have l1:=h1.length
   have hne : ∀r∈slicePaths q,isProd q=true→r≠[]:=fun r hr hq=>(zaw hr).2 hq
   have at1 : ∀r T,typeAt p r=some T→OTy T=true→∀v,(c1++c2)[offs (.prod p q) (0::r)]?=some v↔c1[offs p r]?=some v:=by
    intro r T he hoe v
    have:=zbf he
    have hs:T.size=1:=oty_size hoe
    simp only [offs]
    rw [List.getElem?_append_left (by omega)]
   have at2 : ∀i r v,(c1++c2)[offs (.prod p q) ((i+1)::r)]?=some v↔c2[offs q (i::r)]?=some v:=by
    intro i r v
    simp only [offs]
    rw [List.getElem?_append_right (by omega),l1,show p.size+offs q (i::r)-p.size=offs q (i::r) by omega]
   have ty1 : ∀r,typeAt (.prod p q) (0::r)=typeAt p r:=fun r=>by simp only [typeAt]
   have ty2 : ∀i r,typeAt (.prod p q) ((i+1)::r)=typeAt q (i::r):=fun i r=>by simp only [typeAt]
   have in1 : ∀r∈slicePaths p,(0::r)∈slicePaths (.prod p q):=fun r hr=>by simp only [slicePaths];exact List.mem_append_left _ (List.mem_map.2 ⟨r,hr,rfl⟩)
   have X1:=ihp base h1 f1 (fun r hr=>by
    obtain ⟨T,v,a1,a2,a3⟩:=ho (0::r) (in1 r hr)
    rw [ty1] at a1
    exact ⟨T,v,a1,(at1 r T a1 a3.oty v).1 a2,a3⟩) (fun r hr r' hr' T T' u v g ht ht' hu hv hgu hgv=>by
    have:=hd _ (in1 r hr) _ (in1 r' hr') T T' u v g ((ty1 r).trans ht) ((ty1 r').trans ht') ((at1 r T ht hgu.oty u).2 hu) ((at1 r' T' ht' hgv.oty v).2 hv) hgu hgv
    injection this)
   rcases f2 with ⟨q1,q2,hq,f2⟩|hq
   ·subst hq
    have in2 : ∀i r,(i::r)∈slicePaths (.prod q1 q2)→((i+1)::r)∈slicePaths (.prod p (.prod q1 q2)):=fun i r hr=>by
     rw [slicePaths];exact List.mem_append_right _ (List.mem_map.2 ⟨i::r,hr,rfl⟩)
    have sh : ∀r∈slicePaths (.prod q1 q2),∃i s,r=i::s:=fun r hr=>by
     cases r with
     | nil=>exact absurd rfl (hne [] hr rfl)
     | cons i s=>exact ⟨i,s,rfl⟩
    have X2:=ihq base h2 f2 (fun r hr=>by
     obtain ⟨i,s,rfl⟩:=sh r hr
     obtain ⟨T,v,a1,a2,a3⟩:=ho _ (in2 i s hr)
     rw [ty2] at a1
     exact ⟨T,v,a1,(at2 i s v).1 a2,a3⟩) (fun r hr r' hr' T T' u v g ht ht' hu hv hgu hgv=>by
     obtain ⟨i,s,rfl⟩:=sh r hr
     obtain ⟨i',s',rfl⟩:=sh r' hr'
     have:=hd _ (in2 i s hr) _ (in2 i' s' hr') T T' u v g ((ty2 i s).trans ht) ((ty2 i' s').trans ht') ((at2 i s u).2 hu) ((at2 i' s' v).2 hv) hgu hgv
     injection this with e1 e2
     injection e1 with e1
     rw [e1,e2])
    refine ⟨c1,c2,_,_,rfl,fun g=>⟨fun ⟨r,hr,T,v,ht,hv,hg⟩=>?_,fun hg=>?_⟩,fun g ⟨r,hr,T,v,ht,hv,hg⟩ ⟨r',hr',T',v',ht',hv',hg'⟩=>?_,X1,X2⟩
    ·rw [slicePaths] at hr
     rcases List.mem_append.1 hr with hr|hr
     ·obtain ⟨s,hs,rfl⟩:=List.mem_map.1 hr
      rw [ty1] at ht
      exact .inl ⟨s,hs,T,v,ht,(at1 s T ht hg.oty v).1 hv,hg⟩
     ·obtain ⟨i,s,rfl,hs⟩:=mem_bump hr (fun s hs=>hne s hs rfl)
      rw [ty2] at ht
      exact .inr ⟨_,hs,T,v,ht,(at2 i s v).1 hv,hg⟩
    ·rcases hg with ⟨s,hs,T,v,ht,hv,hg⟩|⟨s,hs,T,v,ht,hv,hg⟩
     ·exact ⟨_,in1 s hs,T,v,(ty1 s).trans ht,(at1 s T ht hg.oty v).2 hv,hg⟩
     ·obtain ⟨i,s,rfl⟩:=sh s hs
      exact ⟨_,in2 i s hs,T,v,(ty2 i s).trans ht,(at2 i s v).2 hv,hg⟩
    ·obtain ⟨i,s,rfl⟩:=sh r' hr'
     have:=hd _ (in1 r hr) _ (in2 i s hr') T T' v v' g ((ty1 r).trans ht) ((ty2 i s).trans ht') ((at1 r T ht hg.oty v).2 hv) ((at2 i s v').2 hv') hg hg'
     injection this with e1 _
     cases e1
   ·subst hq
    have hc2:c2=[]:=h2
    subst hc2
    refine ⟨c1,[],_,fun _=>False,rfl,fun g=>⟨fun ⟨r,hr,T,v,ht,hv,hg⟩=>?_,fun hg=>?_⟩,fun _ _ h=>h,X1,⟨rfl,fun _ h=>h⟩⟩
    ·have hr:r∈(slicePaths p).map (0 :: ·)++[]:=hr
     simp only [List.append_nil] at hr
     obtain ⟨s,hs,rfl⟩:=List.mem_map.1 hr
     rw [ty1] at ht
     exact .inl ⟨s,hs,T,v,ht,(at1 s T ht hg.oty v).1 hv,hg⟩
    ·rcases hg with ⟨s,hs,T,v,ht,hv,hg⟩|hg
     ·exact ⟨_,in1 s hs,T,v,(ty1 s).trans ht,(at1 s T ht hg.oty v).2 hv,hg⟩
     ·exact hg.elim
/-! ### parts of a tree -/
def PartOf (w:World) (t:Ty) (cs:List Value) (B:Nat→Prop) (o:Nat) (u:Ty) (y:u.val) (set:u.val→Option t.val):Prop:=
 ∃c1 c2 c3,∃Bu:Nat→Prop,cs=c1++(c2++c3)∧c1.length=o∧c2.length=u.size∧(∀g,Bu g→B g)∧XRep w u y c2 Bu ∧
  ∀(w':World) (z:u.val) (x':t.val) (cz:List Value) (Bv:Nat→Prop),set z=some x'→(∀g,B g→¬Bu g→w'.heap[g]?=w.heap[g]?)→(∀g,Bv g→B g→Bu g)→XRep w' u z cz Bv→XRep w' t x' (c1++(cz++c3)) (fun g=>(B g∧¬Bu g)∨Bv g)
theorem XRep.field' : ∀ {t:Ty} {x:t.val} {cs:List Value} {B:Nat→Prop} {i:Nat} {d:Dat},XRep w t x cs B→getF t x i=some d →
 PartOf w t cs B (offs t [i]) d.1 d.2 (fun z=>setF t x i ⟨d.1,z⟩):=by
 intro t
 induction t with
 | prod p q _ ihq=>
   intro x cs B i d h hf
   obtain ⟨c1,c2,B1,B2,rfl,h2,h3,h4,h5⟩:=h
   have l1:=h4.length
   cases i with
   | zero=>
     simp only [getF] at hf;injection hf with hf;subst hf
     refine ⟨[],c1,c2,B1,rfl,by cases p<;>rfl,l1,fun g hg=>(h2 g).2 (.inl hg),h4,fun w' z x' cz Bv hs hk hv hx=>?_⟩
     simp only [setF,cast_self] at hs
     injection hs with hs;subst hs
     refine ⟨cz,c2,Bv,B2,rfl,fun g=>⟨fun hg=>?_,fun hg=>?_⟩,fun g hg hg2=>h3 g (hv g hg ((h2 g).2 (.inr hg2))) hg2,hx,h5.keep fun g hg=>hk g ((h2 g).2 (.inr hg)) (fun h'=>h3 g h' hg)⟩
     ·rcases hg with ⟨hg,hn⟩|hg
      ·exact .inr (((h2 g).1 hg).resolve_left hn)
      ·exact .inl hg
     ·rcases hg with hg|hg
      ·exact .inr hg
      ·exact .inl ⟨(h2 g).2 (.inr hg),fun h'=>h3 g h' hg⟩
   | succ i=>
     simp only [getF] at hf
     obtain ⟨d1,d2,d3,Bu,k1,k2,kl,k3,k4,k5⟩:=ihq h5 hf
     subst k1
     refine ⟨c1++d1,d2,d3,Bu,by simp,by simp only [offs];simp [l1,k2],kl,fun g hg=>(h2 g).2 (.inr (k3 g hg)),k4,fun w' z x' cz Bv hs hk hv hx=>?_⟩
     simp only [setF] at hs
     cases hsq:setF q x.2 i ⟨d.1,z⟩ with
     | none=>rw [hsq] at hs;cases hs
     | some y=>
       rw [hsq] at hs;injection hs with hs;subst hs
       have hz:=k5 w' z y cz Bv hsq (fun g hg hn=>hk g ((h2 g).2 (.inr hg)) hn) (fun g hg hg2=>hv g hg ((h2 g).2 (.inr hg2))) hx
       refine ⟨c1,d1++(cz++d3),B1,_,by simp,fun g=>⟨fun hg=>?_,fun hg=>?_⟩,fun g hg hg2=>?_,h4.keep fun g hg=>hk g ((h2 g).2 (.inl hg)) (fun h'=>h3 g hg (k3 g h')),hz⟩
       ·rcases hg with ⟨hg,hn⟩|hg
        ·rcases (h2 g).1 hg with hg|hg
         ·exact .inl hg
         ·exact .inr (.inl ⟨hg,hn⟩)
        ·exact .inr (.inr hg)
       ·rcases hg with hg|⟨hg,hn⟩|hg
        ·exact .inl ⟨(h2 g).2 (.inl hg),fun h'=>h3 g hg (k3 g h')⟩
        ·exact .inl ⟨(h2 g).2 (.inr hg),hn⟩
        ·exact .inr hg
       ·rcases hg2 with ⟨hg2,_⟩|hg2
        ·exact h3 g hg hg2
        ·exact h3 g hg (k3 g (hv g hg2 ((h2 g).2 (.inl hg))))
 | _=>intro x cs B i d h hf;cases hf
theorem XRep.sub' : ∀ {p:List Nat} {t:Ty} {x:t.val} {cs:List Value} {B:Nat→Prop} {y:Dat},XRep w t x cs B→getP t x p=some y →
 PartOf w t cs B (offs t p) y.1 y.2 (fun z=>setP t x p ⟨y.1,z⟩)
 | [],t,x,cs,B,y,h,hp=>by
   simp only [getP] at hp;injection hp with hp;subst hp
   refine ⟨[],cs,[],B,by simp,by cases t<;>rfl,h.length,fun _ h=>h,h,fun w' z x' cz Bv hs hk hv hx=>?_⟩
   simp only [setP,cast_self] at hs
   injection hs with hs;subst hs
   simp only [List.nil_append,List.append_nil]
   exact hx.congr fun g=>⟨fun hg=>hg.elim (fun h=>absurd h.1 h.2) id,fun hg=>.inr hg⟩
 | i::p,t,x,cs,B,y,h,hp=>by
   simp only [getP] at hp
   cases hf:getF t x i with
   | none=>rw [hf] at hp;cases hp
   | some d=>
     rw [hf] at hp;simp only [] at hp
     obtain ⟨c1,c2,c3,B1,k1,k2,kl,k3,k4,k5⟩:=h.field' hf
     obtain ⟨d1,d2,d3,Bu,m1,m2,ml,m3,m4,m5⟩:=k4.sub' hp
     subst k1;subst m1
     refine ⟨c1++d1,d2,d3++c3,Bu,by simp,by rw [(zdu p hf).2];simp [k2,m2],ml,fun g hg=>k3 g (m3 g hg),m4,fun w' z x' cz Bv hs hk hv hx=>?_⟩
     simp only [setP,hf] at hs
     cases hsp:setP d.1 d.2 p ⟨y.1,z⟩ with
     | none=>rw [hsp] at hs;cases hs
     | some y'=>
       rw [hsp] at hs;simp only [] at hs
       have hz:=m5 w' z y' cz Bv hsp (fun g hg hn=>hk g (k3 g hg) hn) (fun g hg hg2=>hv g hg (k3 g hg2)) hx
       have:=k5 w' y' x' _ _ hs (fun g hg hn=>hk g hg (fun h'=>hn (m3 g h'))) (fun g hg hg2=>?_) hz
       ·simp only [List.append_assoc] at this ⊢
        refine this.congr fun g=>⟨fun hg=>?_,fun hg=>?_⟩
        ·rcases hg with ⟨hg,hn⟩|hg
         ·by_cases hb:B1 g
          ·exact .inr (.inl ⟨hb,hn⟩)
          ·exact .inl ⟨hg,hb⟩
         ·exact .inr (.inr hg)
        ·rcases hg with ⟨hg,hn⟩|⟨hg,hn⟩|hg
         ·exact .inl ⟨hg,fun h'=>hn (m3 g h')⟩
         ·exact .inl ⟨k3 g hg,hn⟩
         ·exact .inr hg
       ·rcases hg with ⟨hg,_⟩|hg
        ·exact hg
        ·exact m3 g (hv g hg hg2)
theorem XRep.sub {p:List Nat} {t:Ty} {x:t.val} {cs:List Value} {B:Nat→Prop} {y:Dat} (h:XRep w t x cs B) (hp:getP t x p=some y) :
 ∃Bu:Nat→Prop,(∀g,Bu g→B g)∧XRep w y.1 y.2 ((cs.drop (offs t p)).take y.1.size) Bu ∧
  ∀(w':World) (z:y.1.val) (x':t.val),setP t x p ⟨y.1,z⟩=some x'→(∀g,B g→¬Bu g→w'.heap[g]?=w.heap[g]?)→XRep w' y.1 z ((cs.drop (offs t p)).take y.1.size) Bu→XRep w' t x' cs B:=by
 obtain ⟨c1,c2,c3,Bu,k1,k2,kl,k3,k4,k5⟩:=h.sub' hp
 have e:(cs.drop (offs t p)).take y.1.size=c2:=by rw [k1,←k2,List.drop_left,←kl,List.take_left]
 rw [e]
 refine ⟨Bu,k3,k4,fun w' z x' hs hk hx=>?_⟩
 have:=k5 w' z x' c2 Bu hs hk (fun _ h _=>h) hx
 rw [←k1] at this
 refine this.congr fun g=>⟨fun hg=>?_,fun hg=>hg.elim (·.1) (k3 g)⟩
 by_cases hb:Bu g
 ·exact .inr hb
 ·exact .inl ⟨hg,hb⟩
theorem XRep.field {t:Ty} {x:t.val} {cs:List Value} {B:Nat→Prop} {i:Nat} {d:Dat} (h:XRep w t x cs B) (hf:getF t x i=some d) :
 ∃Bu:Nat→Prop,(∀g,Bu g→B g)∧XRep w d.1 d.2 ((cs.drop (offs t [i])).take d.1.size) Bu:=by
 obtain ⟨c1,c2,c3,Bu,k1,k2,kl,k3,k4,_⟩:=h.field' hf
 have e:(cs.drop (offs t [i])).take d.1.size=c2:=by rw [k1,←k2,List.drop_left,←kl,List.take_left]
 rw [e]
 exact ⟨Bu,k3,k4⟩
theorem XRep.putEl {e:Ty} {xs:List e.val} {cs:List Value} {B:Nat→Prop} (h:XRep w (.slice e) xs cs B) {k:Nat} {x:e.val} (hk:xs[k]?=some x) {q:List Nat} {y:Dat} (hy:getP e x q=some y) :
 ∃g c arr el fr c2,∃Bu:Nat→Prop,cs=[.slice (some ⟨g,0,none⟩) xs.length c]∧xs.length≤c∧c*e.size≤arr.size∧w.heap[g]?=some (.cells arr el fr)∧(∀o,o<arr.size→¬(fr.1≤o∧o<fr.2))∧B g ∧
  c2.length=y.1.size∧(∀h,Bu h→B h∧h≠g)∧XRep w y.1 y.2 c2 Bu∧(∀j v,c2[j]?=some v→arr[k*e.size+offs e q+j]?=some v) ∧
  ∀(w':World) (z:y.1.val) (x':e.val) (cz:List Value) (Bv:Nat→Prop) (arr':Array Value),setP e x q ⟨y.1,z⟩=some x'→(∀h,B h→h≠g→¬Bu h→w'.heap[h]?=w.heap[h]?)→w'.heap[g]?=some (.cells arr' el fr)→arr'.size=arr.size →
   (∀j,(j<k*e.size+offs e q∨k*e.size+offs e q+y.1.size≤j)→arr'[j]?=arr[j]?)→(∀j v,cz[j]?=some v→arr'[k*e.size+offs e q+j]?=some v)→(∀h,Bv h→B h→Bu h)→XRep w' y.1 z cz Bv →
   XRep w' (.slice e) (xs.set k x') cs (fun h=>(B h∧¬Bu h)∨Bv h):=by
 have hkl:=(List.getElem?_eq_some_iff.1 hk).1
 rcases h with ⟨_,h2,_⟩|⟨g,c,arr,el,fr,Bs,h1,h2,h3,h4,hf,h5,h6,h7,h8⟩
 ·have h2:xs.length=0:=h2
  omega
 ·obtain ⟨ds,k1,k2⟩:=h8 k x hk
  obtain ⟨c1,c2,c3,Bu,m1,m2,ml,m3,m4,m5⟩:=k1.sub' hy
  have hdl:=k1.length
  have hcl:c1.length+c2.length+c3.length=e.size:=by rw [←hdl,m1];simp;omega
  refine ⟨g,c,arr,el,fr,c2,Bu,h1,h2,h3,h4,hf,(h5 g).2 (.inl rfl),ml,fun b hb=>⟨(h5 b).2 (.inr ⟨k,m3 b hb⟩),(h6 k b (m3 b hb)).2⟩,m4,fun j v hv=>?_,fun w' z x' cz Bv arr' hset hkeep hg hsz hout hin hdis hX=>?_⟩
  ·have hj:=(List.getElem?_eq_some_iff.1 hv).1
   have:=k2 (c1.length+j) v (by rw [m1,List.getElem?_append_right (by omega),show c1.length+j-c1.length=j by omega,List.getElem?_append_left hj];exact hv)
   rw [m2] at this
   rw [←this];congr 1;omega
  ·have hczl:=hX.length
   have hBvg : ¬Bv g:=fun hv=>(h6 k g (m3 g (hdis g hv ((h5 g).2 (.inl rfl))))).2 rfl
   have hBvo : ∀i b,i≠k→Bs i b→¬Bv b:=fun i b hi hb hv=>hi (h7 i k b hb (m3 b (hdis b hv ((h5 b).2 (.inr ⟨i,hb⟩)))))
   refine .inr ⟨g,c,arr',el,fr,fun i b=>if i=k then (Bs k b∧¬Bu b)∨Bv b else Bs i b,?_,?_,by rw [hsz];exact h3,hg,by rw [hsz];exact hf,fun b=>⟨fun hb=>?_,fun hb=>?_⟩,fun i b hb=>?_,fun i j b hb hb'=>?_,fun i u hu=>?_⟩
   ·rw [h1];congr 2;exact (List.length_set ..).symm
   ·show (xs.set k x').length≤c
    rw [List.length_set];exact h2
   ·rcases hb with ⟨hb,hn⟩|hb
    ·rcases (h5 b).1 hb with rfl|⟨i,hi⟩
     ·exact .inl rfl
     ·refine .inr ⟨i,?_⟩
      by_cases e':i=k
      ·subst e';simp only [if_true];exact .inl ⟨hi,hn⟩
      ·simp only [e',if_false];exact hi
    ·exact .inr ⟨k,by simp only [if_true];exact .inr hb⟩
   ·rcases hb with rfl|⟨i,hi⟩
    ·exact .inl ⟨(h5 _).2 (.inl rfl),fun hb=>(h6 k _ (m3 _ hb)).2 rfl⟩
    ·by_cases e':i=k
     ·subst e'
      simp only [if_true] at hi
      rcases hi with ⟨hi,hn⟩|hi
      ·exact .inl ⟨(h5 b).2 (.inr ⟨i,hi⟩),hn⟩
      ·exact .inr hi
     ·simp only [e',if_false] at hi
      exact .inl ⟨(h5 b).2 (.inr ⟨i,hi⟩),fun hb=>e' (h7 i k b hi (m3 b hb))⟩
   ·show i<(xs.set k x').length∧b≠g
    rw [List.length_set]
    by_cases e':i=k
    ·subst e'
     simp only [if_true] at hb
     rcases hb with ⟨hb,_⟩|hb
     ·exact h6 i b hb
     ·exact ⟨hkl,fun e'=>hBvg (by rw [←e'];exact hb)⟩
    ·simp only [e',if_false] at hb
     exact h6 i b hb
   ·by_cases e1:i=k<;>by_cases e2:j=k
    ·rw [e1,e2]
    ·subst e1
     simp only [if_true] at hb
     simp only [e2,if_false] at hb'
     rcases hb with ⟨hb,_⟩|hb
     ·exact h7 i j b hb hb'
     ·exact absurd hb (hBvo j b e2 hb')
    ·subst e2
     simp only [if_true] at hb'
     simp only [e1,if_false] at hb
     rcases hb' with ⟨hb',_⟩|hb'
     ·exact h7 i j b hb hb'
     ·exact absurd hb' (hBvo i b e1 hb)
    ·simp only [e1,if_false] at hb
     simp only [e2,if_false] at hb'
     exact h7 i j b hb hb'
   ·have hu:(xs.set k x')[i]?=some u:=hu
    rw [List.getElem?_set] at hu
    by_cases e':i=k
    ·subst e'
     simp only [if_true,hkl] at hu
     injection hu with hu;subst hu
     refine ⟨c1++(cz++c3),?_,fun j v hv=>?_⟩
     ·simp only [if_true]
      exact m5 w' z x' cz Bv hset (fun b hb hn=>hkeep b ((h5 b).2 (.inr ⟨i,hb⟩)) (h6 i b hb).2 hn) (fun b hb hb2=>hdis b hb ((h5 b).2 (.inr ⟨i,hb2⟩))) hX
     ·by_cases j1:j<c1.length
      ·rw [List.getElem?_append_left j1] at hv
       rw [hout _ (.inl (by omega))]
       exact k2 j v (by rw [m1,List.getElem?_append_left j1];exact hv)
      ·rw [List.getElem?_append_right (by omega)] at hv
       by_cases j2:j-c1.length<cz.length
       ·rw [List.getElem?_append_left j2] at hv
        have:=hin _ v hv
        rw [←this];congr 1;omega
       ·rw [List.getElem?_append_right (by omega)] at hv
        rw [hout _ (.inr (by omega))]
        refine k2 j v ?_
        rw [m1,List.getElem?_append_right (by omega),List.getElem?_append_right (by omega),←hv]
        congr 1;omega
    ·rw [if_neg (fun h=>e' h.symm)] at hu
     obtain ⟨ds',n1,n2⟩:=h8 i u hu
     refine ⟨ds',?_,fun j v hv=>?_⟩
     ·simp only [e',if_false]
      exact n1.keep fun b hb=>hkeep b ((h5 b).2 (.inr ⟨i,hb⟩)) (h6 i b hb).2 (fun hb2=>e' (h7 i k b hb (m3 b hb2)))
     ·have hj:=(List.getElem?_eq_some_iff.1 hv).1
      rw [n1.length] at hj
      rw [hout _ ?_]
      ·exact n2 j v hv
      ·rcases Nat.lt_or_gt_of_ne e' with hlt|hgt
       ·have hm:(i+1)*e.size≤k*e.size:=Nat.mul_le_mul_right _ hlt
        rw [Nat.succ_mul] at hm
        exact .inl (by omega)
       ·have hm:(k+1)*e.size≤i*e.size:=Nat.mul_le_mul_right _ hgt
        rw [Nat.succ_mul] at hm
        exact .inr (by omega)
end
end Go.Den
namespace Go.Den
section
variable {P:Program} {tab:Tab} {w0:Base} {lim0:Lim} {rb:Option Nat} {n:Nat}
variable {st st':St} {a:Act} {w w':World} {lim lim':Lim} {β β':Mp} {o:Oper} {c:Comp}
structure freeB (w0:Base) (rb:Option Nat) (st:St) (a:Act) (w:World) (lim:Lim) (β:Mp) (k:Nat):Prop where
 lim0:lim k=some 0
 base:w0.heap.size≤k∨w0.X k
 rb:some k≠rb
 box : ∀b d,st.box b=some d→β b≠k
 own : ∀l,st.own l=true→¬HasL st a w β l k
theorem tree_free (h:Sim w0 lim0 rb n st a w lim β) (hrb : ∀k,some k=rb→k<w0.heap.size) {k:Nat} (hk:isTree st β k):freeB w0 rb st a w lim β k:=by
 refine ⟨(h.xs.lt hk).2.2,(h.xs.lt hk).2.1,fun hr=>?_,fun b d hb e=>h.xs.offb hb (by rw [e];exact hk),fun l hl hg=>h.xs.off hl hg hk⟩
 rcases hk with ⟨r,d',k1,k2⟩|⟨c,t,o,k1,k2⟩
 ·exact (h.xs.base r d' _ k1 k2).2.1 hr
 ·obtain ⟨_,_,_,_,k3,_⟩:=h.xs.xb c t o k1
  have:=hrb k hr
  omega
theorem Sim.treewC (h:Sim w0 lim0 rb n st a w lim β) (hrb : ∀k,some k=rb→k<w0.heap.size) (u:Upd) (v:Value) (hd : ∀d,u.dst=some d→d<n) (hno:u.own=[]) (hta:u.takes=[]) (hbw:u.bw=none) (hrd:u.rd=none) (htag:u.ent.tag=none)
 (h1:w'.os=w.os) (h2:w'.tape=w.tape) (h3:w'.output=w.output) (hs:w.heap.size≤w'.heap.size) (C:Nat→Prop) (hC : ∀k,C k→freeB w0 rb st a w lim β k)
 (hk : ∀k,k<w.heap.size→¬C k→w'.heap[k]?=w.heap[k]?) (hl : ∀k,k<w.heap.size→lim' k=lim k) (hβ:β'.b=β.b)
 (hval : ∀d,u.dst=some d→ERep (apply st u) w' lim' β' rb u.ent.av v)
 (hio : ∀r d,st.io r=some d→∃d',(apply st u).io r=some d'∧d'.1=d.1∧β'.V r=β.V r)
 (hxb : ∀b t o,st.xb b=some (t,o)→(∃o',(apply st u).xb b=some (t,o'))∧β'.c b=β.c b)
 (hxs:(∀l g,st.own l=true→(apply st u).own l=true→(HasL (apply st u) (a.put u.dst v) w' β' l g↔HasL st a w β l g))→Own w0 rb (apply st u) (a.put u.dst v) w' lim' β') (hK:β'.K=β.K:=by rfl) :
 Sim w0 lim0 rb n (apply st u) (a.put u.dst v) w' lim' β':=by
 have hnb : ∀c d o q,u.bw≠some (c,d,o,q):=fun _ _ _ _ e=>by rw [hbw] at e;cases e
 have noNew : ∀l,¬newOwn u l:=by
  intro l hl
  cases l with
  | tmp t p=>have:=hl.2;rw [hno] at this;cases this
  | box b p=>obtain ⟨d,o,q,he,_⟩:=hl;exact hnb _ _ _ _ he
 have hext:Ext w lim w' lim':=⟨hs,fun b oo z hb hu hz=>by
  by_cases hc:C b
  ·have:=hu 0 (hC b hc).lim0;omega
  ·exact (World.cell?_of_block (hk b hb hc)).trans hz,fun b m hb hu=>by unfold under;rw [hl b hb];exact hu⟩
 have hgrow:w0.grownBy w' rb:=⟨h1.trans h.grow.os,h2.trans h.grow.tape,h3.trans h.grow.output,Nat.le_trans h.grow.size hs,fun k hk' hne hX=>by
  have hkk:w'.heap[k]?=w.heap[k]?:=hk k (Nat.lt_of_lt_of_le hk' h.grow.size) (fun hc=>by
   rcases (hC k hc).base with h4|h4
   ·omega
   ·exact hX h4)
  exact hkk.trans (h.grow.block k hk' hne hX)⟩
 refine h.step u v w' lim' β' hd hext hgrow (fun b hb _=>hl b (Nat.lt_of_lt_of_le hb h.grow.size)) (fun b d _=>by rw [hβ]) hval (fun b d hbd _=>?_) (fun l g hst hg=>?_)
  (fun c d o q he=>absurd he (hnb _ _ _ _)) (fun l hl=>absurd hl (noNew l)) (fun l g hl=>absurd hl (noNew l)) (fun l m g hl=>absurd hl (noNew l)) (fun d l _ ht=>by rw [htag] at ht;cases ht) (.inl ⟨hrd,fun d b hd' hb=>?_⟩) hio hxb (fun hst=>hxs fun l g hl hl'=>?_) hK
 ·obtain ⟨cells,e,k1,_⟩:=h.box b d hbd
  have hlt:=(Array.getElem?_eq_some_iff.1 k1).1
  exact ⟨hk _ hlt (fun hc=>(hC _ hc).box b d hbd rfl),hl _ hlt⟩
 ·have hlt:=(h.lt hst.1 hg).1
  exact ⟨hk _ hlt (fun hc=>(hC _ hc).own l hst.1 hg),hl _ hlt⟩
 ·have hlt:=hrb b hb.symm
  have hlt':=Nat.lt_of_lt_of_le hlt h.grow.size
  refine ⟨hk _ hlt' (fun hc=>?_),hl _ hlt'⟩
  exact (hC _ hc).rb hb.symm
 ·rcases zeh hl' with hn|hs'
  ·exact absurd hn (noNew l)
  ·exact hst l g hs'
theorem Sim.treew (h:Sim w0 lim0 rb n st a w lim β) (hrb : ∀k,some k=rb→k<w0.heap.size) (u:Upd) (v:Value) (hd : ∀d,u.dst=some d→d<n) (hno:u.own=[]) (hta:u.takes=[]) (hbw:u.bw=none) (hrd:u.rd=none) (htag:u.ent.tag=none)
 (h1:w'.os=w.os) (h2:w'.tape=w.tape) (h3:w'.output=w.output) (hs:w.heap.size≤w'.heap.size) (C:Nat→Prop) (hC : ∀k,C k→isTree st β k)
 (hk : ∀k,k<w.heap.size→¬C k→w'.heap[k]?=w.heap[k]?) (hl : ∀k,k<w.heap.size→lim' k=lim k) (hβ:β'.b=β.b)
 (hval : ∀d,u.dst=some d→ERep (apply st u) w' lim' β' rb u.ent.av v)
 (hio : ∀r d,st.io r=some d→∃d',(apply st u).io r=some d'∧d'.1=d.1∧β'.V r=β.V r)
 (hxb : ∀b t o,st.xb b=some (t,o)→(∃o',(apply st u).xb b=some (t,o'))∧β'.c b=β.c b)
 (hxs:(∀l g,st.own l=true→(apply st u).own l=true→(HasL (apply st u) (a.put u.dst v) w' β' l g↔HasL st a w β l g))→Own w0 rb (apply st u) (a.put u.dst v) w' lim' β') (hK:β'.K=β.K:=by rfl) :
 Sim w0 lim0 rb n (apply st u) (a.put u.dst v) w' lim' β':=
 h.treewC hrb u v hd hno hta hbw hrd htag h1 h2 h3 hs C (fun k hk=>tree_free h hrb (hC k hk)) hk hl hβ hval hio hxb hxs hK
theorem own_none {u:Upd} (hno:u.own=[]) (hta:u.takes=[]) (hbw:u.bw=none) {l:Loc} (h:(apply st u).own l=true):st.own l=true:=by
 rcases zeh h with hn|hs
 ·cases l with
  | tmp t p=>have:=hn.2;rw [hno] at this;cases this
  | box b p=>obtain ⟨d,o,q,he,_⟩:=hn;rw [hbw] at he;cases he
 ·exact hs.1
theorem Sim.newrootC (h:Sim w0 lim0 rb n st a w lim β) (hrb : ∀k,some k=rb→k<w0.heap.size) {d:Tmp} (hd:d<n) (hfree:st.io d=none) (hd0:d≠0) (dat:Dat) (av:AV) (v:Value) (B0:Nat→Prop)
 (h1:w'.os=w.os) (h2:w'.tape=w.tape) (h3:w'.output=w.output) (hs:w.heap.size≤w'.heap.size) (C:Nat→Prop) (hC : ∀k,C k→freeB w0 rb st a w lim β k∧¬isTree st β k) (hk : ∀k,k<w.heap.size→¬C k→w'.heap[k]?=w.heap[k]?) (hl : ∀k,k<w.heap.size→lim' k=lim k)
 (hX:XRep w' dat.1 dat.2 (flatV v) B0) (hB : ∀g,B0 g→(w.heap.size≤g∨C g)∧lim' g=some 0) (hav:(av = .xf d []∧v=wrapV dat.1 (flatV v))∨(av = .xt d∧∃vs,v = .tuple vs.toArray∧TupSh dat.1 vs)) :
 Sim w0 lim0 rb n (apply st {upd0 (some d) av none with xw:=some (d,dat)}) (a.put (some d) v) w' lim' {β with V:=fun r=>if r=d then v else β.V r,B:=fun r=>if r=d then B0 else β.B r}:=by
 have hne : ∀r x,st.io r=some x→r≠d:=fun r x hr e=>by rw [e,hfree] at hr;cases hr
 have hio : ∀r,r≠d→(apply st {upd0 (some d) av none with xw:=some (d,dat)}).io r=st.io r:=fun r hr=>by
  have:Nat.beq r d=false:=by
   cases hq:Nat.beq r d with
   | true=>exact absurd (nbeq hq) hr
   | false=>rfl
  simp [apply,upd0,this]
 have hiod:(apply st {upd0 (some d) av none with xw:=some (d,dat)}).io d=some dat:=by simp [apply,upd0]
 have hxb:(apply st {upd0 (some d) av none with xw:=some (d,dat)}).xb=st.xb:=by simp [apply,upd0]
 have hbx:(apply st {upd0 (some d) av none with xw:=some (d,dat)}).box=st.box:=by simp [apply,upd0]
 refine h.treewC hrb {upd0 (some d) av none with xw:=some (d,dat)} v (fun d' hd'=>by injection hd' with hd';rw [←hd'];exact hd) rfl rfl rfl rfl rfl h1 h2 h3 hs C (fun k hk'=>(hC k hk').1) hk hl rfl (fun d' hd'=>?_)
  (fun r x hr=>⟨x,by rw [hio r (hne r x hr)];exact hr,rfl,by simp [hne r x hr]⟩) (fun b t o hb=>⟨⟨o,by rw [hxb];exact hb⟩,rfl⟩) (fun hst=>?_)
 ·show ERep _ _ _ _ _ av v
  rcases hav with ⟨rfl,hv⟩|⟨rfl,vs,hv,hts⟩
  ·refine ⟨dat,hiod,.inr ⟨dat.1,by cases dat.1<;>rfl,?_⟩⟩
   have e0:offs dat.1 []=0:=by cases dat.1<;>rfl
   simp only [if_true,e0,List.drop_zero]
   rw [←hX.length,List.take_length];exact hv
  ·exact ⟨dat,hiod,.inr ⟨by simp,vs,hv,hts⟩⟩
 ·have cas : ∀r x,(apply st {upd0 (some d) av none with xw:=some (d,dat)}).io r=some x→(r=d∧x=dat)∨(r≠d∧st.io r=some x):=by
    intro r x hr
    by_cases e:r=d
    ·subst e;rw [hiod] at hr;injection hr with hr;exact .inl ⟨rfl,hr.symm⟩
    ·rw [hio r e] at hr;exact .inr ⟨e,hr⟩
  have old : ∀r x g,st.io r=some x→β.B r g→g<w.heap.size:=fun r x g hr hg=>(h.xs.io r x hr).lt g hg
  have ownlt : ∀l g,(apply st {upd0 (some d) av none with xw:=some (d,dat)}).own l=true→HasL (apply st {upd0 (some d) av none with xw:=some (d,dat)}) (a.put (some d) v) w' {β with V:=fun r=>if r=d then v else β.V r,B:=fun r=>if r=d then B0 else β.B r} l g→st.own l=true∧HasL st a w β l g∧g<w.heap.size:=by
   intro l g hl hz
   have ho:=own_none (u:={upd0 (some d) av none with xw:=some (d,dat)}) rfl rfl rfl hl
   replace hz:=(hst l g ho hl).1 hz
   exact ⟨ho,hz,(h.lt ho hz).1⟩
  refine ⟨fun r x hr=>?_,fun r x g hr hg=>?_,fun r x g hr hg b d' hb he=>?_,fun r x g hr hg l hl hgz=>?_,fun r x r' x' g hr hr' hg hg'=>?_,fun b t o hb=>?_,fun b t o hb=>?_,fun b c t o t' o' hb hc he=>?_,fun x hx hm=>?_,?_,h.xs.rbx_keep (apply_rb rfl) (fun b t hb _=>⟨by rw [hxb];exact hb,rfl,hk _ (by obtain ⟨cells,e,k1,_⟩:=h.xs.xb b t none hb;exact (Array.getElem?_eq_some_iff.1 k1).1) (fun hc=>(hC _ hc).2 (.inr ⟨b,t,none,hb,rfl⟩))⟩) (fun r x hr=>⟨x,by rw [hio r (hne r x hr)];exact hr,.inr ⟨rfl,by simp [hne r x hr]⟩⟩)⟩
  ·rcases cas r x hr with ⟨rfl,rfl⟩|⟨e,hr⟩
   ·simp only [if_true];exact hX
   ·have k2:=h.xs.io r x hr
    simp only [e,if_false]
    exact k2.keep fun g hg=>hk g (old r x g hr hg) (fun hc=>(hC g hc).2 (.inl ⟨r,x,hr,hg⟩))
  ·rcases cas r x hr with ⟨rfl,rfl⟩|⟨e,hr⟩
   ·simp only [if_true] at hg
    obtain ⟨k1,k2⟩:=hB g hg
    rcases k1 with k1|k1
    ·exact ⟨.inl (Nat.le_trans h.grow.size k1),fun e=>(by have:=hrb g e;have:=h.grow.size;omega),k2⟩
    ·exact ⟨(hC g k1).1.base,(hC g k1).1.rb,k2⟩
   ·simp only [e,if_false] at hg
    obtain ⟨k1,k2,k3⟩:=h.xs.base r x g hr hg
    exact ⟨k1,k2,(hl g (old r x g hr hg)).trans k3⟩
  ·rw [hbx] at hb
   rcases cas r x hr with ⟨rfl,rfl⟩|⟨e,hr⟩
   ·simp only [if_true] at hg
    obtain ⟨cells,e,k1,_⟩:=h.box b d' hb
    have:=(Array.getElem?_eq_some_iff.1 k1).1
    have he:β b=g:=he
    rcases (hB g hg).1 with hq|hq
    ·omega
    ·exact (hC g hq).1.box b d' hb he
   ·simp only [e,if_false] at hg
    exact h.xs.box r x g hr hg b d' hb he
  ·obtain ⟨k1,k2,k3⟩:=ownlt l g hl hgz
   rcases cas r x hr with ⟨rfl,rfl⟩|⟨e,hr⟩
   ·simp only [if_true] at hg
    rcases (hB g hg).1 with hq|hq
    ·omega
    ·exact (hC g hq).1.own l k1 k2
   ·simp only [e,if_false] at hg
    exact h.xs.own r x g hr hg l k1 k2
  ·rcases cas r x hr with ⟨e1,e2⟩|⟨e,hs1⟩<;>rcases cas r' x' hr' with ⟨e1',e2'⟩|⟨e',hs2⟩
   ·rw [e1,e1']
   ·simp only [e1,if_true] at hg
    simp only [e',if_false] at hg'
    rcases (hB g hg).1 with hq|hq
    ·have:=old r' x' g hs2 hg';omega
    ·exact absurd (.inl ⟨r',x',hs2,hg'⟩) (hC g hq).2
   ·simp only [e1',if_true] at hg'
    simp only [e,if_false] at hg
    rcases (hB g hg').1 with hq|hq
    ·have:=old r x g hs1 hg;omega
    ·exact absurd (.inl ⟨r,x,hs1,hg⟩) (hC g hq).2
   ·simp only [e,if_false] at hg
    simp only [e',if_false] at hg'
    exact h.xs.dis r x r' x' g hs1 hs2 hg hg'
  ·rw [hxb] at hb
   obtain ⟨cells,e,k1,k2,k3,k4,k5⟩:=h.xs.xb b t o hb
   have hlt:=(Array.getElem?_eq_some_iff.1 k1).1
   refine ⟨cells,e,(hk _ hlt (fun hc=>(hC _ hc).2 (.inr ⟨b,t,o,hb,rfl⟩))).trans k1,k2,k3,(hl _ hlt).trans k4,fun r q ho=>?_⟩
   obtain ⟨x,m1,m2⟩:=k5 r q ho
   have hr:=hne r x m1
   exact ⟨x,by rw [hio r hr];exact m1,by simp only [hr,if_false];exact m2⟩
  ·rw [hxb] at hb
   obtain ⟨k1,k2,k3⟩:=h.xs.xbox b t o hb
   obtain ⟨cells,e,m1,_⟩:=h.xs.xb b t o hb
   have hlt:=(Array.getElem?_eq_some_iff.1 m1).1
   refine ⟨fun c x hc=>by rw [hbx] at hc;exact k1 c x hc,fun l hl hg=>?_,fun r x hr hg=>?_⟩
   ·obtain ⟨q1,q2,_⟩:=ownlt l _ hl hg
    exact k2 l q1 q2
   ·rcases cas r x hr with ⟨rfl,rfl⟩|⟨e',hr⟩
    ·simp only [if_true] at hg
     have hlt:β.c b<w.heap.size:=hlt
     rcases (hB _ hg).1 with hq|hq
     ·have:w.heap.size≤β.c b:=hq
      omega
     ·exact (hC _ hq).2 (.inr ⟨b,t,o,hb,rfl⟩)
    ·simp only [e',if_false] at hg
     exact k3 r x hr hg
  ·rw [hxb] at hb hc
   exact h.xs.xinj b c t o t' o' hb hc he
  ·have e0:(0:Tmp)≠d:=fun e=>hd0 e.symm
   rw [hio 0 e0] at hx
   simp only [e0,if_false]
   exact h.xs.fix x hx hm
  ·have e0:(0:Tmp)≠d:=fun e=>hd0 e.symm
   exact h.xs.kx.keep (fun x hx=>h.xs.io 0 x hx) (fun x hx _=>⟨x,by rw [hio 0 e0] at hx;exact hx,rfl,by simp [e0]⟩) rfl (fun x hx g hg=>hk g (old 0 x g hx hg) (fun hc=>(hC g hc).2 (.inl ⟨0,x,hx,hg⟩)))
theorem Sim.newroot (h:Sim w0 lim0 rb n st a w lim β) (hrb : ∀k,some k=rb→k<w0.heap.size) {d:Tmp} (hd:d<n) (hfree:st.io d=none) (hd0:d≠0) (dat:Dat) (av:AV) (v:Value) (B0:Nat→Prop)
 (h1:w'.os=w.os) (h2:w'.tape=w.tape) (h3:w'.output=w.output) (hs:w.heap.size≤w'.heap.size) (hk : ∀k,k<w.heap.size→w'.heap[k]?=w.heap[k]?) (hl : ∀k,k<w.heap.size→lim' k=lim k)
 (hX:XRep w' dat.1 dat.2 (flatV v) B0) (hB : ∀g,B0 g→w.heap.size≤g∧lim' g=some 0) (hav:(av = .xf d []∧v=wrapV dat.1 (flatV v))∨(av = .xt d∧∃vs,v = .tuple vs.toArray∧TupSh dat.1 vs)) :
 Sim w0 lim0 rb n (apply st {upd0 (some d) av none with xw:=some (d,dat)}) (a.put (some d) v) w' lim' {β with V:=fun r=>if r=d then v else β.V r,B:=fun r=>if r=d then B0 else β.B r}:=
 h.newrootC hrb hd hfree hd0 dat av v B0 h1 h2 h3 hs (fun _=>False) (fun _ hk=>hk.elim) (fun k hk' _=>hk k hk') hl hX (fun g hg=>⟨.inl (hB g hg).1,(hB g hg).2⟩) hav
theorem Sim.setroot (h:Sim w0 lim0 rb n st a w lim β) (hrb : ∀k,some k=rb→k<w0.heap.size) (hd : ∀d,o.dst=some d→d<n) {r:Tmp} {d d':Dat} (hr:st.io r=some d) (hty:d'.1=d.1) (av:AV) (v:Value)
 (h1:w'.os=w.os) (h2:w'.tape=w.tape) (h3:w'.output=w.output) (hs:w.heap.size≤w'.heap.size) (hk : ∀k,k<w.heap.size→¬β.B r k→w'.heap[k]?=w.heap[k]?)
 (hl : ∀k,k<w.heap.size→lim' k=lim k)
 (hX:XRep w' d'.1 d'.2 (flatV (β.V r)) (β.B r)) (hval : ∀d,o.dst=some d→ERep (apply st {upd0 o.dst av none with xw:=some (r,d')}) w' lim' β rb av v)
 (hKx:r=0→∀e q e' g m c k,d.1 = .slice e→typeAt e q=some (.slice e')→(flatV (β.V 0))[0]?=some (.slice (some ⟨g,0,none⟩) m c)→k<m→w'.cell? ⟨g,k*e.size+offs e q,none⟩=w.cell? ⟨g,k*e.size+offs e q,none⟩) :
 Sim w0 lim0 rb n (apply st {upd0 o.dst av none with xw:=some (r,d')}) (a.put o.dst v) w' lim' β:=by
 have hio : ∀k,k≠r→(apply st {upd0 o.dst av none with xw:=some (r,d')}).io k=st.io k:=fun k hk'=>by
  have:Nat.beq k r=false:=by
   cases hq:Nat.beq k r with
   | true=>exact absurd (nbeq hq) hk'
   | false=>rfl
  simp [apply,upd0,this]
 have hior:(apply st {upd0 o.dst av none with xw:=some (r,d')}).io r=some d':=by simp [apply,upd0]
 have hxb:(apply st {upd0 o.dst av none with xw:=some (r,d')}).xb=st.xb:=by simp [apply,upd0]
 have hbx:(apply st {upd0 o.dst av none with xw:=some (r,d')}).box=st.box:=by simp [apply,upd0]
 have hB : ∀g,β.B r g→g<w.heap.size:=fun g hg=>(h.xs.io r d hr).lt g hg
 refine h.treew hrb {upd0 o.dst av none with xw:=some (r,d')} v hd rfl rfl rfl rfl rfl h1 h2 h3 hs (fun k=>β.B r k) (fun k hk'=>.inl ⟨r,d,hr,hk'⟩) hk hl rfl hval
  (fun k x hx=>?_) (fun b t o' hb=>⟨⟨o',by rw [hxb];exact hb⟩,rfl⟩) (fun hst=>?_)
 ·by_cases e:k=r
  ·subst e;rw [hr] at hx;injection hx with hx;subst hx;exact ⟨d',hior,hty,rfl⟩
  ·exact ⟨x,by rw [hio k e];exact hx,rfl,rfl⟩
 ·have cas : ∀k x,(apply st {upd0 o.dst av none with xw:=some (r,d')}).io k=some x→∃y,st.io k=some y∧x.1=y.1∧(k=r→x=d')∧(k≠r→x=y):=by
    intro k x hx
    by_cases e:k=r
    ·subst e;rw [hior] at hx;injection hx with hx;subst hx;exact ⟨d,hr,hty,fun _=>rfl,fun h=>absurd rfl h⟩
    ·rw [hio k e] at hx;exact ⟨x,hx,rfl,fun h=>absurd h e,fun _=>rfl⟩
  have old : ∀k x g,st.io k=some x→β.B k g→g<w.heap.size:=fun k x g hx hg=>(h.xs.io k x hx).lt g hg
  have ownlt : ∀l g,(apply st {upd0 o.dst av none with xw:=some (r,d')}).own l=true→HasL (apply st {upd0 o.dst av none with xw:=some (r,d')}) (a.put o.dst v) w' β l g→st.own l=true∧HasL st a w β l g:=by
   intro l g hl hz
   have ho:=own_none (u:={upd0 o.dst av none with xw:=some (r,d')}) rfl rfl rfl hl
   replace hz:=(hst l g ho hl).1 hz
   exact ⟨ho,hz⟩
  refine ⟨fun k x hx=>?_,fun k x g hx hg=>?_,fun k x g hx hg b q hb he=>?_,fun k x g hx hg l hl' hgz=>?_,fun k x k' x' g hx hx' hg hg'=>?_,fun b t q hb=>?_,fun b t q hb=>?_,fun b c t q t' q' hb hc he=>?_,fun x hx hm=>?_,?_,h.xs.rbx_keep (apply_rb rfl) (fun b t hb _=>⟨by rw [hxb];exact hb,rfl,hk _ (by obtain ⟨cells,e,k1,_⟩:=h.xs.xb b t none hb;exact (Array.getElem?_eq_some_iff.1 k1).1) (fun hg=>(h.xs.xbox b t none hb).2.2 r d hr hg)⟩) (fun k x hx=>?_)⟩
  rotate_right
  ·by_cases e:k=r
   ·subst e;rw [hr] at hx;injection hx with hx;subst hx;exact ⟨d',hior,.inr ⟨hty,rfl⟩⟩
   ·exact ⟨x,by rw [hio k e];exact hx,.inr ⟨rfl,rfl⟩⟩
  ·obtain ⟨y,k1,k2,k3,k4⟩:=cas k x hx
   by_cases e:k=r
   ·have:=k3 e;subst this;subst e
    exact hX
   ·have:=k4 e;subst this
    have m2:=h.xs.io k x k1
    exact m2.keep fun g hg=>hk g (old k x g k1 hg) (fun hgr=>e (h.xs.dis k x r d g k1 hr hg hgr))
  ·obtain ⟨y,k1,_⟩:=cas k x hx
   obtain ⟨m1,m2,m3⟩:=h.xs.base k y g k1 hg
   exact ⟨m1,m2,(hl g (old k y g k1 hg)).trans m3⟩
  ·obtain ⟨y,k1,_⟩:=cas k x hx
   rw [hbx] at hb
   exact h.xs.box k y g k1 hg b q hb he
  ·obtain ⟨y,k1,_⟩:=cas k x hx
   obtain ⟨q1,q2⟩:=ownlt l g hl' hgz
   exact h.xs.own k y g k1 hg l q1 q2
  ·obtain ⟨y,k1,_⟩:=cas k x hx
   obtain ⟨y',k1',_⟩:=cas k' x' hx'
   exact h.xs.dis k y k' y' g k1 k1' hg hg'
  ·rw [hxb] at hb
   obtain ⟨cells,e,k1,k2,k3,k4,k5⟩:=h.xs.xb b t q hb
   have hlt:=(Array.getElem?_eq_some_iff.1 k1).1
   refine ⟨cells,e,(hk _ hlt (fun hg=>(h.xs.xbox b t q hb).2.2 r d hr hg)).trans k1,k2,k3,(hl _ hlt).trans k4,fun k p ho=>?_⟩
   obtain ⟨x,m1,m2⟩:=k5 k p ho
   by_cases e:k=r
   ·subst e
    rw [hr] at m1;injection m1 with m1;subst m1
    exact ⟨d',hior,by rw [hty];exact m2⟩
   ·exact ⟨x,by rw [hio k e];exact m1,m2⟩
  ·rw [hxb] at hb
   obtain ⟨k1,k2,k3⟩:=h.xs.xbox b t q hb
   refine ⟨fun c x hc=>by rw [hbx] at hc;exact k1 c x hc,fun l hl' hg=>?_,fun k x hx hg=>?_⟩
   ·obtain ⟨q1,q2⟩:=ownlt l _ hl' hg
    exact k2 l q1 q2
   ·obtain ⟨y,m1,_⟩:=cas k x hx
    exact k3 k y m1 hg
  ·rw [hxb] at hb hc
   exact h.xs.xinj b c t q t' q' hb hc he
  ·obtain ⟨y,k1,_⟩:=cas 0 x hx
   exact h.xs.fix y k1 hm
  ·by_cases e0:r=0
   ·subst e0
    intro x hx e q e' g m c k he hq hV hn
    rw [hior] at hx;injection hx with hx;subst hx
    rw [hKx rfl e q e' g m c k (hty.symm.trans he) hq hV hn]
    exact h.xs.kx d hr e q e' g m c k (hty.symm.trans he) hq hV hn
   ·exact h.xs.kx.keep (fun x hx=>h.xs.io 0 x hx) (fun x hx _=>⟨x,by rw [hio 0 (fun e=>e0 e.symm)] at hx;exact hx,rfl,rfl⟩) rfl (fun x hx g hg=>hk g (old 0 x g hx hg) (fun hgr=>e0 (h.xs.dis 0 x r d g hx hr hg hgr).symm))
theorem Sim.setrootB (h:Sim w0 lim0 rb n st a w lim β) (hrb : ∀k,some k=rb→k<w0.heap.size) (hd : ∀d,o.dst=some d→d<n) {r:Tmp} {d d':Dat} (hr:st.io r=some d) (hty:d'.1=d.1) (av:AV) (v:Value) (B' C:Nat→Prop) (hC : ∀k,C k→freeB w0 rb st a w lim β k∧¬isTree st β k) (hB' : ∀k,B' k→β.B r k∨C k) (hCl : ∀k,C k→k<w.heap.size) (hr0:r≠0)
 (h1:w'.os=w.os) (h2:w'.tape=w.tape) (h3:w'.output=w.output) (hs:w.heap.size≤w'.heap.size) (hk : ∀k,k<w.heap.size→¬β.B r k→w'.heap[k]?=w.heap[k]?)
 (hl : ∀k,k<w.heap.size→lim' k=lim k)
 (hX:XRep w' d'.1 d'.2 (flatV (β.V r)) B') (hval : ∀d,o.dst=some d→ERep (apply st {upd0 o.dst av none with xw:=some (r,d')}) w' lim' {β with B:=fun k=>if k=r then B' else β.B k} rb av v) :
 Sim w0 lim0 rb n (apply st {upd0 o.dst av none with xw:=some (r,d')}) (a.put o.dst v) w' lim' {β with B:=fun k=>if k=r then B' else β.B k}:=by
 have hio : ∀k,k≠r→(apply st {upd0 o.dst av none with xw:=some (r,d')}).io k=st.io k:=fun k hk'=>by
  have:Nat.beq k r=false:=by
   cases hq:Nat.beq k r with
   | true=>exact absurd (nbeq hq) hk'
   | false=>rfl
  simp [apply,upd0,this]
 have hior:(apply st {upd0 o.dst av none with xw:=some (r,d')}).io r=some d':=by simp [apply,upd0]
 have hxb:(apply st {upd0 o.dst av none with xw:=some (r,d')}).xb=st.xb:=by simp [apply,upd0]
 have hbx:(apply st {upd0 o.dst av none with xw:=some (r,d')}).box=st.box:=by simp [apply,upd0]
 have hB : ∀g,β.B r g→g<w.heap.size:=fun g hg=>(h.xs.io r d hr).lt g hg
 refine h.treew hrb {upd0 o.dst av none with xw:=some (r,d')} v hd rfl rfl rfl rfl rfl h1 h2 h3 hs (fun k=>β.B r k) (fun k hk'=>.inl ⟨r,d,hr,hk'⟩) hk hl rfl hval
  (fun k x hx=>?_) (fun b t o' hb=>⟨⟨o',by rw [hxb];exact hb⟩,rfl⟩) (fun hst=>?_)
 ·by_cases e:k=r
  ·subst e;rw [hr] at hx;injection hx with hx;subst hx;exact ⟨d',hior,hty,rfl⟩
  ·exact ⟨x,by rw [hio k e];exact hx,rfl,rfl⟩
 ·have cas : ∀k x,(apply st {upd0 o.dst av none with xw:=some (r,d')}).io k=some x→∃y,st.io k=some y∧x.1=y.1∧(k=r→x=d')∧(k≠r→x=y):=by
    intro k x hx
    by_cases e:k=r
    ·subst e;rw [hior] at hx;injection hx with hx;subst hx;exact ⟨d,hr,hty,fun _=>rfl,fun h=>absurd rfl h⟩
    ·rw [hio k e] at hx;exact ⟨x,hx,rfl,fun h=>absurd h e,fun _=>rfl⟩
  have old : ∀k x g,st.io k=some x→β.B k g→g<w.heap.size:=fun k x g hx hg=>(h.xs.io k x hx).lt g hg
  have ownlt : ∀l g,(apply st {upd0 o.dst av none with xw:=some (r,d')}).own l=true→HasL (apply st {upd0 o.dst av none with xw:=some (r,d')}) (a.put o.dst v) w' {β with B:=fun k=>if k=r then B' else β.B k} l g→st.own l=true∧HasL st a w β l g:=by
   intro l g hl hz
   have ho:=own_none (u:={upd0 o.dst av none with xw:=some (r,d')}) rfl rfl rfl hl
   replace hz:=(hst l g ho hl).1 hz
   exact ⟨ho,hz⟩
  refine ⟨fun k x hx=>?_,fun k x g hx hg=>?_,fun k x g hx hg b q hb he=>?_,fun k x g hx hg l hl' hgz=>?_,fun k x k' x' g hx hx' hg hg'=>?_,fun b t q hb=>?_,fun b t q hb=>?_,fun b c t q t' q' hb hc he=>?_,fun x hx hm=>?_,?_,h.xs.rbx_keep (apply_rb rfl) (fun b t hb _=>⟨by rw [hxb];exact hb,rfl,hk _ (by obtain ⟨cells,e,k1,_⟩:=h.xs.xb b t none hb;exact (Array.getElem?_eq_some_iff.1 k1).1) (fun hg=>(h.xs.xbox b t none hb).2.2 r d hr hg)⟩) (fun k x hx=>?_)⟩
  rotate_right
  ·by_cases e:k=r
   ·subst e;rw [hr] at hx;injection hx with hx;subst hx;exact ⟨d',hior,.inr ⟨hty,rfl⟩⟩
   ·exact ⟨x,by rw [hio k e];exact hx,.inr ⟨rfl,rfl⟩⟩
  ·obtain ⟨y,k1,k2,k3,k4⟩:=cas k x hx
   by_cases e:k=r
   ·have:=k3 e;subst this;subst e
    simp only [if_true]
    exact hX
   ·have:=k4 e;subst this
    have m2:=h.xs.io k x k1
    simp only [e,if_false]
    exact m2.keep fun g hg=>hk g (old k x g k1 hg) (fun hgr=>e (h.xs.dis k x r d g k1 hr hg hgr))
  ·obtain ⟨y,k1,_⟩:=cas k x hx
   by_cases e:k=r
   ·subst e
    simp only [if_true] at hg
    rcases hB' g hg with hq|hq
    ·obtain ⟨m1,m2,m3⟩:=h.xs.base k y g k1 hq
     exact ⟨m1,m2,(hl g (old k y g k1 hq)).trans m3⟩
    ·exact ⟨(hC g hq).1.base,(hC g hq).1.rb,(hl g (hCl g hq)).trans (hC g hq).1.lim0⟩
   ·simp only [e,if_false] at hg
    obtain ⟨m1,m2,m3⟩:=h.xs.base k y g k1 hg
    exact ⟨m1,m2,(hl g (old k y g k1 hg)).trans m3⟩
  ·obtain ⟨y,k1,_⟩:=cas k x hx
   rw [hbx] at hb
   by_cases e:k=r
   ·subst e
    simp only [if_true] at hg
    rcases hB' g hg with hq|hq
    ·exact h.xs.box k y g k1 hq b q hb he
    ·exact (hC g hq).1.box b q hb he
   ·simp only [e,if_false] at hg
    exact h.xs.box k y g k1 hg b q hb he
  ·obtain ⟨y,k1,_⟩:=cas k x hx
   obtain ⟨q1,q2⟩:=ownlt l g hl' hgz
   by_cases e:k=r
   ·subst e
    simp only [if_true] at hg
    rcases hB' g hg with hq|hq
    ·exact h.xs.own k y g k1 hq l q1 q2
    ·exact (hC g hq).1.own l q1 q2
   ·simp only [e,if_false] at hg
    exact h.xs.own k y g k1 hg l q1 q2
  ·obtain ⟨y,k1,_⟩:=cas k x hx
   obtain ⟨y',k1',_⟩:=cas k' x' hx'
   by_cases e:k=r<;>by_cases e':k'=r
   ·rw [e,e']
   ·subst e
    simp only [if_true] at hg
    simp only [e',if_false] at hg'
    rcases hB' g hg with hq|hq
    ·exact h.xs.dis k y k' y' g k1 k1' hq hg'
    ·exact absurd (.inl ⟨k',y',k1',hg'⟩) (hC g hq).2
   ·subst e'
    simp only [if_true] at hg'
    simp only [e,if_false] at hg
    rcases hB' g hg' with hq|hq
    ·exact h.xs.dis k y k' y' g k1 k1' hg hq
    ·exact absurd (.inl ⟨k,y,k1,hg⟩) (hC g hq).2
   ·simp only [e,if_false] at hg
    simp only [e',if_false] at hg'
    exact h.xs.dis k y k' y' g k1 k1' hg hg'
  ·rw [hxb] at hb
   obtain ⟨cells,e,k1,k2,k3,k4,k5⟩:=h.xs.xb b t q hb
   have hlt:=(Array.getElem?_eq_some_iff.1 k1).1
   refine ⟨cells,e,(hk _ hlt (fun hg=>(h.xs.xbox b t q hb).2.2 r d hr hg)).trans k1,k2,k3,(hl _ hlt).trans k4,fun k p ho=>?_⟩
   obtain ⟨x,m1,m2⟩:=k5 k p ho
   by_cases e:k=r
   ·subst e
    rw [hr] at m1;injection m1 with m1;subst m1
    exact ⟨d',hior,by rw [hty];exact m2⟩
   ·exact ⟨x,by rw [hio k e];exact m1,m2⟩
  ·rw [hxb] at hb
   obtain ⟨k1,k2,k3⟩:=h.xs.xbox b t q hb
   refine ⟨fun c x hc=>by rw [hbx] at hc;exact k1 c x hc,fun l hl' hg=>?_,fun k x hx hg=>?_⟩
   ·obtain ⟨q1,q2⟩:=ownlt l _ hl' hg
    exact k2 l q1 q2
   ·obtain ⟨y,m1,_⟩:=cas k x hx
    by_cases e:k=r
    ·subst e
     simp only [if_true] at hg
     rcases hB' _ hg with hq|hq
     ·exact k3 k y m1 hq
     ·exact (hC _ hq).2 (.inr ⟨b,t,q,hb,rfl⟩)
    ·simp only [e,if_false] at hg
     exact k3 k y m1 hg
  ·rw [hxb] at hb hc
   exact h.xs.xinj b c t q t' q' hb hc he
  ·obtain ⟨y,k1,_⟩:=cas 0 x hx
   have e0:(0:Tmp)≠r:=fun e=>hr0 e.symm
   simp only [e0,if_false]
   exact h.xs.fix y k1 hm
  ·exact h.xs.kx.keep (fun x hx=>h.xs.io 0 x hx) (fun x hx _=>⟨x,by rw [hio 0 (fun e=>hr0 e.symm)] at hx;exact hx,rfl,rfl⟩) rfl (fun x hx g hg=>hk g (old 0 x g hx hg) (fun hgr=>hr0 (h.xs.dis 0 x r d g hx hr hg hgr).symm))
theorem Sim.setxb (h:Sim w0 lim0 rb n st a w lim β) (hrb : ∀k,some k=rb→k<w0.heap.size) (dst:Option Tmp) (hd : ∀d,dst=some d→d<n) {b:Tmp} {ty:Ty} {ro:Option (Tmp×List Nat)} {g:Nat} (av:AV) (v:Value)
 (hnew:st.xb b=none∨(∃o',st.xb b=some (ty,o'))∧β.c b=g) (hfresh:st.xb b=none→w.heap.size≤g)
 (h1:w'.os=w.os) (h2:w'.tape=w.tape) (h3:w'.output=w.output) (hs:w.heap.size≤w'.heap.size) (hk : ∀k,k<w.heap.size→k≠g→w'.heap[k]?=w.heap[k]?)
 (hl : ∀k,k<w.heap.size→lim' k=lim k) {cells:Array Value} {e0:TypeId} (hg:w'.heap[g]?=some (.cells cells e0 (0,0))) (hsz:cells.size=ty.size) (hlg:lim' g=some 0)
 (hrbn:st.rb b=none) (hro : ∀r q,ro=some (r,q)→∃d,st.io r=some d∧(d.1 = .unit∨(typeAt d.1 q=some ty∧cells.toList=((flatV (β.V r)).drop (offs d.1 q)).take ty.size)))
 (hval : ∀d,dst=some d→ERep (apply st {upd0 dst av none with xbw:=some (b,ty,ro)}) w' lim' {β with c:=fun k=>if k=b then g else β.c k} rb av v) :
 Sim w0 lim0 rb n (apply st {upd0 dst av none with xbw:=some (b,ty,ro)}) (a.put dst v) w' lim' {β with c:=fun k=>if k=b then g else β.c k}:=by
 have hio:(apply st {upd0 dst av none with xbw:=some (b,ty,ro)}).io=st.io:=by simp [apply,upd0]
 have hxo : ∀k,k≠b→(apply st {upd0 dst av none with xbw:=some (b,ty,ro)}).xb k=st.xb k:=fun k hk'=>by
  have:Nat.beq k b=false:=by
   cases hq:Nat.beq k b with
   | true=>exact absurd (nbeq hq) hk'
   | false=>rfl
  simp [apply,upd0,this]
 have hxn:(apply st {upd0 dst av none with xbw:=some (b,ty,ro)}).xb b=some (ty,ro):=by simp [apply,upd0]
 have hbx:(apply st {upd0 dst av none with xbw:=some (b,ty,ro)}).box=st.box:=by simp [apply,upd0]
 have hgt:isTree st β g∨w.heap.size≤g:=by
  rcases hnew with hn|⟨⟨o',hn⟩,he⟩
  ·exact .inr (hfresh hn)
  ·exact .inl (.inr ⟨b,ty,o',hn,he.symm⟩)
 have hbase:w0.heap.size≤g:=by
  rcases hnew with hn|⟨⟨o',hn⟩,he⟩
  ·exact Nat.le_trans h.grow.size (hfresh hn)
  ·obtain ⟨_,_,_,_,k3,_⟩:=h.xs.xb b ty o' hn;omega
 have noroot : ∀r d,st.io r=some d→¬β.B r g:=by
  intro r d hr hgr
  rcases hnew with hn|⟨⟨o',hn⟩,he⟩
  ·have:=(h.xs.io r d hr).lt g hgr;have:=hfresh hn;omega
  ·exact (h.xs.xbox b ty o' hn).2.2 r d hr (by rw [he];exact hgr)
 have nobox : ∀c d,st.box c=some d→β c≠g:=by
  intro c d hc he
  rcases hgt with ht|ht
  ·exact h.xs.offb hc (by rw [he];exact ht)
  ·obtain ⟨cs,e,k1,_⟩:=h.box c d hc
   have:=(Array.getElem?_eq_some_iff.1 k1).1
   have he:β c=g:=he
   omega
 have noown : ∀l,st.own l=true→¬HasL st a w β l g:=by
  intro l hl' hgz
  rcases hgt with ht|ht
  ·exact h.xs.off hl' hgz ht
  ·have:=(h.lt hl' hgz).1;omega
 have other : ∀c t o',c≠b→st.xb c=some (t,o')→β.c c≠g:=by
  intro c t o' hcb hc he
  rcases hnew with hn|⟨⟨o2,hn⟩,he2⟩
  ·obtain ⟨cs,e,k1,_⟩:=h.xs.xb c t o' hc
   have:=(Array.getElem?_eq_some_iff.1 k1).1
   have:=hfresh hn
   have:β.c c<w.heap.size:=by assumption
   omega
  ·exact hcb (h.xs.xinj c b t o' ty o2 hc hn (he.trans he2.symm))
 refine h.treew hrb {upd0 dst av none with xbw:=some (b,ty,ro)} v hd rfl rfl rfl rfl rfl h1 h2 h3 hs (fun k=>k=g∧isTree st β g) (fun k hk'=>by rw [hk'.1];exact hk'.2)
  (fun k hk' hn=>hk k hk' (fun e=>by
    rcases hgt with ht|ht
    ·exact hn ⟨e,ht⟩
    ·omega)) hl rfl hval (fun r x hr=>⟨x,by rw [hio];exact hr,rfl,rfl⟩) (fun c t o' hc=>?_) (fun hst=>?_)
 ·by_cases e:c=b
  ·subst e
   rcases hnew with hn|⟨⟨o2,hn⟩,he⟩
   ·rw [hn] at hc;cases hc
   ·rw [hn] at hc;injection hc with hc;injection hc with e1 e2;subst e1
    exact ⟨⟨ro,hxn⟩,by simp [he]⟩
  ·exact ⟨⟨o',by rw [hxo c e];exact hc⟩,by simp [e]⟩
 ·have ownlt : ∀l g',(apply st {upd0 dst av none with xbw:=some (b,ty,ro)}).own l=true→HasL (apply st {upd0 dst av none with xbw:=some (b,ty,ro)}) (a.put dst v) w' {β with c:=fun k=>if k=b then g else β.c k} l g'→st.own l=true∧HasL st a w β l g':=by
    intro l g' hl' hz
    have ho:=own_none (u:={upd0 dst av none with xbw:=some (b,ty,ro)}) rfl rfl rfl hl'
    replace hz:=(hst l g' ho hl').1 hz
    exact ⟨ho,hz⟩
  have old : ∀k x g',st.io k=some x→β.B k g'→g'<w.heap.size:=fun k x g' hx hg'=>(h.xs.io k x hx).lt g' hg'
  refine ⟨fun k x hx=>?_,fun k x g' hx hg'=>?_,fun k x g' hx hg' c q hb he=>?_,fun k x g' hx hg' l hl' hgz=>?_,fun k x k' x' g' hx hx' hg' hg2=>?_,fun c t q hb=>?_,fun c t q hb=>?_,fun c c' t q t' q' hb hc he=>?_,fun x hx hm=>?_,?_,h.xs.rbx_keep (apply_rb rfl) (fun c t hc hne=>?_) (fun r x hr=>⟨x,by rw [hio];exact hr,.inr ⟨rfl,rfl⟩⟩)⟩
  rotate_right
  ·have e:c≠b:=fun e=>hne (by rw [e];exact hrbn)
   refine ⟨by rw [hxo c e];exact hc,by simp [e],?_⟩
   obtain ⟨cs,e1,k1,_⟩:=h.xs.xb c t none hc
   exact hk _ (Array.getElem?_eq_some_iff.1 k1).1 (other c t none e hc)
  ·rw [hio] at hx
   have m2:=h.xs.io k x hx
   exact m2.keep fun g' hg'=>hk g' (old k x g' hx hg') (fun e=>noroot k x hx (by rw [←e];exact hg'))
  ·rw [hio] at hx
   obtain ⟨m1,m2,m3⟩:=h.xs.base k x g' hx hg'
   exact ⟨m1,m2,(hl g' (old k x g' hx hg')).trans m3⟩
  ·rw [hio] at hx;rw [hbx] at hb
   exact h.xs.box k x g' hx hg' c q hb he
  ·rw [hio] at hx
   obtain ⟨q1,q2⟩:=ownlt l g' hl' hgz
   exact h.xs.own k x g' hx hg' l q1 q2
  ·rw [hio] at hx hx'
   exact h.xs.dis k x k' x' g' hx hx' hg' hg2
  ·by_cases e:c=b
   ·subst e
    rw [hxn] at hb;injection hb with hb;injection hb with e1 e2;subst e1;subst e2
    simp only [if_true]
    refine ⟨cells,e0,hg,hsz,hbase,hlg,fun r p hrp=>?_⟩
    obtain ⟨x,m1,m2⟩:=hro r p hrp
    exact ⟨x,by rw [hio];exact m1,m2⟩
   ·rw [hxo c e] at hb
    simp only [e,if_false]
    obtain ⟨cs,e1,k1,k2,k3,k4,k5⟩:=h.xs.xb c t q hb
    have hlt:=(Array.getElem?_eq_some_iff.1 k1).1
    refine ⟨cs,e1,(hk _ hlt (other c t q e hb)).trans k1,k2,k3,(hl _ hlt).trans k4,fun r p hrp=>?_⟩
    obtain ⟨x,m1,m2⟩:=k5 r p hrp
    exact ⟨x,by rw [hio];exact m1,m2⟩
  ·by_cases e:c=b
   ·subst e
    simp only [if_true]
    refine ⟨fun k x hx he=>?_,fun l hl' hgz=>?_,fun k x hx hgk=>?_⟩
    ·rw [hbx] at hx;exact nobox k x hx he
    ·obtain ⟨q1,q2⟩:=ownlt l _ hl' hgz
     exact noown l q1 q2
    ·rw [hio] at hx;exact noroot k x hx hgk
   ·rw [hxo c e] at hb
    simp only [e,if_false]
    obtain ⟨k1,k2,k3⟩:=h.xs.xbox c t q hb
    refine ⟨fun k x hx=>?_,fun l hl' hgz=>?_,fun k x hx=>?_⟩
    ·rw [hbx] at hx;exact k1 k x hx
    ·obtain ⟨q1,q2⟩:=ownlt l _ hl' hgz
     exact k2 l q1 q2
    ·rw [hio] at hx;exact k3 k x hx
  ·by_cases e:c=b<;>by_cases e':c'=b
   ·rw [e,e']
   ·subst e
    rw [hxo c' e'] at hc
    simp only [if_true,e',if_false] at he
    exact absurd he.symm (other c' t' q' e' hc)
   ·subst e'
    rw [hxo c e] at hb
    simp only [if_true,e,if_false] at he
    exact absurd he (other c t q e hb)
   ·rw [hxo c e] at hb
    rw [hxo c' e'] at hc
    simp only [e,e',if_false] at he
    exact h.xs.xinj c c' t q t' q' hb hc he
  ·rw [hio] at hx
   exact h.xs.fix x hx hm
  ·exact h.xs.kx.keep (fun x hx=>h.xs.io 0 x hx) (fun x hx _=>⟨x,by rw [hio] at hx;exact hx,rfl,rfl⟩) rfl (fun x hx g' hg'=>hk g' (old 0 x g' hx hg') (fun e=>noroot 0 x hx (by rw [←e];exact hg')))
end
end Go.Den
namespace Go.Den
def ArgsRep (w:World) (lim:Lim) (rb:Option Nat):(t:Ty)→t.val→List Value→Prop
 | .unit,_,[]=>True
 | .prod a b,x,v::vs=>((a≠.unit∧TRep w lim a x.1 v)∨(a = .unit∧∃g,rb=some g∧v = .pointer (some ⟨g,0,none⟩)))∧ArgsRep w lim rb b x.2 vs
 | _,_,_=>False
def RetOk (w:World) (lim:Lim) (rb:Option Nat) (s:Sig) (r:s.rty.val×s.rdty.val) (e:Ending) (w':World):Prop:=
 ∃v lim',e = .returned v∧w.grownBy w' rb∧(∀b,b<w.heap.size→lim' b=lim b)∧ERep st00 w' lim' mp0 none (resAV s.rty s.one r.1) v ∧
  (∀p∈resOwn s.one s.own,∃T x,typeAV p (resAV s.rty s.one r.1)=some T∧partAV v p (resAV s.rty s.one r.1)=some x∧OwnT w' lim' (fun g=>w.heap.size≤g) T x) ∧
  (∀p∈resOwn s.one s.own,∀q∈resOwn s.one s.own,∀T T' x y g,typeAV p (resAV s.rty s.one r.1)=some T→typeAV q (resAV s.rty s.one r.1)=some T'→partAV v p (resAV s.rty s.one r.1)=some x→partAV v q (resAV s.rty s.one r.1)=some y→Blk w' T x g→Blk w' T' y g→p=q) ∧
  (s.usesRd=true→∃b cells e,rb=some b∧w'.heap[b]?=some (.cells cells e (0,0))∧CRep w' lim' s.rdty r.2 cells.toList∧∀p e',typeAt s.rdty p=some (.slice e')→w'.cell? ⟨b,offs s.rdty p,none⟩=w.cell? ⟨b,offs s.rdty p,none⟩)
def RdIn (w:World) (lim:Lim) (rb:Option Nat) (s:Sig) (rd:s.rdty.val):Prop:=
 (s.usesRd=true→∃b cells e,rb=some b∧w.heap[b]?=some (.cells cells e (0,0))∧CRep w lim s.rdty rd cells.toList∧lim b=some 0)∧(s.usesRd=false→rb=none)
def OpenOk (w:World) (lim:Lim) (t:Ty) (x:t.val) (e:Ending) (w':World):Prop:=
 ∃b lim' cells e0,e = .returned (.pointer (some ⟨b,0,none⟩))∧w.grownBy w' none∧(∀k,k<w.heap.size→lim' k=lim k)∧w.heap.size≤b ∧
  w'.heap[b]?=some (.cells cells e0 (0,0))∧CRep w' lim' t x cells.toList∧lim' b=some 0
def ArgsMut (w:World) (lim:Lim):(t:Ty)→t.val→(rdty:Ty)→rdty.val→(Nat→Prop)→List Value→Prop
 | .prod .unit b,x,rdty,rd,B,v::vs=>(∃cs,v=wrapV rdty cs∧XRep w rdty rd cs B)∧ArgsRep w lim none b x.2 vs
 | _,_,_,_,_,_=>False
def MutOk (w:World) (s:Sig) (r:s.rty.val×s.rdty.val) (B:Nat→Prop) (vals:List Value) (e:Ending) (w':World):Prop:=
 ∃v,e = .returned v∧w'.os=w.os∧w'.tape=w.tape∧w'.output=w.output∧w.heap.size≤w'.heap.size∧(∀k,k<w.heap.size→¬B k→w'.heap[k]?=w.heap[k]?) ∧
  ERep st00 w' (fun _=>none) mp0 none (resAV s.rty s.one r.1) v∧∃cs,vals.head?=some (wrapV s.rdty cs)∧XRep w' s.rdty r.2 cs B
def ArgsCons (w:World) (lim:Lim):(t:Ty)→t.val→(Nat→Prop)→List Value→Prop
 | .prod a b,x,B,v::vs=>(∃cs,v=wrapV a cs∧XRep w a x.1 cs B)∧ArgsRep w lim none b x.2 vs
 | _,_,_,_=>False
def baseX (w:World) (B:Nat→Prop):Base:={w with X:=B,mu:=false,V0:=undef}
def ConsOk (w:World) (lim:Lim) (s:Sig) (r:s.rty.val×s.rdty.val) (B:Nat→Prop) (e:Ending) (w':World):Prop:=
 ∃v lim',e = .returned v∧(baseX w B).grownBy w' none∧(∀b,b<w.heap.size→¬B b→lim' b=lim b)∧ERep st00 w' lim' mp0 none (resAV s.rty s.one r.1) v ∧
  (∀p∈resOwn s.one s.own,∃T x,typeAV p (resAV s.rty s.one r.1)=some T∧partAV v p (resAV s.rty s.one r.1)=some x∧OwnT w' lim' (baseX w B).fr T x) ∧
  (∀p∈resOwn s.one s.own,∀q∈resOwn s.one s.own,∀T T' x y g,typeAV p (resAV s.rty s.one r.1)=some T→typeAV q (resAV s.rty s.one r.1)=some T'→partAV v p (resAV s.rty s.one r.1)=some x→partAV v q (resAV s.rty s.one r.1)=some y→Blk w' T x g→Blk w' T' y g→p=q)
structure FnOk (P:Program) (f:FuncId) (s:Sig):Prop where
 enters : ∀args (w:World),(callFunc f args).run P w = .ok (.enter f args) w
 calls:s.fv=none→s.opens=false→s.muts=false→∀(x:s.aty.val) (rd:s.rdty.val) r,s.fn x rd=some r→∀(w:World) (lim:Lim) (rb:Option Nat) (vals:List Value),ArgsRep w lim rb s.aty x vals→RdIn w lim rb s rd →
  Calls P f vals.toArray w (RetOk w lim rb s r)
 callsF : ∀g,s.fv=some g→s.opens=false→s.muts=false→s.usesRd=false→∀(x:s.aty.val) (rd:s.rdty.val) r,s.fn x rd=some r→∀(w:World) (lim:Lim) (vals:List Value),ArgsRep w lim none s.aty x vals →
  Calls P f (vals++[Value.func (.func g) #[] #[]]).toArray w (RetOk w lim none s r)
 opened:s.fv=none→s.opens=true→∀(x:s.aty.val) (rd:s.rdty.val) r,s.fn x rd=some r→∀(w:World) (lim:Lim) (vals:List Value),ArgsRep w lim none s.aty x vals →
  Calls P f vals.toArray w (OpenOk w lim s.rty r.1)
 consd:s.fv=none→s.opens=false→s.muts=true→s.usesRd=false→∀(x:s.aty.val) (rd:s.rdty.val) r,s.fn x rd=some r→∀(w:World) (lim:Lim) (vals:List Value) (B:Nat→Prop),ArgsCons w lim s.aty x B vals→(∀g,B g→lim g=some 0) →
  Calls P f vals.toArray w (ConsOk w lim s r B)
 mutd:s.fv=none→s.muts=true→s.usesRd=true→∀(x:s.aty.val) (rd:s.rdty.val) r,s.fn x rd=some r→∀(w:World) (lim:Lim) (vals:List Value) (B:Nat→Prop),ArgsMut w lim s.aty x s.rdty rd B vals→(∀g,B g→lim g=some 0) →
  Calls P f vals.toArray w (MutOk w s r B vals)
def GamOk (P:Program) (G:Gam):Prop:=∀f s,G f=some s→FnOk P f s
theorem resAV_cases (t:Ty) (one:Bool) (x:t.val):(∃u y,resAV t one x = .dat u y)∨resAV t one x = .tup t x:=by
 unfold resAV
 split
 ·exact .inl ⟨_,_,rfl⟩
 ·exact .inr rfl
theorem ERep_res {st:St} {w:World} {lim:Lim} {β:Mp} {rb:Option Nat} {t:Ty} {one:Bool} {x:t.val} {v:Value} (h:ERep st00 w lim mp0 none (resAV t one x) v):ERep st w lim β rb (resAV t one x) v:=by
 rcases resAV_cases t one x with ⟨u,y,he⟩|he<;>rw [he] at h ⊢ <;> exact h
section
variable {P:Program} {tab:Tab} {G:Gam} {w0:Base} {lim0:Lim} {rb:Option Nat} {n:Nat}
variable {st st':St} {a:Act} {w w':World} {lim lim':Lim} {β:Mp} {o:Oper} {c:Comp}
def rvBlock (rb:Option Nat) (β:Mp):Option AV→Option Nat
 | some (.rdr _)=>rb
 | some (.cel b _)=>some (β b)
 | _=>none
theorem asArg_rep {rv:Option AV} {t:Ty} {av:AV} {x:t.val} (hx:asArg rv t av=some x) {v:Value} (hv:ERep st w lim β rb av v):(t≠.unit∧TRep w lim t x v)∨(t = .unit∧∃g,rvBlock rb β rv=some g∧v = .pointer (some ⟨g,0,none⟩)):=by
 unfold asArg at hx
 split at hx
 ·obtain ⟨d,b,h1,h2,h3⟩:=hv
  split at hx
  ·exact .inr ⟨rfl,b,h2,by simpa [offs] using h3⟩
  ·cases hx
 ·obtain ⟨d,h1,h2⟩:=hv
  split at hx
  ·rename_i b _ c
   cases hq:Nat.beq b c with
   | false=>rw [hq] at hx;cases hx
   | true=>
     have:=nbeq hq;subst this
     exact .inr ⟨rfl,β b,rfl,by simpa [offs] using h2⟩
  ·cases hx
 ·cases hx
 ·rename_i h0 h1 h2
  exact .inl ⟨fun e=>by first|exact h0 e|exact h1 e|exact h2 e,as_rep hx hv⟩
theorem zji {rv:Option AV} : ∀ {t:Ty} {avs:List AV} {x:t.val} {vals:List Value},packArgs rv t avs=some x→avs.length=vals.length→(∀(i:Nat) av v,avs[i]?=some av→vals[i]?=some v→ERep st w lim β rb av v) →
 ArgsRep w lim (rvBlock rb β rv) t x vals:=by
 intro t
 induction t with
 | prod p q ihp ihq=>
   intro avs x vals hx hl hr
   cases avs with
   | nil=>cases hx
   | cons av avs=>
     cases vals with
     | nil=>simp at hl
     | cons v vals=>
       simp only [packArgs] at hx
       cases h1:asArg rv p av with
       | none=>rw [h1] at hx;cases hx
       | some y=>
         cases h2:packArgs rv q avs with
         | none=>rw [h1,h2] at hx;cases hx
         | some z=>
           rw [h1,h2] at hx;injection hx with hx;subst hx
           exact ⟨asArg_rep h1 (hr 0 av v rfl rfl),ihq h2 (by simpa using hl) (fun i av' v' hi hj=>hr (i+1) av' v' (by simpa using hi) (by simpa using hj))⟩
 | unit=>
   intro avs x vals hx hl hr
   cases avs with
   | nil=>cases vals with
     | nil=>trivial
     | cons v vs=>simp at hl
   | cons av avs=>cases hx
 | int k=>intro avs x vals hx;cases avs<;>cases hx
 | bool=>intro avs x vals hx;cases avs<;>cases hx
 | str=>intro avs x vals hx;cases avs<;>cases hx
 | slice t=>intro avs x vals hx;cases avs<;>cases hx
theorem St.ext' {x y:St} (h1:x.env=y.env) (h2:x.box=y.box) (h3:x.own=y.own) (h4:x.rd=y.rd) (h5:x.kn=y.kn) (h6:x.io=y.io) (h7:x.xb=y.xb) (h8:x.mkt=y.mkt) (h9:x.rb=y.rb:=by rfl):x=y:=by
 cases x;cases y;simp only at h1 h2 h3 h4 h5 h6 h7 h8 h9
 subst h1;subst h2;subst h3;subst h4;subst h5;subst h6;subst h7;subst h8;subst h9;rfl
theorem apply_own {u:Upd} {d:Tmp} (hd:u.dst=some d) (ps:List (List Nat)) (st:St):apply st {u with own:=ps} = {apply st {u with own:=[]} with own:=fun l=>match l with
 | .tmp t p=>cnd (Nat.beq t d) (inPaths p ps) ((apply st {u with own:=[]}).own (.tmp t p))
 | .box b p=>(apply st {u with own:=[]}).own (.box b p)}:=by
 refine St.ext' rfl rfl ?_ rfl rfl rfl rfl rfl
 funext l
 cases l with
 | tmp t p=>
   simp only [apply,hd]
   have e:isT t (some d)=Nat.beq t d:=rfl
   rw [e]
   cases Nat.beq t d<;>rfl
 | box b p=>rfl
theorem gain_call (h:Sim w0 lim0 rb n st a w lim β) (hd : ∀d,o.dst=some d→d<n) {u:Upd} {v:Value} {ps:List (List Nat)} (hu:u.dst=o.dst) (hent:u.ent.tag=none) {b:Tmp} {dd d2:Dat} (hb:u.bw=some (b,dd,[],[])) (hbx:st.box b=some d2) (hio:(apply st {u with own:=[]}).io=st.io) (hxb:(apply st {u with own:=[]}).xb=st.xb)
 (hw : ∀k,k<w.heap.size→k≠β b→w'.heap[k]?=w.heap[k]?) (hext:Ext w lim w' lim')
 (hS:Sim w0 lim0 rb n (apply st {u with own:=[]}) (a.put o.dst v) w' lim' β)
 (g4 : ∀p∈ps,∃T x,typeAV p u.ent.av=some T∧partAV v p u.ent.av=some x∧OwnT w' lim' (fun g=>w.heap.size≤g) T x)
 (g5 : ∀p∈ps,∀q∈ps,∀T T' x y g,typeAV p u.ent.av=some T→typeAV q u.ent.av=some T'→partAV v p u.ent.av=some x→partAV v q u.ent.av=some y→Blk w' T x g→Blk w' T' y g→p=q) :
 Sim w0 lim0 rb n (apply st {u with own:=ps}) (a.put o.dst v) w' lim' β:=by
 cases hod:o.dst with
 | none=>
   have hu0:u.dst=none:=hu.trans hod
   have e:apply st {u with own:=ps} = apply st {u with own:=[]}:=by
    refine St.ext' rfl rfl ?_ rfl rfl rfl rfl rfl
    funext l
    cases l with
    | tmp t p=>simp only [apply,hu0,isT,cnd_false]
    | box b p=>rfl
   rw [e,←hod];exact hS
 | some d=>
   have hud:u.dst=some d:=hu.trans hod
   rw [apply_own hud]
   have hS':=hS
   rw [hod] at hS'
   have look : ∀p,locTy (apply st {u with own:=[]}) (.tmp d p)=typeAV p u.ent.av∧locV (apply st {u with own:=[]}) (a.put (some d) v) w' β (.tmp d p)=partAV v p u.ent.av:=by
    intro p
    have e:=zfs (st:=st) (u:={u with own:=[]}) hud
    refine ⟨by rw [zbb,e],?_⟩
    rw [zda,e,zjh (by rw [h.size];exact hd d hod)]
   have boxlt : ∀c d',(apply st {u with own:=[]}).box c=some d'→β c<w.heap.size:=by
    intro c d' hc
    by_cases hcb:c=b
    ·subst hcb
     obtain ⟨_,_,k1,_⟩:=h.box c d2 hbx
     exact (Array.getElem?_eq_some_iff.1 k1).1
    ·have hq:Nat.beq c b=false:=by
       cases hq:Nat.beq c b with
       | true=>exact absurd (nbeq hq) hcb
       | false=>rfl
     have hc0:st.box c=some d':=by simpa [apply,hb,hq] using hc
     obtain ⟨_,_,k1,_⟩:=h.box c d' hc0
     exact (Array.getElem?_eq_some_iff.1 k1).1
   have ownlt : ∀m g,(apply st {u with own:=[]}).own m=true→HasL (apply st {u with own:=[]}) (a.put (some d) v) w' β m g→g<w.heap.size:=by
    intro m g hm hg
    rcases zeh hm with hn|hs
    ·exfalso
     cases m with
     | tmp t p=>cases hn.2
     | box c p=>
       obtain ⟨d',o',q',he,hp⟩:=hn
       have he:u.bw=some (c,d',o',q'):=he
       rw [hb] at he;injection he with he;injection he with _ he;injection he with _ he;injection he with he _;rw [←he] at hp;cases hp
    ·have same:locTy (apply st {u with own:=[]}) m=locTy st m∧locV (apply st {u with own:=[]}) (a.put (some d) v) w' β m=locV st a w β m:=by
       cases m with
       | tmp t p=>
         have hne:u.dst≠some t:=hs.2.2
         have hav:((apply st {u with own:=[]}).env t).av=(st.env t).av:=by simp [apply,isT_ne.2 hne]
         have hne':some d≠some t:=by rw [←hud];exact hne
         exact ⟨by simp only [locTy,hav],by simp only [locV,hav,zli hne']⟩
       | box c p=>
         have hcb:c≠b:=fun e=>by
          subst e
          have:=hs.2.2 dd [] [] hb
          cases p<;>cases this
         have hq:Nat.beq c b=false:=by
          cases hq:Nat.beq c b with
          | true=>exact absurd (nbeq hq) hcb
          | false=>rfl
         have hbc:(apply st {u with own:=[]}).box c=st.box c:=by simp [apply,hb,hq]
         refine ⟨by simp only [locTy,hbc],?_⟩
         simp only [locV,hbc]
         cases hc:st.box c with
         | none=>rfl
         | some x=>
           obtain ⟨_,_,k1,_⟩:=h.box c x hc
           have hlt:=(Array.getElem?_eq_some_iff.1 k1).1
           exact (World.cell?_of_block (hw _ hlt (fun e=>hcb (h.inj c b x d2 hc hbx e))))
     obtain ⟨T,y,k1,k2,k3⟩:=hg
     rw [same.1] at k1;rw [same.2] at k2
     obtain ⟨e',hT,xs,hc⟩:=h.vis k1 k2 k3.oty
     exact (h.lt hs.1 ⟨T,y,k1,k2,(Blk_ext hext hT hc).1 k3⟩).1
   have hasd : ∀p g,p∈ps→HasL (apply st {u with own:=[]}) (a.put (some d) v) w' β (.tmp d p) g→∃T x,typeAV p u.ent.av=some T∧partAV v p u.ent.av=some x∧Blk w' T x g∧w.heap.size≤g:=by
    intro p g hp hg
    obtain ⟨T,x,k1,k2,k3⟩:=g4 p hp
    obtain ⟨T',x',m1,m2,m3⟩:=hg
    rw [(look p).1,k1] at m1;injection m1 with m1;subst m1
    rw [(look p).2,k2] at m2;injection m2 with m2;subst m2
    exact ⟨T,x,k1,k2,m3,(k3.lt m3).2⟩
   refine hS'.gain d ps (fun p hp=>?_) (fun p hp g hg=>?_) (fun p hp q hq g hx hy=>?_) (fun t p ht=>?_) (fun p=>?_)
   ·obtain ⟨T,x,k1,k2,k3⟩:=g4 p hp
    exact ⟨T,x,(look p).1.trans k1,(look p).2.trans k2,k3.below (fun g hg=>.inl (Nat.le_trans h.grow.size hg))⟩
   ·obtain ⟨_,_,_,_,_,k5⟩:=hasd p g hp hg
    refine ⟨fun c d' hc he=>?_,fun m hm hgy=>?_,fun ht=>?_⟩
    ·have:=boxlt c d' hc;omega
    ·have:=ownlt m g hm hgy;omega
    ·have ht':isTree st β g:=by
       rcases ht with ⟨r,x,m1,m2⟩|⟨c,ty,oo,m1,m2⟩
       ·exact .inl ⟨r,x,by rw [hio] at m1;exact m1,m2⟩
       ·exact .inr ⟨c,ty,oo,by rw [hxb] at m1;exact m1,m2⟩
     have:=(h.xs.lt ht').1;omega
   ·obtain ⟨T,x,a1,a2,a3,_⟩:=hasd p g hp hx
    obtain ⟨T',y,b1,b2,b3,_⟩:=hasd q g hq hy
    exact g5 p hp q hq T T' x y g a1 b1 a2 b2 a3 b3
   ·cases hdt:isT t u.dst with
    | true=>
      have:(apply st {u with own:=[]}).env t=u.ent:=by simp [apply,hdt]
      rw [this,hent] at ht;cases ht
    | false=>
      have:((apply st {u with own:=[]}).env t).tag=keepTag {u with own:=[]} (st.env t).tag:=by simp [apply,hdt]
      rw [this] at ht
      cases hq:(st.env t).tag with
      | none=>rw [hq] at ht;cases ht
      | some km=>
        obtain ⟨k,m⟩:=km
        rw [hq] at ht
        cases m with
        | tmp t' p'=>
          simp only [keepTag] at ht
          injection ht with ht;injection ht with h1 h2;injection h2 with h2 h3
          subst h2
          have:isT t' u.dst=true:=isT_some.2 hud
          rw [this] at h1;cases h1
        | box c p'=>
          simp only [keepTag] at ht
          injection ht with ht;injection ht with h1 h2;cases h2
   ·have:isT d u.dst=true:=isT_some.2 hud
    simp [apply,this,inPaths]
theorem call_back (h:Sim w0 lim0 rb n st a w lim β) (hrb : ∀k,some k=rb→k<w0.heap.size) (hd : ∀d,o.dst=some d→d<n) {f:FuncId} {s:Sig} {vals:Array Value} (exec:(execOp a.eval o).run P w = .ok (.enter f vals) w)
 (rd:s.rdty.val) (r:s.rty.val×s.rdty.val) (u:Upd) (hC:Calls P f vals w (RetOk w lim (if s.usesRd then rb else none) s r)) (hrdin:RdIn w lim (if s.usesRd then rb else none) s rd)
 (hu1:u.dst=o.dst) (hu2:u.ent=⟨resAV s.rty s.one r.1,none⟩) (hu3:u.own=resOwn s.one s.own) (hu4:u.takes=[]) (hu5:u.bw=none) (hx1:u.xw=none) (hx2:u.xbw=none)
 (hu6:(u.rd=none∧s.usesRd=false)∨(s.usesRd=true∧∃d0,u.rd=some ⟨s.rdty,r.2⟩∧st.rd=some d0∧d0.1=s.rdty)) (hx3:u.xk=none:=by rfl) (hx4:u.rw=none:=by rfl):OpOk P w0 lim0 rb n o (apply st u) a w:=by
 intro K Q hK
 unfold Oper.wp
 rw [exec]
 refine Calls.mono hC ?_
 intro e w' hret
 obtain ⟨v,lim',rfl,g1,g2,g3,g4,g5,g6⟩:=hret
 have hrbsub : ∀k,some k≠rb→some k≠(if s.usesRd then rb else none):=by
  intro k hk;cases s.usesRd<;>simp [hk]
 have hext:Ext w lim w' lim':=by
  refine ⟨g1.size,fun b oo z hb hu hz=>?_,fun b m hb hu=>by unfold under;rw [g2 b hb];exact hu⟩
  by_cases hq:some b=(if s.usesRd then rb else none)
  ·exfalso
   cases hus:s.usesRd with
   | false=>rw [hus] at hq;cases hq
   | true=>
     obtain ⟨b',cells,e',k1,_,_,k2⟩:=hrdin.1 hus
     rw [←hq] at k1;injection k1 with k1;subst k1
     have:=hu 0 k2;omega
  ·exact (World.cell?_of_block (g1.block b hb hq)).trans hz
 show K (a.put o.dst v) w'
 rw [←hu1]
 refine hK _ _ lim' β (h.grown u v w' lim' (by rw [hu1];exact hd) hu5 hext (zkb h.grow g1.os g1.tape g1.output g1.size (fun k hk hne=>g1.block k (Nat.lt_of_lt_of_le hk h.grow.size) (hrbsub k hne)))
  (fun k hk hne _=>⟨g1.block k hk (hrbsub k hne),g2 k hk⟩) (fun k hk=>⟨hrb k hk,g2 k (Nat.lt_of_lt_of_le (hrb k hk) h.grow.size)⟩) (by rw [hu2];exact ERep_res g3) (fun p hp=>?_) (fun p hp q hq=>?_) (by rw [hu2]) ?_ hx1 hx3 hx2 hx4)
 ·rw [hu3] at hp
  obtain ⟨e,y,m1,m2,m3⟩:=g4 p hp
  exact ⟨e,y,by rw [hu2];exact m1,by rw [hu2];exact m2,m3.below (fun g hg=>.inl (Nat.le_trans h.grow.size hg)),fun g hg=>.inl (m3.lt hg).2⟩
 ·rw [hu3] at hp hq
  rw [hu2]
  exact g5 p hp q hq
 ·rcases hu6 with ⟨q1,q2⟩|⟨q1,d0,q2,q3,q4⟩
  ·refine .inl ⟨q1,fun b hb=>?_⟩
   exact g1.block b (Nat.lt_of_lt_of_le (hrb b hb.symm) h.grow.size) (by rw [q2];simp)
  ·obtain ⟨b,cells,e',k1,k2,k3,k7⟩:=g6 q1
   rw [q1] at k1
   have k1:rb=some b:=by simpa using k1
   obtain ⟨b',cs',e2,k4,k5,_,_,k6⟩:=h.rd d0 q3
   rw [k1] at k4;injection k4 with k4;subst k4
   refine .inr ⟨⟨s.rdty,r.2⟩,d0,q2,q3,q4.symm,b,cells,e',k1,k5,k2,k3,?_,k7⟩
   rw [g2 b (Nat.lt_of_lt_of_le k5 h.grow.size)];exact k6
theorem ok_call (hG:GamOk P G) (h:Sim w0 lim0 rb n st a w lim β) (hrb : ∀k,some k=rb→k<w0.heap.size) (hd : ∀d,o.dst=some d→d<n) {f:FuncId} {cl:Call} {cv:Operand} (hop:o.op = .call cl) (hcal:cl.callee = .value cv) (hcv:a.eval cv = .func (.func f) #[] #[])
 (hc:stCall G o f cl.args.toList st=some c) (ho:c.out st=some st'):OpOk P w0 lim0 rb n o st' a w:=by
 unfold stCall at hc
 cases hg:G f with
 | none=>rw [hg] at hc;cases hc
 | some s=>
   rw [hg] at hc;simp only [] at hc
   have hf:=hG f s hg
   cases hmu:s.muts with
   | true=>rw [hmu] at hc;cases hc
   | false=>
   rw [hmu] at hc;simp only [cnd_false] at hc
   cases hfv:s.fv with
   | some g=>rw [hfv] at hc;cases hc
   | none=>
   rw [hfv] at hc;simp only [isF,cnd_false] at hc
   have hvals:(cl.args.map a.eval)=(cl.args.toList.map a.eval).toArray:=by apply Array.ext';rw [Array.toList_map]
   have exec:(execOp a.eval o).run P w = .ok (.enter f (cl.args.toList.map a.eval).toArray) w:=by
    have e1 : ∀args,(Deferred.ofValue (.func (.func f) #[] #[]) args)=(pure {target:=.fn (.func f) #[],args:=args} : Sem Deferred):=by
     intro args;simp [Deferred.ofValue]
    simp only [execOp,hop,resolve,hcal,hcv,hvals,e1,Sem.run_bind,Sem.run_pure,Result.andThen_ok,invoke]
    simpa using hf.enters _ w
   have hargs : ∀rv x,packArgs rv s.aty (cl.args.toList.map fun x=>(st.ent x).av)=some x→ArgsRep w lim (rvBlock rb β rv) s.aty x (cl.args.toList.map a.eval):=by
    intro rv x hx
    refine zji (st:=st) (β:=β) hx (by simp) (fun i av v hi hv=>?_)
    simp only [List.getElem?_map] at hi hv
    cases hq:cl.args.toList[i]? with
    | none=>rw [hq] at hi;cases hi
    | some y=>
      rw [hq] at hi hv
      injection hi with hi;injection hv with hv
      subst hi;subst hv
      exact h.ent y
   -- what is known behind the call
   have back:s.opens=false→∀(x:s.aty.val) (rd:s.rdty.val) (r:s.rty.val×s.rdty.val) (u:Upd),s.fn x rd=some r→ArgsRep w lim (if s.usesRd then rb else none) s.aty x (cl.args.toList.map a.eval)→RdIn w lim (if s.usesRd then rb else none) s rd →
    u.dst=o.dst→u.ent=⟨resAV s.rty s.one r.1,none⟩→u.own=resOwn s.one s.own→u.takes=[]→u.bw=none→u.xw=none→u.xbw=none→u.xk=none→u.rw=none →
    ((u.rd=none∧s.usesRd=false)∨(s.usesRd=true∧∃d0,u.rd=some ⟨s.rdty,r.2⟩∧st.rd=some d0∧d0.1=s.rdty))→OpOk P w0 lim0 rb n o (apply st u) a w:=by
    intro hopn x rd r u hfn hpk hrdin hu1 hu2 hu3 hu4 hu5 hx1 hx2 hx3 hx4 hu6
    exact call_back h hrb hd exec rd r u (hf.calls hfv hopn hmu x rd r hfn w lim _ _ hpk hrdin) hrdin hu1 hu2 hu3 hu4 hu5 hx1 hx2 hu6 hx3 hx4
   split at hc
   ·rename_i hus hopn
    split at hc
    · -- the function's own reader is handed on
     split at hc
     ·rename_i x d hpk hrd
      cases hcast:Ty.cast d.1 s.rdty d.2 with
      | none=>rw [hcast] at hc;cases hc
      | some rd=>
        rw [hcast] at hc
        injection hc with hc;subst hc
        simp only [Comp.out] at ho
        cases hfn:s.fn x rd with
        | none=>rw [hfn] at ho;cases ho
        | some r=>
          rw [hfn] at ho;injection ho with ho;subst ho
          obtain ⟨hty,hrdv⟩:=zbm hcast
          obtain ⟨b,cells,e,k1,k2,k3,k4,k5⟩:=h.rd d hrd
          have ha:=hargs _ x hpk
          refine back hopn x rd r _ hfn (by rw [hus];exact ha) ⟨fun _=>⟨b,cells,e,by rw [hus];exact k1,k3,?_,k5⟩,fun hf'=>(by rw [hus] at hf';cases hf')⟩ rfl rfl rfl rfl rfl rfl rfl rfl rfl (.inr ⟨hus,d,rfl,hrd,hty⟩)
          obtain ⟨dt,dv⟩:=d
          simp only at hty hrdv k4
          subst hty;subst hrdv;exact k4
     ·cases hc
    · -- a reader that this function opened
     rename_i b hro
     split at hc
     ·rename_i x d hpk hbx
      cases hcast:Ty.cast d.1 s.rdty d.2 with
      | none=>rw [hcast] at hc;cases hc
      | some rd=>
        rw [hcast] at hc
        injection hc with hc;subst hc
        simp only [Comp.out] at ho
        cases hfn:s.fn x rd with
        | none=>rw [hfn] at ho;cases ho
        | some r=>
          rw [hfn] at ho;injection ho with ho;subst ho
          obtain ⟨hty,hrdv⟩:=zbm hcast
          obtain ⟨dt,dv⟩:=d
          simp only at hty hrdv
          subst hty;subst hrdv
          obtain ⟨cells,e,k1,k2,k3,k4⟩:=h.box b _ hbx
          have ha:=hargs _ x hpk
          have hbl:β b<w.heap.size:=(Array.getElem?_eq_some_iff.1 k1).1
          intro K Q hK
          unfold Oper.wp
          rw [exec]
          refine Calls.mono (hf.calls hfv hopn hmu x _ r hfn w lim (some (β b)) _ ha ⟨fun _=>⟨β b,cells,e,rfl,k1,k2,k4⟩,fun hf'=>(by rw [hus] at hf';cases hf')⟩) ?_
          intro e' w' hret
          obtain ⟨v,lim',rfl,g1,g2,g3,g4,g5,g6⟩:=hret
          obtain ⟨b',cells',e2,m1,m2,m3⟩:=g6 hus
          injection m1 with m1;subst m1
          have hext:Ext w lim w' lim':=by
           refine ⟨g1.size,fun c oo z hb hu hz=>?_,fun c m hb hu=>by unfold under;rw [g2 c hb];exact hu⟩
           by_cases hq:c=β b
           ·exfalso
            subst hq
            have:=hu 0 k4;omega
           ·exact (World.cell?_of_block (g1.block c hb (fun e=>hq (by injection e)))).trans hz
          have hgrow:w0.grownBy w' rb:=zkb h.grow g1.os g1.tape g1.output g1.size (fun k hk _=>g1.block k (Nat.lt_of_lt_of_le hk h.grow.size) (fun e=>by injection e with e;subst e;exact absurd k3 (Nat.not_le_of_lt hk)))
          show K (a.put o.dst v) w'
          have hS:=(h.boxw {upd0 o.dst (resAV s.rty s.one r.1) none with bw:=some (b,⟨s.rdty,r.2⟩,[],[])} v w' lim' β b ⟨s.rdty,r.2⟩ [] [] hd rfl rfl rfl rfl hext hgrow
           (fun k hk hne=>⟨g1.block k hk (fun e=>by injection e with e;exact hne _ hbx e),g2 k hk⟩) (fun _ _ _=>rfl) (fun hn=>by rw [hbx] at hn;cases hn) hrb cells' e2 m2 m3.1 (by rw [g2 _ hbl];exact k4)
           (fun d0 hd0=>by rw [hbx] at hd0;injection hd0 with hd0;subst hd0;exact ⟨rfl,fun p e' _ _ hp=>by cases p<;>cases hp⟩) (fun _ _=>ERep_res g3) (fun p=>.tmp 0 p) (fun p hp=>by cases hp) (fun p hp=>by cases hp))
          refine hK _ _ lim' β (gain_call h hd (u:={upd0 o.dst (resAV s.rty s.one r.1) none with bw:=some (b,⟨s.rdty,r.2⟩,[],[])}) (ps:=resOwn s.one s.own) rfl rfl rfl hbx rfl rfl (fun k hk hne=>g1.block k hk (fun e=>hne (by injection e))) hext hS g4 g5)
     ·cases hc
    ·cases hc
   ·rename_i hus hopn
    split at hc
    ·rename_i x rd hpk hcast
     injection hc with hc;subst hc
     simp only [Comp.out] at ho
     cases hfn:s.fn x rd with
     | none=>rw [hfn] at ho;cases ho
     | some r=>
       rw [hfn] at ho;injection ho with ho;subst ho
       have ha:=hargs _ x hpk
       exact back hopn x rd r _ hfn (by rw [hus];exact ha) ⟨fun hf'=>(by rw [hus] at hf';cases hf'),fun _=>(by rw [hus];rfl)⟩ rfl rfl rfl rfl rfl rfl rfl rfl rfl (.inl ⟨rfl,hus⟩)
    ·cases hc
   ·rename_i hus hopn
    split at hc
    ·rename_i x rd d hpk hcast hdst
     split at hc
     ·rename_i hbx
      injection hc with hc;subst hc
      simp only [Comp.out] at ho
      cases hfn:s.fn x rd with
      | none=>rw [hfn] at ho;cases ho
      | some r=>
        rw [hfn] at ho;injection ho with ho;subst ho
        have ha:=hargs _ x hpk
        intro K Q hK
        unfold Oper.wp
        rw [exec]
        refine Calls.mono (hf.opened hfv hopn x rd r hfn w lim _ ha) ?_
        intro e' w' hret
        obtain ⟨b,lim',cells,e0,rfl,g1,g2,g3,g4,g5,g6⟩:=hret
        have hext:Ext w lim w' lim':=
         ⟨g1.size,fun c oo z hb hu hz=>(World.cell?_of_block (g1.block c hb (fun e=>by cases e))).trans hz,fun c m hb hu=>by unfold under;rw [g2 c hb];exact hu⟩
        have hgrow:w0.grownBy w' rb:=zkb h.grow g1.os g1.tape g1.output g1.size (fun k hk _=>g1.block k (Nat.lt_of_lt_of_le hk h.grow.size) (fun e=>by cases e))
        show K (a.put o.dst (.pointer (some ⟨b,0,none⟩))) w'
        rw [hdst]
        have hold : ∀c dd,st.box c=some dd→c≠d:=fun c dd hc e=>by rw [e,hbx] at hc;cases hc
        refine hK _ _ lim' {β with b:=fun t=>if t=d then b else β t} (h.boxw {upd0 (some d) (.cel d []) none with bw:=some (d,⟨s.rty,r.1⟩,[],[])} _ w' lim' {β with b:=fun t=>if t=d then b else β t} d ⟨s.rty,r.1⟩ [] []
         (fun d' hd'=>hd d' (by rw [hdst];exact hd')) rfl rfl rfl rfl hext hgrow
         (fun k hk _=>⟨g1.block k hk (fun e=>by cases e),g2 k hk⟩) (fun c dd hc=>by simp [hold c dd hc]) (fun _=>by simpa using g3) hrb cells e0 (by simpa using g4) g5 (by simpa using g6)
         (fun d0 hd0=>by rw [hbx] at hd0;cases hd0) (fun _ _=>⟨⟨s.rty,r.1⟩,?_,?_⟩) (fun p=>.tmp 0 p) (fun p hp=>by cases hp) (fun p hp=>by cases hp))
        ·simp [apply]
        ·have:offs s.rty []=0:=by cases s.rty<;>rfl
         simp [this]
     ·cases hc
    ·cases hc
   ·cases hc
theorem ok_callF (hG:GamOk P G) (h:Sim w0 lim0 rb n st a w lim β) (hrb : ∀k,some k=rb→k<w0.heap.size) (hd : ∀d,o.dst=some d→d<n) {f:FuncId} {cl:Call} (hop:o.op = .call cl) (hcal:cl.callee = .value (.func f))
 (hc:stCallF G o f cl.args.toList st=some c) (ho:c.out st=some st'):OpOk P w0 lim0 rb n o st' a w:=by cases hc
end
end Go.Den
namespace Go.Den
section
variable {P:Program} {tab:Tab} {G:Gam} {w0:Base} {lim0:Lim} {rb:Option Nat} {n:Nat}
variable {st st':St} {a:Act} {w w':World} {lim lim':Lim} {β:Mp} {o:Oper} {c:Comp}
theorem NRep.crep : ∀ {t:Ty} {x:t.val} {cs:List Value},NRep t x cs→CRep w lim t x cs
 | .int _,_,_,h=>h
 | .bool,_,_,h=>h
 | .str,_,_,h=>h
 | .unit,_,_,h=>h
 | .prod a b,_,_,h=>by
   obtain ⟨c1,c2,rfl,h1,h2⟩:=h
   exact ⟨c1,c2,rfl,h1.crep,h2.crep⟩
 | .slice t,xs,_,h=>by
   obtain ⟨rfl,h2⟩:=h
   have h2:List.length (α:=t.val) xs=0:=h2
   exact ⟨none,0,by rw [h2],by rw [h2];exact Nat.le_refl _,.inl (List.length_eq_zero_iff.1 h2)⟩
theorem NRep.length : ∀ {t:Ty} {x:t.val} {cs:List Value},NRep t x cs→cs.length=t.size
 | .int _,_,_,h=>by cases h;rfl
 | .bool,_,_,h=>by cases h;rfl
 | .str,_,_,h=>by cases h;rfl
 | .unit,_,_,h=>by cases h;rfl
 | .prod a b,_,_,h=>by
   obtain ⟨c1,c2,rfl,h1,h2⟩:=h
   simp [Ty.size,h1.length,h2.length]
 | .slice t,_,_,h=>by rw [h.1];rfl
theorem NRep.nil_at : ∀ {t:Ty} {x:t.val} {cs:List Value} {p:List Nat} {e:Ty},NRep t x cs→typeAt t p=some (.slice e)→cs[offs t p]?=some (.slice none 0 0):=by
 intro t
 induction t with
 | prod a b iha ihb=>
   intro x cs p e h hp
   obtain ⟨c1,c2,rfl,h1,h2⟩:=h
   have hl:=h1.length
   cases p with
   | nil=>simp only [typeAt] at hp;cases hp
   | cons i p=>
     cases i with
     | zero=>
       have:=iha h1 (by simpa [typeAt] using hp)
       simp only [offs]
       rw [List.getElem?_append_left (List.getElem?_eq_some_iff.1 this).1];exact this
     | succ i=>
       have:=ihb h2 (show typeAt b (i::p)=some (.slice e) by simpa [typeAt] using hp)
       simp only [offs]
       rw [List.getElem?_append_right (by omega),hl]
       rw [←this];congr 1;omega
 | slice u _=>
   intro x cs p e h hp
   rcases zce hp with ⟨rfl,_⟩|⟨rfl,h2⟩
   ·rw [h.1];rfl
   ·cases h2
 | int k=>intro x cs p e h hp;cases p<;>simp [typeAt] at hp
 | bool=>intro x cs p e h hp;cases p<;>simp [typeAt] at hp
 | str=>intro x cs p e h hp;cases p<;>simp [typeAt] at hp
 | unit=>intro x cs p e h hp;cases p<;>simp [typeAt] at hp
theorem partAtX_mem {p:List Nat} : ∀ {ps:List (List Nat×Tmp×List Nat)} {r:Tmp} {q:List Nat},partAtX p ps=some (r,q)→(p,r,q)∈ps
 | [],_,_,h=>by cases h
 | (p',r',q')::ps,r,q,h=>by
   simp only [partAtX] at h
   cases hb:pbeq p p' with
   | true=>
     rw [hb] at h
     have:=zjp.1 hb
     subst this
     injection h with h;injection h with h1 h2;subst h1;subst h2
     exact List.mem_cons_self
   | false=>rw [hb] at h;exact List.mem_cons_of_mem _ (partAtX_mem h)
theorem farPs_far {p:List Nat} : ∀ {ps:List (List Nat×Tmp×List Nat)},farPs p ps=true→∀p' r q,(p',r,q)∈ps→pcomp p p'=false
 | [],_,_,_,_,h=>by cases h
 | (p1,r1,q1)::ps,hf,p',r,q,h=>by
   simp only [farPs] at hf
   cases hb:pcomp p p1 with
   | true=>rw [hb] at hf;cases hf
   | false=>
     rw [hb] at hf
     rcases List.mem_cons.1 h with h|h
     ·injection h with h1 _;subst h1;exact hb
     ·exact farPs_far hf p' r q h
theorem run_loadR (hT:TabOk P tab) (h:Sim w0 lim0 rb n st a w lim β) {x:Operand} {b:Tmp} {p:List Nat} {ty:Ty} {d:Dat} {ps:List (List Nat×Tmp×List Nat)} (hxe:(st.ent x).av = .cx b p) (hxb:st.xb b=some (ty,none)) (hrbb:st.rb b=some (d,ps)) :
 d.1=ty∧a.eval x = .pointer (some ⟨β.c b,offs d.1 p,none⟩)∧∃cells e,w.heap[β.c b]?=some (.cells cells e (0,0))∧cells.size=d.1.size∧MixOk st β d ps cells.toList:=by
 obtain ⟨h1,cells,e,h2,h3⟩:=h.xs.rbx b d ps hrbb
 have he:=h1
 rw [hxb] at he;injection he with he;injection he with he _
 obtain ⟨cells',e',k1,k2,_⟩:=h.xs.xb b ty none hxb
 rw [h2] at k1;injection k1 with k1;injection k1 with k1;subst k1
 have hx:=h.ent x
 rw [hxe] at hx
 obtain ⟨t',o',j1,j2⟩:=hx
 rw [hxb] at j1;injection j1 with j1;injection j1 with j1 _;subst j1
 exact ⟨he.symm,by rw [j2,he],cells,e,h2,by rw [k2,he],h3⟩
theorem ok_putR (hT:TabOk P tab) (h:Sim w0 lim0 rb n st a w lim β) (hrb : ∀k,some k=rb→k<w0.heap.size) (hd : ∀d,o.dst=some d→d<n) {t:TypeId} {x v:Operand} {b:Tmp} {dt:Ty} {dx:dt.val} {ps:List (List Nat×Tmp×List Nat)} (hop:o.op = .store t x v)
 (hxe:(st.ent x).av = .cx b []) (hve:(st.ent v).av = .mx dt dx ps) (hc:stPutR tab o t b ⟨dt,dx⟩ ps st=some c) (ho:c.out st=some st'):OpOk P w0 lim0 rb n o st' a w:=by cases hc
end
end Go.Den
namespace Go.Den
section
variable {P:Program} {tab:Tab} {G:Gam} {w0:Base} {lim0:Lim} {rb:Option Nat} {n:Nat}
variable {st st':St} {a:Act} {w w':World} {lim lim':Lim} {β:Mp} {o:Oper} {c:Comp}
theorem atX_some {r:Tmp} {p:List Nat} {y:Dat} (h:st.atX r p=some y) : ∃d,st.io r=some d∧getP d.1 d.2 p=some y:=by
 unfold St.atX at h
 cases hr:st.io r with
 | none=>rw [hr] at h;cases h
 | some d=>
   rw [hr] at h;simp only [] at h
   cases hu:isU d.1 with
   | true=>rw [hu] at h;cases h
   | false=>rw [hu] at h;exact ⟨d,rfl,h⟩
theorem atX_live {r:Tmp} {p:List Nat} {y:Dat} (h:st.atX r p=some y) {d:Dat} (hd:st.io r=some d):d.1≠.unit:=by
 unfold St.atX at h
 rw [hd] at h;simp only [] at h
 intro e
 have hu:isU d.1=true:=by rw [e];rfl
 rw [hu] at h;cases h
theorem Sim.atX (h:Sim w0 lim0 rb n st a w lim β) {r:Tmp} {p:List Nat} {y:Dat} (hy:st.atX r p=some y) :
 ∃d Bu,st.io r=some d∧getP d.1 d.2 p=some y∧typeAt d.1 p=some y.1∧(∀g,Bu g→β.B r g)∧XRep w y.1 y.2 (((flatV (β.V r)).drop (offs d.1 p)).take y.1.size) Bu ∧
  ∀(w':World) (z:y.1.val) (x':d.1.val),setP d.1 d.2 p ⟨y.1,z⟩=some x'→(∀g,β.B r g→¬Bu g→w'.heap[g]?=w.heap[g]?)→XRep w' y.1 z (((flatV (β.V r)).drop (offs d.1 p)).take y.1.size) Bu→XRep w' d.1 x' (flatV (β.V r)) (β.B r):=by
 obtain ⟨d,h1,h2⟩:=atX_some hy
 have hX:=h.xs.io r d h1
 obtain ⟨Bu,k1,k2,k3⟩:=hX.sub h2
 exact ⟨d,Bu,h1,h2,zb0 h2,k1,k2,k3⟩
theorem xf_val (h:Sim w0 lim0 rb n st a w lim β) {x:Operand} {r:Tmp} {p:List Nat} {y:Dat} (hx:(st.ent x).av = .xf r p) (hy:st.atX r p=some y) :
 ∃d,st.io r=some d∧a.eval x=wrapV y.1 (((flatV (β.V r)).drop (offs d.1 p)).take y.1.size):=by
 obtain ⟨d,Bu,h1,h2,h3,_⟩:=h.atX hy
 have:=h.ent x
 rw [hx] at this
 obtain ⟨d',k1,k2⟩:=this
 rw [h1] at k1;injection k1 with k1;subst k1
 obtain ⟨u,k2,k3⟩:=k2.resolve_left (atX_live hy h1)
 rw [h3] at k2;injection k2 with k2;subst k2
 exact ⟨d,h1,k3⟩
theorem Sim.sliceX (h:Sim w0 lim0 rb n st a w lim β) {r:Tmp} {p:List Nat} {e:Ty} {xs:List e.val} (hy:st.atX r p=some ⟨.slice e,xs⟩) :
 ∃d,st.io r=some d∧getP d.1 d.2 p=some ⟨.slice e,xs⟩∧typeAt d.1 p=some (.slice e) ∧
  ((xs.length=0∧(flatV (β.V r))[offs d.1 p]?=some (.slice none 0 0))∨∃g c arr el fr,(flatV (β.V r))[offs d.1 p]?=some (.slice (some ⟨g,0,none⟩) xs.length c)∧xs.length≤c∧c*e.size≤arr.size∧w.heap[g]?=some (.cells arr el fr) ∧
    (∀o,o<arr.size→¬(fr.1≤o∧o<fr.2))∧β.B r g):=by
 obtain ⟨d,Bu,h1,h2,h3,h6,h7,h8⟩:=h.atX hy
 refine ⟨d,h1,h2,h3,?_⟩
 have hcell : ∀v,(((flatV (β.V r)).drop (offs d.1 p)).take (Ty.slice e).size)=[v]→(flatV (β.V r))[offs d.1 p]?=some v:=by
  intro v hv
  have e1:((flatV (β.V r)).drop (offs d.1 p))[0]?=some v:=by
   have hs:(Ty.slice e).size=1:=rfl
   rw [hs] at hv
   cases hq:(flatV (β.V r)).drop (offs d.1 p) with
   | nil=>rw [hq] at hv;cases hv
   | cons z zs=>rw [hq] at hv;simp at hv;rw [hv];rfl
  simpa using e1
 rcases h7 with ⟨k1,k2,k3⟩|⟨g,c,arr,el,fr,Bs,k1,k2,k3,k4,kf,k5,_⟩
 ·exact .inl ⟨k2,hcell _ k1⟩
 ·exact .inr ⟨g,c,arr,el,fr,hcell _ k1,k2,k3,k4,kf,h6 g ((k5 g).2 (.inl rfl))⟩
theorem free_some {d:Tmp} {x:Option Tmp} (h:freeD st x=some d):x=some d∧st.io d=none∧st.box d=none∧st.xb d=none∧d≠0:=by
 unfold freeD at h
 cases x with
 | none=>cases h
 | some d'=>
   simp only [] at h
   split at h
   ·rename_i q1 q2 q3 q4
    injection h with h;subst h
    exact ⟨rfl,q1,q2,q3,fun e=>by rw [e] at q4;cases q4⟩
   ·cases h
theorem ok_makeX (hT:TabOk P tab) (h:Sim w0 lim0 rb n st a w lim β) (hrb : ∀k,some k=rb→k<w0.heap.size) (hd : ∀d,o.dst=some d→d<n) {t:TypeId} {x y:Operand} (hop:o.op = .makeSlice t x y)
 (hc:stMakeX tab o t x y st=some c) (ho:c.out st=some st'):OpOk P w0 lim0 rb n o st' a w:=by cases hc
theorem ok_allocX (hT:TabOk P tab) (h:Sim w0 lim0 rb n st a w lim β) (hrb : ∀k,some k=rb→k<w0.heap.size) (hd : ∀d,o.dst=some d→d<n) {el:TypeId} (hop:o.op = .alloc el) (hc:stAllocX tab o el st=some c) (ho:c.out st=some st'):OpOk P w0 lim0 rb n o st' a w:=by
 unfold stAllocX at hc
 split at hc
 ·rename_i ty d hty hfree
  injection hc with hc;subst hc
  obtain ⟨_,rfl⟩:=zap ho
  obtain ⟨hdst,_,_,hx,_⟩:=free_some hfree
  have hcl:(wrapV ty (zeroCells ty)).cells=(zeroCells ty).toArray:=za6 (zec w lim ty)
  have he:(execOp a.eval o).run P w = .ok (.value (.pointer (some ⟨w.heap.size,0,none⟩))) (w.alloc (.cells (zeroCells ty).toArray el)):=by
   simp [execOp,hop,Instr.alloc,zmg (hT _ _ hty),newVar,newRow,hcl]
  have hl:=(zec w lim ty).length
  refine .value (lim:=limSet lim w.heap.size (some 0)) (β:={β with c:=fun k=>if k=d then w.heap.size else β.c k}) he ?_
  rw [hdst]
  exact h.setxb hrb (some d) (fun d' hd'=>by injection hd' with hd';rw [←hd'];exact hd d hdst) (hrbn:=h.xs.rb_none hx) (.cx d []) _ (.inl hx) (fun _=>Nat.le_refl _) rfl rfl rfl (by simp) (fun k hk _=>ziv _ hk) (fun k hk=>by simp [limSet,show k≠w.heap.size by omega])
   (ziu _) (by simpa using hl) (by simp [limSet]) (fun r q hrq=>by cases hrq) (fun d' hd'=>⟨ty,none,by simp [apply],by
     have:offs ty []=0:=by cases ty<;>rfl
     simp [this]⟩)
 ·cases hc
theorem ok_boxX (h:Sim w0 lim0 rb n st a w lim β) (hrb : ∀k,some k=rb→k<w0.heap.size) (hd : ∀d,o.dst=some d→d<n) {el:TypeId} {x:Operand} {r:Tmp} {p:List Nat} (hop:o.op = .box el x) (hxe:(st.ent x).av = .xf r p)
 (hc:stBoxX tab o el r p st=some c) (ho:c.out st=some st'):OpOk P w0 lim0 rb n o st' a w:=by
 unfold stBoxX at hc
 split at hc
 ·rename_i ty d y hty hfree hy
  cases hb:Ty.beq y.1 ty with
  | false=>rw [hb] at hc;cases hc
  | true=>
    rw [hb] at hc
    injection hc with hc;subst hc
    obtain ⟨_,rfl⟩:=zap ho
    have hb:=Ty.of_beq hb
    subst hb
    obtain ⟨hdst,_,_,hx,_⟩:=free_some hfree
    obtain ⟨dd,hio,hv⟩:=xf_val h hxe hy
    obtain ⟨d2,Bu,m1,m2,m3,m6,m7,m8⟩:=h.atX hy
    rw [hio] at m1;injection m1 with m1;subst m1
    have hcr:CRep w (fun _=>none) y.1 y.2 (((flatV (β.V r)).drop (offs dd.1 p)).take y.1.size):=m7.crep (fun _ _=>rfl)
    have hcl:(a.eval x).cells=(((flatV (β.V r)).drop (offs dd.1 p)).take y.1.size).toArray:=by rw [hv];exact za6 hcr
    have he:(execOp a.eval o).run P w = .ok (.value (.pointer (some ⟨w.heap.size,0,none⟩))) (w.alloc (.cells (a.eval x).cells el)):=by
     simp [execOp,hop,Instr.box,newVar,newRow]
    refine .value (lim:=limSet lim w.heap.size (some 0)) (β:={β with c:=fun k=>if k=d then w.heap.size else β.c k}) he ?_
    rw [hdst]
    exact h.setxb hrb (some d) (fun d' hd'=>by injection hd' with hd';rw [←hd'];exact hd d hdst) (hrbn:=h.xs.rb_none hx) (.cx d []) _ (.inl hx) (fun _=>Nat.le_refl _) rfl rfl rfl (by simp) (fun k hk _=>ziv _ hk) (fun k hk=>by simp [limSet,show k≠w.heap.size by omega])
     (ziu _) (by rw [hcl];simpa using hcr.length) (by simp [limSet]) (fun r' q hrq=>by
       injection hrq with hrq;injection hrq with e1 e2;subst e1;subst e2
       exact ⟨dd,hio,.inr ⟨m3,by rw [hcl]⟩⟩) (fun d' hd'=>⟨y.1,some (r,p),by simp [apply],by
       have:offs y.1 []=0:=by cases y.1<;>rfl
       simp [this]⟩)
 ·cases hc
theorem ok_putX (hT:TabOk P tab) (h:Sim w0 lim0 rb n st a w lim β) (hrb : ∀k,some k=rb→k<w0.heap.size) (hd : ∀d,o.dst=some d→d<n) {t:TypeId} {x v:Operand} {b r:Tmp} {q:List Nat} (hop:o.op = .store t x v)
 (hxe:(st.ent x).av = .cx b []) (hve:(st.ent v).av = .xf r q) (hc:stPutX tab o t b r q st=some c) (ho:c.out st=some st'):OpOk P w0 lim0 rb n o st' a w:=by
 unfold stPutX at hc
 split at hc
 ·rename_i ty y hxb hy hrbn
  cases hty:tyIs (tab t) ty with
  | false=>rw [hty] at hc;cases hc
  | true=>
  cases hb:Ty.beq y.1 ty with
  | false=>rw [hty,hb] at hc;cases hc
  | true=>
    rw [hty,hb] at hc
    injection hc with hc;subst hc
    obtain ⟨_,rfl⟩:=zap ho
    have hb:=Ty.of_beq hb
    subst hb
    obtain ⟨dd,hio,hv⟩:=xf_val h hve hy
    obtain ⟨d2,Bu,m1,m2,m3,m6,m7,m8⟩:=h.atX hy
    rw [hio] at m1;injection m1 with m1;subst m1
    have hcr:CRep w (fun _=>none) y.1 y.2 (((flatV (β.V r)).drop (offs dd.1 q)).take y.1.size):=m7.crep (fun _ _=>rfl)
    have hcl:(a.eval v).cells=(((flatV (β.V r)).drop (offs dd.1 q)).take y.1.size).toArray:=by rw [hv];exact za6 hcr
    obtain ⟨cells,e,k1,k2,k3,k4,_⟩:=h.xs.xb b y.1 none hxb
    have hx:=h.ent x
    rw [hxe] at hx
    obtain ⟨t',o',j1,j2⟩:=hx
    rw [hxb] at j1;injection j1 with j1;injection j1 with j1 _;subst j1
    have ho0:offs y.1 []=0:=by cases y.1<;>rfl
    rw [ho0] at j2
    have hlen:=hcr.length
    have hsz:(a.eval v).cells.size=y.1.size:=by rw [hcl];simpa using hlen
    obtain ⟨w',r1,r5⟩:=zld (P:=P) (a.eval v).cells.toList cells e (0,0) (β.c b) 0 0 w [] cells.toList [] k1 (by simp) rfl (by simpa using (k2.trans hsz.symm)) (fun u hu=>by rw [hcl] at hu;exact hcr.cells u (by simpa using hu)) (fun k _ hk=>by omega)
    have he:(execOp a.eval o).run P w = .ok .skip w':=by
     simp only [execOp,hop,Instr.storeAt,Instr.sureAddr,j2,Sem.run_bind,Sem.run_pure,Result.andThen_ok,storeVar,zby (hT _ _ (zax hty)),hsz,ne_eq,not_true_eq_false,if_false]
     simp only [r1,Result.andThen_ok]
    have hlt:=(Array.getElem?_eq_some_iff.1 k1).1
    have hwa:=r5.at_
    simp only [List.nil_append,List.append_nil] at hwa
    refine .skip (lim:=lim) (β:={β with c:=fun k=>if k=b then β.c b else β.c k}) he ?_
    exact h.setxb (hrbn:=hrbn) hrb o.dst hd .skp undef (.inr ⟨⟨none,hxb⟩,rfl⟩) (fun hn=>by rw [hxb] at hn;cases hn) r5.os r5.tape r5.output (by rw [r5.size];exact Nat.le_refl _) (fun k _ hne=>r5.other k hne) (fun _ _=>rfl)
     hwa (by simpa using hsz) k4 (fun r' q' hrq=>by
      injection hrq with hrq;injection hrq with e1 e2;subst e1;subst e2
      exact ⟨dd,hio,.inr ⟨m3,by rw [hcl]⟩⟩) (fun _ _=>rfl)
 ·cases hc
theorem xb_rep (h:Sim w0 lim0 rb n st a w lim β) {x:Operand} {b r:Tmp} {p q:List Nat} {ty:Ty} {z y:Dat} (hxe:(st.ent x).av = .cx b p) (hxb:st.xb b=some (ty,some (r,q))) (hz:st.atX r q=some z) (hb:z.1=ty) (hy:getP z.1 z.2 p=some y) :
 a.eval x = .pointer (some ⟨β.c b,offs z.1 p,none⟩)∧∃d cells e,st.io r=some d∧w.heap[β.c b]?=some (.cells cells e (0,0))∧CRep w (fun _=>none) z.1 z.2 cells.toList∧typeAt d.1 (q++p)=some y.1 ∧
  (cells.toList.drop (offs z.1 p)).take y.1.size=((flatV (β.V r)).drop (offs d.1 (q++p))).take y.1.size:=by
 subst hb
 have hx:=h.ent x
 rw [hxe] at hx
 obtain ⟨t',o',j1,j2⟩:=hx
 rw [hxb] at j1;injection j1 with j1;injection j1 with j1 _;subst j1
 refine ⟨j2,?_⟩
 obtain ⟨d,Bu,m1,m2,m3,m6,m7,m8⟩:=h.atX hz
 obtain ⟨cells,e,k1,k2,k3,k4,k5⟩:=h.xs.xb b _ _ hxb
 obtain ⟨d',n1,n2⟩:=k5 r q rfl
 rw [m1] at n1;injection n1 with n1;subst n1
 obtain ⟨n2,n3⟩:=n2.resolve_left (atX_live hz m1)
 obtain ⟨g1,g2⟩:=getP_app m2 p (zb0 hy)
 refine ⟨d,cells,e,m1,k1,by rw [n3];exact m7.crep (fun _ _=>rfl),g1,?_⟩
 have hlt:=zbf (zb0 hy)
 rw [n3,g2,←List.drop_drop,List.drop_take,List.take_take,Nat.min_eq_left (by omega)]
theorem ok_loadR (hT:TabOk P tab) (h:Sim w0 lim0 rb n st a w lim β) (hd : ∀d,o.dst=some d→d<n) {t:TypeId} {x:Operand} {b:Tmp} {p:List Nat} {ty:Ty} (hop:o.op = .load t x) (hxe:(st.ent x).av = .cx b p) (hxb:st.xb b=some (ty,none))
 (hc:stLoadR tab o t b p st=some c) (ho:c.out st=some st'):OpOk P w0 lim0 rb n o st' a w:=by
 unfold stLoadR at hc
 split at hc
 ·rename_i d ps hrbb
  obtain ⟨_,he,cells,el,m1,m2,m3,m4⟩:=run_loadR hT h hxe hxb hrbb
  have mcell : ∀j,w.cell? ⟨β.c b,j,none⟩=cells.toList[j]?:=fun j=>by simp [World.cell?,m1]
  split at hc
  ·rename_i r q hpart
   cases hat:st.atX r q with
   | none=>rw [hat] at hc;cases hc
   | some y=>
     rw [hat] at hc;simp only [] at hc
     cases hty:tyIs (tab t) y.1 with
     | false=>rw [hty] at hc;cases hc
     | true=>
       rw [hty] at hc;simp only [cnd_true] at hc
       injection hc with hc;subst hc
       obtain ⟨_,rfl⟩:=zap ho
       obtain ⟨dr,hio,hor⟩:=m4 p r q (partAtX_mem hpart)
       obtain ⟨dd,Bu,a1,a2,a3,a4,a5,_⟩:=h.atX hat
       rw [hio] at a1;injection a1 with a1;subst a1
       obtain ⟨u,b1,b2,b3⟩:=hor.resolve_left (atX_live hat hio)
       rw [a3] at b2;injection b2 with b2;subst b2
       have hcr:=a5.crep (lim:=fun _=>none) (fun _ _=>rfl)
       rw [←b3] at hcr
       have hm : ∀j v,((cells.toList.drop (offs d.1 p)).take y.1.size)[j]?=some v→w.cell? ⟨β.c b,offs d.1 p+j,none⟩=some v:=by
        intro j v hv
        rw [mcell]
        have hj:=(List.getElem?_eq_some_iff.1 hv).1
        rw [List.length_take] at hj
        rw [List.getElem?_take_of_lt (by omega),List.getElem?_drop] at hv
        exact hv
       have hrun:(execOp a.eval o).run P w = .ok (.value (wrapV y.1 ((cells.toList.drop (offs d.1 p)).take y.1.size))) w:=by
        simp [execOp,hop,Instr.loadAt,Instr.sureAddr,he,zkr (hT _ _ (zax hty)) hcr hm]
       exact .value hrun (h.plain _ _ _ hd ⟨dr,hio,.inr ⟨y.1,a3,by rw [b3]⟩⟩)
  ·rename_i hpart
   cases hfar:farPs p ps with
   | false=>rw [hfar] at hc;cases hc
   | true=>
     rw [hfar] at hc;simp only [cnd_true] at hc
     cases hy:getP d.1 d.2 p with
     | none=>rw [hy] at hc;cases hc
     | some y=>
       rw [hy] at hc;simp only [] at hc
       cases hty:tyIs (tab t) y.1 with
       | false=>rw [hty] at hc;cases hc
       | true=>
         rw [hty] at hc;simp only [cnd_true] at hc
         obtain ⟨vc,v1,v2,v3⟩:=m3
         have hvc:=v1.crep (w:=w) (lim:=lim)
         obtain ⟨c1,c2,c3,e1,e2,e3,_⟩:=hvc.part hy
         have hpt:=zb0 hy
         have hm : ∀j v,c2[j]?=some v→w.cell? ⟨β.c b,offs d.1 p+j,none⟩=some v:=by
          intro j v hv
          have hj:=(List.getElem?_eq_some_iff.1 hv).1
          have hl:=e3.length
          rw [mcell,v3 _ (fun p' r q u hp' hu=>?_)]
          ·rw [e1,←e2,List.getElem?_append_right (by omega),show c1.length+j-c1.length=j by omega,List.getElem?_append_left hj];exact hv
          ·have hf:=farPs_far hfar p' r q hp'
           have:=beside hpt hu hf
           omega
         have hrun:(execOp a.eval o).run P w = .ok (.value (wrapV y.1 c2)) w:=by
          simp [execOp,hop,Instr.loadAt,Instr.sureAddr,he,zkr (hT _ _ (zax hty)) e3 hm]
         cases hns:noSl y.1 with
         | true=>
           rw [hns] at hc;simp only [cnd_true] at hc
           injection hc with hc;subst hc
           obtain ⟨_,rfl⟩:=zap ho
           exact .value hrun (h.plain _ _ _ hd ⟨c2,e3,rfl⟩)
         | false=>
           rw [hns] at hc;simp only [cnd_false] at hc
           cases hsl:isSlT y.1 with
           | false=>rw [hsl] at hc;cases hc
           | true=>
             rw [hsl] at hc;simp only [cnd_true] at hc
             injection hc with hc;subst hc
             obtain ⟨_,rfl⟩:=zap ho
             obtain ⟨yt,yv⟩:=y
             obtain ⟨e',rfl⟩ : ∃e',yt = .slice e':=by cases yt<;>first|exact ⟨_,rfl⟩|cases hsl
             have hn:=v1.nil_at hpt
             have hl:c2.length=1:=e3.length
             obtain ⟨v0,rfl⟩:=List.length_eq_one_iff.1 hl
             have:v0 = .slice none 0 0:=by
              rw [e1,←e2,List.getElem?_append_right (Nat.le_refl _),Nat.sub_self] at hn
              simpa using hn
             subst this
             exact .value hrun (h.plain _ _ _ hd rfl)
 ·cases hc
theorem ok_loadX (hT:TabOk P tab) (h:Sim w0 lim0 rb n st a w lim β) (hd : ∀d,o.dst=some d→d<n) {t:TypeId} {x:Operand} {b:Tmp} {p:List Nat} (hop:o.op = .load t x) (hxe:(st.ent x).av = .cx b p)
 (hc:stLoadX tab o t b p st=some c) (ho:c.out st=some st'):OpOk P w0 lim0 rb n o st' a w:=by
 unfold stLoadX at hc
 split at hc
 ·rename_i ty r q hxb
  cases hz:st.atX r q with
  | none=>rw [hz] at hc;cases hc
  | some z=>
    rw [hz] at hc;simp only [] at hc
    cases hb:Ty.beq z.1 ty with
    | false=>rw [hb] at hc;cases hc
    | true=>
      cases hy:getP z.1 z.2 p with
      | none=>rw [hb,hy] at hc;cases hc
      | some y=>
        rw [hb,hy] at hc;simp only [] at hc
        cases hty:tyIs (tab t) y.1 with
        | false=>rw [hty] at hc;cases hc
        | true=>
          rw [hty] at hc;simp only [cnd_true] at hc
          obtain ⟨he,d,cells,e,m1,m3,m4,m5,m6⟩:=xb_rep h hxe hxb hz (Ty.of_beq hb) hy
          obtain ⟨c1,c2,c3,q1,q2,q3,_⟩:=m4.part hy
          have hm : ∀j u,c2[j]?=some u→w.cell? ⟨β.c b,offs z.1 p+j,none⟩=some u:=by
           intro j u hu
           simp only [World.cell?,m3]
           rw [←q2]
           simp only [Option.isSome_none,Bool.false_eq_true,if_false]
           rw [←Array.getElem?_toList,q1,List.getElem?_append_right (by omega)]
           rw [show c1.length+j-c1.length=j by omega,List.getElem?_append_left (List.getElem?_eq_some_iff.1 hu).1]
           exact hu
          have hrun:(execOp a.eval o).run P w = .ok (.value (wrapV y.1 c2)) w:=by
           simp [execOp,hop,Instr.loadAt,Instr.sureAddr,he,zkr (hT _ _ (zax hty)) q3 hm]
          have hc2:(cells.toList.drop (offs z.1 p)).take y.1.size=c2:=by
           rw [q1,←q2,List.drop_left,←q3.length,List.take_left]
          cases hns:noSl y.1 with
          | true=>
            rw [hns] at hc
            injection hc with hc;subst hc
            obtain ⟨_,rfl⟩:=zap ho
            exact .value hrun (h.plain _ _ _ hd ⟨c2,(za3 hns).2 ((za3 hns).1 q3),rfl⟩)
          | false=>
            rw [hns] at hc
            injection hc with hc;subst hc
            obtain ⟨_,rfl⟩:=zap ho
            exact .value hrun (h.plain _ _ _ hd ⟨d,m1,.inr ⟨y.1,m5,by rw [←m6,hc2]⟩⟩)
 ·rename_i ty hxb;exact ok_loadR hT h hd hop hxe hxb hc ho
 ·cases hc
theorem ok_partR (hT:TabOk P tab) (h:Sim w0 lim0 rb n st a w lim β) (hrb : ∀k,some k=rb→k<w0.heap.size) (hd : ∀d,o.dst=some d→d<n) {t:TypeId} {x v:Operand} {b r:Tmp} {p q:List Nat} (hop:o.op = .store t x v)
 (hxe:(st.ent x).av = .cx b p) (hve:(st.ent v).av = .xf r q) (hc:stPartR tab o t b p r q st=some c) (ho:c.out st=some st'):OpOk P w0 lim0 rb n o st' a w:=by cases hc
theorem ok_fieldAddrR (hT:TabOk P tab) (h:Sim w0 lim0 rb n st a w lim β) (hd : ∀d,o.dst=some d→d<n) {s:TypeId} {x:Operand} {f:Nat} {b:Tmp} {p:List Nat} {ty:Ty} (hop:o.op = .fieldAddr s x f) (hxe:(st.ent x).av = .cx b p) (hxb:st.xb b=some (ty,none))
 (hc:stFieldAddrR tab o s b p f st=some c) (ho:c.out st=some st'):OpOk P w0 lim0 rb n o st' a w:=by
 unfold stFieldAddrR at hc
 split at hc
 ·rename_i d ps hrbb
  cases hy:getP d.1 d.2 p with
  | none=>rw [hy] at hc;cases hc
  | some y=>
    rw [hy] at hc;simp only [] at hc
    cases hty:tyIs (tab s) y.1 with
    | false=>rw [hty] at hc;cases hc
    | true=>
      cases hf:getF y.1 y.2 f with
      | none=>rw [hty,hf] at hc;cases hc
      | some u=>
        rw [hty,hf] at hc
        injection hc with hc;subst hc
        obtain ⟨_,rfl⟩:=zap ho
        obtain ⟨e0,he,_⟩:=run_loadR hT h hxe hxb hrbb
        refine .value (by simp [execOp,hop,he,zku hT (zax hty) hf]<;>rfl) (h.plain _ _ _ hd ⟨ty,_,hxb,?_⟩)
        subst e0
        rw [(getP_snoc hy hf).2]
 ·cases hc
theorem ok_fieldAddrC (hT:TabOk P tab) (h:Sim w0 lim0 rb n st a w lim β) (hd : ∀d,o.dst=some d→d<n) {s:TypeId} {x:Operand} {f:Nat} {b:Tmp} {p:List Nat} (hop:o.op = .fieldAddr s x f) (hxe:(st.ent x).av = .cx b p)
 (hc:stFieldAddrC tab o s b p f st=some c) (ho:c.out st=some st'):OpOk P w0 lim0 rb n o st' a w:=by
 unfold stFieldAddrC at hc
 split at hc
 ·rename_i ty r q hxb
  cases hz:st.atX r q with
  | none=>rw [hz] at hc;cases hc
  | some z=>
    rw [hz] at hc;simp only [] at hc
    cases hb:Ty.beq z.1 ty with
    | false=>rw [hb] at hc;cases hc
    | true=>
      cases hy:getP z.1 z.2 p with
      | none=>rw [hb,hy] at hc;cases hc
      | some y=>
        rw [hb,hy] at hc;simp only [] at hc
        cases hty:tyIs (tab s) y.1 with
        | false=>rw [hty] at hc;cases hc
        | true=>
          cases hf:getF y.1 y.2 f with
          | none=>rw [hty,hf] at hc;cases hc
          | some u=>
            rw [hty,hf] at hc
            injection hc with hc;subst hc
            obtain ⟨_,rfl⟩:=zap ho
            obtain ⟨he,_⟩:=xb_rep h hxe hxb hz (Ty.of_beq hb) hy
            refine .value (by simp [execOp,hop,he,zku hT (zax hty) hf]<;>rfl) (h.plain _ _ _ hd ⟨ty,_,hxb,?_⟩)
            have:=Ty.of_beq hb
            subst this
            rw [(getP_snoc hy hf).2]
 ·rename_i ty hxb;exact ok_fieldAddrR hT h hd hop hxe hxb hc ho
 ·cases hc
theorem xp_rep (h:Sim w0 lim0 rb n st a w lim β) {x:Operand} {r:Tmp} {p q:List Nat} {k:Int} {e:Ty} {xs:List e.val} (hxe:(st.ent x).av = .xp r p k q) (hy:st.atX r p=some ⟨.slice e,xs⟩) :
 ∃g m cc d,st.io r=some d∧0≤k∧(flatV (β.V r))[offs d.1 p]?=some (.slice (some ⟨g,0,none⟩) m cc)∧a.eval x = .pointer (some ⟨g,k.toNat*e.size+offs e q,none⟩):=by
 have hx:=h.ent x
 rw [hxe] at hx
 obtain ⟨d,k1,k2⟩:=hx
 obtain ⟨e',g,m,cc,k2,k3,k4,k5⟩:=k2.resolve_left (atX_live hy k1)
 obtain ⟨d',_,m1,_,m3,_⟩:=h.atX hy
 rw [k1] at m1;injection m1 with m1;subst m1
 rw [k2] at m3;injection m3 with m3;injection m3 with m3;subst m3
 exact ⟨g,m,cc,d,k1,k3,k4,k5⟩
theorem ok_loadP (hT:TabOk P tab) (h:Sim w0 lim0 rb n st a w lim β) (hd : ∀d,o.dst=some d→d<n) {t:TypeId} {x:Operand} {r:Tmp} {p q:List Nat} {k:Int} (hop:o.op = .load t x) (hxe:(st.ent x).av = .xp r p k q)
 (hc:stLoadP tab o t r p k q st=some c) (ho:c.out st=some st'):OpOk P w0 lim0 rb n o st' a w:=by
 unfold stLoadP at hc
 split at hc
 ·rename_i e xs hr hio
  change List e.val at xs
  have hr:=nbeq hr
  subst hr
  cases hy:getP e (atL (α:=e.val) xs k e.zero) q with
  | none=>rw [hy] at hc;cases hc
  | some y=>
    rw [hy] at hc;simp only [] at hc
    cases hty:tyIs (tab t) y.1 with
    | false=>rw [hty] at hc;cases hc
    | true=>
    cases hsl:isSlT y.1 with
    | false=>rw [hty,hsl] at hc;cases hc
    | true=>
      rw [hty,hsl] at hc;simp only [] at hc
      injection hc with hc;subst hc
      obtain ⟨hrr,rfl⟩:=zap ho
      have hrr:=inRange hrr
      have hat:st.atX 0 []=some ⟨.slice e,xs⟩:=by
       unfold St.atX;rw [hio];rfl
      obtain ⟨g0,m0,cc0,dd,k1,k2,k3,k4⟩:=xp_rep h hxe hat
      rw [hio] at k1;injection k1 with k1;subst k1
      have k3:(flatV (β.V 0))[0]?=some (.slice (some ⟨g0,0,none⟩) m0 cc0):=k3
      have hX:=h.xs.io 0 _ hio
      obtain ⟨hBg,hml⟩:=hX.head k3
      have hkl:k.toNat<xs.length:=by omega
      have hget:atL xs k e.zero=xs[k.toNat]:=by simp [atL,hkl]
      rw [hget] at hy
      have hel:xs[k.toNat]?=some xs[k.toNat]:=List.getElem?_eq_getElem hkl
      obtain ⟨g',c',arr,el,fr,c2,Bu,q1,q2,q3,q4,qf,q5,q6,q7,q8,q9,q10⟩:=XRep.putEl (xs:=xs) hX hel hy
      have hgg:g'=g0:=by
       rw [q1] at k3
       injection k3 with hV;injection hV with hV;injection hV with hV;injection hV
      subst hgg
      obtain ⟨yt,yv⟩:=y
      obtain ⟨e',rfl⟩ : ∃e',yt = .slice e':=by cases yt<;>first|exact ⟨_,rfl⟩|cases hsl
      have hkm:k.toNat<m0:=by rw [hml];exact hkl
      have hcell:=h.xs.kx _ hio e q e' g' m0 cc0 k.toNat rfl (zb0 hy) k3 hkm
      obtain ⟨v0,rfl⟩ : ∃v0,c2=[v0]:=List.length_eq_one_iff.1 q6
      have hcr:=q8.crep (lim:=fun _=>none) (fun _ _=>rfl)
      have hv0:=q9 0 v0 rfl
      rw [Nat.add_zero] at hv0
      have hvK:v0=β.K k.toNat q:=by
       simp only [World.cell?,q4,Option.isSome_none,Bool.false_eq_true,if_false] at hcell
       rw [hv0] at hcell
       injection hcell
      have hrun:(execOp a.eval o).run P w = .ok (.value v0) w:=by
       have:=zkr (P:=P) (w:=w) (hT _ _ (zax hty)) hcr (b:=g') (o:=k.toNat*e.size+offs e q) (fun j u hu=>by
        have:=q9 j u hu
        simp only [World.cell?,q4,Option.isSome_none,Bool.false_eq_true,if_false]
        exact this)
       simp [execOp,hop,Instr.loadAt,Instr.sureAddr,k4,this,wrapV]
      exact .value hrun (h.plain _ _ _ hd ⟨_,hio,hvK,hrr.1,g',m0,cc0,k3,hkm⟩)
 ·cases hc
theorem ok_fieldAddrX (hT:TabOk P tab) (h:Sim w0 lim0 rb n st a w lim β) (hd : ∀d,o.dst=some d→d<n) {s:TypeId} {x:Operand} {f:Nat} {r:Tmp} {p q:List Nat} {k:Int} (hop:o.op = .fieldAddr s x f) (hxe:(st.ent x).av = .xp r p k q)
 (hc:stFieldAddrX tab o s r p k q f st=some c) (ho:c.out st=some st'):OpOk P w0 lim0 rb n o st' a w:=by
 unfold stFieldAddrX at hc
 split at hc
 ·rename_i e xs hat
  change List e.val at xs
  cases hy:getP e (atL (α:=e.val) xs k e.zero) q with
  | none=>rw [hy] at hc;cases hc
  | some y=>
    rw [hy] at hc;simp only [] at hc
    cases hty:tyIs (tab s) y.1 with
    | false=>rw [hty] at hc;cases hc
    | true=>
      cases hf:getF y.1 y.2 f with
      | none=>rw [hty,hf] at hc;cases hc
      | some u=>
        rw [hty,hf] at hc
        injection hc with hc;subst hc
        obtain ⟨_,rfl⟩:=zap ho
        obtain ⟨g,m,cc,d,k1,k2,k3,k4⟩:=xp_rep h hxe hat
        obtain ⟨d',_,m1,_,m3,_⟩:=h.atX hat
        rw [k1] at m1;injection m1 with m1;subst m1
        refine .value (by simp [execOp,hop,k4,zku hT (zax hty) hf]<;>rfl) (h.plain _ _ _ hd ⟨d,k1,.inr ⟨e,g,m,cc,m3,k2,k3,?_⟩⟩)
        rw [(getP_snoc hy hf).2,Nat.add_assoc]
 ·cases hc
theorem ok_indexAddrX (hT:TabOk P tab) (h:Sim w0 lim0 rb n st a w lim β) (hd : ∀d,o.dst=some d→d<n) {t:TypeId} {x i:Operand} {r:Tmp} {p:List Nat} (hop:o.op = .indexAddr t x i) (hxe:(st.ent x).av = .xf r p)
 (hc:stIndexAddrX tab o t r p i st=some c) (ho:c.out st=some st'):OpOk P w0 lim0 rb n o st' a w:=by
 unfold stIndexAddrX at hc
 split at hc
 ·rename_i e xs k m hat hi
  change List e.val at xs
  change Int at m
  cases hty:tyIs (tab t) (.slice e) with
  | false=>rw [hty] at hc;cases hc
  | true=>
    rw [hty] at hc
    injection hc with hc;subst hc
    obtain ⟨hr,rfl⟩:=zap ho
    have hr:=inRange hr
    have hm:=zi3 h hi
    obtain ⟨d,hio,hv⟩:=xf_val h hxe hat
    obtain ⟨d',m1,m2,m3,m5⟩:=h.sliceX hat
    rw [hio] at m1;injection m1 with m1;subst m1
    obtain ⟨el,h1,h2⟩:=elemTy hT (zax hty)
    rcases m5 with ⟨m5,_⟩|⟨g,cc,arr,el',fr,m5,_⟩
    ·exfalso;have:xs.length=0:=m5;omega
    ·have hv':a.eval x = .slice (some ⟨g,0,none⟩) xs.length cc:=by
       rw [hv]
       have hlt:=(List.getElem?_eq_some_iff.1 m5).1
       have:((flatV (β.V r)).drop (offs d.1 p)).take (Ty.slice e).size=[.slice (some ⟨g,0,none⟩) xs.length cc]:=by
        have hs:(Ty.slice e).size=1:=rfl
        have hv2:=(List.getElem?_eq_some_iff.1 m5).2
        rw [hs,List.drop_eq_getElem_cons hlt,hv2];rfl
       rw [this];rfl
     refine .value (v:=.pointer (some ⟨g,m.toNat*e.size,none⟩)) ?_ (h.plain _ _ _ hd ⟨d,hio,.inr ⟨e,g,_,cc,m3,hr.1,m5,?_⟩⟩)
     ·simp [execOp,hop,hv',hm,Instr.indexAt,asIntOf,underlying,h1,zby h2,hr.1,hr.2,addr_add]
     ·have:offs e []=0:=by cases e<;>rfl
      rw [this];rfl
 ·cases hc
theorem ok_lenX (hT:TabOk P tab) (h:Sim w0 lim0 rb n st a w lim β) (hd : ∀d,o.dst=some d→d<n) {t:TypeId} {x:Operand} {cl:Call} {r:Tmp} {p:List Nat} (hop:o.op = .call cl) (hcal:cl.callee = .builtin .len) (ha:cl.args = #[x]) (hat:cl.argTypes = #[t]) (hxe:(st.ent x).av = .xf r p)
 (hc:stLenX tab o t r p st=some c) (ho:c.out st=some st'):OpOk P w0 lim0 rb n o st' a w:=by
 unfold stLenX at hc
 split at hc
 ·rename_i e xs hy
  change List e.val at xs
  cases hty:tyIs (tab t) (.slice e) with
  | false=>rw [hty] at hc;cases hc
  | true=>
    rw [hty] at hc
    injection hc with hc;subst hc
    obtain ⟨_,rfl⟩:=zap ho
    obtain ⟨el,h1,h2⟩:=elemTy hT (zax hty)
    obtain ⟨d,hio,hv⟩:=xf_val h hxe hy
    obtain ⟨d2,Bu,m1,m2,m3,m6,m7,m8⟩:=h.atX hy
    rw [hio] at m1;injection m1 with m1;subst m1
    have : ∃ad cc,a.eval x = .slice ad xs.length cc:=by
     rw [hv]
     rcases m7 with ⟨k1,k2,_⟩|⟨g,cc,arr,e',fr,Bs,k1,_⟩
     ·have k2:xs.length=0:=k2
      rw [k1,k2];exact ⟨_,_,rfl⟩
     ·rw [k1];exact ⟨_,_,rfl⟩
    obtain ⟨ad,cc,hv⟩:=this
    refine .value (v:=.int .i64 (lenL xs)) ?_ (h.plain _ _ _ hd mk_int)
    simp [execOp,hop,resolve,hcal,ha,hat,invoke,builtin,Builtin.len_,underlying,h1,hv,goInt,lenL]
 ·cases hc
end
end Go.Den
