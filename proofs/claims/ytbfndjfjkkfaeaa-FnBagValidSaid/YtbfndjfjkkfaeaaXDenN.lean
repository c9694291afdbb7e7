/- Operations that make boxes, write them, and build structs. -/
import Derived.Test.YtbfndjfjkkfaeaaXDenM
set_option linter.unusedVariables false
set_option linter.unusedSimpArgs false
namespace Go.Den
section
variable {P : Program} {tab : Tab} {w0 : Base} {lim0 : Lim} {rb : Option Nat} {n : Nat}
variable {st st' : St} {a : Act} {w w' : World} {lim lim' : Lim} {β : Mp} {o : Oper} {c : Comp}

theorem ext_keep (hs : w.heap.size ≤ w'.heap.size) (hk : ∀ k, k < w.heap.size → w'.heap[k]? = w.heap[k]?) (hl : ∀ k, k < w.heap.size → lim' k = lim k) : Ext w lim w' lim' :=
  ⟨hs, fun b oo v hb _ hc => (World.cell?_of_block (hk b hb)).trans hc, fun b m hb hu => by unfold under; rw [hl b hb]; exact hu⟩
theorem grow_keep (hg : w0.grownBy w rb) (h1 : w'.os = w.os) (h2 : w'.tape = w.tape) (h3 : w'.output = w.output) (hs : w.heap.size ≤ w'.heap.size)
    (hk : ∀ k, k < w0.heap.size → some k ≠ rb → w'.heap[k]? = w.heap[k]?) : w0.grownBy w' rb :=
  ⟨h1.trans hg.os, h2.trans hg.tape, h3.trans hg.output, Nat.le_trans hg.size hs, fun k hk' hne hX => (hk k hk' hne).trans (hg.block k hk' hne hX)⟩
theorem alloc_old (ob : Obj) {k : Nat} (hk : k < w.heap.size) : (w.alloc ob).heap[k]? = w.heap[k]? := by
  have : k ≠ w.heap.size := by omega
  simp [World.alloc, -World.alloc_eq, Array.getElem?_push, this]
theorem alloc_new (ob : Obj) : (w.alloc ob).heap[w.heap.size]? = some ob := by
  simp [World.alloc, -World.alloc_eq]

def limSet (lim : Lim) (b : Nat) (m : Option Nat) : Lim := fun k => if k = b then m else lim k

theorem zero_at : ∀ {t : Ty} {p : List Nat} {e : Ty}, typeAt t p = some (.slice e) → (zeroCells t)[offs t p]? = some (.slice none 0 0) := by
  intro t
  induction t with
  | prod x y ihx ihy =>
    intro p e h
    cases p with
    | nil => simp [typeAt] at h
    | cons i p =>
      cases i with
      | zero =>
        simp only [typeAt] at h
        have := ihx h
        simp only [offs, zeroCells]
        rw [List.getElem?_append_left (List.getElem?_eq_some_iff.1 this).1]; exact this
      | succ i =>
        simp only [typeAt] at h
        have := ihy h
        have hl := (zero_rep default (fun _ => none) x).length
        simp only [offs, zeroCells]
        rw [List.getElem?_append_right (by omega), hl, show x.size + offs y (i :: p) - x.size = offs y (i :: p) by omega]; exact this
  | slice t => intro p e h; cases p <;> simp [typeAt] at h; simp [offs, zeroCells]
  | int k => intro p e h; cases p <;> simp [typeAt] at h
  | bool => intro p e h; cases p <;> simp [typeAt] at h
  | str => intro p e h; cases p <;> simp [typeAt] at h
  | unit => intro p e h; cases p <;> simp [typeAt] at h

/-- a new box, whatever is put into it -/
theorem Sim.newbox (h : Sim w0 lim0 rb n st a w lim β) (hrb : ∀ k, some k = rb → k < w0.heap.size) {d : Tmp} {ty : Ty} {v : ty.val} {o' : List (List Nat)} {takes : List Loc} (hdst : o.dst = some d) (hd : d < n) (hno : st.box d = none)
    {cells : Array Value} {el : TypeId} (hr : CRep w lim ty v cells.toList) (src : List Nat → Loc)
    (hown : ∀ p ∈ o', ∃ e x, typeAt ty p = some (.slice e) ∧ cells[offs ty p]? = some x ∧
      (x = .slice none 0 0 ∨ (src p ∈ takes ∧ st.own (src p) = true ∧ locV st a w β (src p) = some x ∧ locTy st (src p) = some (.slice e))))
    (hinj : ∀ p ∈ o', ∀ q ∈ o', src p = src q → p = q) :
    Sim w0 lim0 rb n (apply st { upd0 (some d) (.cel d []) none with takes := takes, bw := some (d, ⟨ty, v⟩, o', []) }) (a.put o.dst (.pointer (some ⟨w.heap.size, 0, none⟩))) (w.alloc (.cells cells el)) (limSet lim w.heap.size (some 0)) { β with b := fun t => if t = d then w.heap.size else β t } := by
  have hl : ∀ k, k < w.heap.size → limSet lim w.heap.size (some 0) k = lim k := fun k hk => by simp [limSet, show k ≠ w.heap.size by omega]
  have hext : Ext w lim (w.alloc (.cells cells el)) (limSet lim w.heap.size (some 0)) := ext_keep (by simp) (fun k hk => alloc_old _ hk) hl
  rw [hdst]
  refine h.boxw { upd0 (some d) (.cel d []) none with takes := takes, bw := some (d, ⟨ty, v⟩, o', []) } _ _ _ { β with b := fun t => if t = d then w.heap.size else β t } d ⟨ty, v⟩ o' [] (fun d' hd' => by have hd' : some d = some d' := hd'; injection hd' with hd'; subst hd'; exact hd) rfl rfl rfl rfl hext
    (grow_keep h.grow rfl rfl rfl (by simp) (fun k hk _ => alloc_old _ (Nat.lt_of_lt_of_le hk h.grow.size))) (fun k hk _ => ⟨alloc_old _ hk, hl k hk⟩)
    (fun b d' hb => ?_) (fun _ => by simp) hrb cells el (by simp only [if_true]; exact alloc_new _) (hr.mono hext) (by simp [limSet]) (fun d0 h0 => by rw [hno] at h0; cases h0) (fun d' hd' => ?_) src hown hinj
  · have : b ≠ d := fun e => by rw [e, hno] at hb; cases hb
    simp [this]
  · exact ⟨⟨ty, v⟩, by simp [apply], by simp [offs]⟩

theorem ok_box (h : Sim w0 lim0 rb n st a w lim β) (hrb : ∀ k, some k = rb → k < w0.heap.size) (hd : ∀ d, o.dst = some d → d < n) {el : TypeId} {x : Operand} (hop : o.op = .box el x) (hc : stBox tab o el x st = some c) (ho : c.out st = some st') : OpOk P w0 lim0 rb n o st' a w := by
  unfold stBox at hc
  split at hc
  · rename_i ty d hty hdst
    split at hc
    · rename_i v hno hv
      injection hc with hc; subst hc
      obtain ⟨_, rfl⟩ := out_ret ho
      have hr := as_rep hv (h.ent x)
      have he : (execOp a.eval o).run P w = .ok (.value (.pointer (some ⟨w.heap.size, 0, none⟩))) (w.alloc (.cells (a.eval x).cells el)) := by
        simp [execOp, hop, Instr.box, newVar, newRow]
      refine .value he (h.newbox hrb hdst (hd d hdst) hno hr.cells (srcOf x) (fun p hp => ?_) (fun p _ q _ hpq => srcOf_inj x hpq))
      obtain ⟨h1, h2⟩ := owned_mem hp
      have hav : ∀ u, x = .tmp u → (∃ v, (st.env u).av = .dat ty v) ∨ (st.env u).av = .nil := by
        intro u hu; subst hu
        simp only [St.ent] at hv
        cases hk : (st.env u).av with
        | dat t' y =>
          rw [hk] at hv
          obtain ⟨e, _⟩ := cast_some hv
          subst e; exact .inl ⟨y, rfl⟩
        | nil => exact .inr rfl
        | _ => rw [hk] at hv; cases hv
      have hcn : ∀ k, x = .const k → (st.ent x).av = .nil ∨ slicePaths ty = [] := by
        intro k hk; subst hk
        cases hq : (st.ent (.const k)).av with
        | nil => exact .inl rfl
        | dat t' y =>
          rw [hq] at hv
          obtain ⟨e, _⟩ := cast_some hv
          subst e
          have hco : coerce none (st.ent (.const k)).av = .dat t' y := by rw [hq]; rfl
          exact const_own hco |>.imp (fun h => by rw [hq] at h; cases h) id
        | _ => rw [hq] at hv; cases hv
      obtain ⟨e, y, k1, k2, k3⟩ := handed h hav hcn hr h1 h2
      refine ⟨e, y, k1, by simpa using k2, ?_⟩
      rcases k3 with k3 | ⟨k3, k4⟩
      · exact .inl k3
      · exact .inr ⟨mem_takesOf k3 h2 hp, k4⟩
    · cases hc
  · cases hc

theorem ok_alloc (hT : TabOk P tab) (h : Sim w0 lim0 rb n st a w lim β) (hrb : ∀ k, some k = rb → k < w0.heap.size) (hd : ∀ d, o.dst = some d → d < n) {el : TypeId} (hop : o.op = .alloc el) (hc : stAlloc tab o el st = some c) (ho : c.out st = some st') : OpOk P w0 lim0 rb n o st' a w := by
  unfold stAlloc at hc
  split at hc
  · rename_i ty d hty hdst
    split at hc
    · rename_i hno
      injection hc with hc; subst hc
      obtain ⟨_, rfl⟩ := out_ret ho
      have hcl : (wrapV ty (zeroCells ty)).cells = (zeroCells ty).toArray := wrapV_cells (zero_rep w lim ty)
      have he : (execOp a.eval o).run P w = .ok (.value (.pointer (some ⟨w.heap.size, 0, none⟩))) (w.alloc (.cells (zeroCells ty).toArray el)) := by
        simp [execOp, hop, Instr.alloc, run_zeroValue (hT _ _ hty), newVar, newRow, hcl]
      refine .value he (h.newbox hrb hdst (hd d hdst) hno (by simpa using zero_rep w lim ty) (fun p => .tmp 0 p) (fun p hp => ?_) (fun p _ q _ hpq => by injection hpq))
      obtain ⟨⟨e, he1⟩, _⟩ := slicePaths_spec hp
      exact ⟨e, _, he1, by simpa using zero_at he1, .inl rfl⟩
    · cases hc
  · cases hc

/-- what a row of writes leaves -/
structure Wrote (w w' : World) (g : Nat) (ob : Obj) : Prop where
  at_ : w'.heap[g]? = some ob
  other : ∀ k, k ≠ g → w'.heap[k]? = w.heap[k]?
  size : w'.heap.size = w.heap.size
  os : w'.os = w.os
  tape : w'.tape = w.tape
  output : w'.output = w.output

/-- how values are stored into cells, one after the other -/
theorem run_storeCells : ∀ (vs : List Value) (arr : Array Value) (el : TypeId) (fr : Nat × Nat) (g i oo : Nat) (w : World) (c1 c2 c3 : List Value), w.heap[g]? = some (.cells arr el fr) → arr.toList = c1 ++ (c2 ++ c3) → c1.length = oo + i → c2.length = vs.length →
    (∀ v ∈ vs, notAgg v) → (∀ k, k < arr.size → ¬ (fr.1 ≤ k ∧ k < fr.2)) →
    ∃ w', (storeCells ⟨g, oo, none⟩ vs i).run P w = .ok () w' ∧ Wrote w w' g (.cells (c1 ++ (vs ++ c3)).toArray el fr) := by
  intro vs
  induction vs with
  | nil =>
    intro arr el fr g i oo w c1 c2 c3 hg ha hl hl2 _ _
    have : c2 = [] := List.eq_nil_of_length_eq_zero (by simpa using hl2)
    subst this
    refine ⟨w, by simp [storeCells], ?_, fun _ _ => rfl, rfl, rfl, rfl, rfl⟩
    have harr : (c1 ++ ([] ++ c3)).toArray = arr := by apply Array.ext'; simpa using ha.symm
    rw [harr]; exact hg
  | cons v vs ih =>
    intro arr el fr g i oo w c1 c2 c3 hg ha hl hl2 hv hfr
    cases c2 with
    | nil => simp at hl2
    | cons u c2 =>
      have hsz : oo + i < arr.size := by
        have : arr.size = arr.toList.length := by simp
        rw [this, ha]; simp; omega
      have hcell : w.cell? ⟨g, oo + i, none⟩ = some u := by
        simp only [World.cell?, hg]
        have : arr[oo + i]? = arr.toList[oo + i]? := by simp
        simp only [Option.isSome_none, Bool.false_eq_true, if_false]
        rw [this, ha, ← hl]
        simp
      have hfz : w.frozen? ⟨g, oo + i, none⟩ = false := by
        simp only [World.frozen?, hg]
        have := hfr (oo + i) hsz
        obtain ⟨f1, f2⟩ := fr
        simp only at this ⊢
        simpa using this
      have hone : v.oneCell' = true := by
        have := hv v (by simp)
        cases v <;> first | rfl | exact this.elim
      have hlt : g < w.heap.size := (Array.getElem?_eq_some_iff.1 hg).1
      have h1 : (w.setCell ⟨g, oo + i, none⟩ v).heap[g]? = some (.cells (arr.setIfInBounds (oo + i) v) el fr) := by
        simp only [World.setCell, Array.getElem?_modify, hg]
        simp
      have h2 : ∀ k, k ≠ g → (w.setCell ⟨g, oo + i, none⟩ v).heap[k]? = w.heap[k]? := fun k hk => by
        simp only [World.setCell, Array.getElem?_modify, if_neg (Ne.symm hk)]
      have hset : (arr.setIfInBounds (oo + i) v).toList = (c1 ++ [v]) ++ (c2 ++ c3) := by
        simp only [Array.toList_setIfInBounds, ha, ← hl]
        simp
      obtain ⟨w', k1, k2⟩ := ih (arr.setIfInBounds (oo + i) v) el fr g (i + 1) oo (w.setCell ⟨g, oo + i, none⟩ v) (c1 ++ [v]) c2 c3 h1 hset (by simp [hl]; omega) (by simpa using hl2) (fun x hx => hv x (by simp [hx])) (fun k hk => hfr k (by simpa using hk))
      refine ⟨w', ?_, by simpa using k2.at_, fun k hk => (k2.other k hk).trans (h2 k hk), by rw [k2.size]; simp, k2.os, k2.tape, k2.output⟩
      simp only [storeCells, Sem.run_bind, addr_add]
      rw [run_store P w ⟨g, oo + i, none⟩ v .plain hone, hcell]
      simp only [hfz, Bool.false_eq_true, if_false, Result.andThen_ok]
      exact k1

theorem getP_size {t : Ty} {x : t.val} {p : List Nat} {y : Dat} (h : getP t x p = some y) : offs t p + y.1.size ≤ t.size := typeAt_lt (typeAt_getP h)

/-- what AV.as tells of an operand's own slices -/
theorem as_av {x : Operand} {ty : Ty} {v : ty.val} (hv : AV.as ty (st.ent x).av = some v) :
    (∀ u, x = .tmp u → (∃ v, (st.env u).av = .dat ty v) ∨ (st.env u).av = .nil) ∧ (∀ k, x = .const k → (st.ent x).av = .nil ∨ slicePaths ty = []) := by
  refine ⟨fun u hu => ?_, fun k hk => ?_⟩
  · subst hu
    simp only [St.ent] at hv
    cases hk : (st.env u).av with
    | dat t' y =>
      rw [hk] at hv
      obtain ⟨e, _⟩ := cast_some hv
      subst e; exact .inl ⟨y, rfl⟩
    | nil => exact .inr rfl
    | _ => rw [hk] at hv; cases hv
  · subst hk
    cases hq : (st.ent (.const k)).av with
    | nil => exact .inl rfl
    | dat t' y =>
      rw [hq] at hv
      obtain ⟨e, _⟩ := cast_some hv
      subst e
      have hco : coerce none (st.ent (.const k)).av = .dat t' y := by rw [hq]; rfl
      exact const_own hco |>.imp (fun h => by rw [hq] at h; cases h) id
    | _ => rw [hq] at hv; cases hv

theorem ok_store (hT : TabOk P tab) (h : Sim w0 lim0 rb n st a w lim β) (hrb : ∀ k, some k = rb → k < w0.heap.size) (hd : ∀ d, o.dst = some d → d < n) {t : TypeId} {x v : Operand} (hop : o.op = .store t x v) (hc : stStore tab o t x v st = some c) (ho : c.out st = some st') : OpOk P w0 lim0 rb n o st' a w := by
  unfold stStore at hc
  have hx := h.ent x
  -- the write
  have run : ∀ {g : Nat} {cells : Array Value} {e : TypeId} {d : Dat} {p : List Nat} {y : Dat} {z : y.1.val} {d' : d.1.val}, w.heap[g]? = some (.cells cells e (0, 0)) → CRep w lim d.1 d.2 cells.toList → getP d.1 d.2 p = some y → tab t = some y.1 →
      AV.as y.1 (st.ent v).av = some z → setP d.1 d.2 p ⟨y.1, z⟩ = some d' → a.eval x = .pointer (some ⟨g, offs d.1 p, none⟩) →
      ∃ w' c1 c2 c3, (execOp a.eval o).run P w = .ok .skip w' ∧ cells.toList = c1 ++ (c2 ++ c3) ∧ c1.length = offs d.1 p ∧ c2.length = y.1.size ∧ (a.eval v).cells.toList.length = y.1.size ∧
        Wrote w w' g (.cells (c1 ++ ((a.eval v).cells.toList ++ c3)).toArray e (0, 0)) ∧ CRep w lim d.1 d' (c1 ++ ((a.eval v).cells.toList ++ c3)) := by
    intro g cells e d p y z d' hg hr hp ht hz hset he
    obtain ⟨c1, c2, c3, h1, h2, h3, h4⟩ := hr.part hp
    have hv := (as_rep hz (h.ent v)).cells
    obtain ⟨w', k1, k2⟩ := run_storeCells (P := P) (a.eval v).cells.toList cells e (0, 0) g 0 (offs d.1 p) w c1 c2 c3 hg h1 (by omega) (by rw [h3.length, hv.length]) (fun u hu => hv.cells u hu) (fun k _ hk => by omega)
    refine ⟨w', c1, c2, c3, ?_, h1, h2, h3.length, hv.length, k2, h4 z _ d' hv hset⟩
    have hsz : (a.eval v).cells.size = y.1.size := by have := hv.length; simpa using this
    simp only [execOp, hop, Instr.storeAt, Instr.sureAddr, he, Sem.run_bind, Sem.run_pure, Result.andThen_ok, storeVar, run_sizeOf (hT _ _ ht), hsz, ne_eq, not_true_eq_false, if_false]
    simp only [k1, Result.andThen_ok]
  cases hx' : (st.ent x).av with
  | cel b p =>
    rw [hx'] at hc hx
    obtain ⟨d, h1, h2⟩ := hx
    simp only [h1] at hc
    cases hp : getP d.1 d.2 p with
    | none => rw [hp] at hc; cases hc
    | some y =>
      rw [hp] at hc; simp only [] at hc
      cases hty : tyIs (tab t) y.1 with
      | false => rw [hty] at hc; cases hc
      | true =>
        cases hz : AV.as y.1 (st.ent v).av with
        | none => rw [hty, hz] at hc; cases hc
        | some z =>
          rw [hty, hz] at hc; simp only [] at hc
          cases hset : setP d.1 d.2 p ⟨y.1, z⟩ with
          | none => rw [hset] at hc; cases hc
          | some d' =>
            rw [hset] at hc
            injection hc with hc; subst hc
            obtain ⟨_, rfl⟩ := out_ret ho
            obtain ⟨cells, e, m1, m2, m3, m4⟩ := h.box b d h1
            obtain ⟨w', c1, c2, c3, r1, r2, r3, r4, r4', r5, r6⟩ := run m1 m2 hp (tyIs_some hty) hz hset h2
            have hr := as_rep hz (h.ent v)
            have hext : Ext w lim w' lim := ⟨by rw [r5.size]; exact Nat.le_refl _, fun g oo u hg hu hcell => by
              by_cases hgb : g = β b
              · subst hgb; have := hu 0 m4; omega
              · exact (World.cell?_of_block (r5.other g hgb)).trans hcell, fun _ _ _ hu => hu⟩
            refine .skip r1 (h.boxw { upd0 o.dst .skp none with takes := takesOf v (st.owned v (slicePaths y.1)), bw := some (b, ⟨d.1, d'⟩, (st.owned v (slicePaths y.1)).map (p ++ ·), p) } undef w' lim β b ⟨d.1, d'⟩ _ p hd rfl rfl rfl rfl hext
              (grow_keep h.grow r5.os r5.tape r5.output (by rw [r5.size]; exact Nat.le_refl _) (fun k hk _ => r5.other k (by omega))) (fun k _ hk => ⟨r5.other k (hk d h1), rfl⟩) (fun _ _ _ => rfl) (fun hn => by rw [h1] at hn; cases hn) hrb
              _ e r5.at_ (by simpa using r6.mono hext) m4 (fun d0 h0 => ?_) (fun _ _ => rfl) (fun q => srcOf v (q.drop p.length)) (fun q hq => ?_) (fun q hq q' hq' hqq => ?_))
            · rw [h1] at h0; injection h0 with h0; subst h0
              refine ⟨rfl, fun q e' hq hpc => ?_⟩
              have hb := beside hq (typeAt_getP hp) hpc
              have hs1 : (Ty.slice e').size = 1 := rfl
              simp only [World.cell?, r5.at_, m1]
              simp only [Option.isSome_none, Bool.false_eq_true, if_false]
              have e1 : cells[offs d.1 q]? = cells.toList[offs d.1 q]? := by simp
              rw [e1, r2]
              rw [hs1] at hb
              simp only [List.getElem?_toArray]
              rcases hb with hb | hb
              · rw [List.getElem?_append_left (by omega), List.getElem?_append_left (by omega)]
              · rw [List.getElem?_append_right (by omega), List.getElem?_append_right (by omega), List.getElem?_append_right (by omega), List.getElem?_append_right (by omega), r4, r4']
            · obtain ⟨q', hq', rfl⟩ := List.mem_map.1 hq
              obtain ⟨g1, g2⟩ := owned_mem hq'
              obtain ⟨e', u, k1, k2, k3⟩ := handed h (as_av hz).1 (as_av hz).2 hr g1 g2
              have hta : typeAt d.1 (p ++ q') = some (.slice e') ∧ offs d.1 (p ++ q') = offs d.1 p + offs y.1 q' := getP_app hp q' k1
              refine ⟨e', u, hta.1, ?_, ?_⟩
              · rw [hta.2]
                have hlt := (List.getElem?_eq_some_iff.1 k2).1
                simp only [List.getElem?_toArray]
                rw [List.getElem?_append_right (by omega), ← r3, show c1.length + offs y.1 q' - c1.length = offs y.1 q' by omega, List.getElem?_append_left hlt]; exact k2
              · simp only [List.drop_left']
                rcases k3 with k3 | ⟨k3, k4⟩
                · exact .inl k3
                · exact .inr ⟨mem_takesOf k3 g2 hq', k4⟩
            · obtain ⟨q1, _, rfl⟩ := List.mem_map.1 hq
              obtain ⟨q2, _, rfl⟩ := List.mem_map.1 hq'
              simp only [List.drop_left'] at hqq
              rw [srcOf_inj v hqq]
  | rdr p =>
    rw [hx'] at hc hx
    obtain ⟨d, b, h1, h2, h3⟩ := hx
    simp only [h1] at hc
    cases hp : getP d.1 d.2 p with
    | none => rw [hp] at hc; cases hc
    | some y =>
      rw [hp] at hc; simp only [] at hc
      cases hty : tyIs (tab t) y.1 with
      | false => rw [hty] at hc; cases hc
      | true =>
        cases hz : AV.as y.1 (st.ent v).av with
        | none => rw [hty, hz] at hc; cases hc
        | some z =>
          rw [hty, hz] at hc; simp only [] at hc
          cases hset : setP d.1 d.2 p ⟨y.1, z⟩ with
          | none => rw [hset] at hc; cases hc
          | some d' =>
            rw [hset] at hc
            injection hc with hc; subst hc
            obtain ⟨_, rfl⟩ := out_ret ho
            obtain ⟨b', cells, e, m0, m0', m1, m2, m4⟩ := h.rd d h1
            rw [h2] at m0; injection m0 with m0; subst m0
            obtain ⟨w', c1, c2, c3, r1, r2, r3, r4, r4', r5, r6⟩ := run m1 m2 hp (tyIs_some hty) hz hset h3
            have hext : Ext w lim w' lim := ⟨by rw [r5.size]; exact Nat.le_refl _, fun g oo u hg hu hcell => by
              by_cases hgb : g = b
              · subst hgb; have := hu 0 m4; omega
              · exact (World.cell?_of_block (r5.other g hgb)).trans hcell, fun _ _ _ hu => hu⟩
            refine .skip r1 (h.grown { upd0 o.dst .skp none with rd := some ⟨d.1, d'⟩ } undef w' lim hd rfl hext
              (grow_keep h.grow r5.os r5.tape r5.output (by rw [r5.size]; exact Nat.le_refl _) (fun k _ hne => r5.other k (fun e => hne (by rw [e, h2])))) (fun k _ hne _ => ⟨r5.other k (fun e => hne (by rw [e, h2])), rfl⟩) (fun k hk => ⟨hrb k hk, rfl⟩) rfl
              (fun p hp => by cases hp) (fun p hp => by cases hp) rfl (.inr ⟨⟨d.1, d'⟩, d, rfl, h1, rfl, b, _, e, h2, m0', r5.at_, by simpa using r6.mono hext, m4⟩))
  | _ => rw [hx'] at hc; cases hc
end
end Go.Den
