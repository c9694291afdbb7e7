/- Trees of one's own: each operation. -/
import Derived.RegionTactic
import Derived.Tactics
import Derived.Test.YtfdgpkhofjdejaaXDm2
set_option linter.unusedVariables false
set_option linter.unusedSimpArgs false
namespace Go.Den
section
variable {P : Program} {tab : Tab} {G : Gam} {w0 : Base} {lim0 : Lim} {rb : Option Nat} {n : Nat}
variable {st st' : St} {a : Act} {w w' : World} {lim lim' : Lim} {β : Mp} {o : Oper} {c : Comp}

theorem atX_some {r : Tmp} {p : List Nat} {y : Dat} (h : st.atX r p = some y) : ∃ d, st.io r = some d ∧ getP d.1 d.2 p = some y := by
  unfold St.atX at h
  cases hr : st.io r with
  | none => rw [hr] at h; cases h
  | some d =>
    rw [hr] at h; simp only [] at h
    cases hu : isU d.1 with
    | true => rw [hu] at h; cases h
    | false => rw [hu] at h; exact ⟨d, rfl, h⟩
theorem atX_live {r : Tmp} {p : List Nat} {y : Dat} (h : st.atX r p = some y) {d : Dat} (hd : st.io r = some d) : d.1 ≠ .unit := by
  unfold St.atX at h
  rw [hd] at h; simp only [] at h
  intro e
  have hu : isU d.1 = true := by rw [e]; rfl
  rw [hu] at h; cases h
/-- the value at a place of a tree -/
theorem Sim.atX (h : Sim w0 lim0 rb n st a w lim β) {r : Tmp} {p : List Nat} {y : Dat} (hy : st.atX r p = some y) :
    ∃ d Bu, st.io r = some d ∧ getP d.1 d.2 p = some y ∧ typeAt d.1 p = some y.1 ∧ (∀ g, Bu g → β.B r g) ∧ XRep w y.1 y.2 (((flatV (β.V r)).drop (offs d.1 p)).take y.1.size) Bu ∧
      ∀ (w' : World) (z : y.1.val) (x' : d.1.val), setP d.1 d.2 p ⟨y.1, z⟩ = some x' → (∀ g, β.B r g → ¬ Bu g → w'.heap[g]? = w.heap[g]?) → XRep w' y.1 z (((flatV (β.V r)).drop (offs d.1 p)).take y.1.size) Bu → XRep w' d.1 x' (flatV (β.V r)) (β.B r) := by
  obtain ⟨d, h1, h2⟩ := atX_some hy
  have hX := h.xs.io r d h1
  obtain ⟨Bu, k1, k2, k3⟩ := hX.sub h2
  exact ⟨d, Bu, h1, h2, typeAt_getP h2, k1, k2, k3⟩
theorem xf_val (h : Sim w0 lim0 rb n st a w lim β) {x : Operand} {r : Tmp} {p : List Nat} {y : Dat} (hx : (st.ent x).av = .xf r p) (hy : st.atX r p = some y) :
    ∃ d, st.io r = some d ∧ a.eval x = wrapV y.1 (((flatV (β.V r)).drop (offs d.1 p)).take y.1.size) := by
  obtain ⟨d, Bu, h1, h2, h3, _⟩ := h.atX hy
  have := h.ent x
  rw [hx] at this
  obtain ⟨d', k1, k2⟩ := this
  rw [h1] at k1; injection k1 with k1; subst k1
  obtain ⟨u, k2, k3⟩ := k2.resolve_left (atX_live hy h1)
  rw [h3] at k2; injection k2 with k2; subst k2
  exact ⟨d, h1, k3⟩
/-- a slice at a place of a tree: its cell -/
theorem Sim.sliceX (h : Sim w0 lim0 rb n st a w lim β) {r : Tmp} {p : List Nat} {e : Ty} {xs : List e.val} (hy : st.atX r p = some ⟨.slice e, xs⟩) :
    ∃ d, st.io r = some d ∧ getP d.1 d.2 p = some ⟨.slice e, xs⟩ ∧ typeAt d.1 p = some (.slice e) ∧
      ((xs.length = 0 ∧ (flatV (β.V r))[offs d.1 p]? = some (.slice none 0 0)) ∨ ∃ g c arr el fr, (flatV (β.V r))[offs d.1 p]? = some (.slice (some ⟨g, 0, none⟩) xs.length c) ∧ xs.length ≤ c ∧ c * e.size ≤ arr.size ∧ w.heap[g]? = some (.cells arr el fr) ∧
        (∀ o, o < arr.size → ¬ (fr.1 ≤ o ∧ o < fr.2)) ∧ β.B r g) := by
  obtain ⟨d, Bu, h1, h2, h3, h6, h7, h8⟩ := h.atX hy
  refine ⟨d, h1, h2, h3, ?_⟩
  have hcell : ∀ v, (((flatV (β.V r)).drop (offs d.1 p)).take (Ty.slice e).size) = [v] → (flatV (β.V r))[offs d.1 p]? = some v := by
    intro v hv
    have e1 : ((flatV (β.V r)).drop (offs d.1 p))[0]? = some v := by
      have hs : (Ty.slice e).size = 1 := rfl
      rw [hs] at hv
      cases hq : (flatV (β.V r)).drop (offs d.1 p) with
      | nil => rw [hq] at hv; cases hv
      | cons z zs => rw [hq] at hv; simp at hv; rw [hv]; rfl
    simpa using e1
  rcases h7 with ⟨k1, k2, k3⟩ | ⟨g, c, arr, el, fr, Bs, k1, k2, k3, k4, kf, k5, _⟩
  · exact .inl ⟨k2, hcell _ k1⟩
  · exact .inr ⟨g, c, arr, el, fr, hcell _ k1, k2, k3, k4, kf, h6 g ((k5 g).2 (.inl rfl))⟩
theorem zero_xrep (w : World) : ∀ t : Ty, XRep w t t.zero (zeroCells t) (fun _ => False)
  | .int _ => ⟨rfl, fun _ h => h⟩
  | .bool => ⟨rfl, fun _ h => h⟩
  | .str => ⟨rfl, fun _ h => h⟩
  | .unit => ⟨rfl, fun _ h => h⟩
  | .prod a b => ⟨_, _, fun _ => False, fun _ => False, rfl, fun _ => ⟨fun h => h.elim, fun h => h.elim id id⟩, fun _ h => h.elim, zero_xrep w a, zero_xrep w b⟩
  | .slice _ => .inl ⟨rfl, rfl, fun _ h => h⟩

theorem free_some {d : Tmp} {x : Option Tmp} (h : freeD st x = some d) : x = some d ∧ st.io d = none ∧ st.box d = none ∧ st.xb d = none ∧ d ≠ 0 := by
  unfold freeD at h
  cases x with
  | none => cases h
  | some d' =>
    simp only [] at h
    split at h
    · rename_i q1 q2 q3 q4
      injection h with h; subst h
      exact ⟨rfl, q1, q2, q3, fun e => by rw [e] at q4; cases q4⟩
    · cases h
theorem ok_makeX (hT : TabOk P tab) (h : Sim w0 lim0 rb n st a w lim β) (hrb : ∀ k, some k = rb → k < w0.heap.size) (hd : ∀ d, o.dst = some d → d < n) {t : TypeId} {x y : Operand} (hop : o.op = .makeSlice t x y)
    (hc : stMakeX tab o t x y st = some c) (ho : c.out st = some st') : OpOk P w0 lim0 rb n o st' a w := by
  unfold stMakeX at hc
  split at hc
  · rename_i e k l k' m d hty hx hy hfree
    change Int at l
    change Int at m
    injection hc with hc; subst hc
    obtain ⟨hchk, rfl⟩ := out_ret ho
    have q1 := andB_iff.1 hchk
    have q2 := andB_iff.1 q1.2
    have g0 : 0 ≤ l := le0_iff.1 q1.1
    have g1 : l ≤ m := leI_iff.1 q2.1
    have g2 : m < big := ltI_iff.1 q2.2
    unfold big at g2
    obtain ⟨el, h1, h2⟩ := elemTy hT hty
    obtain ⟨i, hi1, hi2, hi3, hi4⟩ := h2.info
    have hzc : (wrapV e (zeroCells e)).cells = (zeroCells e).toArray := wrapV_cells (zero_rep w lim e)
    have hb : (i.bytes : Int) * m ≤ 281474976710656 := by
      have e1 : (i.bytes : Int) * m ≤ 4096 * m := Int.mul_le_mul_of_nonneg_right (by omega) (by omega)
      omega
    have hrun := run_make (P := P) w t el i (wrapV e (zeroCells e)) h1 hi1 hi3 k k' l m g0 g1 hb (by omega)
    have hlen : (repL l e.zero).length = l.toNat := by simp [repL]
    have he : (execOp a.eval o).run P w = .ok (.value (.slice (some ⟨w.heap.size, 0, none⟩) (repL l e.zero).length m.toNat)) (w.alloc (.cells (madeCells (zeroCells e).toArray (m.toNat * e.size)) el)) := by
      simp only [execOp, hop, Sem.run_bind, eval_int h hx, eval_int h hy, hrun, Result.andThen_ok, Sem.run_pure, hi2, hzc, hlen]
    obtain ⟨hdst, hfd, _, _, hd0⟩ := free_some hfree
    have hnew := h.newroot hrb (hd d hdst) hfd hd0 ⟨.slice e, repL l e.zero⟩ (.xf d []) (.slice (some ⟨w.heap.size, 0, none⟩) (repL l e.zero).length m.toNat) (fun g => g = w.heap.size)
      (w' := w.alloc (.cells (madeCells (zeroCells e).toArray (m.toNat * e.size)) el)) (lim' := limSet lim w.heap.size (some 0)) rfl rfl rfl (by simp) (fun k hk => alloc_old _ hk) (fun k hk => by simp [limSet, show k ≠ w.heap.size by omega])
      (.inr ⟨w.heap.size, m.toNat, _, el, (0, 0), fun _ _ => False, rfl, by show (repL l e.zero).length ≤ m.toNat; rw [hlen]; omega, by rw [size_madeCells]; exact Nat.le_refl _, alloc_new _, fun _ _ hk => by simp at hk, fun _ => ⟨fun h => .inl h, fun h => h.elim id (fun ⟨_, h⟩ => h.elim)⟩, fun _ _ h => h.elim, fun _ _ _ h => h.elim, fun j z hj => ?_⟩)
      (fun g hg => ⟨by rw [hg]; exact Nat.le_refl _, by simp [limSet, hg]⟩) (.inl ⟨rfl, rfl⟩)
    · have := OpOk.value (o := o) (lim := limSet lim w.heap.size (some 0)) he (by rw [hdst]; exact hnew)
      exact this
    · have hj : (repL l e.zero)[j]? = some z := hj
      have hjl : j < l.toNat := by have := (List.getElem?_eq_some_iff.1 hj).1; omega
      have hz : z = e.zero := by
        simp only [repL, List.getElem?_replicate, hjl, if_true] at hj
        injection hj with hj; exact hj.symm
      subst hz
      refine ⟨zeroCells e, zero_xrep _ e, fun q v hv => ?_⟩
      have := made_at w e m.toNat (i := j) (by omega) hv
      rw [← Array.getElem?_toList]; exact this
  · cases hc
theorem ok_allocX (hT : TabOk P tab) (h : Sim w0 lim0 rb n st a w lim β) (hrb : ∀ k, some k = rb → k < w0.heap.size) (hd : ∀ d, o.dst = some d → d < n) {el : TypeId} (hop : o.op = .alloc el) (hc : stAllocX tab o el st = some c) (ho : c.out st = some st') : OpOk P w0 lim0 rb n o st' a w := by
  unfold stAllocX at hc
  split at hc
  · rename_i ty d hty hfree
    injection hc with hc; subst hc
    obtain ⟨_, rfl⟩ := out_ret ho
    obtain ⟨hdst, _, _, hx, _⟩ := free_some hfree
    have hcl : (wrapV ty (zeroCells ty)).cells = (zeroCells ty).toArray := wrapV_cells (zero_rep w lim ty)
    have he : (execOp a.eval o).run P w = .ok (.value (.pointer (some ⟨w.heap.size, 0, none⟩))) (w.alloc (.cells (zeroCells ty).toArray el)) := by
      simp [execOp, hop, Instr.alloc, run_zeroValue (hT _ _ hty), newVar, newRow, hcl]
    have hl := (zero_rep w lim ty).length
    refine .value (lim := limSet lim w.heap.size (some 0)) (β := { β with c := fun k => if k = d then w.heap.size else β.c k }) he ?_
    rw [hdst]
    exact h.setxb hrb (some d) (fun d' hd' => by injection hd' with hd'; rw [← hd']; exact hd d hdst) (hrbn := h.xs.rb_none hx) (.cx d []) _ (.inl hx) (fun _ => Nat.le_refl _) rfl rfl rfl (by simp) (fun k hk _ => alloc_old _ hk) (fun k hk => by simp [limSet, show k ≠ w.heap.size by omega])
      (alloc_new _) (by simpa using hl) (by simp [limSet]) (fun r q hrq => by cases hrq) (fun d' hd' => ⟨ty, none, by simp [apply], by
        have : offs ty [] = 0 := by cases ty <;> rfl
        simp [this]⟩)
  · cases hc
theorem ok_boxX (h : Sim w0 lim0 rb n st a w lim β) (hrb : ∀ k, some k = rb → k < w0.heap.size) (hd : ∀ d, o.dst = some d → d < n) {el : TypeId} {x : Operand} {r : Tmp} {p : List Nat} (hop : o.op = .box el x) (hxe : (st.ent x).av = .xf r p)
    (hc : stBoxX tab o el r p st = some c) (ho : c.out st = some st') : OpOk P w0 lim0 rb n o st' a w := by
  unfold stBoxX at hc
  split at hc
  · rename_i ty d y hty hfree hy
    cases hb : Ty.beq y.1 ty with
    | false => rw [hb] at hc; cases hc
    | true =>
      rw [hb] at hc
      injection hc with hc; subst hc
      obtain ⟨_, rfl⟩ := out_ret ho
      have hb := Ty.of_beq hb
      subst hb
      obtain ⟨hdst, _, _, hx, _⟩ := free_some hfree
      obtain ⟨dd, hio, hv⟩ := xf_val h hxe hy
      obtain ⟨d2, Bu, m1, m2, m3, m6, m7, m8⟩ := h.atX hy
      rw [hio] at m1; injection m1 with m1; subst m1
      have hcr : CRep w (fun _ => none) y.1 y.2 (((flatV (β.V r)).drop (offs dd.1 p)).take y.1.size) := m7.crep (fun _ _ => rfl)
      have hcl : (a.eval x).cells = (((flatV (β.V r)).drop (offs dd.1 p)).take y.1.size).toArray := by rw [hv]; exact wrapV_cells hcr
      have he : (execOp a.eval o).run P w = .ok (.value (.pointer (some ⟨w.heap.size, 0, none⟩))) (w.alloc (.cells (a.eval x).cells el)) := by
        simp [execOp, hop, Instr.box, newVar, newRow]
      refine .value (lim := limSet lim w.heap.size (some 0)) (β := { β with c := fun k => if k = d then w.heap.size else β.c k }) he ?_
      rw [hdst]
      exact h.setxb hrb (some d) (fun d' hd' => by injection hd' with hd'; rw [← hd']; exact hd d hdst) (hrbn := h.xs.rb_none hx) (.cx d []) _ (.inl hx) (fun _ => Nat.le_refl _) rfl rfl rfl (by simp) (fun k hk _ => alloc_old _ hk) (fun k hk => by simp [limSet, show k ≠ w.heap.size by omega])
        (alloc_new _) (by rw [hcl]; simpa using hcr.length) (by simp [limSet]) (fun r' q hrq => by
          injection hrq with hrq; injection hrq with e1 e2; subst e1; subst e2
          exact ⟨dd, hio, .inr ⟨m3, by rw [hcl]⟩⟩) (fun d' hd' => ⟨y.1, some (r, p), by simp [apply], by
          have : offs y.1 [] = 0 := by cases y.1 <;> rfl
          simp [this]⟩)
  · cases hc
theorem ok_putX (hT : TabOk P tab) (h : Sim w0 lim0 rb n st a w lim β) (hrb : ∀ k, some k = rb → k < w0.heap.size) (hd : ∀ d, o.dst = some d → d < n) {t : TypeId} {x v : Operand} {b r : Tmp} {q : List Nat} (hop : o.op = .store t x v)
    (hxe : (st.ent x).av = .cx b []) (hve : (st.ent v).av = .xf r q) (hc : stPutX tab o t b r q st = some c) (ho : c.out st = some st') : OpOk P w0 lim0 rb n o st' a w := by
  unfold stPutX at hc
  split at hc
  · rename_i ty y hxb hy hrbn
    cases hty : tyIs (tab t) ty with
    | false => rw [hty] at hc; cases hc
    | true =>
    cases hb : Ty.beq y.1 ty with
    | false => rw [hty, hb] at hc; cases hc
    | true =>
      rw [hty, hb] at hc
      injection hc with hc; subst hc
      obtain ⟨_, rfl⟩ := out_ret ho
      have hb := Ty.of_beq hb
      subst hb
      obtain ⟨dd, hio, hv⟩ := xf_val h hve hy
      obtain ⟨d2, Bu, m1, m2, m3, m6, m7, m8⟩ := h.atX hy
      rw [hio] at m1; injection m1 with m1; subst m1
      have hcr : CRep w (fun _ => none) y.1 y.2 (((flatV (β.V r)).drop (offs dd.1 q)).take y.1.size) := m7.crep (fun _ _ => rfl)
      have hcl : (a.eval v).cells = (((flatV (β.V r)).drop (offs dd.1 q)).take y.1.size).toArray := by rw [hv]; exact wrapV_cells hcr
      obtain ⟨cells, e, k1, k2, k3, k4, _⟩ := h.xs.xb b y.1 none hxb
      have hx := h.ent x
      rw [hxe] at hx
      obtain ⟨t', o', j1, j2⟩ := hx
      rw [hxb] at j1; injection j1 with j1; injection j1 with j1 _; subst j1
      have ho0 : offs y.1 [] = 0 := by cases y.1 <;> rfl
      rw [ho0] at j2
      have hlen := hcr.length
      have hsz : (a.eval v).cells.size = y.1.size := by rw [hcl]; simpa using hlen
      obtain ⟨w', r1, r5⟩ := run_storeCells (P := P) (a.eval v).cells.toList cells e (0, 0) (β.c b) 0 0 w [] cells.toList [] k1 (by simp) rfl (by simpa using (k2.trans hsz.symm)) (fun u hu => by rw [hcl] at hu; exact hcr.cells u (by simpa using hu)) (fun k _ hk => by omega)
      have he : (execOp a.eval o).run P w = .ok .skip w' := by
        simp only [execOp, hop, Instr.storeAt, Instr.sureAddr, j2, Sem.run_bind, Sem.run_pure, Result.andThen_ok, storeVar, run_sizeOf (hT _ _ (tyIs_some hty)), hsz, ne_eq, not_true_eq_false, if_false]
        simp only [r1, Result.andThen_ok]
      have hlt := (Array.getElem?_eq_some_iff.1 k1).1
      have hwa := r5.at_
      simp only [List.nil_append, List.append_nil] at hwa
      refine .skip (lim := lim) (β := { β with c := fun k => if k = b then β.c b else β.c k }) he ?_
      exact h.setxb (hrbn := hrbn) hrb o.dst hd .skp undef (.inr ⟨⟨none, hxb⟩, rfl⟩) (fun hn => by rw [hxb] at hn; cases hn) r5.os r5.tape r5.output (by rw [r5.size]; exact Nat.le_refl _) (fun k _ hne => r5.other k hne) (fun _ _ => rfl)
        hwa (by simpa using hsz) k4 (fun r' q' hrq => by
          injection hrq with hrq; injection hrq with e1 e2; subst e1; subst e2
          exact ⟨dd, hio, .inr ⟨m3, by rw [hcl]⟩⟩) (fun _ _ => rfl)
  · cases hc
theorem xb_rep (h : Sim w0 lim0 rb n st a w lim β) {x : Operand} {b r : Tmp} {p q : List Nat} {ty : Ty} {z y : Dat} (hxe : (st.ent x).av = .cx b p) (hxb : st.xb b = some (ty, some (r, q))) (hz : st.atX r q = some z) (hb : z.1 = ty) (hy : getP z.1 z.2 p = some y) :
    a.eval x = .pointer (some ⟨β.c b, offs z.1 p, none⟩) ∧ ∃ d cells e, st.io r = some d ∧ w.heap[β.c b]? = some (.cells cells e (0, 0)) ∧ CRep w (fun _ => none) z.1 z.2 cells.toList ∧ typeAt d.1 (q ++ p) = some y.1 ∧
      (cells.toList.drop (offs z.1 p)).take y.1.size = ((flatV (β.V r)).drop (offs d.1 (q ++ p))).take y.1.size := by
  subst hb
  have hx := h.ent x
  rw [hxe] at hx
  obtain ⟨t', o', j1, j2⟩ := hx
  rw [hxb] at j1; injection j1 with j1; injection j1 with j1 _; subst j1
  refine ⟨j2, ?_⟩
  obtain ⟨d, Bu, m1, m2, m3, m6, m7, m8⟩ := h.atX hz
  obtain ⟨cells, e, k1, k2, k3, k4, k5⟩ := h.xs.xb b _ _ hxb
  obtain ⟨d', n1, n2⟩ := k5 r q rfl
  rw [m1] at n1; injection n1 with n1; subst n1
  obtain ⟨n2, n3⟩ := n2.resolve_left (atX_live hz m1)
  obtain ⟨g1, g2⟩ := getP_app m2 p (typeAt_getP hy)
  refine ⟨d, cells, e, m1, k1, by rw [n3]; exact m7.crep (fun _ _ => rfl), g1, ?_⟩
  have hlt := typeAt_lt (typeAt_getP hy)
  rw [n3, g2, ← List.drop_drop, List.drop_take, List.take_take, Nat.min_eq_left (by omega)]
theorem ok_loadR (hT : TabOk P tab) (h : Sim w0 lim0 rb n st a w lim β) (hd : ∀ d, o.dst = some d → d < n) {t : TypeId} {x : Operand} {b : Tmp} {p : List Nat} {ty : Ty} (hop : o.op = .load t x) (hxe : (st.ent x).av = .cx b p) (hxb : st.xb b = some (ty, none))
    (hc : stLoadR tab o t b p st = some c) (ho : c.out st = some st') : OpOk P w0 lim0 rb n o st' a w := by
  unfold stLoadR at hc
  split at hc
  · rename_i d ps hrbb
    obtain ⟨_, he, cells, el, m1, m2, m3, m4⟩ := run_loadR hT h hxe hxb hrbb
    have mcell : ∀ j, w.cell? ⟨β.c b, j, none⟩ = cells.toList[j]? := fun j => by simp [World.cell?, m1]
    split at hc
    · rename_i r q hpart
      cases hat : st.atX r q with
      | none => rw [hat] at hc; cases hc
      | some y =>
        rw [hat] at hc; simp only [] at hc
        cases hty : tyIs (tab t) y.1 with
        | false => rw [hty] at hc; cases hc
        | true =>
          rw [hty] at hc; simp only [cnd_true] at hc
          injection hc with hc; subst hc
          obtain ⟨_, rfl⟩ := out_ret ho
          obtain ⟨dr, hio, hor⟩ := m4 p r q (partAtX_mem hpart)
          obtain ⟨dd, Bu, a1, a2, a3, a4, a5, _⟩ := h.atX hat
          rw [hio] at a1; injection a1 with a1; subst a1
          obtain ⟨u, b1, b2, b3⟩ := hor.resolve_left (atX_live hat hio)
          rw [a3] at b2; injection b2 with b2; subst b2
          have hcr := a5.crep (lim := fun _ => none) (fun _ _ => rfl)
          rw [← b3] at hcr
          have hm : ∀ j v, ((cells.toList.drop (offs d.1 p)).take y.1.size)[j]? = some v → w.cell? ⟨β.c b, offs d.1 p + j, none⟩ = some v := by
            intro j v hv
            rw [mcell]
            have hj := (List.getElem?_eq_some_iff.1 hv).1
            rw [List.length_take] at hj
            rw [List.getElem?_take_of_lt (by omega), List.getElem?_drop] at hv
            exact hv
          have hrun : (execOp a.eval o).run P w = .ok (.value (wrapV y.1 ((cells.toList.drop (offs d.1 p)).take y.1.size))) w := by
            simp [execOp, hop, Instr.loadAt, Instr.sureAddr, he, run_loadVar (hT _ _ (tyIs_some hty)) hcr hm]
          exact .value hrun (h.plain _ _ _ hd ⟨dr, hio, .inr ⟨y.1, a3, by rw [b3]⟩⟩)
    · rename_i hpart
      cases hfar : farPs p ps with
      | false => rw [hfar] at hc; cases hc
      | true =>
        rw [hfar] at hc; simp only [cnd_true] at hc
        cases hy : getP d.1 d.2 p with
        | none => rw [hy] at hc; cases hc
        | some y =>
          rw [hy] at hc; simp only [] at hc
          cases hty : tyIs (tab t) y.1 with
          | false => rw [hty] at hc; cases hc
          | true =>
            rw [hty] at hc; simp only [cnd_true] at hc
            obtain ⟨vc, v1, v2, v3⟩ := m3
            have hvc := v1.crep (w := w) (lim := lim)
            obtain ⟨c1, c2, c3, e1, e2, e3, _⟩ := hvc.part hy
            have hpt := typeAt_getP hy
            have hm : ∀ j v, c2[j]? = some v → w.cell? ⟨β.c b, offs d.1 p + j, none⟩ = some v := by
              intro j v hv
              have hj := (List.getElem?_eq_some_iff.1 hv).1
              have hl := e3.length
              rw [mcell, v3 _ (fun p' r q u hp' hu => ?_)]
              · rw [e1, ← e2, List.getElem?_append_right (by omega), show c1.length + j - c1.length = j by omega, List.getElem?_append_left hj]; exact hv
              · have hf := farPs_far hfar p' r q hp'
                have := beside hpt hu hf
                omega
            have hrun : (execOp a.eval o).run P w = .ok (.value (wrapV y.1 c2)) w := by
              simp [execOp, hop, Instr.loadAt, Instr.sureAddr, he, run_loadVar (hT _ _ (tyIs_some hty)) e3 hm]
            cases hns : noSl y.1 with
            | true =>
              rw [hns] at hc; simp only [cnd_true] at hc
              injection hc with hc; subst hc
              obtain ⟨_, rfl⟩ := out_ret ho
              exact .value hrun (h.plain _ _ _ hd ⟨c2, e3, rfl⟩)
            | false =>
              rw [hns] at hc; simp only [cnd_false] at hc
              cases hsl : isSlT y.1 with
              | false => rw [hsl] at hc; cases hc
              | true =>
                rw [hsl] at hc; simp only [cnd_true] at hc
                injection hc with hc; subst hc
                obtain ⟨_, rfl⟩ := out_ret ho
                obtain ⟨yt, yv⟩ := y
                obtain ⟨e', rfl⟩ : ∃ e', yt = .slice e' := by cases yt <;> first | exact ⟨_, rfl⟩ | cases hsl
                have hn := v1.nil_at hpt
                have hl : c2.length = 1 := e3.length
                obtain ⟨v0, rfl⟩ := List.length_eq_one_iff.1 hl
                have : v0 = .slice none 0 0 := by
                  rw [e1, ← e2, List.getElem?_append_right (Nat.le_refl _), Nat.sub_self] at hn
                  simpa using hn
                subst this
                exact .value hrun (h.plain _ _ _ hd rfl)
  · cases hc
theorem ok_loadX (hT : TabOk P tab) (h : Sim w0 lim0 rb n st a w lim β) (hd : ∀ d, o.dst = some d → d < n) {t : TypeId} {x : Operand} {b : Tmp} {p : List Nat} (hop : o.op = .load t x) (hxe : (st.ent x).av = .cx b p)
    (hc : stLoadX tab o t b p st = some c) (ho : c.out st = some st') : OpOk P w0 lim0 rb n o st' a w := by
  unfold stLoadX at hc
  split at hc
  · rename_i ty r q hxb
    cases hz : st.atX r q with
    | none => rw [hz] at hc; cases hc
    | some z =>
      rw [hz] at hc; simp only [] at hc
      cases hb : Ty.beq z.1 ty with
      | false => rw [hb] at hc; cases hc
      | true =>
        cases hy : getP z.1 z.2 p with
        | none => rw [hb, hy] at hc; cases hc
        | some y =>
          rw [hb, hy] at hc; simp only [] at hc
          cases hty : tyIs (tab t) y.1 with
          | false => rw [hty] at hc; cases hc
          | true =>
            rw [hty] at hc; simp only [cnd_true] at hc
            obtain ⟨he, d, cells, e, m1, m3, m4, m5, m6⟩ := xb_rep h hxe hxb hz (Ty.of_beq hb) hy
            obtain ⟨c1, c2, c3, q1, q2, q3, _⟩ := m4.part hy
            have hm : ∀ j u, c2[j]? = some u → w.cell? ⟨β.c b, offs z.1 p + j, none⟩ = some u := by
              intro j u hu
              simp only [World.cell?, m3]
              rw [← q2]
              simp only [Option.isSome_none, Bool.false_eq_true, if_false]
              rw [← Array.getElem?_toList, q1, List.getElem?_append_right (by omega)]
              rw [show c1.length + j - c1.length = j by omega, List.getElem?_append_left (List.getElem?_eq_some_iff.1 hu).1]
              exact hu
            have hrun : (execOp a.eval o).run P w = .ok (.value (wrapV y.1 c2)) w := by
              simp [execOp, hop, Instr.loadAt, Instr.sureAddr, he, run_loadVar (hT _ _ (tyIs_some hty)) q3 hm]
            have hc2 : (cells.toList.drop (offs z.1 p)).take y.1.size = c2 := by
              rw [q1, ← q2, List.drop_left, ← q3.length, List.take_left]
            cases hns : noSl y.1 with
            | true =>
              rw [hns] at hc
              injection hc with hc; subst hc
              obtain ⟨_, rfl⟩ := out_ret ho
              exact .value hrun (h.plain _ _ _ hd ⟨c2, (CRep_noSl hns).2 ((CRep_noSl hns).1 q3), rfl⟩)
            | false =>
              rw [hns] at hc
              injection hc with hc; subst hc
              obtain ⟨_, rfl⟩ := out_ret ho
              exact .value hrun (h.plain _ _ _ hd ⟨d, m1, .inr ⟨y.1, m5, by rw [← m6, hc2]⟩⟩)
  · rename_i ty hxb; exact ok_loadR hT h hd hop hxe hxb hc ho
  · cases hc
theorem dropPs_mem {p : List Nat} : ∀ {ps qs : List (List Nat × Tmp × List Nat)}, dropPs p ps = some qs → (∀ x ∈ qs, x ∈ ps ∧ pcomp p x.1 = false) ∧ ∀ x ∈ ps, x.1 = p ∨ x ∈ qs
  | [], qs, h => by injection h with h; subst h; exact ⟨fun _ hx => (by cases hx), fun _ hx => (by cases hx)⟩
  | (p', r, q) :: ps, qs, h => by
    simp only [dropPs] at h
    cases hd : dropPs p ps with
    | none => rw [hd] at h; cases h
    | some qs' =>
      obtain ⟨k1, k2⟩ := dropPs_mem hd
      rw [hd] at h; simp only [] at h
      cases hb : pbeq p p' with
      | true =>
        rw [hb] at h; simp only [cnd_true] at h
        injection h with h; subst h
        have := pbeq_iff.1 hb
        subst this
        refine ⟨fun x hx => ⟨List.mem_cons_of_mem _ (k1 x hx).1, (k1 x hx).2⟩, fun x hx => ?_⟩
        rcases List.mem_cons.1 hx with rfl | hx
        · exact .inl rfl
        · exact k2 x hx
      | false =>
        rw [hb] at h; simp only [cnd_false] at h
        cases hc : pcomp p p' with
        | true => rw [hc] at h; cases h
        | false =>
          rw [hc] at h; simp only [cnd_false] at h
          injection h with h; subst h
          refine ⟨fun x hx => ?_, fun x hx => ?_⟩
          · rcases List.mem_cons.1 hx with rfl | hx
            · exact ⟨List.mem_cons_self, hc⟩
            · exact ⟨List.mem_cons_of_mem _ (k1 x hx).1, (k1 x hx).2⟩
          · rcases List.mem_cons.1 hx with rfl | hx
            · exact .inr List.mem_cons_self
            · rcases k2 x hx with h | h
              · exact .inl h
              · exact .inr (List.mem_cons_of_mem _ h)
theorem ok_partR (hT : TabOk P tab) (h : Sim w0 lim0 rb n st a w lim β) (hrb : ∀ k, some k = rb → k < w0.heap.size) (hd : ∀ d, o.dst = some d → d < n) {t : TypeId} {x v : Operand} {b r : Tmp} {p q : List Nat} (hop : o.op = .store t x v)
    (hxe : (st.ent x).av = .cx b p) (hve : (st.ent v).av = .xf r q) (hc : stPartR tab o t b p r q st = some c) (ho : c.out st = some st') : OpOk P w0 lim0 rb n o st' a w := by
  unfold stPartR at hc
  split at hc
  · rename_i ty d ps hxb hrbb
    split at hc
    · rename_i y z qs hy hz hqs
      cases hty : tyIs (tab t) y.1 with
      | false => rw [hty] at hc; cases hc
      | true =>
      cases hb : Ty.beq z.1 y.1 with
      | false => rw [hty, hb] at hc; cases hc
      | true =>
        rw [hty, hb] at hc
        injection hc with hc; subst hc
        obtain ⟨_, rfl⟩ := out_ret ho
        have hb := Ty.of_beq hb
        obtain ⟨e0, he, cells, el, m1, m2, m3, m4⟩ := run_loadR hT h hxe hxb hrbb
        obtain ⟨dd, hio, hv⟩ := xf_val h hve hz
        obtain ⟨d2, Bu, a1, a2, a3, a4, a5, _⟩ := h.atX hz
        rw [hio] at a1; injection a1 with a1; subst a1
        have hcr := a5.crep (lim := fun _ => none) (fun _ _ => rfl)
        have hlen := hcr.length
        have hpt := typeAt_getP hy
        have hple := typeAt_lt hpt
        have hcl : (a.eval v).cells = (((flatV (β.V r)).drop (offs dd.1 q)).take z.1.size).toArray := by rw [hv]; exact wrapV_cells hcr
        have hsz : (a.eval v).cells.size = y.1.size := by rw [hcl, ← hb]; simpa using hlen
        have hcl2 : (a.eval v).cells.toList = ((flatV (β.V r)).drop (offs dd.1 q)).take z.1.size := by rw [hcl]
        have hvl : (a.eval v).cells.toList.length = y.1.size := by simpa using hsz
        have hcsz : cells.toList.length = d.1.size := by simpa using m2
        have hsplit : cells.toList = cells.toList.take (offs d.1 p) ++ ((cells.toList.drop (offs d.1 p)).take y.1.size ++ cells.toList.drop (offs d.1 p + y.1.size)) := by
          rw [← List.drop_drop, List.take_append_drop, List.take_append_drop]
        obtain ⟨w', r1, r5⟩ := run_storeCells (P := P) (a.eval v).cells.toList cells el (0, 0) (β.c b) 0 (offs d.1 p) w (cells.toList.take (offs d.1 p)) ((cells.toList.drop (offs d.1 p)).take y.1.size) (cells.toList.drop (offs d.1 p + y.1.size)) m1 hsplit
          (by rw [List.length_take]; omega) (by rw [List.length_take, List.length_drop, hvl]; omega) (fun u hu => hcr.cells u (by rw [hcl2] at hu; exact hu)) (fun k _ hk => by omega)
        have hex : (execOp a.eval o).run P w = .ok .skip w' := by
          simp only [execOp, hop, Instr.storeAt, Instr.sureAddr, he, Sem.run_bind, Sem.run_pure, Result.andThen_ok, storeVar, run_sizeOf (hT _ _ (tyIs_some hty)), hsz, ne_eq, not_true_eq_false, if_false]
          simp only [r1, Result.andThen_ok]
        have htl : (cells.toList.take (offs d.1 p)).length = offs d.1 p := by rw [List.length_take]; omega
        have hout : ∀ j, (j < offs d.1 p ∨ offs d.1 p + y.1.size ≤ j) → (cells.toList.take (offs d.1 p) ++ ((a.eval v).cells.toList ++ cells.toList.drop (offs d.1 p + y.1.size)))[j]? = cells.toList[j]? := by
          intro j hj
          rcases hj with hj | hj
          · rw [List.getElem?_append_left (by omega), List.getElem?_take_of_lt hj]
          · rw [List.getElem?_append_right (by omega), List.getElem?_append_right (by omega), List.getElem?_drop]
            congr 1; omega
        have hlen2 : (cells.toList.take (offs d.1 p) ++ ((a.eval v).cells.toList ++ cells.toList.drop (offs d.1 p + y.1.size))).length = d.1.size := by
          rw [List.length_append, List.length_append, htl, hvl, List.length_drop]; omega
        obtain ⟨qm1, qm2⟩ := dropPs_mem hqs
        refine .skip (lim := lim) (β := β) hex (h.setrb hrb hd hxb e0 r5 (by rw [List.size_toArray, hlen2, e0]) ⟨?_, fun p' r' q' hp' => ?_⟩)
        · obtain ⟨vc, v1, v2, v3⟩ := m3
          refine ⟨vc, v1, by rw [v2, hcsz, hlen2], fun j hj => ?_⟩
          have hjp := hj p r q y.1 List.mem_cons_self hpt
          rw [hout j (by omega)]
          refine v3 j fun p' r' q' u hp' hu hju => ?_
          rcases qm2 _ hp' with hpe | hin
          · have hpe : p' = p := hpe
            subst hpe
            rw [hpt] at hu; injection hu with hu; subst hu
            exact hjp hju
          · exact hj p' r' q' u (List.mem_cons_of_mem _ hin) hu hju
        · rcases List.mem_cons.1 hp' with hp' | hp'
          · injection hp' with e1 e2; injection e2 with e2 e3; subst e1; subst e2; subst e3
            refine ⟨dd, hio, .inr ⟨y.1, hpt, by rw [a3, hb], ?_⟩⟩
            show ((cells.toList.take (offs d.1 p') ++ ((a.eval v).cells.toList ++ cells.toList.drop (offs d.1 p' + y.1.size))).drop (offs d.1 p')).take y.1.size = _
            rw [List.drop_left' htl, List.take_left' hvl, hcl2, hb]
          · obtain ⟨hin, hfar⟩ := qm1 _ hp'
            obtain ⟨dr, g1, g2⟩ := m4 p' r' q' hin
            refine ⟨dr, g1, ?_⟩
            rcases g2 with g2 | ⟨u, g2, g3, g4⟩
            · exact .inl g2
            · refine .inr ⟨u, g2, g3, ?_⟩
              rw [← g4]
              apply List.ext_getElem?
              intro j
              have hbs := beside hpt g2 hfar
              by_cases hj : j < u.size
              · show (((cells.toList.take (offs d.1 p) ++ ((a.eval v).cells.toList ++ cells.toList.drop (offs d.1 p + y.1.size))).drop (offs d.1 p')).take u.size)[j]? = _
                rw [List.getElem?_take_of_lt hj, List.getElem?_take_of_lt hj, List.getElem?_drop, List.getElem?_drop]
                exact hout _ (by omega)
              · rw [List.getElem?_eq_none (by rw [List.length_take]; omega), List.getElem?_eq_none (by rw [List.length_take]; omega)]
    · cases hc
  · cases hc
theorem ok_fieldAddrR (hT : TabOk P tab) (h : Sim w0 lim0 rb n st a w lim β) (hd : ∀ d, o.dst = some d → d < n) {s : TypeId} {x : Operand} {f : Nat} {b : Tmp} {p : List Nat} {ty : Ty} (hop : o.op = .fieldAddr s x f) (hxe : (st.ent x).av = .cx b p) (hxb : st.xb b = some (ty, none))
    (hc : stFieldAddrR tab o s b p f st = some c) (ho : c.out st = some st') : OpOk P w0 lim0 rb n o st' a w := by
  unfold stFieldAddrR at hc
  split at hc
  · rename_i d ps hrbb
    cases hy : getP d.1 d.2 p with
    | none => rw [hy] at hc; cases hc
    | some y =>
      rw [hy] at hc; simp only [] at hc
      cases hty : tyIs (tab s) y.1 with
      | false => rw [hty] at hc; cases hc
      | true =>
        cases hf : getF y.1 y.2 f with
        | none => rw [hty, hf] at hc; cases hc
        | some u =>
          rw [hty, hf] at hc
          injection hc with hc; subst hc
          obtain ⟨_, rfl⟩ := out_ret ho
          obtain ⟨e0, he, _⟩ := run_loadR hT h hxe hxb hrbb
          refine .value (by simp [execOp, hop, he, run_fieldAt hT (tyIs_some hty) hf] <;> rfl) (h.plain _ _ _ hd ⟨ty, _, hxb, ?_⟩)
          subst e0
          rw [(getP_snoc hy hf).2]
  · cases hc
theorem ok_fieldAddrC (hT : TabOk P tab) (h : Sim w0 lim0 rb n st a w lim β) (hd : ∀ d, o.dst = some d → d < n) {s : TypeId} {x : Operand} {f : Nat} {b : Tmp} {p : List Nat} (hop : o.op = .fieldAddr s x f) (hxe : (st.ent x).av = .cx b p)
    (hc : stFieldAddrC tab o s b p f st = some c) (ho : c.out st = some st') : OpOk P w0 lim0 rb n o st' a w := by
  unfold stFieldAddrC at hc
  split at hc
  · rename_i ty r q hxb
    cases hz : st.atX r q with
    | none => rw [hz] at hc; cases hc
    | some z =>
      rw [hz] at hc; simp only [] at hc
      cases hb : Ty.beq z.1 ty with
      | false => rw [hb] at hc; cases hc
      | true =>
        cases hy : getP z.1 z.2 p with
        | none => rw [hb, hy] at hc; cases hc
        | some y =>
          rw [hb, hy] at hc; simp only [] at hc
          cases hty : tyIs (tab s) y.1 with
          | false => rw [hty] at hc; cases hc
          | true =>
            cases hf : getF y.1 y.2 f with
            | none => rw [hty, hf] at hc; cases hc
            | some u =>
              rw [hty, hf] at hc
              injection hc with hc; subst hc
              obtain ⟨_, rfl⟩ := out_ret ho
              obtain ⟨he, _⟩ := xb_rep h hxe hxb hz (Ty.of_beq hb) hy
              refine .value (by simp [execOp, hop, he, run_fieldAt hT (tyIs_some hty) hf] <;> rfl) (h.plain _ _ _ hd ⟨ty, _, hxb, ?_⟩)
              have := Ty.of_beq hb
              subst this
              rw [(getP_snoc hy hf).2]
  · rename_i ty hxb; exact ok_fieldAddrR hT h hd hop hxe hxb hc ho
  · cases hc
theorem xp_rep (h : Sim w0 lim0 rb n st a w lim β) {x : Operand} {r : Tmp} {p q : List Nat} {k : Int} {e : Ty} {xs : List e.val} (hxe : (st.ent x).av = .xp r p k q) (hy : st.atX r p = some ⟨.slice e, xs⟩) :
    ∃ g m cc d, st.io r = some d ∧ 0 ≤ k ∧ (flatV (β.V r))[offs d.1 p]? = some (.slice (some ⟨g, 0, none⟩) m cc) ∧ a.eval x = .pointer (some ⟨g, k.toNat * e.size + offs e q, none⟩) := by
  have hx := h.ent x
  rw [hxe] at hx
  obtain ⟨d, k1, k2⟩ := hx
  obtain ⟨e', g, m, cc, k2, k3, k4, k5⟩ := k2.resolve_left (atX_live hy k1)
  obtain ⟨d', _, m1, _, m3, _⟩ := h.atX hy
  rw [k1] at m1; injection m1 with m1; subst m1
  rw [k2] at m3; injection m3 with m3; injection m3 with m3; subst m3
  exact ⟨g, m, cc, d, k1, k3, k4, k5⟩
theorem ok_loadP (hT : TabOk P tab) (h : Sim w0 lim0 rb n st a w lim β) (hd : ∀ d, o.dst = some d → d < n) {t : TypeId} {x : Operand} {r : Tmp} {p q : List Nat} {k : Int} (hop : o.op = .load t x) (hxe : (st.ent x).av = .xp r p k q)
    (hc : stLoadP tab o t r p k q st = some c) (ho : c.out st = some st') : OpOk P w0 lim0 rb n o st' a w := by
  unfold stLoadP at hc
  split at hc
  · rename_i e xs hr hio
    change List e.val at xs
    have hr := nbeq hr
    subst hr
    cases hy : getP e (atL (α := e.val) xs k e.zero) q with
    | none => rw [hy] at hc; cases hc
    | some y =>
      rw [hy] at hc; simp only [] at hc
      cases hty : tyIs (tab t) y.1 with
      | false => rw [hty] at hc; cases hc
      | true =>
      cases hsl : isSlT y.1 with
      | false => rw [hty, hsl] at hc; cases hc
      | true =>
        rw [hty, hsl] at hc; simp only [] at hc
        injection hc with hc; subst hc
        obtain ⟨hrr, rfl⟩ := out_ret ho
        have hrr := inRange hrr
        have hat : st.atX 0 [] = some ⟨.slice e, xs⟩ := by
          unfold St.atX; rw [hio]; rfl
        obtain ⟨g0, m0, cc0, dd, k1, k2, k3, k4⟩ := xp_rep h hxe hat
        rw [hio] at k1; injection k1 with k1; subst k1
        have k3 : (flatV (β.V 0))[0]? = some (.slice (some ⟨g0, 0, none⟩) m0 cc0) := k3
        have hX := h.xs.io 0 _ hio
        obtain ⟨hBg, hml⟩ := hX.head k3
        have hkl : k.toNat < xs.length := by omega
        have hget : atL xs k e.zero = xs[k.toNat] := by simp [atL, hkl]
        rw [hget] at hy
        have hel : xs[k.toNat]? = some xs[k.toNat] := List.getElem?_eq_getElem hkl
        obtain ⟨g', c', arr, el, fr, c2, Bu, q1, q2, q3, q4, qf, q5, q6, q7, q8, q9, q10⟩ := XRep.putEl (xs := xs) hX hel hy
        have hgg : g' = g0 := by
          rw [q1] at k3
          injection k3 with hV; injection hV with hV; injection hV with hV; injection hV
        subst hgg
        obtain ⟨yt, yv⟩ := y
        obtain ⟨e', rfl⟩ : ∃ e', yt = .slice e' := by cases yt <;> first | exact ⟨_, rfl⟩ | cases hsl
        have hkm : k.toNat < m0 := by rw [hml]; exact hkl
        have hcell := h.xs.kx _ hio e q e' g' m0 cc0 k.toNat rfl (typeAt_getP hy) k3 hkm
        obtain ⟨v0, rfl⟩ : ∃ v0, c2 = [v0] := List.length_eq_one_iff.1 q6
        have hcr := q8.crep (lim := fun _ => none) (fun _ _ => rfl)
        have hv0 := q9 0 v0 rfl
        rw [Nat.add_zero] at hv0
        have hvK : v0 = β.K k.toNat q := by
          simp only [World.cell?, q4, Option.isSome_none, Bool.false_eq_true, if_false] at hcell
          rw [hv0] at hcell
          injection hcell
        have hrun : (execOp a.eval o).run P w = .ok (.value v0) w := by
          have := run_loadVar (P := P) (w := w) (hT _ _ (tyIs_some hty)) hcr (b := g') (o := k.toNat * e.size + offs e q) (fun j u hu => by
            have := q9 j u hu
            simp only [World.cell?, q4, Option.isSome_none, Bool.false_eq_true, if_false]
            exact this)
          simp [execOp, hop, Instr.loadAt, Instr.sureAddr, k4, this, wrapV]
        exact .value hrun (h.plain _ _ _ hd ⟨_, hio, hvK, hrr.1, g', m0, cc0, k3, hkm⟩)
  · cases hc
theorem ok_fieldAddrX (hT : TabOk P tab) (h : Sim w0 lim0 rb n st a w lim β) (hd : ∀ d, o.dst = some d → d < n) {s : TypeId} {x : Operand} {f : Nat} {r : Tmp} {p q : List Nat} {k : Int} (hop : o.op = .fieldAddr s x f) (hxe : (st.ent x).av = .xp r p k q)
    (hc : stFieldAddrX tab o s r p k q f st = some c) (ho : c.out st = some st') : OpOk P w0 lim0 rb n o st' a w := by
  unfold stFieldAddrX at hc
  split at hc
  · rename_i e xs hat
    change List e.val at xs
    cases hy : getP e (atL (α := e.val) xs k e.zero) q with
    | none => rw [hy] at hc; cases hc
    | some y =>
      rw [hy] at hc; simp only [] at hc
      cases hty : tyIs (tab s) y.1 with
      | false => rw [hty] at hc; cases hc
      | true =>
        cases hf : getF y.1 y.2 f with
        | none => rw [hty, hf] at hc; cases hc
        | some u =>
          rw [hty, hf] at hc
          injection hc with hc; subst hc
          obtain ⟨_, rfl⟩ := out_ret ho
          obtain ⟨g, m, cc, d, k1, k2, k3, k4⟩ := xp_rep h hxe hat
          obtain ⟨d', _, m1, _, m3, _⟩ := h.atX hat
          rw [k1] at m1; injection m1 with m1; subst m1
          refine .value (by simp [execOp, hop, k4, run_fieldAt hT (tyIs_some hty) hf] <;> rfl) (h.plain _ _ _ hd ⟨d, k1, .inr ⟨e, g, m, cc, m3, k2, k3, ?_⟩⟩)
          rw [(getP_snoc hy hf).2, Nat.add_assoc]
  · cases hc
theorem ok_indexAddrX (hT : TabOk P tab) (h : Sim w0 lim0 rb n st a w lim β) (hd : ∀ d, o.dst = some d → d < n) {t : TypeId} {x i : Operand} {r : Tmp} {p : List Nat} (hop : o.op = .indexAddr t x i) (hxe : (st.ent x).av = .xf r p)
    (hc : stIndexAddrX tab o t r p i st = some c) (ho : c.out st = some st') : OpOk P w0 lim0 rb n o st' a w := by
  unfold stIndexAddrX at hc
  split at hc
  · rename_i e xs k m hat hi
    change List e.val at xs
    change Int at m
    cases hty : tyIs (tab t) (.slice e) with
    | false => rw [hty] at hc; cases hc
    | true =>
      rw [hty] at hc
      injection hc with hc; subst hc
      obtain ⟨hr, rfl⟩ := out_ret ho
      have hr := inRange hr
      have hm := eval_int h hi
      obtain ⟨d, hio, hv⟩ := xf_val h hxe hat
      obtain ⟨d', m1, m2, m3, m5⟩ := h.sliceX hat
      rw [hio] at m1; injection m1 with m1; subst m1
      obtain ⟨el, h1, h2⟩ := elemTy hT (tyIs_some hty)
      rcases m5 with ⟨m5, _⟩ | ⟨g, cc, arr, el', fr, m5, _⟩
      · exfalso; have : xs.length = 0 := m5; omega
      · have hv' : a.eval x = .slice (some ⟨g, 0, none⟩) xs.length cc := by
          rw [hv]
          have hlt := (List.getElem?_eq_some_iff.1 m5).1
          have : ((flatV (β.V r)).drop (offs d.1 p)).take (Ty.slice e).size = [.slice (some ⟨g, 0, none⟩) xs.length cc] := by
            have hs : (Ty.slice e).size = 1 := rfl
            have hv2 := (List.getElem?_eq_some_iff.1 m5).2
            rw [hs, List.drop_eq_getElem_cons hlt, hv2]; rfl
          rw [this]; rfl
        refine .value (v := .pointer (some ⟨g, m.toNat * e.size, none⟩)) ?_ (h.plain _ _ _ hd ⟨d, hio, .inr ⟨e, g, _, cc, m3, hr.1, m5, ?_⟩⟩)
        · simp [execOp, hop, hv', hm, Instr.indexAt, asIntOf, underlying, h1, run_sizeOf h2, hr.1, hr.2, addr_add]
        · have : offs e [] = 0 := by cases e <;> rfl
          rw [this]; rfl
  · cases hc
theorem ok_lenX (hT : TabOk P tab) (h : Sim w0 lim0 rb n st a w lim β) (hd : ∀ d, o.dst = some d → d < n) {t : TypeId} {x : Operand} {cl : Call} {r : Tmp} {p : List Nat} (hop : o.op = .call cl) (hcal : cl.callee = .builtin .len) (ha : cl.args = #[x]) (hat : cl.argTypes = #[t]) (hxe : (st.ent x).av = .xf r p)
    (hc : stLenX tab o t r p st = some c) (ho : c.out st = some st') : OpOk P w0 lim0 rb n o st' a w := by
  unfold stLenX at hc
  split at hc
  · rename_i e xs hy
    change List e.val at xs
    cases hty : tyIs (tab t) (.slice e) with
    | false => rw [hty] at hc; cases hc
    | true =>
      rw [hty] at hc
      injection hc with hc; subst hc
      obtain ⟨_, rfl⟩ := out_ret ho
      obtain ⟨el, h1, h2⟩ := elemTy hT (tyIs_some hty)
      obtain ⟨d, hio, hv⟩ := xf_val h hxe hy
      obtain ⟨d2, Bu, m1, m2, m3, m6, m7, m8⟩ := h.atX hy
      rw [hio] at m1; injection m1 with m1; subst m1
      have : ∃ ad cc, a.eval x = .slice ad xs.length cc := by
        rw [hv]
        rcases m7 with ⟨k1, k2, _⟩ | ⟨g, cc, arr, e', fr, Bs, k1, _⟩
        · have k2 : xs.length = 0 := k2
          rw [k1, k2]; exact ⟨_, _, rfl⟩
        · rw [k1]; exact ⟨_, _, rfl⟩
      obtain ⟨ad, cc, hv⟩ := this
      refine .value (v := .int .i64 (lenL xs)) ?_ (h.plain _ _ _ hd mk_int)
      simp [execOp, hop, resolve, hcal, ha, hat, invoke, builtin, Builtin.len_, underlying, h1, hv, goInt, lenL]
  · cases hc
end
end Go.Den

namespace Go.Den
section
variable {P : Program} {tab : Tab} {G : Gam} {w0 : Base} {lim0 : Lim} {rb : Option Nat} {n : Nat}
variable {st st' : St} {a : Act} {w w' : World} {lim lim' : Lim} {β : Mp} {o : Oper} {c : Comp}

theorem noSl_noTy : ∀ {t : Ty} {q : List Nat} {e : Ty}, noSl t = true → typeAt t q = some (.slice e) → False := by
  intro t
  induction t with
  | prod a b iha ihb =>
    intro q e hn h
    simp only [noSl] at hn
    cases ha : noSl a with
    | false => rw [ha] at hn; cases hn
    | true =>
      rw [ha] at hn
      cases q with
      | nil => simp only [typeAt] at h; cases h
      | cons i q => cases i with
        | zero => exact iha ha (by simpa [typeAt] using h)
        | succ i => exact ihb hn (by simpa [typeAt] using h)
  | slice u _ => intro q e hn h; cases hn
  | int k => intro q e hn h; cases q <;> simp [typeAt] at h
  | bool => intro q e hn h; cases q <;> simp [typeAt] at h
  | str => intro q e hn h; cases q <;> simp [typeAt] at h
  | unit => intro q e hn h; cases q <;> simp [typeAt] at h
theorem noSl_beside : ∀ {t : Ty} {x : t.val} {q : List Nat} {y : Dat}, getP t x q = some y → noSl y.1 = true → ∀ {q' : List Nat} {e' : Ty}, typeAt t q' = some (.slice e') → offs t q' + 1 ≤ offs t q ∨ offs t q + y.1.size ≤ offs t q' := by
  intro t
  induction t with
  | prod a b iha ihb =>
    intro x q y hy hn q' e' hq
    cases q with
    | nil => simp only [getP] at hy; injection hy with hy; subst hy; exact (noSl_noTy hn hq).elim
    | cons i q =>
      cases q' with
      | nil => simp only [typeAt] at hq; cases hq
      | cons j q' =>
        simp only [getP] at hy
        cases i with
        | zero =>
          simp only [getF] at hy
          have hl := typeAt_lt (typeAt_getP hy)
          cases j with
          | zero => simpa [offs] using iha hy hn (by simpa [typeAt] using hq)
          | succ j => right; simp only [offs]; omega
        | succ i =>
          simp only [getF] at hy
          cases hg : getF b x.2 i with
          | none => rw [hg] at hy; cases hy
          | some d =>
            have hy' : getP b x.2 (i :: q) = some y := by simp only [getP, hg]; rw [hg] at hy; exact hy
            cases j with
            | zero =>
              have hl := typeAt_lt (show typeAt a q' = some (.slice e') by simpa [typeAt] using hq)
              have : (Ty.slice e').size = 1 := rfl
              left; simp only [offs]; omega
            | succ j =>
              have := ihb hy' hn (show typeAt b (j :: q') = some (.slice e') by simpa [typeAt] using hq)
              simp only [offs]; omega
  | slice u _ => intro x q y hy hn q' e' hq; cases q with
    | nil => simp only [getP] at hy; injection hy with hy; subst hy; cases hn
    | cons i q => simp [getP, getF] at hy
  | int k => intro x q y hy hn q' e' hq; cases q' <;> simp [typeAt] at hq
  | bool => intro x q y hy hn q' e' hq; cases q' <;> simp [typeAt] at hq
  | str => intro x q y hy hn q' e' hq; cases q' <;> simp [typeAt] at hq
  | unit => intro x q y hy hn q' e' hq; cases q' <;> simp [typeAt] at hq
/-- a value is stored into an element of a tree -/
theorem store_core (hT : TabOk P tab) (h : Sim w0 lim0 rb n st a w lim β) {t : TypeId} {x v : Operand} {r : Tmp} {p q : List Nat} {k : Int} (hop : o.op = .store t x v) (hxe : (st.ent x).av = .xp r p k q)
    {e : Ty} {xs : List e.val} {d : Dat} (hio : st.io r = some d) (hat : st.atX r p = some ⟨.slice e, xs⟩) (hr : 0 ≤ k ∧ k < xs.length) {y : Dat} (hy : getP e (atL xs k e.zero) q = some y) (hty : tyIs (tab t) y.1 = true)
    (hlen : (a.eval v).cells.size = y.1.size) (hna : ∀ u ∈ (a.eval v).cells.toList, notAgg u) :
    ∃ w' g ob, ∃ Bu : Nat → Prop, (execOp a.eval o).run P w = .ok .skip w' ∧ Wrote w w' g ob ∧ β.B r g ∧ (∀ b, Bu b → β.B r b ∧ b ≠ g) ∧ (noSl y.1 = true → ∀ b, ¬ Bu b) ∧
      (∀ (z : y.1.val) (x' : e.val) (d' : d.1.val) (Bv : Nat → Prop), setP e (atL xs k e.zero) q ⟨y.1, z⟩ = some x' → setP d.1 d.2 p ⟨.slice e, setL xs k x'⟩ = some d' → (∀ b, Bv b → β.B r b → Bu b) → XRep w' y.1 z (a.eval v).cells.toList Bv →
        XRep w' d.1 d' (flatV (β.V r)) (fun b => (β.B r b ∧ ¬ Bu b) ∨ Bv b)) ∧
      (∀ j, (j < k.toNat * e.size + offs e q ∨ k.toNat * e.size + offs e q + y.1.size ≤ j) → w'.cell? ⟨g, j, none⟩ = w.cell? ⟨g, j, none⟩) ∧ ∃ m c, (flatV (β.V r))[offs d.1 p]? = some (.slice (some ⟨g, 0, none⟩) m c) := by
  obtain ⟨g0, m0, cc0, dd, k1, k2, k3, k4⟩ := xp_rep h hxe hat
  rw [hio] at k1; injection k1 with k1; subst k1
  obtain ⟨d2, h1, h2⟩ := atX_some hat
  rw [hio] at h1; injection h1 with h1; subst h1
  obtain ⟨b1, b2, b3, B1, j1, j2, jl, j3, j4, j5⟩ := (h.xs.io r d hio).sub' h2
  have hkl : k.toNat < xs.length := by omega
  have hget : atL xs k e.zero = xs[k.toNat] := by simp [atL, hkl]
  rw [hget] at hy ⊢
  have hel : xs[k.toNat]? = some xs[k.toNat] := List.getElem?_eq_getElem hkl
  obtain ⟨g, c, arr, el, fr, c2, Bu, q1, q2, q3, q4, qf, q5, q6, q7, q8, q9, q10⟩ := XRep.putEl (xs := xs) j4 hel hy
  have hs1 : (Ty.slice e).size = 1 := rfl
  have hg : g0 = g := by
    have hb2 : b2 = [.slice (some ⟨g, 0, none⟩) xs.length c] := q1
    rw [j1, ← j2, List.getElem?_append_right (by omega), Nat.sub_self, hb2] at k3
    simp at k3
    exact k3.1.symm
  subst hg
  have hyl := getP_size hy
  have hbound : (k.toNat + 1) * e.size ≤ arr.size := Nat.le_trans (Nat.mul_le_mul_right _ (by omega)) q3
  rw [Nat.succ_mul] at hbound
  have hal : arr.toList.length = arr.size := by simp
  have hsplit : arr.toList = arr.toList.take (k.toNat * e.size + offs e q) ++ (c2 ++ arr.toList.drop (k.toNat * e.size + offs e q + y.1.size)) := by
    apply List.ext_getElem?
    intro j
    by_cases hj1 : j < k.toNat * e.size + offs e q
    · rw [List.getElem?_append_left (by rw [List.length_take]; omega), List.getElem?_take_of_lt hj1]
    · rw [List.getElem?_append_right (by rw [List.length_take]; omega)]
      have hlt : (arr.toList.take (k.toNat * e.size + offs e q)).length = k.toNat * e.size + offs e q := by rw [List.length_take]; omega
      rw [hlt]
      by_cases hj2 : j < k.toNat * e.size + offs e q + y.1.size
      · rw [List.getElem?_append_left (by omega)]
        obtain ⟨i, rfl⟩ : ∃ i, j = k.toNat * e.size + offs e q + i := ⟨j - (k.toNat * e.size + offs e q), by omega⟩
        have := q9 i _ (List.getElem?_eq_getElem (by omega))
        rw [Array.getElem?_toList, this, show k.toNat * e.size + offs e q + i - (k.toNat * e.size + offs e q) = i by omega, List.getElem?_eq_getElem (by omega)]
      · rw [List.getElem?_append_right (by omega), List.getElem?_drop]
        congr 1; omega
  have hlt0 : (arr.toList.take (k.toNat * e.size + offs e q)).length = k.toNat * e.size + offs e q + 0 := by
    rw [List.length_take]; omega
  have hvl : (a.eval v).cells.toList.length = y.1.size := by simpa using hlen
  obtain ⟨w', r1, r5⟩ := run_storeCells (P := P) (a.eval v).cells.toList arr el fr g0 0 (k.toNat * e.size + offs e q) w _ c2 _ q4 hsplit hlt0 (by rw [q6, hvl]) hna qf
  have he : (execOp a.eval o).run P w = .ok .skip w' := by
    simp only [execOp, hop, Instr.storeAt, Instr.sureAddr, k4, Sem.run_bind, Sem.run_pure, Result.andThen_ok, storeVar, run_sizeOf (hT _ _ (tyIs_some hty)), hlen, ne_eq, not_true_eq_false, if_false]
    simp only [r1, Result.andThen_ok]
  have hsz2 : ((arr.toList.take (k.toNat * e.size + offs e q) ++ ((a.eval v).cells.toList ++ arr.toList.drop (k.toNat * e.size + offs e q + y.1.size))).toArray).size = arr.size := by
    have h2 := congrArg List.length hsplit
    simp only [List.length_append, List.size_toArray] at h2 ⊢
    omega
  have hout : ∀ j, (j < k.toNat * e.size + offs e q ∨ k.toNat * e.size + offs e q + y.1.size ≤ j) →
      (arr.toList.take (k.toNat * e.size + offs e q) ++ ((a.eval v).cells.toList ++ arr.toList.drop (k.toNat * e.size + offs e q + y.1.size))).toArray[j]? = arr[j]? := by
    intro j hj
    have hlt : (arr.toList.take (k.toNat * e.size + offs e q)).length = k.toNat * e.size + offs e q := by rw [List.length_take]; omega
    rw [List.getElem?_toArray, ← Array.getElem?_toList]
    rcases hj with hj | hj
    · rw [List.getElem?_append_left (by omega), List.getElem?_take_of_lt hj]
    · rw [List.getElem?_append_right (by omega), List.getElem?_append_right (by omega), List.getElem?_drop]
      congr 1; omega
  refine ⟨w', g0, _, Bu, he, r5, j3 _ q5, fun b hb => ⟨j3 b (q7 b hb).1, (q7 b hb).2⟩, fun hns b hb => ((XRep_noSl hns).1 q8).2 b hb, fun z x' d' Bv hs1 hs2 hdis hXv => ?_, fun j hj => ?_, m0, cc0, k3⟩
  rotate_left
  · have := hout j hj
    simp only [World.cell?, r5.at_, q4, this]
  have hsl : setL xs k x' = xs.set k.toNat x' := rfl
  have hX1 := q10 w' z x' (a.eval v).cells.toList Bv _ hs1 (fun b hb hne _ => r5.other b hne) r5.at_ hsz2 (fun j hj => ?_) (fun j u hu => ?_) (fun b hb hb2 => hdis b hb (j3 b hb2)) hXv
  · have := j5 w' (xs.set k.toNat x') d' b2 _ hs2 (fun b hb hn => r5.other b (fun e' => hn (by rw [e']; exact q5))) (fun b hb hb2 => ?_) hX1
    · rw [← j1] at this
      refine this.congr fun b => ⟨fun hb => ?_, fun hb => ?_⟩
      · rcases hb with ⟨hb, hn⟩ | hb
        · by_cases hb1 : B1 b
          · exact .inr (.inl ⟨hb1, hn⟩)
          · exact .inl ⟨hb, hb1⟩
        · exact .inr (.inr hb)
      · rcases hb with ⟨hb, hn⟩ | ⟨hb, hn⟩ | hb
        · exact .inl ⟨hb, fun hb1 => hn (q7 b hb1).1⟩
        · exact .inl ⟨j3 b hb, hn⟩
        · exact .inr hb
    · rcases hb with ⟨hb, _⟩ | hb
      · exact hb
      · exact (q7 b (hdis b hb hb2)).1
  · have hlt : (arr.toList.take (k.toNat * e.size + offs e q)).length = k.toNat * e.size + offs e q := by rw [List.length_take]; omega
    rw [List.getElem?_toArray, ← Array.getElem?_toList]
    rcases hj with hj | hj
    · rw [List.getElem?_append_left (by omega), List.getElem?_take_of_lt hj]
    · rw [List.getElem?_append_right (by omega), List.getElem?_append_right (by omega), List.getElem?_drop]
      congr 1; omega
  · have hlt : (arr.toList.take (k.toNat * e.size + offs e q)).length = k.toNat * e.size + offs e q := by rw [List.length_take]; omega
    have hj := (List.getElem?_eq_some_iff.1 hu).1
    rw [List.getElem?_toArray, List.getElem?_append_right (by omega), List.getElem?_append_left (by omega), ← hu]
    congr 1; omega
theorem ok_storeX (hT : TabOk P tab) (h : Sim w0 lim0 rb n st a w lim β) (hrb : ∀ k, some k = rb → k < w0.heap.size) (hd : ∀ d, o.dst = some d → d < n) {t : TypeId} {x v : Operand} {r : Tmp} {p q : List Nat} {k : Int} (hop : o.op = .store t x v) (hxe : (st.ent x).av = .xp r p k q)
    (hc : stStoreX tab o t r p k q v st = some c) (ho : c.out st = some st') : OpOk P w0 lim0 rb n o st' a w := by
  unfold stStoreX at hc
  split at hc
  · rename_i d e xs hio hat
    change List e.val at xs
    cases hy : getP e (atL (α := e.val) xs k e.zero) q with
    | none => rw [hy] at hc; cases hc
    | some y =>
      rw [hy] at hc; simp only [] at hc
      cases hty : tyIs (tab t) y.1 with
      | false => rw [hty] at hc; cases hc
      | true =>
      cases hns : noSl y.1 with
      | false => rw [hty, hns] at hc; cases hc
      | true =>
      cases hz : AV.as y.1 (st.ent v).av with
      | none => rw [hty, hns, hz] at hc; cases hc
      | some z =>
        rw [hty, hns, hz] at hc; simp only [] at hc
        cases hs1 : setP e (atL (α := e.val) xs k e.zero) q ⟨y.1, z⟩ with
        | none => rw [hs1] at hc; cases hc
        | some x' =>
          rw [hs1] at hc; simp only [] at hc
          cases hs2 : setP d.1 d.2 p ⟨.slice e, setL (α := e.val) xs k x'⟩ with
          | none => rw [hs2] at hc; cases hc
          | some d' =>
            rw [hs2] at hc
            injection hc with hc; subst hc
            obtain ⟨hr, rfl⟩ := out_ret ho
            have hr := inRange hr
            have hv := (as_rep hz (h.ent v)).cells
            have hvl := hv.length
            obtain ⟨w', g, ob, Bu, he, r5, c1, c2, c3, c4, c5, m1, cc1, c6⟩ := store_core hT h hop hxe hio hat hr hy hty (by simpa using hvl) (fun u hu => hv.cells u hu)
            have hX := c4 z x' d' (fun _ => False) hs1 hs2 (fun _ hb => hb.elim) ((XRep_noSl hns).2 ⟨(CRep_noSl hns).1 hv, fun _ hb => hb⟩)
            refine .skip (lim := lim) he (h.setroot (d' := ⟨d.1, d'⟩) hrb hd hio rfl .skp undef r5.os r5.tape r5.output (by rw [r5.size]; exact Nat.le_refl _) (fun j _ hn => r5.other j (fun e => hn (by rw [e]; exact c1))) (fun _ _ => rfl)
              (hX.congr fun b => ⟨fun hb => .inl ⟨hb, c3 hns b⟩, fun hb => hb.elim (·.1) (·.elim)⟩) (fun _ _ => rfl) (fun hr0 e1 q1 e' g' m' c' k' he1 hq1 hV hk1 => ?_))
            subst hr0
            obtain ⟨hp0, hee⟩ : p = [] ∧ e1 = e := by
              have h1 := (atX_some hat)
              obtain ⟨d2, h1, h2⟩ := h1
              rw [hio] at h1; injection h1 with h1; subst h1
              obtain ⟨dt, dv⟩ := d
              simp only at he1 h2
              subst he1
              cases p with
              | nil => simp only [getP] at h2; injection h2 with h2; injection h2 with h2; injection h2 with h2; exact ⟨rfl, h2⟩
              | cons i p => simp only [getP, getF] at h2; cases h2
            subst hp0; subst hee
            rw [he1] at c6
            rw [show offs (.slice e1) [] = 0 by rfl, hV] at c6
            injection c6 with c6; injection c6 with c6; injection c6 with c6; injection c6 with c6
            subst c6
            refine c5 _ ?_
            have hb := noSl_beside hy hns hq1
            have hq2 := typeAt_lt hq1
            have hy2 := typeAt_lt (typeAt_getP hy)
            have hs1 : (Ty.slice e').size = 1 := rfl
            rw [hs1] at hq2
            rcases Nat.lt_trichotomy k' k.toNat with hlt | heq | hgt
            · left
              have := Nat.mul_le_mul_right e1.size (show k' + 1 ≤ k.toNat by omega)
              rw [Nat.succ_mul] at this
              omega
            · subst heq; omega
            · right
              have := Nat.mul_le_mul_right e1.size (show k.toNat + 1 ≤ k' by omega)
              rw [Nat.succ_mul] at this
              omega
  · cases hc

theorem TupSh.part : ∀ {t : Ty} {vs : List Value} {x : t.val} {i : Nat} {d : Dat}, TupSh t vs → getF t x i = some d → ∃ v, vs[i]? = some v ∧ v = wrapV d.1 (((vs.flatMap fun v => v.cells.toList).drop (offs t [i])).take d.1.size) := by
  intro t
  induction t with
  | prod p q _ ihq =>
    intro vs x i d h hf
    obtain ⟨v, vs', cs, rfl, h1, h2, h3, h4⟩ := h
    cases i with
    | zero =>
      simp only [getF] at hf; injection hf with hf; subst hf
      refine ⟨v, rfl, ?_⟩
      have : offs (.prod p q) [0] = 0 := by cases p <;> rfl
      rw [this]
      simp only [List.flatMap_cons, List.drop_zero]
      rw [h3, ← h1, List.take_left]; exact h2
    | succ i =>
      simp only [getF] at hf
      obtain ⟨u, k1, k2⟩ := ihq h4 hf
      refine ⟨u, by simpa using k1, ?_⟩
      simp only [List.flatMap_cons, offs]
      rw [h3, ← h1, ← List.drop_drop, List.drop_left]; exact k2
  | _ => intro vs x i d h hf; cases hf
theorem ok_extractX (h : Sim w0 lim0 rb n st a w lim β) (hd : ∀ d, o.dst = some d → d < n) {x : Operand} {i : Nat} {r : Tmp} (hop : o.op = .extract x i) (hxe : (st.ent x).av = .xt r) (hc : stExtractX o r i st = some c) (ho : c.out st = some st') : OpOk P w0 lim0 rb n o st' a w := by
  unfold stExtractX at hc
  have hx := h.ent x
  rw [hxe] at hx
  obtain ⟨d, hx2, hxx⟩ := hx
  rw [hx2] at hc; simp only [] at hc
  cases hf : getF d.1 d.2 i with
  | none => rw [hf] at hc; cases hc
  | some y =>
    obtain ⟨hx1, vs, hx3, hx4⟩ := hxx.resolve_left (fun e => by
      obtain ⟨dt, dv⟩ := d
      simp only at e hf
      subst e; cases hf)
    rw [hf] at hc; simp only [] at hc
    obtain ⟨u, k1, k2⟩ := hx4.part hf
    have hfl : flatV (β.V r) = vs.flatMap fun v => v.cells.toList := by rw [← hx1, hx3]; simp [flatV]
    rw [← hfl] at k2
    have he : (execOp a.eval o).run P w = .ok (.value u) w := by
      simp [execOp, hop, hx3, Instr.extract, k1]
    have hp : getP d.1 d.2 [i] = some y := by simp [getP, hf]
    have hX := h.xs.io r d hx2
    obtain ⟨Bu, m1, m2⟩ := hX.field hf
    cases hns : noSl y.1 with
    | true =>
      rw [hns] at hc
      injection hc with hc; subst hc
      obtain ⟨_, rfl⟩ := out_ret ho
      have hcr := m2.crep (lim := fun _ => none) (fun _ _ => rfl)
      exact .value he (h.plain _ _ _ hd ⟨_, (CRep_noSl hns).2 ((CRep_noSl hns).1 hcr), k2⟩)
    | false =>
      rw [hns] at hc
      injection hc with hc; subst hc
      obtain ⟨_, rfl⟩ := out_ret ho
      exact .value he (h.plain _ _ _ hd ⟨d, hx2, .inr ⟨y.1, typeAt_getP hp, k2⟩⟩)
end
end Go.Den

namespace Go.Den
section
variable {P : Program} {tab : Tab} {G : Gam} {w0 : Base} {lim0 : Lim} {rb : Option Nat} {n : Nat}
variable {st st' : St} {a : Act} {w w' : World} {lim lim' : Lim} {β : Mp} {o : Oper} {c : Comp}

open Classical in
/-- while a call runs, what stands in trees may be seen -/
noncomputable def limX (st : St) (β : Mp) (lim : Lim) : Lim := fun g => if isTree st β g then none else lim g
theorem ext_limX : Ext w lim w (limX st β lim) :=
  ⟨Nat.le_refl _, fun _ _ _ _ _ h => h, fun b m _ hu k hk => by
    unfold limX at hk
    split at hk
    · cases hk
    · exact hu k hk⟩
theorem argX_rep (h : Sim w0 lim0 rb n st a w lim β) (x : Operand) : ERep st w (limX st β lim) β rb (argX st (st.ent x).av) (a.eval x) := by
  have hm : ∀ {av : AV}, ERep st w lim β rb av (a.eval x) → ERep st w (limX st β lim) β rb av (a.eval x) := fun hv =>
    hv.mono ext_limX (fun b d hb => ⟨rfl, d, hb, rfl⟩) (fun d hd => ⟨d, hd, rfl⟩) (fun r d hr => ⟨d, hr, rfl, rfl⟩) (fun b t o hb => ⟨⟨o, hb⟩, rfl⟩)
  have hx := h.ent x
  cases hav : (st.ent x).av with
  | xf r p =>
    simp only [argX]
    cases hy : st.atX r p with
    | none => trivial
    | some y =>
      obtain ⟨d, hio, hv⟩ := xf_val h hav hy
      obtain ⟨d2, Bu, m1, m2, m3, m6, m7, m8⟩ := h.atX hy
      rw [hio] at m1; injection m1 with m1; subst m1
      exact ⟨_, m7.crep (fun g hg => by unfold limX; rw [if_pos (.inl ⟨r, d, hio, m6 g hg⟩)]), hv⟩
  | _ => rw [hav] at hx; exact hm hx

theorem CRep.relim {l1 l2 : Lim} : ∀ {t : Ty} {x : t.val} {cs : List Value}, CRep w l1 t x cs → flatT t = true →
    (∀ p ∈ slicePaths t, ∀ v, cs[offs t p]? = some v → ∀ g, blockOf v = some g → l2 g = l1 g) → CRep w l2 t x cs := by
  intro t
  induction t with
  | int k => intro x cs h _ _; exact h
  | bool => intro x cs h _ _; exact h
  | str => intro x cs h _ _; exact h
  | unit => intro x cs h _ _; exact h
  | slice e _ =>
    intro xs cs h hf hl
    obtain ⟨ad, cc, h1, h2, h3⟩ := h
    subst h1
    refine ⟨ad, cc, rfl, h2, ?_⟩
    rcases h3 with h3 | ⟨b, oo, q1, q2, q3, q4⟩
    · exact .inl h3
    · subst q1
      have := hl [] (slice_path0 e) _ (by simp [offs]; rfl) b rfl
      refine .inr ⟨b, oo, rfl, q2, fun m hm => q3 m (by rw [← this]; exact hm), fun i x hx => ?_⟩
      obtain ⟨ds, k1, k2⟩ := q4 i x hx
      exact ⟨ds, (CRep_noSl hf).2 ((CRep_noSl hf).1 k1), k2⟩
  | prod p q ihp ihq =>
    intro x cs h hf hl
    obtain ⟨c1, c2, rfl, h1, h2⟩ := h
    obtain ⟨f1, f2⟩ := flat_prod hf
    have l1' := h1.length
    refine ⟨c1, c2, rfl, ihp h1 f1 (fun r hr v hv g hg => ?_), ?_⟩
    · refine hl (0 :: r) (by simp only [slicePaths]; exact List.mem_append_left _ (List.mem_map.2 ⟨r, hr, rfl⟩)) v ?_ g hg
      simp only [offs]
      rw [List.getElem?_append_left (List.getElem?_eq_some_iff.1 hv).1]; exact hv
    · rcases f2 with ⟨q1, q2, rfl, f2⟩ | rfl
      · refine ihq h2 f2 (fun r hr v hv g hg => ?_)
        cases r with
        | nil => exact absurd rfl ((slicePaths_spec hr).2 rfl)
        | cons i r =>
          refine hl ((i + 1) :: r) (by rw [slicePaths]; exact List.mem_append_right _ (List.mem_map.2 ⟨i :: r, hr, rfl⟩)) v ?_ g hg
          simp only [offs]
          rw [List.getElem?_append_right (by omega), l1', show p.size + offs (.prod q1 q2) (i :: r) - p.size = offs (.prod q1 q2) (i :: r) by omega]; exact hv
      · exact h2
theorem CRep.relimN {l1 l2 : Lim} : ∀ {t : Ty} {x : t.val} {cs : List Value}, CRep w l1 t x cs → nestT t = true →
    (∀ p ∈ slicePaths t, ∀ T v, typeAt t p = some T → cs[offs t p]? = some v → ∀ g, Blk w T v g → l2 g = l1 g) → CRep w l2 t x cs := by
  intro t
  induction t with
  | int k => intro x cs h _ _; exact h
  | bool => intro x cs h _ _; exact h
  | str => intro x cs h _ _; exact h
  | unit => intro x cs h _ _; exact h
  | slice e _ =>
    intro xs cs h hf hl
    obtain ⟨ad, cc, h1, h2, h3⟩ := h
    subst h1
    refine ⟨ad, cc, rfl, h2, ?_⟩
    rcases h3 with h3 | ⟨b, oo, q1, q2, q3, q4⟩
    · exact .inl h3
    · subst q1
      have := hl [] (slice_path0 e) (.slice e) (.slice (some ⟨b, oo, none⟩) (List.length (α := e.val) xs) cc) rfl (by simp [offs]) b rfl
      refine .inr ⟨b, oo, rfl, q2, fun m hm => q3 m (by rw [← this]; exact hm), fun i x hx => ?_⟩
      obtain ⟨ds, k1, k2⟩ := q4 i x hx
      refine ⟨ds, ?_, k2⟩
      cases hns : noSl e with
      | true => exact (CRep_noSl hns).2 ((CRep_noSl hns).1 k1)
      | false =>
        have hfl : flatT e = true := by simp only [nestT, hns] at hf; exact hf
        have hsp : slicePaths (.slice e) = [[], [0]] := by simp [slicePaths, hns, hfl]
        refine k1.relim hfl (fun p hp v hv g hg => ?_)
        obtain ⟨e', he'⟩ := flat_plain hfl hp
        refine hl [0] (by rw [hsp]; simp) (.prod (.slice e) .unit) (.slice (some ⟨b, oo, none⟩) (List.length (α := e.val) xs) cc) rfl (by simp [offs]) g ⟨i, p, e', v, he', ?_, hg⟩
        have hi : i < List.length (α := e.val) xs := (List.getElem?_eq_some_iff.1 hx).1
        simp only [elemAt, hi, if_true]
        exact k2 _ v hv
  | prod p q ihp ihq =>
    intro x cs h hf hl
    obtain ⟨c1, c2, rfl, h1, h2⟩ := h
    obtain ⟨f1, f2⟩ := nest_prod hf
    have l1' := h1.length
    refine ⟨c1, c2, rfl, ihp h1 f1 (fun r hr T v ht hv g hg => ?_), ?_⟩
    · refine hl (0 :: r) (by simp only [slicePaths]; exact List.mem_append_left _ (List.mem_map.2 ⟨r, hr, rfl⟩)) T v (by simp only [typeAt]; exact ht) ?_ g hg
      simp only [offs]
      rw [List.getElem?_append_left (List.getElem?_eq_some_iff.1 hv).1]; exact hv
    · rcases f2 with ⟨q1, q2, rfl, f2⟩ | rfl
      · refine ihq h2 f2 (fun r hr T v ht hv g hg => ?_)
        cases r with
        | nil => exact absurd rfl ((slicePaths_spec hr).2 rfl)
        | cons i r =>
          refine hl ((i + 1) :: r) (by rw [slicePaths]; exact List.mem_append_right _ (List.mem_map.2 ⟨i :: r, hr, rfl⟩)) T v (by simp only [typeAt]; exact ht) ?_ g hg
          simp only [offs]
          rw [List.getElem?_append_right (by omega), l1', show p.size + offs (.prod q1 q2) (i :: r) - p.size = offs (.prod q1 q2) (i :: r) by omega]; exact hv
      · exact h2
theorem tup_iff : ∀ {t : Ty} {x : t.val} {vs : List Value}, TupRep w lim t x vs ↔ (TupSh t vs ∧ CRep w lim t x (vs.flatMap fun v => v.cells.toList)) := by
  intro t
  induction t with
  | unit => intro x vs; constructor
            · intro h; have h : vs = [] := h; subst h; exact ⟨rfl, rfl⟩
            · intro h; exact h.1
  | prod p q _ ihq =>
    intro x vs
    constructor
    · rintro ⟨v, vs', rfl, ⟨cs, h1, h2⟩, h3⟩
      obtain ⟨k1, k2⟩ := ihq.1 h3
      have hcl : v.cells.toList = cs := by rw [h2, wrapV_cells h1]
      refine ⟨⟨v, vs', cs, rfl, h1.length, h2, hcl, k1⟩, cs, _, ?_, h1, k2⟩
      simp only [List.flatMap_cons]; rw [hcl]
    · rintro ⟨⟨v, vs', cs, rfl, h1, h2, h3, h4⟩, c1, c2, k1, k2, k3⟩
      simp only [List.flatMap_cons] at k1
      rw [h3] at k1
      obtain ⟨e1, e2⟩ := List.append_inj k1 (by rw [h1, k2.length])
      subst e1; subst e2
      exact ⟨v, vs', rfl, ⟨cs, k2, h2⟩, ihq.2 ⟨h4, k3⟩⟩
  | int k => intro x vs; exact ⟨fun h => h.elim, fun h => h.1.elim⟩
  | bool => intro x vs; exact ⟨fun h => h.elim, fun h => h.1.elim⟩
  | str => intro x vs; exact ⟨fun h => h.elim, fun h => h.1.elim⟩
  | slice e => intro x vs; exact ⟨fun h => h.elim, fun h => h.1.elim⟩
theorem allIn_spec : ∀ {ps qs : List (List Nat)}, allIn ps qs = true → ∀ p ∈ ps, p ∈ qs
  | [], _, _, p, hp => by cases hp
  | r :: ps, qs, h, p, hp => by
    simp only [allIn] at h
    cases hr : inPaths r qs with
    | false => rw [hr] at h; cases h
    | true =>
      rw [hr] at h
      rcases List.mem_cons.1 hp with rfl | hp
      · exact inPaths_iff.1 hr
      · exact allIn_spec h p hp

/-- a result of which nobody else sees anything -/
theorem ret_closed {s : Sig} {r : s.rty.val × s.rdty.val} {e : Ending} {l1 : Lim} {rbx : Option Nat} (hcl : closedS s = true) (h : RetOk w l1 rbx s r e w') : ∃ v lim', e = .returned v ∧ w.grownBy w' rbx ∧ (∀ b, b < w.heap.size → lim' b = l1 b) ∧
    ERep st00 w' lim' mp0 none (resAV s.rty s.one r.1) v ∧ nestT (rootOf s.one s.rty r.1).1 = true ∧ CRep w' lim' (rootOf s.one s.rty r.1).1 (rootOf s.one s.rty r.1).2 (flatV v) ∧
    (∀ p ∈ slicePaths (rootOf s.one s.rty r.1).1, ∃ T x, typeAt (rootOf s.one s.rty r.1).1 p = some T ∧ (flatV v)[offs (rootOf s.one s.rty r.1).1 p]? = some x ∧ OwnT w' lim' (fun g => w.heap.size ≤ g) T x) ∧
    (∀ p ∈ slicePaths (rootOf s.one s.rty r.1).1, ∀ q ∈ slicePaths (rootOf s.one s.rty r.1).1, ∀ T T' u z g, typeAt (rootOf s.one s.rty r.1).1 p = some T → typeAt (rootOf s.one s.rty r.1).1 q = some T' → (flatV v)[offs (rootOf s.one s.rty r.1).1 p]? = some u → (flatV v)[offs (rootOf s.one s.rty r.1).1 q]? = some z → Blk w' T u g → Blk w' T' z g → p = q) ∧
    ((∀ d, rootAV s.one s.rty d = .xf d []) ∧ v = wrapV (rootOf s.one s.rty r.1).1 (flatV v) ∧ resAV s.rty s.one r.1 = .dat (rootOf s.one s.rty r.1).1 (rootOf s.one s.rty r.1).2 ∨
      (∀ d, rootAV s.one s.rty d = .xt d) ∧ (∃ vs, v = .tuple vs.toArray ∧ TupSh (rootOf s.one s.rty r.1).1 vs) ∧ resAV s.rty s.one r.1 = .tup (rootOf s.one s.rty r.1).1 (rootOf s.one s.rty r.1).2) ∧
    (∀ p ∈ resOwn s.one s.own, ∃ T x, typeAV p (resAV s.rty s.one r.1) = some T ∧ partAV v p (resAV s.rty s.one r.1) = some x ∧ OwnT w' lim' (fun g => w.heap.size ≤ g) T x) ∧
    (∀ p ∈ resOwn s.one s.own, ∀ q ∈ resOwn s.one s.own, ∀ T T' x y g, typeAV p (resAV s.rty s.one r.1) = some T → typeAV q (resAV s.rty s.one r.1) = some T' → partAV v p (resAV s.rty s.one r.1) = some x → partAV v q (resAV s.rty s.one r.1) = some y → Blk w' T x g → Blk w' T' y g → p = q) ∧
    (s.usesRd = true → ∃ b cells e, rbx = some b ∧ w'.heap[b]? = some (.cells cells e (0, 0)) ∧ CRep w' lim' s.rdty r.2 cells.toList ∧ ∀ p e', typeAt s.rdty p = some (.slice e') → w'.cell? ⟨b, offs s.rdty p, none⟩ = w.cell? ⟨b, offs s.rdty p, none⟩) := by
  obtain ⟨v, lim', rfl, g1, g2, g3, g4, g5, g6⟩ := h
  refine ⟨v, lim', rfl, g1, g2, g3, ?_⟩
  unfold closedS at hcl
  cases hfl : nestT s.rty with
  | false => rw [hfl] at hcl; cases hcl
  | true =>
  rw [hfl] at hcl; simp only [cnd_true] at hcl
  cases hal : allIn (slicePaths s.rty) s.own with
  | false => rw [hal] at hcl; cases hcl
  | true =>
  rw [hal] at hcl; simp only [cnd_true] at hcl
  obtain ⟨aty, rdty, usesRd, rty, one, own, opens, muts, fv, fn⟩ := s
  simp only at r g3 g4 g5 g6 hcl hfl hal ⊢
  cases one with
  | true =>
    cases rty with
    | prod p q =>
      cases q with
      | unit =>
        obtain ⟨f1, _⟩ := nest_prod hfl
        have g3' : TRep w' lim' p r.1.1 v := g3
        have hc := g3'.cells
        have hfv := flat_TRep g3'
        have inown : ∀ m ∈ slicePaths p, m ∈ resOwn true own := by
          intro m hm
          have := allIn_spec hal (0 :: m) (by simp only [slicePaths]; exact List.mem_append_left _ (List.mem_map.2 ⟨m, hm, rfl⟩))
          exact List.mem_map.2 ⟨_, this, rfl⟩
        refine ⟨f1, by rw [hfv]; exact hc, fun m hm => g4 m (inown m hm), fun m hm m' hm' T T' u z g h1 h2 h3 h4 => g5 m (inown m hm) m' (inown m' hm') T T' u z g h1 h2 h3 h4, .inl ⟨fun _ => rfl, ?_, rfl⟩, g4, g5, g6⟩
        obtain ⟨cs, k1, k2⟩ := g3'
        rw [hfv, k2, wrapV_cells k1]
        rfl
      | _ => cases hcl
    | _ => cases hcl
  | false =>
    have hav : resAV rty false r.1 = .tup rty r.1 := by unfold resAV; rfl
    have hro : rootOf false rty r.1 = ⟨rty, r.1⟩ := by unfold rootOf; rfl
    have hra : ∀ d, rootAV false rty d = .xt d := fun d => by unfold rootAV; rfl
    rw [hav] at g3 g4 g5 ⊢
    rw [hro]
    obtain ⟨vs, hv, ht⟩ := g3
    obtain ⟨k1, k2⟩ := tup_iff.1 ht
    have hfv : flatV v = vs.flatMap fun v => v.cells.toList := by rw [hv]; simp [flatV]
    have inown : ∀ m ∈ slicePaths rty, m ∈ resOwn false own := fun m hm => allIn_spec hal m hm
    exact ⟨hfl, by rw [hfv]; exact k2, fun m hm => g4 m (inown m hm), fun m hm m' hm' T T' u z g h1 h2 h3 h4 => g5 m (inown m hm) m' (inown m' hm') T T' u z g h1 h2 h3 h4, .inr ⟨hra, ⟨vs, hv, k1⟩, rfl⟩, g4, g5, g6⟩

theorem setF_ok : ∀ {t : Ty} {x : t.val} {i : Nat} {d : Dat} (z : d.1.val), getF t x i = some d → ∃ x', setF t x i ⟨d.1, z⟩ = some x' := by
  intro t
  induction t with
  | prod p q _ ihq =>
    intro x i d z h
    cases i with
    | zero => simp only [getF] at h; injection h with h; subst h; exact ⟨(z, x.2), by simp only [setF, cast_self]; rfl⟩
    | succ i =>
      simp only [getF] at h
      obtain ⟨y, hy⟩ := ihq z h
      exact ⟨(x.1, y), by simp only [setF, hy]; rfl⟩
  | _ => intro x i d z h; cases h
theorem setP_ok : ∀ {p : List Nat} {t : Ty} {x : t.val} {y : Dat} (z : y.1.val), getP t x p = some y → ∃ x', setP t x p ⟨y.1, z⟩ = some x'
  | [], t, x, y, z, h => by simp only [getP] at h; injection h with h; subst h; exact ⟨z, by simp [setP, cast_self]⟩
  | i :: p, t, x, y, z, h => by
    simp only [getP] at h
    cases hg : getF t x i with
    | none => rw [hg] at h; cases h
    | some d =>
      rw [hg] at h
      obtain ⟨x1, h1⟩ := setP_ok z h
      obtain ⟨x2, h2⟩ := setF_ok x1 hg
      exact ⟨x2, by simp [setP, hg, h1, h2]⟩
theorem res_noSl {t : Ty} {one : Bool} {x : t.val} {v : Value} {l1 l2 : Lim} (hn : noSl t = true) (h : ERep st00 w l1 mp0 none (resAV t one x) v) : ERep st00 w l2 mp0 none (resAV t one x) v := by
  have key : ERep st00 w l1 mp0 none (.tup t x) v → ERep st00 w l2 mp0 none (.tup t x) v := by
    rintro ⟨vs, hv, ht⟩
    obtain ⟨k1, k2⟩ := tup_iff.1 ht
    exact ⟨vs, hv, tup_iff.2 ⟨k1, (CRep_noSl hn).2 ((CRep_noSl hn).1 k2)⟩⟩
  unfold resAV at h ⊢
  split at h
  · rename_i a x
    have ha : noSl a = true := by
      simp only [noSl] at hn
      cases hq : noSl a with
      | true => rfl
      | false => rw [hq] at hn; cases hn
    obtain ⟨cs, k1, k2⟩ := h
    exact ⟨cs, (CRep_noSl ha).2 ((CRep_noSl ha).1 k1), k2⟩
  · exact key h

theorem ok_callX (hG : GamOk P G) (h : Sim w0 lim0 rb n st a w lim β) (hrb : ∀ k, some k = rb → k < w0.heap.size) (hd : ∀ d, o.dst = some d → d < n) {f : FuncId} {cl : Call} (hop : o.op = .call cl) (hcal : cl.callee = .value (.func f))
    (hc : stCallX G o f cl.args.toList st = some c) (ho : c.out st = some st') : OpOk P w0 lim0 rb n o st' a w := by
  unfold stCallX at hc
  cases hg : G f with
  | none => rw [hg] at hc; cases hc
  | some s =>
    rw [hg] at hc; simp only [] at hc
    have hf := hG f s hg
    have hvals : (cl.args.map a.eval) = (cl.args.toList.map a.eval).toArray := by apply Array.ext'; rw [Array.toList_map]
    have exec : (execOp a.eval o).run P w = .ok (.enter f (cl.args.toList.map a.eval).toArray) w := by
      have e1 : ∀ args, (Deferred.ofValue (.func (.func f) #[] #[]) args) = (pure { target := .fn (.func f) #[], args := args } : Sem Deferred) := by
        intro args; simp [Deferred.ofValue]
      simp only [execOp, hop, resolve, hcal, Act.eval, hvals, e1, Sem.run_bind, Sem.run_pure, Result.andThen_ok, invoke]
      simpa using hf.enters _ w
    cases hfv : s.fv with
    | some g => rw [hfv] at hc; cases hc
    | none =>
    rw [hfv] at hc; simp only [isF, cnd_false] at hc
    split at hc
    · -- a call that reads
      rename_i hu hopn hmu
      split at hc
      · rename_i x rd hpk hcast hcl
        have ha : ArgsRep w (limX st β lim) none s.aty x (cl.args.toList.map a.eval) := by
          refine packArgs_rep (st := st) (β := β) (rb := rb) hpk (by simp) (fun i av v hi hv => ?_)
          simp only [List.getElem?_map] at hi hv
          cases hq : cl.args.toList[i]? with
          | none => rw [hq] at hi; cases hi
          | some y =>
            rw [hq] at hi hv
            injection hi with hi; injection hv with hv
            subst hi; subst hv
            exact argX_rep h y
        have hrdin : RdIn w (limX st β lim) none s rd := ⟨fun h' => (by rw [hu] at h'; cases h'), fun _ => rfl⟩
        cases hmk : mkD st o.dst with
        | true =>
          rw [hmk] at hc; simp only [cnd_true] at hc
          cases hfr : freeD st o.dst with
          | none => rw [hfr] at hc; cases hc
          | some d =>
            rw [hfr] at hc; simp only [] at hc
            injection hc with hc; subst hc
            simp only [Comp.out] at ho
            cases hfn : s.fn x rd with
            | none => rw [hfn] at ho; cases ho
            | some r =>
              rw [hfn] at ho; injection ho with ho; subst ho
              obtain ⟨hdst, hfio, _, _, hd0⟩ := free_some hfr
              intro K Q hK
              unfold Oper.wp
              rw [exec]
              refine Calls.mono (hf.calls hfv hopn hmu x rd r hfn w (limX st β lim) none _ ha hrdin) ?_
              intro e w' hret
              obtain ⟨v, lim2, rfl, g1, g2, g3, g4, g5, g6, g7, g8, _, _⟩ := ret_closed hcl hret
              show K (a.put o.dst v) w'
              rw [hdst]
              have hX := XRep.of_own (fun g => w.heap.size ≤ g) g5 g4 g6 g7
              refine hK _ _ (fun g => if g < w.heap.size then lim g else some 0) _ (h.newroot hrb (hd d hdst) hfio hd0 (rootOf s.one s.rty r.1) (rootAV s.one s.rty d) v _ g1.os g1.tape g1.output g1.size (fun k hk => g1.block k hk (by simp)) (fun k hk => by simp [hk]) hX (fun g hg' => ?_) ?_)
              · obtain ⟨p, hp, T, u, ht', hu', hbu⟩ := hg'
                obtain ⟨T2, z, k1, k2, k3⟩ := g6 p hp
                rw [ht'] at k1; injection k1 with k1; subst k1
                rw [hu'] at k2; injection k2 with k2; subst k2
                have := (k3.lt hbu).2
                exact ⟨this, if_neg (by omega)⟩
              · rcases g8 with ⟨q1, q2, _⟩ | ⟨q1, q2, _⟩
                · exact .inl ⟨q1 d, q2⟩
                · exact .inr ⟨q1 d, q2⟩
        | false =>
          rw [hmk] at hc; simp only [cnd_false] at hc
          injection hc with hc; subst hc
          simp only [Comp.out] at ho
          cases hfn : s.fn x rd with
          | none => rw [hfn] at ho; cases ho
          | some r =>
            rw [hfn] at ho; injection ho with ho; subst ho
            intro K Q hK
            unfold Oper.wp
            rw [exec]
            refine Calls.mono (hf.calls hfv hopn hmu x rd r hfn w (limX st β lim) none _ ha hrdin) ?_
            intro e w' hret
            obtain ⟨v, lim2, rfl, g1, g2, g3, g4, g5, g6, g7, g8, g9, g10, _⟩ := ret_closed hcl hret
            show K (a.put o.dst v) w'
            let l3 : Lim := fun g => if g < w.heap.size then lim g else lim2 g
            have hl3 : ∀ k, k < w.heap.size → l3 k = lim k := fun k hk => by simp [l3, hk]
            have hl3' : ∀ k, w.heap.size ≤ k → l3 k = lim2 k := fun k hk => by simp [l3, show ¬ k < w.heap.size by omega]
            have hblk : ∀ k, k < w.heap.size → w'.heap[k]? = w.heap[k]? := fun k hk => g1.block k hk (by simp)
            have hre : CRep w' l3 (rootOf s.one s.rty r.1).1 (rootOf s.one s.rty r.1).2 (flatV v) := by
              refine CRep.relimN g5 g4 (fun p hp T u ht' hu' g hgu => ?_)
              obtain ⟨T2, z, k1, k2, k3⟩ := g6 p hp
              rw [ht'] at k1; injection k1 with k1; subst k1
              rw [hu'] at k2; injection k2 with k2; subst k2
              exact hl3' g (k3.lt hgu).2
            refine hK _ _ l3 β (h.grown { upd0 o.dst (resAV s.rty s.one r.1) none with own := resOwn s.one s.own } v w' l3 hd rfl (ext_keep g1.size hblk hl3) (grow_keep h.grow g1.os g1.tape g1.output g1.size (fun k hk _ => hblk k (Nat.lt_of_lt_of_le hk h.grow.size)))
              (fun k hk _ _ => ⟨hblk k hk, hl3 k hk⟩) (fun k hk => ⟨hrb k hk, hl3 k (Nat.lt_of_lt_of_le (hrb k hk) h.grow.size)⟩) (ERep_res ?_) (fun p hp => ?_) (fun p hp q hq => g10 p hp q hq) rfl (.inl ⟨rfl, fun b hb => hblk b (Nat.lt_of_lt_of_le (hrb b hb.symm) h.grow.size)⟩))
            · rcases g8 with ⟨_, q2, q3⟩ | ⟨_, ⟨vs, q2, q3⟩, q4⟩
              · rw [q3]; exact ⟨_, hre, q2⟩
              · rw [q4]
                have hfv : flatV v = vs.flatMap fun v => v.cells.toList := by rw [q2]; simp [flatV]
                exact ⟨vs, q2, tup_iff.2 ⟨q3, by rw [← hfv]; exact hre⟩⟩
            · obtain ⟨T, z, k1, k2, k3⟩ := g9 p hp
              exact ⟨T, z, k1, k2, (k3.relim fun g hg => hl3' g (k3.lt hg).2).below (fun g hg => .inl (Nat.le_trans h.grow.size hg)), fun g hgz => .inl (k3.lt hgz).2⟩
      · cases hc
    · -- a call that writes
      rename_i hu hopn hmu
      obtain ⟨aty, rdty, usesRd, rty, one, own, opens, muts, fv, fn⟩ := s
      simp only at hu hopn hmu hc hf
      split at hc
      · rename_i x0 xs hargs
        split at hc
        · rename_i r p hxe
          split at hc
          · rename_i d y hio hat
            split at hc
            · rename_i _ b _ _ rd hcast
              split at hc
              · rename_i x hpk hns hm0
                injection hc with hc; subst hc
                simp only [Comp.out] at ho
                cases hfn : fn ((), x) rd with
                | none => rw [hfn] at ho; cases ho
                | some z =>
                  rw [hfn] at ho; injection ho with ho; subst ho
                  obtain ⟨e1, e2⟩ := cast_some hcast
                  obtain ⟨yt, yv⟩ := y
                  simp only at e1 e2
                  subst e1; subst e2
                  obtain ⟨dd, hio', hv⟩ := xf_val h hxe hat
                  rw [hio] at hio'; injection hio' with hio'; subst hio'
                  obtain ⟨d2, Bu, m1, m2, m3, m6, m7, m8⟩ := h.atX hat
                  rw [hio] at m1; injection m1 with m1; subst m1
                  have hx0 : a.eval x0 = wrapV yt (((flatV (β.V r)).drop (offs d.1 p)).take yt.size) := hv
                  have hav : cl.args.toList.map a.eval = a.eval x0 :: xs.map a.eval := by rw [hargs]; rfl
                  have ha : ArgsRep w lim none b x (xs.map a.eval) := by
                    refine packArgs_rep (st := st) (β := β) (rb := rb) hpk (by simp) (fun i av v hi hv' => ?_)
                    simp only [List.getElem?_map] at hi hv'
                    cases hq : xs[i]? with
                    | none => rw [hq] at hi; cases hi
                    | some y =>
                      rw [hq] at hi hv'
                      injection hi with hi; injection hv' with hv'
                      subst hi; subst hv'
                      exact h.ent y
                  intro K Q hK
                  unfold Oper.wp
                  rw [exec]
                  refine Calls.mono (hf.mutd hfv hmu hu ((), x) rd z hfn w lim _ Bu (by rw [hav]; exact ⟨⟨_, hx0, m7⟩, ha⟩) (fun g hg' => (h.xs.base r d g hio (m6 g hg')).2.2)) ?_
                  intro e w' hret
                  obtain ⟨v, rfl, g1, g2, g3, g4, g5, g6, cs, g7, g8⟩ := hret
                  rw [hav] at g7
                  simp only [List.head?_cons] at g7
                  injection g7 with g7
                  have hcs : cs = ((flatV (β.V r)).drop (offs d.1 p)).take yt.size := by
                    have k1 := wrapV_cells (g8.crep (lim := fun _ => none) (fun _ _ => rfl))
                    have k2 := wrapV_cells (m7.crep (lim := fun _ => none) (fun _ _ => rfl))
                    rw [hx0] at g7
                    rw [g7, k1] at k2
                    have := congrArg Array.toList k2
                    simpa using this
                  rw [hcs] at g8
                  obtain ⟨x', hset⟩ := setP_ok (y := ⟨yt, rd⟩) z.2 m2
                  have hsd : setDat d p ⟨yt, z.2⟩ = ⟨d.1, x'⟩ := by
                    unfold setDat
                    have : setP d.1 d.2 p ⟨yt, z.2⟩ = some x' := hset
                    rw [this]
                  show K (a.put o.dst v) w'
                  have hst := h.setroot (o := o) (d' := ⟨d.1, x'⟩) (w' := w') (lim' := lim) hrb hd hio rfl (resAV rty one z.1) v g1 g2 g3 g4 (fun k hk hn => g5 k hk (fun hb => hn (m6 k hb))) (fun _ _ => rfl)
                    (m8 w' z.2 x' hset (fun g hg' hn => g5 g ((h.xs.io r d hio).lt g hg') hn) g8) (fun _ _ => ERep_res (res_noSl hns g6)) (fun hr0 e1 _ _ _ _ _ _ he1 => by subst hr0; rw [he1] at hm0; cases hm0)
                  rw [← hsd] at hst
                  exact hK _ _ lim β hst
              · cases hc
            · cases hc
          · cases hc
        · rename_i k q hxe
          split at hc
          · rename_i e ys hio
            change List e.val at ys
            cases hy : getP e (atL (α := e.val) ys k e.zero) q with
            | none => rw [hy] at hc; cases hc
            | some y =>
              rw [hy] at hc; simp only [] at hc
              split at hc
              · rename_i _ _ b hslt _ _ rd hcast
                split at hc
                · rename_i x hpk hns
                  injection hc with hc; subst hc
                  simp only [Comp.out] at ho
                  cases hfn : fn ((), x) rd with
                  | none => rw [hfn] at ho; cases ho
                  | some z =>
                    rw [hfn] at ho; injection ho with ho; subst ho
                    obtain ⟨e1, e2⟩ := cast_some hcast
                    obtain ⟨yt, yv⟩ := y
                    simp only at e1 e2 hslt
                    subst e1; subst e2
                    have hx := h.ent x0
                    rw [hxe] at hx
                    obtain ⟨d2, hio2, hv, hk0, g, m, cc, hV, hkm⟩ := hx
                    have hX := h.xs.io 0 _ hio
                    obtain ⟨hBg, hml⟩ := hX.head hV
                    have hkl : k.toNat < ys.length := by rw [← hml]; exact hkm
                    have hget : atL ys k e.zero = ys[k.toNat] := by simp [atL, hkl]
                    rw [hget] at hy
                    have hel : ys[k.toNat]? = some ys[k.toNat] := List.getElem?_eq_getElem hkl
                    obtain ⟨g', c', arr, el, fr, c2, Bu, q1, q2, q3, q4, qf, q5, q6, q7, q8, q9, q10⟩ := XRep.putEl (xs := ys) hX hel hy
                    have hgg : g' = g := by
                      rw [q1] at hV
                      injection hV with hV; injection hV with hV; injection hV with hV; injection hV
                    subst hgg
                    obtain ⟨e', rfl⟩ : ∃ e', yt = .slice e' := by cases yt <;> first | exact ⟨_, rfl⟩ | cases hslt
                    have hcell := h.xs.kx _ hio e q e' g' m cc k.toNat rfl (typeAt_getP hy) hV hkm
                    obtain ⟨v0, rfl⟩ : ∃ v0, c2 = [v0] := List.length_eq_one_iff.1 q6
                    have hv0 := q9 0 v0 rfl
                    have hx0 : a.eval x0 = wrapV (.slice e') [v0] := by
                      simp only [World.cell?, q4, Option.isSome_none, Bool.false_eq_true, if_false] at hcell
                      rw [Nat.add_zero] at hv0
                      rw [hv0] at hcell
                      injection hcell with hcell
                      rw [hv, ← hcell]; rfl
                    have hav : cl.args.toList.map a.eval = a.eval x0 :: xs.map a.eval := by rw [hargs]; rfl
                    have ha : ArgsRep w lim none b x (xs.map a.eval) := by
                      refine packArgs_rep (st := st) (β := β) (rb := rb) hpk (by simp) (fun i av v hi hv' => ?_)
                      simp only [List.getElem?_map] at hi hv'
                      cases hq : xs[i]? with
                      | none => rw [hq] at hi; cases hi
                      | some y =>
                        rw [hq] at hi hv'
                        injection hi with hi; injection hv' with hv'
                        subst hi; subst hv'
                        exact h.ent y
                    intro K Q hK
                    unfold Oper.wp
                    rw [exec]
                    refine Calls.mono (hf.mutd hfv hmu hu ((), x) rd z hfn w lim _ Bu (by rw [hav]; exact ⟨⟨_, hx0, q8⟩, ha⟩) (fun g hg' => (h.xs.base 0 _ g hio (q7 g hg').1).2.2)) ?_
                    intro ee w' hret
                    obtain ⟨v, rfl, g1, g2, g3, g4, g5, g6, cs, g7, g8⟩ := hret
                    rw [hav] at g7
                    simp only [List.head?_cons] at g7
                    injection g7 with g7
                    have hcs : cs = [v0] := by
                      have k1 := wrapV_cells (g8.crep (lim := fun _ => none) (fun _ _ => rfl))
                      have k2 := wrapV_cells (q8.crep (lim := fun _ => none) (fun _ _ => rfl))
                      rw [hx0] at g7
                      rw [g7, k1] at k2
                      have := congrArg Array.toList k2
                      simpa using this
                    rw [hcs] at g8
                    obtain ⟨x', hset⟩ := setP_ok (y := ⟨.slice e', rd⟩) z.2 hy
                    have hse : setE e (atL ys k e.zero) q ⟨.slice e', z.2⟩ = x' := by
                      unfold setE
                      rw [hget]
                      have : setP e ys[k.toNat] q ⟨.slice e', z.2⟩ = some x' := hset
                      rw [this]
                    have hgw : w'.heap[g']? = w.heap[g']? := g5 g' (hX.lt g' hBg) (fun hb => (q7 g' hb).2 rfl)
                    have hX' := q10 w' z.2 x' [v0] Bu arr hset (fun b hb _ hnb => g5 b (hX.lt b hb) hnb) (hgw.trans q4) rfl (fun _ _ => rfl) q9 (fun b hb _ => hb) g8
                    show K (a.put o.dst v) w'
                    have hst := h.setroot (o := o) (d' := ⟨.slice e, setL ys k x'⟩) (w' := w') (lim' := lim) hrb hd hio rfl (resAV rty one z.1) v g1 g2 g3 g4 (fun k hk hn => g5 k hk (fun hb => hn (q7 k hb).1)) (fun _ _ => rfl)
                      (hX'.congr fun b => ⟨fun hb => (by
                        by_cases hbu : Bu b
                        · exact .inr hbu
                        · exact .inl ⟨hb, hbu⟩), fun hb => hb.elim (·.1) (fun hb => (q7 b hb).1)⟩) (fun _ _ => ERep_res (res_noSl hns g6)) (fun _ e1 q1' e1' g1' m1' c1' k1' he1 hq1 hV1 hk1 => by
                        rw [hV] at hV1
                        injection hV1 with hV1; injection hV1 with hV1; injection hV1 with hV1; injection hV1 with hV1
                        subst hV1
                        exact cell_keep hgw)
                    rw [← hse] at hst
                    exact hK _ _ lim β hst
                · cases hc
              · cases hc
          · cases hc
        · cases hc
      · cases hc
    · cases hc
end
end Go.Den

namespace Go.Den
section
variable {P : Program} {tab : Tab} {G : Gam} {w0 : Base} {lim0 : Lim} {rb : Option Nat} {n : Nat}
variable {st st' : St} {a : Act} {w w' : World} {lim lim' : Lim} {β : Mp} {o : Oper} {c : Comp}

theorem ok_convX (hT : TabOk P tab) (h : Sim w0 lim0 rb n st a w lim β) (hd : ∀ d, o.dst = some d → d < n) {s t : TypeId} {x : Operand} {r : Tmp} {p : List Nat} (hop : o.op = .convert s t x) (hxe : (st.ent x).av = .xf r p)
    (hc : stConvX tab o s t r p st = some c) (ho : c.out st = some st') : OpOk P w0 lim0 rb n o st' a w := by
  unfold stConvX at hc
  split at hc
  · rename_i xs hs ht hy
    change List Int at xs
    injection hc with hc; subst hc
    obtain ⟨_, rfl⟩ := out_ret ho
    obtain ⟨el, h1, h1'⟩ := elemTy hT hs
    have h1' : P.underlying el = some (.int .u8) := h1'.desc
    have h2 : P.underlying t = some .string := (hT _ _ ht).desc
    have hax := argX_rep h x
    rw [hxe] at hax
    simp only [argX, hy] at hax
    obtain ⟨b, cc, hv, hle, hsr⟩ := slice_rep hax
    refine .value (v := .string ⟨⟨byteList xs⟩⟩) ?_ (h.plain _ _ _ hd mk_str)
    have hrun : (convert s t (.slice b xs.length cc)).run P w = .ok (.string ⟨⟨byteList xs⟩⟩) w := by
      rcases hsr with hsr | ⟨bb, oo, rfl, hb, hu, hcell⟩
      · subst hsr
        cases b with
        | none => rw [run_convert_bytes_nil w s el h1 h1' _ _ t h2]; rfl
        | some b => simp [convert, underlying, h1, h2, h1', Conv.bytesToString, loadCells]; rfl
      · rw [run_convert_bytes_arg w s el h1 h1' bb oo xs.length cc xs rfl ?_ t h2, strOf_bytes]
        intro i hi
        obtain ⟨cs, hcs, hj⟩ := hcell i _ (List.getElem?_eq_getElem hi)
        have hcs : cs = [.int .u8 xs[i]] := hcs
        subst hcs
        have := hj 0 _ rfl
        simpa [Ty.size, hi] using this
    have hv' : a.eval x = .slice b xs.length cc := hv
    simp [execOp, hop, hv', hrun]
  · cases hc

theorem apply_drop {d : Tmp} {av : AV} {xw : Option (Tmp × Dat)} (ls : List Loc) (st : St) :
    apply (apply st { upd0 none .any none with takes := ls }) { upd0 (some d) av none with xw := xw } = apply st { upd0 (some d) av none with takes := ls, xw := xw } := by
  refine St.ext' ?_ rfl ?_ rfl rfl rfl rfl rfl
  · funext t
    simp only [apply, upd0]
    congr 1
    cases hq : (st.env t).tag with
    | none => rfl
    | some km => obtain ⟨k, m⟩ := km; cases m <;> rfl
  · funext l
    cases l with
    | tmp t p => rfl
    | box b p => rfl

/-- what is appended to nothing: a tree -/
theorem ok_appendX (hT : TabOk P tab) (h : Sim w0 lim0 rb n st a w lim β) (hrb : ∀ k, some k = rb → k < w0.heap.size) (hd : ∀ d, o.dst = some d → d < n) {t : TypeId} {x y : Operand} {cl : Call} (hop : o.op = .call cl) (hcal : cl.callee = .builtin .append) (ha : cl.args = #[x, y]) (hat : cl.argTypes = #[t, t])
    (hc : stAppendX tab o t x y st = some c) (ho : c.out st = some st') : OpOk P w0 lim0 rb n o st' a w := by
  unfold stAppendX at hc
  cases hty : tab t with
  | none => rw [hty] at hc; cases hc
  | some ty =>
    cases ty with
    | slice e =>
      rw [hty] at hc; simp only [] at hc
      split at hc
      · rename_i xs ys ol hx hy hol
        change List e.val at xs
        change List e.val at ys
        split at hc
        · rename_i d hfree hns
          injection hc with hc; subst hc
          obtain ⟨hchk, rfl⟩ := out_ret ho
          have q1 := andB_iff.1 hchk
          have hz0 : (xs.length : Int) = 0 := of_decide_eq_true q1.1
          have hlt : (ys.length : Int) < big := ltI_iff.1 q1.2
          unfold big at hlt
          have hxl : xs.length = 0 := by omega
          have hxs : xs = [] := List.eq_nil_of_length_eq_zero hxl
          obtain ⟨hdst, hfd, _, _, hd0⟩ := free_some hfree
          obtain ⟨el, h1, h2⟩ := elemTy hT hty
          obtain ⟨bx, cx, hvx, hlx, hsx⟩ := slice_rep (st := st) (β := β) (rb := rb) (as_rep hx (h.ent x))
          obtain ⟨by', cy, hvy, hly, hsy⟩ := slice_rep (st := st) (β := β) (rb := rb) (as_rep hy (argX_rep h y))
          have hvx : a.eval x = .slice bx xs.length cx := hvx
          have hvy : a.eval y = .slice by' ys.length cy := hvy
          rw [hxl] at hvx
          have hsy : SRep w (limX st β lim) (CRep w (limX st β lim) e) e.size ys by' := hsy
          obtain ⟨news, hrn, hnc⟩ : ∃ news, RRep w (limX st β lim) e ys news ∧ (ys = [] ∨ ∃ bb oo, by' = some ⟨bb, oo, none⟩ ∧ ∀ k v, news[k]? = some v → w.cell? ⟨bb, oo + k, none⟩ = some v) := by
            rcases hsy with hsy | ⟨bb, oo, rfl, hb, hu, hcell⟩
            · subst hsy; exact ⟨[], RRep.nil e, .inl rfl⟩
            · obtain ⟨L, k1, k2⟩ := SRep_cells hcell
              exact ⟨L, k1, .inr ⟨bb, oo, rfl, k2⟩⟩
          have hcellV : ∀ (i : Nat) (z : e.val), ys[i]? = some z → ∀ j v, (cellsV e z)[j]? = some v → news[i * e.size + j]? = some v := fun i z hz j v hv => by
            obtain ⟨cs, k1, k2⟩ := hrn.2 i z hz
            rw [(CRep_noSl hns).1 k1] at k2
            exact k2 j v hv
          have exec : ∀ {r w2}, (Builtin.append_ #[t, t] o.type #[a.eval x, a.eval y]).run P w = .ok r w2 → (execOp a.eval o).run P w = .ok (.value r) w2 := by
            intro r w2 hr
            have e0 : cl.args.map a.eval = #[a.eval x, a.eval y] := by rw [ha]; simp
            simp only [execOp, hop, resolve, hcal, Sem.run_bind, Sem.run_pure, Result.andThen_ok, invoke, builtin, e0, hat, hr]
          -- first the place is given up
          have h0 : Sim w0 lim0 rb n (apply st { upd0 none .any none with takes := ol.toList }) a w lim β :=
            h.val { upd0 none .any none with takes := ol.toList } undef (fun d hd => by cases hd) rfl rfl trivial (fun _ => .tmp 0 []) (fun p hp => by cases hp) (fun p hp => by cases hp) (fun l hl => by cases hl) (fun l hl => by cases hl)
          have hio0 : (apply st { upd0 none .any none with takes := ol.toList }).io = st.io := rfl
          have fin : ∀ (v : Value) (w2 : World) (l2 : Lim) (B0 C : Nat → Prop), (execOp a.eval o).run P w = .ok (.value v) w2 → w2.os = w.os → w2.tape = w.tape → w2.output = w.output → w.heap.size ≤ w2.heap.size →
              (∀ k, C k → freeB w0 rb (apply st { upd0 none .any none with takes := ol.toList }) a w lim β k ∧ ¬ isTree (apply st { upd0 none .any none with takes := ol.toList }) β k) →
              (∀ k, k < w.heap.size → ¬ C k → w2.heap[k]? = w.heap[k]?) → (∀ k, k < w.heap.size → l2 k = lim k) → XRep w2 (.slice e) ys (flatV v) B0 → (∀ g, B0 g → (w.heap.size ≤ g ∨ C g) ∧ l2 g = some 0) → v = wrapV (.slice e) (flatV v) →
              OpOk P w0 lim0 rb n o (apply st { upd0 (some d) (.xf d []) none with takes := ol.toList, xw := some (d, ⟨.slice e, ys⟩) }) a w := by
            intro v w2 l2 B0 C he m1 m2 m3 m4 hC hk hl hX hB hv
            have := h0.newrootC hrb (hd d hdst) (by rw [hio0]; exact hfd) hd0 ⟨.slice e, ys⟩ (.xf d []) v B0 m1 m2 m3 m4 C hC hk hl hX hB (.inl ⟨rfl, hv⟩)
            rw [apply_drop] at this
            exact OpOk.value (o := o) he (by rw [hdst]; exact this)
          -- a block of its own
          have grow : cx < ys.length → OpOk P w0 lim0 rb n o (apply st { upd0 (some d) (.xf d []) none with takes := ol.toList, xw := some (d, ⟨.slice e, ys⟩) }) a w := by
            intro hg
            have r1 : (Builtin.firstCells e.size 0 (.slice bx 0 cx)).run P w.drew = .ok ([] : List Value).toArray w.drew := by
              have := run_first (P := P) (cc := cx) (w2 := w.drew) (RRep.nil (w := w) (lim := lim) e) (b := bx) (.inl rfl)
              simpa using this
            have r2 := run_first (P := P) (cc := cy) (w2 := w.drew) hrn hnc
            have hrun := run_append_at_new (ty := o.type) h1 h2 (sv := .slice bx 0 cx) rfl r1 r2 (by omega) (by omega)
            simp only [Nat.zero_add] at hrun
            have hge := grownCap_ge w ys.length cx el
            have hz : (zeroCells e).toArray.size = e.size := by simpa using (zero_rep w lim e).length
            refine fin (.slice (some ⟨w.heap.size, 0, none⟩) ys.length (grownCap w ys.length cx el)) (w.drew.alloc (.cells ([] ++ (news ++ (Builtin.zeroCells (zeroCells e).toArray (grownCap w ys.length cx el - ys.length)).toList)).toArray el)) (limSet lim w.heap.size (some 0)) (fun g => g = w.heap.size) (fun _ => False) (exec (by rw [hvx, hvy, hrun])) rfl rfl rfl (by simp) (fun _ hk => hk.elim)
              (fun k hk _ => alloc_old (w := w.drew) _ hk) (fun k hk => by simp [limSet, show k ≠ w.heap.size by omega]) (XRep.mkFlat hns rfl hge ?_ (alloc_new (w := w.drew) _) (fun _ _ hk => by simp at hk) (fun _ => Iff.rfl) (fun j z hj q v hv => ?_))
              (fun g hg => ⟨.inl (by rw [hg]; exact Nat.le_refl _), by simp [limSet, hg]⟩) rfl
            · simp only [List.nil_append, List.size_toArray, List.length_append, Array.length_toList, size_zeroCells, hz, hrn.1]
              rw [← Nat.add_mul]
              exact Nat.mul_le_mul_right _ (by omega)
            · have := hcellV j z hj q v hv
              have hlt := (List.getElem?_eq_some_iff.1 this).1
              simp only [List.nil_append, List.getElem?_toArray]
              rw [List.getElem?_append_left hlt]; exact this
          have nothing : a.eval x = .slice none 0 0 → ys.length = 0 → OpOk P w0 lim0 rb n o (apply st { upd0 (some d) (.xf d []) none with takes := ol.toList, xw := some (d, ⟨.slice e, ys⟩) }) a w := by
            intro hnil hz
            have r2 := run_first (P := P) (cc := cy) (w2 := w) hrn hnc
            rw [hz] at r2
            have hrun := run_append_nothing (ty := o.type) h1 h2 r2
            exact fin (.slice none 0 0) w lim (fun _ => False) (fun _ => False) (exec (by rw [hnil, hvy, hz]; exact hrun)) rfl rfl rfl (Nat.le_refl _) (fun _ hk => hk.elim) (fun _ _ _ => rfl) (fun _ _ => rfl) (.inl ⟨rfl, hz, fun _ hg => hg⟩) (fun _ hg => hg.elim) rfl
          rcases owner_spec h hol hx with ⟨l, rfl, ho1, ho2, ho3⟩ | ⟨rfl, hnil⟩
          · obtain ⟨e', v', g1, g2, g3⟩ := h.own l ho1
            rw [ho3] at g1; injection g1 with g1; subst g1
            rw [ho2] at g2; injection g2 with g2; subst g2
            rcases g3 with g3 | ⟨b, m, cap, arr, el', fr, g3, g5, g6, g7, g8, g9, g10⟩
            · by_cases hz : ys.length = 0
              · exact nothing g3 hz
              · rw [hvx] at g3; injection g3 with k1 k2 k3
                exact grow (by omega)
            · rw [hvx] at g3; injection g3 with k1 k2 k3
              subst k1; subst k2; subst k3
              by_cases hroom : ys.length ≤ cx
              · -- there is room
                have r2 := run_first (P := P) (cc := cy) (w2 := w) hrn hnc
                have hfit : ys.length * e.size ≤ arr.size := Nat.le_trans (Nat.mul_le_mul_right _ hroom) g9
                have hnl := hrn.1
                have hal : arr.toList.length = arr.size := by simp
                obtain ⟨c2, c3, k1, k3⟩ : ∃ c2 c3, arr.toList = [] ++ (c2 ++ c3) ∧ c2.length = news.length := by
                  refine ⟨arr.toList.take news.length, arr.toList.drop news.length, ?_, ?_⟩
                  · rw [List.nil_append, List.take_append_drop]
                  · rw [List.length_take]; omega
                obtain ⟨w', m1, m2⟩ := run_append_at_room (ty := o.type) (s := 0) (sc := cx) (m := ys.length) h1 h2 r2 (by omega) g6 k1 (by simp) k3 hrn.notAgg g7
                simp only [Nat.zero_add] at m1
                have hblt : b < w.heap.size := (Array.getElem?_eq_some_iff.1 g6).1
                have hbrb : some b ≠ rb := fun hh => h.fr_rb g5 hh (hrb b hh)
                have hbv : blockOf (a.eval x) = some b := by rw [hvx]; rfl
                have hl0 : lim b = some 0 := by rw [g10]; simp
                refine fin (.slice (some ⟨b, 0, none⟩) ys.length cx) w' lim (fun g => g = b) (fun g => g = b) (exec (by rw [hvx, hvy]; exact m1)) m2.os m2.tape m2.output (by rw [m2.size]; exact Nat.le_refl _) (fun k hk => ?_) (fun k _ hk => m2.other k hk) (fun _ _ => rfl)
                  (XRep.mkFlat hns rfl hroom ?_ m2.at_ (fun k hk => g7 k ?_) (fun _ => Iff.rfl) (fun j z hj q v hv => ?_)) (fun g hg => ⟨.inr hg, by rw [hg]; exact hl0⟩) rfl
                · subst hk
                  have hasl : HasL st a w β l k := ⟨_, _, ho3, ho2, hbv⟩
                  refine ⟨⟨hl0, g5, hbrb, fun c d' hc he => h.ownb l k ho1 hasl c d' hc he, fun m hm hg => ?_⟩, fun ht => ?_⟩
                  · have hm' : m ≠ l ∧ st.own m = true := by
                      rcases own_apply hm with hn | hs
                      · cases m with
                        | tmp t p => cases hn.1
                        | box c p => obtain ⟨_, _, _, he, _⟩ := hn; cases he
                      · exact ⟨fun e => hs.2.1 (by rw [e]; simp), hs.1⟩
                    have hg' : HasL st a w β m k := by
                      obtain ⟨T, z, q1, q2, q3⟩ := hg
                      exact ⟨T, z, by rw [← q1]; cases m <;> rfl, by rw [← q2]; cases m <;> rfl, q3⟩
                    exact hm'.1 (h.sep m l k hm'.2 ho1 hg' hasl)
                  · exact h.xs.off ho1 hasl ht
                · have e1 : arr.size = arr.toList.length := by simp
                  rw [e1, k1] at g9
                  simp only [List.nil_append, List.size_toArray, List.length_append] at g9 ⊢
                  omega
                · have e1 : arr.size = arr.toList.length := by simp
                  rw [e1, k1]
                  simp only [List.nil_append, List.size_toArray, List.length_append] at hk ⊢
                  omega
                · have := hcellV j z hj q v hv
                  have hlt := (List.getElem?_eq_some_iff.1 this).1
                  simp only [List.nil_append, List.getElem?_toArray]
                  rw [List.getElem?_append_left hlt]; exact this
              · exact grow (by omega)
          · by_cases hz : ys.length = 0
            · exact nothing hnil hz
            · rw [hvx] at hnil; injection hnil with k1 k2 k3
              exact grow (by omega)
        · cases hc
      · cases hc
    | _ => rw [hty] at hc; cases hc
end
end Go.Den

namespace Go.Den
section
variable {P : Program} {tab : Tab} {w0 : Base} {lim0 : Lim} {rb : Option Nat} {n : Nat}
variable {st : St} {a : Act} {w : World} {lim : Lim} {β : Mp}

/-- the state without a tree -/
def buryS (st : St) (r : Tmp) : St := { st with io := fun k => cnd (Nat.beq k r) (some ⟨.unit, ()⟩) (st.io k) }
def buryM (β : Mp) (r : Tmp) : Mp := { β with V := fun k => if k = r then .agg #[] else β.V k, B := fun k => if k = r then (fun _ => False) else β.B k }
theorem bury_io {r : Tmp} : (buryS st r).io r = some ⟨.unit, ()⟩ := by simp [buryS]
theorem bury_ne {r k : Tmp} (h : k ≠ r) : (buryS st r).io k = st.io k := by
  have : Nat.beq k r = false := by
    cases hq : Nat.beq k r with
    | true => exact absurd (nbeq hq) h
    | false => rfl
  simp [buryS, this]
theorem Sim.bury (h : Sim w0 lim0 rb n st a w lim β) {r : Tmp} {d : Dat} (hr : st.io r = some d) (h0 : r ≠ 0) : Sim w0 lim0 rb n (buryS st r) a w lim (buryM β r) := by
  have lv : ∀ l, locV (buryS st r) a w (buryM β r) l = locV st a w β l := fun l => by cases l <;> rfl
  have lt : ∀ l, locTy (buryS st r) l = locTy st l := fun l => by cases l <;> rfl
  have Vne : ∀ k, k ≠ r → (buryM β r).V k = β.V k ∧ (buryM β r).B k = β.B k := fun k hk => by simp [buryM, hk]
  have Br : ∀ g, ¬ (buryM β r).B r g := fun g hg => by simp [buryM] at hg
  have cas : ∀ k x, (buryS st r).io k = some x → (k = r ∧ x = ⟨.unit, ()⟩) ∨ (k ≠ r ∧ st.io k = some x) := fun k x hk => by
    by_cases e : k = r
    · subst e; rw [bury_io] at hk; injection hk with hk; exact .inl ⟨rfl, hk.symm⟩
    · rw [bury_ne e] at hk; exact .inr ⟨e, hk⟩
  have old : ∀ k x g, (buryS st r).io k = some x → (buryM β r).B k g → k ≠ r ∧ st.io k = some x ∧ β.B k g := fun k x g hk hg => by
    rcases cas k x hk with ⟨rfl, _⟩ | ⟨e, hk⟩
    · exact absurd hg (Br g)
    · rw [(Vne k e).2] at hg; exact ⟨e, hk, hg⟩
  have lh : ∀ l g, HasL (buryS st r) a w (buryM β r) l g ↔ HasL st a w β l g := fun l g => by unfold HasL; rw [lt, lv]
  have hxm : ∀ k x, st.io k = some x → ∃ x', (buryS st r).io k = some x' ∧ (x'.1 = .unit ∨ (x'.1 = x.1 ∧ (buryM β r).V k = β.V k)) := fun k x hk => by
    by_cases e : k = r
    · subst e; exact ⟨_, bury_io, .inl rfl⟩
    · exact ⟨x, by rw [bury_ne e]; exact hk, .inr ⟨rfl, (Vne k e).1⟩⟩
  refine ⟨h.size, h.defers, h.grow, h.limOld, h.xrb, h.rdk, fun t => ?_, h.box, h.inj, fun l hl => ?_, fun l g hl hg => ?_, fun l l' g h1 h2 h3 h4 => ?_, fun t l h1 h2 => ?_, h.rd, ?_⟩
  · have ht := h.env t
    show ERep (buryS st r) w lim (buryM β r) rb (st.env t).av (tmpOf a t)
    cases hav : (st.env t).av with
    | xf k p =>
      rw [hav] at ht
      obtain ⟨x, k1, k2⟩ := ht
      by_cases e : k = r
      · subst e; exact ⟨_, bury_io, .inl rfl⟩
      · refine ⟨x, by rw [bury_ne e]; exact k1, ?_⟩
        rw [(Vne k e).1]; exact k2
    | xp k p m q =>
      rw [hav] at ht
      obtain ⟨x, k1, k2⟩ := ht
      by_cases e : k = r
      · subst e; exact ⟨_, bury_io, .inl rfl⟩
      · refine ⟨x, by rw [bury_ne e]; exact k1, ?_⟩
        rw [(Vne k e).1]; exact k2
    | xt k =>
      rw [hav] at ht
      obtain ⟨x, k1, k2⟩ := ht
      by_cases e : k = r
      · subst e; exact ⟨_, bury_io, .inl rfl⟩
      · refine ⟨x, by rw [bury_ne e]; exact k1, ?_⟩
        rw [(Vne k e).1]; exact k2
    | xe m q =>
      rw [hav] at ht
      obtain ⟨x, k1, k2, k3, k4⟩ := ht
      refine ⟨x, by rw [bury_ne (fun e => h0 e.symm)]; exact k1, k2, k3, ?_⟩
      rw [(Vne 0 (fun e => h0 e.symm)).1]; exact k4
    | mx t x ps =>
      rw [hav] at ht
      obtain ⟨cs, k1, k2, k3, k5, k4⟩ := ht
      exact ⟨cs, k1, k2, k3, k5, k4.mono hxm⟩
    | _ => rw [hav] at ht; exact ht
  · rw [lt, lv]; exact h.own l hl
  · rw [lh] at hg; exact h.ownb l g hl hg
  · rw [lh] at h3 h4; exact h.sep l l' g h1 h2 h3 h4
  · rw [lt, lv]; exact h.tag t l h1 h2
  · refine ⟨fun k x hk => ?_, fun k x g hk hg => ?_, fun k x g hk hg b d' hb => ?_, fun k x g hk hg l hl hv => ?_, fun k x k' x' g hk hk' hg hg' => ?_, fun b t o hb => ?_, fun b t o hb => ?_, h.xs.xinj, fun x hx hm => ?_, ?_, h.xs.rbx_keep rfl (fun b t hb _ => ⟨hb, rfl, rfl⟩) hxm⟩
    · rcases cas k x hk with ⟨rfl, rfl⟩ | ⟨e, hk⟩
      · exact ⟨by simp [buryM]; rfl, Br⟩
      · rw [(Vne k e).1, (Vne k e).2]; exact h.xs.io k x hk
    · obtain ⟨e, hk, hg⟩ := old k x g hk hg
      exact h.xs.base k x g hk hg
    · obtain ⟨e, hk, hg⟩ := old k x g hk hg
      exact h.xs.box k x g hk hg b d' hb
    · obtain ⟨e, hk, hg⟩ := old k x g hk hg
      rw [lh] at hv
      exact h.xs.own k x g hk hg l hl hv
    · obtain ⟨e, hk, hg⟩ := old k x g hk hg
      obtain ⟨e', hk', hg'⟩ := old k' x' g hk' hg'
      exact h.xs.dis k x k' x' g hk hk' hg hg'
    · obtain ⟨cells, e, k1, k2, k3, k4, k5⟩ := h.xs.xb b t o hb
      refine ⟨cells, e, k1, k2, k3, k4, fun k q ho => ?_⟩
      obtain ⟨x, m1, m2⟩ := k5 k q ho
      by_cases e' : k = r
      · subst e'; exact ⟨_, bury_io, .inl rfl⟩
      · refine ⟨x, by rw [bury_ne e']; exact m1, ?_⟩
        rw [(Vne k e').1]; exact m2
    · obtain ⟨k1, k2, k3⟩ := h.xs.xbox b t o hb
      refine ⟨k1, fun l hl hv => ?_, fun k x hk hg => ?_⟩
      · rw [lh] at hv; exact k2 l hl hv
      · obtain ⟨e, hk, hg⟩ := old k x _ hk hg
        exact k3 k x hk hg
    · rcases cas 0 x hx with ⟨e, _⟩ | ⟨e, hx⟩
      · exact absurd e.symm h0
      · rw [(Vne 0 e).1, (Vne 0 e).2]; exact h.xs.fix x hx hm
    · have e : (0 : Tmp) ≠ r := fun e => h0 e.symm
      exact h.xs.kx.keep (fun x hx => h.xs.io 0 x hx) (fun x hx _ => ⟨x, by rw [bury_ne e] at hx; exact hx, rfl, (Vne 0 e).1⟩) rfl (fun _ _ _ _ => rfl)
/-- what the tree held is free -/
theorem bury_free (h : Sim w0 lim0 rb n st a w lim β) {r : Tmp} {d : Dat} (hr : st.io r = some d) {g : Nat} (hg : β.B r g) : freeB w0 rb (buryS st r) a w lim (buryM β r) g ∧ ¬ isTree (buryS st r) (buryM β r) g := by
  obtain ⟨b1, b2, b3⟩ := h.xs.base r d g hr hg
  refine ⟨⟨b3, b1, b2, fun b d' hb => h.xs.box r d g hr hg b d' hb, fun l hl hv => ?_⟩, fun ht => ?_⟩
  · have hv : HasL st a w β l g := by cases l <;> exact hv
    exact h.xs.own r d g hr hg l hl hv
  · rcases ht with ⟨k, x, k1, k2⟩ | ⟨b, t, o, k1, k2⟩
    · by_cases e : k = r
      · subst e; simp [buryM] at k2
      · rw [bury_ne e] at k1
        have k2 : β.B k g := by simpa [buryM, e] using k2
        exact e (h.xs.dis k x r d g k1 hr k2 hg)
    · have k2 : g = β.c b := k2
      exact (h.xs.xbox b t o k1).2.2 r d hr (by rw [← k2]; exact hg)
/-- a tree given away, and a new one: first the one, then the other -/
theorem apply_bury {d : Option Tmp} {av : AV} {x : Tmp × Dat} (r : Tmp) (st : St) :
    apply (buryS st r) { upd0 d av none with xw := some x } = apply st { upd0 d av none with xw := some x, xk := some r } := by
  obtain ⟨c, d'⟩ := x
  exact St.ext' rfl rfl rfl rfl rfl rfl rfl rfl
/-- a name that was free stays free -/
theorem bury_free_io {r d : Tmp} (h : st.io d = none) (hr : st.io r ≠ none) : (buryS st r).io d = none := by
  have e : d ≠ r := fun e => hr (by rw [← e]; exact h)
  rw [bury_ne e]; exact h
/-- a tree is given away for a new one, which may stand in its blocks -/
theorem Sim.moveC {w' : World} {lim' : Lim} (h : Sim w0 lim0 rb n st a w lim β) (hrb : ∀ k, some k = rb → k < w0.heap.size) {r d : Tmp} {dr : Dat} (hr : st.io r = some dr) (h0 : r ≠ 0) (hd : d < n) (hfree : st.io d = none) (hd0 : d ≠ 0) (dat : Dat) (av : AV) (v : Value) (B0 : Nat → Prop)
    (h1 : w'.os = w.os) (h2 : w'.tape = w.tape) (h3 : w'.output = w.output) (hs : w.heap.size ≤ w'.heap.size) (hk : ∀ k, k < w.heap.size → ¬ β.B r k → w'.heap[k]? = w.heap[k]?) (hl : ∀ k, k < w.heap.size → lim' k = lim k)
    (hX : XRep w' dat.1 dat.2 (flatV v) B0) (hB : ∀ g, B0 g → (w.heap.size ≤ g ∨ β.B r g) ∧ lim' g = some 0) (hav : (av = .xf d [] ∧ v = wrapV dat.1 (flatV v)) ∨ (av = .xt d ∧ ∃ vs, v = .tuple vs.toArray ∧ TupSh dat.1 vs)) :
    ∃ β', Sim w0 lim0 rb n (apply st { upd0 (some d) av none with xw := some (d, dat), xk := some r }) (a.put (some d) v) w' lim' β' := by
  have hb := h.bury hr h0
  have := hb.newrootC hrb hd (bury_free_io hfree (by rw [hr]; simp)) hd0 dat av v B0 h1 h2 h3 hs (fun k => β.B r k) (fun k hk' => bury_free h hr hk') hk hl hX hB hav
  rw [apply_bury] at this
  exact ⟨_, this⟩
end
end Go.Den

namespace Go.Den
section
variable {w : World} {lim : Lim}

theorem offs0 (t : Ty) : offs t [] = 0 := by cases t <;> rfl
theorem str_typeAt : ∀ {t : Ty} {x : t.val} {i : Nat} {y : Dat}, getF t x i = some y → typeAt t [i] = some y.1 := by
  intro t x i y h
  have := (getF_typeAt [] h).1
  rw [this]; cases y.1 <;> rfl
/-- a struct out of its fields -/
theorem XRep.ofFields : ∀ {t : Ty} {x : t.val} {cs : List Value} {Bf : Nat → Nat → Prop}, isStr t = true → cs.length = t.size →
    (∀ i y, getF t x i = some y → XRep w y.1 y.2 ((cs.drop (offs t [i])).take y.1.size) (Bf i)) → (∀ i j g, Bf i g → Bf j g → i = j) → XRep w t x cs (fun g => ∃ i y, getF t x i = some y ∧ Bf i g) := by
  intro t
  induction t with
  | unit =>
    intro x cs Bf _ hl _ _
    have : cs = [] := List.eq_nil_of_length_eq_zero (by simpa [Ty.size] using hl)
    exact ⟨this, fun g ⟨i, y, h, _⟩ => by cases h⟩
  | prod a b _ ihb =>
    intro x cs Bf hs hl hf hd
    refine ⟨cs.take a.size, cs.drop a.size, Bf 0, (fun g => ∃ i y, getF b x.2 i = some y ∧ Bf (i + 1) g), (List.take_append_drop _ _).symm, fun g => ⟨?_, ?_⟩, fun g h0 ⟨i, y, _, h1⟩ => (by have := hd _ _ _ h0 h1; omega), ?_, ?_⟩
    · rintro ⟨i, y, h1, h2⟩
      cases i with
      | zero => exact .inl h2
      | succ i => exact .inr ⟨i, y, h1, h2⟩
    · rintro (h | ⟨i, y, h1, h2⟩)
      · exact ⟨0, ⟨a, x.1⟩, rfl, h⟩
      · exact ⟨i + 1, y, h1, h2⟩
    · have := hf 0 ⟨a, x.1⟩ rfl
      simpa [offs, offs0] using this
    · refine ihb hs (by simp [hl, Ty.size]) (fun i y hy => ?_) (fun i j g h1 h2 => by have := hd _ _ _ h1 h2; omega)
      have := hf (i + 1) y hy
      simpa [offs, List.drop_drop] using this
  | int k => intro x cs Bf hs; cases hs
  | bool => intro x cs Bf hs; cases hs
  | str => intro x cs Bf hs; cases hs
  | slice e => intro x cs Bf hs; cases hs
/-- a struct's fields -/
theorem XRep.fields : ∀ {t : Ty} {x : t.val} {cs : List Value} {B : Nat → Prop}, isStr t = true → XRep w t x cs B → ∃ Bf : Nat → Nat → Prop,
    (∀ i y, getF t x i = some y → XRep w y.1 y.2 ((cs.drop (offs t [i])).take y.1.size) (Bf i)) ∧ (∀ g, B g ↔ ∃ i, Bf i g) ∧ (∀ i j g, Bf i g → Bf j g → i = j) ∧ (∀ i g, Bf i g → ∃ y, getF t x i = some y) := by
  intro t
  induction t with
  | unit =>
    intro x cs B _ h
    exact ⟨fun _ _ => False, fun i y hy => (by cases hy), fun g => ⟨fun hg => (h.2 g hg).elim, fun ⟨_, hg⟩ => hg.elim⟩, fun _ _ _ h => h.elim, fun _ _ h => h.elim⟩
  | prod a b _ ihb =>
    intro x cs B hs h
    obtain ⟨c1, c2, B1, B2, rfl, h2, h3, h4, h5⟩ := h
    obtain ⟨Bf, k1, k2, k3, k4⟩ := ihb hs h5
    have hl := h4.length
    refine ⟨fun i => match i with | 0 => B1 | i + 1 => Bf i, fun i y hy => ?_, fun g => ⟨fun hg => ?_, fun ⟨i, hg⟩ => ?_⟩, fun i j g hi hj => ?_, fun i g hi => ?_⟩
    · cases i with
      | zero =>
        simp only [getF] at hy; injection hy with hy; subst hy
        simp only [offs, offs0, List.drop_zero]
        rw [← hl, List.take_left]; exact h4
      | succ i =>
        have := k1 i y hy
        simp only [offs]
        rw [← hl, List.drop_append, List.drop_eq_nil_of_le (by omega), List.nil_append, Nat.add_sub_cancel_left]; exact this
    · rcases (h2 g).1 hg with hg | hg
      · exact ⟨0, hg⟩
      · obtain ⟨i, hi⟩ := (k2 g).1 hg
        exact ⟨i + 1, hi⟩
    · cases i with
      | zero => exact (h2 g).2 (.inl hg)
      | succ i => exact (h2 g).2 (.inr ((k2 g).2 ⟨i, hg⟩))
    · cases i <;> cases j
      · rfl
      · exact absurd ((k2 g).2 ⟨_, hj⟩) (h3 g hi)
      · exact absurd ((k2 g).2 ⟨_, hi⟩) (h3 g hj)
      · rw [k3 _ _ g hi hj]
    · cases i with
      | zero => exact ⟨_, rfl⟩
      | succ i => exact k4 i g hi
  | int k => intro x cs B hs; cases hs
  | bool => intro x cs B hs; cases hs
  | str => intro x cs B hs; cases hs
  | slice e => intro x cs B hs; cases hs
theorem NRep.fieldAt : ∀ {t : Ty} {x : t.val} {cs : List Value} {i : Nat} {y : Dat}, NRep t x cs → getF t x i = some y → NRep y.1 y.2 ((cs.drop (offs t [i])).take y.1.size) := by
  intro t
  induction t with
  | prod a b _ ihb =>
    intro x cs i y h hy
    obtain ⟨c1, c2, rfl, h1, h2⟩ := h
    have hl := h1.length
    cases i with
    | zero =>
      simp only [getF] at hy; injection hy with hy; subst hy
      simp only [offs, offs0, List.drop_zero]
      rw [← hl, List.take_left]; exact h1
    | succ i =>
      have := ihb h2 (show getF b x.2 i = some y from hy)
      simp only [offs]
      rw [← hl, List.drop_append, List.drop_eq_nil_of_le (by omega), List.nil_append, Nat.add_sub_cancel_left]; exact this
  | _ => intro x cs i y h hy; cases hy
theorem NRep.xrep : ∀ {t : Ty} {x : t.val} {cs : List Value}, NRep t x cs → XRep w t x cs (fun _ => False)
  | .int _, _, _, h => ⟨h, fun _ h => h⟩
  | .bool, _, _, h => ⟨h, fun _ h => h⟩
  | .str, _, _, h => ⟨h, fun _ h => h⟩
  | .unit, _, _, h => ⟨h, fun _ h => h⟩
  | .prod a b, _, _, h => by
    obtain ⟨c1, c2, rfl, h1, h2⟩ := h
    exact ⟨c1, c2, _, _, rfl, fun g => ⟨fun h => .inl h, fun h => h.elim id id⟩, fun g h => h.elim, h1.xrep, h2.xrep⟩
  | .slice t, xs, _, h => .inl ⟨h.1, h.2, fun _ h => h⟩
theorem NRep.ofFields : ∀ {t : Ty} {x : t.val} {cs : List Value}, isStr t = true → cs.length = t.size →
    (∀ i y, getF t x i = some y → NRep y.1 y.2 ((cs.drop (offs t [i])).take y.1.size)) → NRep t x cs := by
  intro t
  induction t with
  | unit =>
    intro x cs _ hl _
    exact List.eq_nil_of_length_eq_zero (by simpa [Ty.size] using hl)
  | prod a b _ ihb =>
    intro x cs hs hl hf
    refine ⟨cs.take a.size, cs.drop a.size, (List.take_append_drop _ _).symm, ?_, ?_⟩
    · have := hf 0 ⟨a, x.1⟩ rfl
      simpa [offs, offs0] using this
    · refine ihb hs (by simp [hl, Ty.size]) (fun i y hy => ?_)
      have := hf (i + 1) y hy
      simpa [offs, List.drop_drop] using this
  | int k => intro x cs hs; cases hs
  | bool => intro x cs hs; cases hs
  | str => intro x cs hs; cases hs
  | slice e => intro x cs hs; cases hs
/-- each cell is a field's -/
theorem str_cover : ∀ {t : Ty} {x : t.val}, isStr t = true → ∀ j, j < t.size → ∃ i y, getF t x i = some y ∧ offs t [i] ≤ j ∧ j < offs t [i] + y.1.size := by
  intro t
  induction t with
  | unit => intro x _ j hj; simp [Ty.size] at hj
  | prod a b _ ihb =>
    intro x hs j hj
    by_cases h : j < a.size
    · exact ⟨0, ⟨a, x.1⟩, rfl, by simp [offs, offs0], by simpa [offs, offs0] using h⟩
    · obtain ⟨i, y, h1, h2, h3⟩ := ihb (x := x.2) hs (j - a.size) (by simp only [Ty.size] at hj; omega)
      exact ⟨i + 1, y, h1, by simp only [offs]; omega, by simp only [offs]; omega⟩
  | int k => intro x hs; cases hs
  | bool => intro x hs; cases hs
  | str => intro x hs; cases hs
  | slice e => intro x hs; cases hs
theorem NRep_noSl : ∀ {t : Ty} {x : t.val}, noSl t = true → NRep t x (cellsV t x)
  | .int _, _, _ => rfl
  | .bool, _, _ => rfl
  | .str, _, _ => rfl
  | .unit, _, _ => rfl
  | .prod a b, x, h => by
    have h2 : noSl a = true ∧ noSl b = true := by
      simp only [noSl] at h
      cases ha : noSl a with
      | true => rw [ha] at h; exact ⟨rfl, h⟩
      | false => rw [ha] at h; cases h
    exact ⟨_, _, rfl, NRep_noSl h2.1, NRep_noSl h2.2⟩
  | .slice _, _, h => by cases h
theorem NRep_zero : ∀ t : Ty, NRep t t.zero (zeroCells t)
  | .int _ => rfl
  | .bool => rfl
  | .str => rfl
  | .unit => rfl
  | .prod a b => ⟨_, _, rfl, NRep_zero a, NRep_zero b⟩
  | .slice _ => ⟨rfl, rfl⟩
theorem seg_get (cs : List Value) (o s j : Nat) : ((cs.drop o).take s)[j]? = if j < s then cs[o + j]? else none := by
  rw [List.getElem?_take]
  split <;> simp
theorem seg_ext {cs ds : List Value} {o s : Nat} (h : ∀ j, o ≤ j → j < o + s → cs[j]? = ds[j]?) : (cs.drop o).take s = (ds.drop o).take s := by
  apply List.ext_getElem?
  intro j
  rw [seg_get, seg_get]
  split
  · exact h _ (by omega) (by omega)
  · rfl
theorem seg_at {cs ds : List Value} {o s : Nat} (h : (cs.drop o).take s = (ds.drop o).take s) : ∀ j, o ≤ j → j < o + s → cs[j]? = ds[j]? := by
  intro j h1 h2
  have := congrArg (fun l => l[j - o]?) h
  simp only [seg_get] at this
  rw [if_pos (by omega), if_pos (by omega), show o + (j - o) = j by omega] at this
  exact this
end
end Go.Den

namespace Go.Den
section
variable {P : Program} {tab : Tab} {w0 : Base} {lim0 : Lim} {rb : Option Nat} {n : Nat}
variable {st st' : St} {a : Act} {w : World} {lim : Lim} {β : Mp} {o : Oper} {c : Comp}

theorem getF_set : ∀ {t : Ty} {x z : t.val} {i : Nat} {u : Ty} {y : u.val}, setF t x i ⟨u, y⟩ = some z → (∀ d, getF t x i = some d → d.1 = u → getF t z i = some ⟨u, y⟩) ∧ ∀ j, j ≠ i → getF t z j = getF t x j := by
  intro t
  induction t with
  | prod a b _ ihb =>
    intro x z i u y h
    cases i with
    | zero =>
      simp only [setF] at h
      cases hc : Ty.cast u a y with
      | none => rw [hc] at h; cases h
      | some v =>
        rw [hc] at h
        injection h with h; subst h
        obtain ⟨e1, e2⟩ := cast_some hc
        subst e1; subst e2
        refine ⟨fun d _ _ => rfl, fun j hj => ?_⟩
        cases j with
        | zero => exact absurd rfl hj
        | succ j => rfl
    | succ i =>
      simp only [setF] at h
      cases hc : setF b x.2 i ⟨u, y⟩ with
      | none => rw [hc] at h; cases h
      | some v =>
        rw [hc] at h
        injection h with h; subst h
        obtain ⟨k1, k2⟩ := ihb hc
        refine ⟨fun d hd he => k1 d hd he, fun j hj => ?_⟩
        cases j with
        | zero => rfl
        | succ j => exact k2 j (fun e => hj (by rw [e]))
  | _ => intro x z i u y h; cases h
theorem getF_type : ∀ {t : Ty} {x z : t.val} {i : Nat} {y : Dat}, getF t x i = some y → ∃ y', getF t z i = some y' ∧ y'.1 = y.1 := by
  intro t
  induction t with
  | prod a b _ ihb =>
    intro x z i y h
    cases i with
    | zero => simp only [getF] at h; injection h with h; subst h; exact ⟨_, rfl, rfl⟩
    | succ i => exact ihb (x := x.2) (z := z.2) h
  | _ => intro x z i y h; cases h
/-- the fields of a struct are filled, cell by cell -/
theorem run_fillC {ty : Ty} {place : Nat → Option (Nat × Nat)} (hplace : ∀ (x : ty.val) i d, getF ty x i = some d → place i = some (offs ty [i], d.1.size)) :
    ∀ (parts : List (Nat × Operand)) (cells : Array Value), cells.size = ty.size → noDup parts = true → (∀ p ∈ parts, ∃ (x : ty.val) (d : Dat), getF ty x p.1 = some d ∧ (a.eval p.2).cells.size = d.1.size) →
    ∃ cells', Instr.fill place cells (parts.map fun p => (p.1, a.eval p.2)) = some cells' ∧ cells'.size = cells.size ∧
      ∀ i u, typeAt ty [i] = some u → (cells'.toList.drop (offs ty [i])).take u.size = match partOf i parts with
        | some x => (a.eval x).cells.toList
        | none => (cells.toList.drop (offs ty [i])).take u.size := by
  intro parts
  induction parts with
  | nil => intro cells _ _ _; exact ⟨cells, rfl, rfl, fun i u _ => rfl⟩
  | cons px parts ih =>
    intro cells hsz hn hp
    obtain ⟨i, x⟩ := px
    obtain ⟨xv, d, hg, hv⟩ := hp (i, x) (by simp)
    have hg : getF ty xv i = some d := hg
    have hn' : noDup parts = true ∧ partOf i parts = none := by
      simp only [noDup] at hn
      cases hq : partOf i parts with
      | none => rw [hq] at hn; exact ⟨hn, rfl⟩
      | some _ => rw [hq] at hn; cases hn
    have hti := str_typeAt hg
    have hlt := typeAt_lt hti
    have hcl : cells.toList.length = ty.size := by simpa using hsz
    obtain ⟨c1, c2, c3, k1, k2, k3⟩ : ∃ c1 c2 c3, cells.toList = c1 ++ (c2 ++ c3) ∧ c1.length = offs ty [i] ∧ c2.length = d.1.size := by
      refine ⟨cells.toList.take (offs ty [i]), (cells.toList.drop (offs ty [i])).take d.1.size, (cells.toList.drop (offs ty [i])).drop d.1.size, ?_, ?_, ?_⟩
      · rw [List.take_append_drop, List.take_append_drop]
      · rw [List.length_take]; omega
      · rw [List.length_take, List.length_drop]; omega
    have hvl : (a.eval x).cells.toList.length = d.1.size := by simpa using hv
    have hsz1 : (c1 ++ ((a.eval x).cells.toList ++ c3)).toArray.size = cells.size := by
      have : cells.size = cells.toList.length := by simp
      rw [this, k1]; simp only [List.size_toArray, List.length_append, hvl, k3]
    obtain ⟨cells', m1, m2, m3⟩ := ih (c1 ++ ((a.eval x).cells.toList ++ c3)).toArray (hsz1.trans hsz) hn'.1 (fun p hp' => hp p (by simp [hp']))
    refine ⟨cells', ?_, m2.trans hsz1, fun j u hj => ?_⟩
    · simp only [List.map_cons]
      rw [fill_step (hplace xv i d hg) hv k1 k2 k3]; exact m1
    · have m3 := m3 j u hj
      simp only [partOf]
      cases hb : Nat.beq j i with
      | true =>
        have := nbeq hb; subst this
        rw [hn'.2] at m3
        simp only [cnd_true]
        rw [hti] at hj; injection hj with hj; subst hj
        rw [m3, ← k2]
        simp only [List.drop_left, ← hvl, List.take_left]
      | false =>
        simp only [cnd_false]
        rw [m3]
        cases hq : partOf j parts with
        | some y => rfl
        | none =>
          have hpc : pcomp [j] [i] = false := by simp only [pcomp, hb, cnd_false]
          have hb2 := beside hj hti hpc
          refine seg_ext fun k hk1 hk2 => ?_
          rw [k1]
          simp only []
          rcases hb2 with hb2 | hb2
          · rw [List.getElem?_append_left (by omega), List.getElem?_append_left (by omega)]
          · rw [List.getElem?_append_right (by omega), List.getElem?_append_right (by omega), List.getElem?_append_right (by omega), List.getElem?_append_right (by omega), hvl, k3]

def notX (av : AV) : Prop := ∀ r p, av ≠ .xf r p
theorem fillX_spec {t : Ty} : ∀ {parts : List (Nat × Operand)} {z v : t.val} {k kr : Option Tmp}, noDup parts = true → fillX st t z parts k = some (v, kr) →
    (∀ p ∈ parts, ∃ d, getF t z p.1 = some d) ∧ (∀ i y, getF t v i = some y → match partOf i parts with
      | none => getF t z i = some y
      | some x => notX (st.ent x).av → noSl y.1 = true ∧ AV.as y.1 (st.ent x).av = some y.2) ∧
    ((kr = k ∧ ∀ i x, partOf i parts = some x → notX (st.ent x).av) ∨ ∃ i0 x0 r y, k = none ∧ kr = some r ∧ partOf i0 parts = some x0 ∧ (st.ent x0).av = .xf r [] ∧ r ≠ 0 ∧ getF t v i0 = some y ∧ st.atX r [] = some y ∧ ∀ i x, i ≠ i0 → partOf i parts = some x → notX (st.ent x).av) := by
  intro parts
  induction parts with
  | nil =>
    intro z v k kr _ h
    simp only [fillX] at h; injection h with h; injection h with e1 e2; subst e1; subst e2
    exact ⟨fun p hp => (by cases hp), fun i y hy => hy, .inl ⟨rfl, fun i x h => by cases h⟩⟩
  | cons px parts ih =>
    intro z v k kr hn h
    obtain ⟨i, x⟩ := px
    have hn' : noDup parts = true ∧ partOf i parts = none := by
      simp only [noDup] at hn
      cases hq : partOf i parts with
      | none => rw [hq] at hn; exact ⟨hn, rfl⟩
      | some _ => rw [hq] at hn; cases hn
    simp only [fillX] at h
    cases hg : getF t z i with
    | none => rw [hg] at h; cases h
    | some d =>
    rw [hg] at h; simp only [] at h
    have shared : ∀ {u : d.1.val} {z' : t.val}, setF t z i ⟨d.1, u⟩ = some z' → (∀ p ∈ parts, ∃ d', getF t z' p.1 = some d') → ∀ p ∈ (i, x) :: parts, ∃ d', getF t z p.1 = some d' := by
      intro u z' hs hp p hm
      rcases List.mem_cons.1 hm with rfl | hm
      · exact ⟨d, hg⟩
      · obtain ⟨d', hd'⟩ := hp p hm
        obtain ⟨y', h1, _⟩ := getF_type (z := z) hd'
        exact ⟨y', h1⟩
    have data : ∀ {u : d.1.val} {z' : t.val}, notX (st.ent x).av → noSl d.1 = true → AV.as d.1 (st.ent x).av = some u → setF t z i ⟨d.1, u⟩ = some z' → fillX st t z' parts k = some (v, kr) →
        (∀ p ∈ (i, x) :: parts, ∃ d, getF t z p.1 = some d) ∧ (∀ j y, getF t v j = some y → match partOf j ((i, x) :: parts) with
          | none => getF t z j = some y
          | some x => notX (st.ent x).av → noSl y.1 = true ∧ AV.as y.1 (st.ent x).av = some y.2) ∧
        ((kr = k ∧ ∀ j y, partOf j ((i, x) :: parts) = some y → notX (st.ent y).av) ∨ ∃ i0 x0 r y, k = none ∧ kr = some r ∧ partOf i0 ((i, x) :: parts) = some x0 ∧ (st.ent x0).av = .xf r [] ∧ r ≠ 0 ∧ getF t v i0 = some y ∧ st.atX r [] = some y ∧ ∀ j y, j ≠ i0 → partOf j ((i, x) :: parts) = some y → notX (st.ent y).av) := by
      intro u z' hnx hns has hs hf
      obtain ⟨k1, k2, k3⟩ := ih hn'.1 hf
      obtain ⟨g1, g2⟩ := getF_set hs
      refine ⟨shared hs k1, fun j y hy => ?_, ?_⟩
      · have := k2 j y hy
        simp only [partOf]
        cases hb : Nat.beq j i with
        | true =>
          have e := nbeq hb; subst e
          rw [hn'.2] at this
          simp only [] at this
          rw [g1 d hg rfl] at this
          injection this with this; subst this
          intro _; exact ⟨hns, has⟩
        | false =>
          have hne : j ≠ i := fun e => by subst e; simp at hb
          simp only [cnd_false]
          cases hq : partOf j parts with
          | none => rw [hq] at this; simp only [] at this ⊢; rw [← g2 j hne]; exact this
          | some y' => rw [hq] at this; exact this
      · have pc : ∀ j y, partOf j ((i, x) :: parts) = some y → (j = i ∧ y = x) ∨ (j ≠ i ∧ partOf j parts = some y) := by
          intro j y hj
          simp only [partOf] at hj
          cases hb : Nat.beq j i with
          | true => rw [hb] at hj; injection hj with hj; exact .inl ⟨nbeq hb, hj.symm⟩
          | false => rw [hb] at hj; exact .inr ⟨fun e => (by subst e; simp at hb), hj⟩
        rcases k3 with ⟨e1, k3⟩ | ⟨i0, x0, r, y, e1, e2, m1, m2, m3, m4, m5, m6⟩
        · refine .inl ⟨e1, fun j y hj => ?_⟩
          rcases pc j y hj with ⟨_, rfl⟩ | ⟨_, hj⟩
          · exact hnx
          · exact k3 j y hj
        · have hi0 : i0 ≠ i := fun e => by subst e; rw [hn'.2] at m1; cases m1
          have hb : Nat.beq i0 i = false := by
            cases hq : Nat.beq i0 i with
            | true => exact absurd (nbeq hq) hi0
            | false => rfl
          refine .inr ⟨i0, x0, r, y, e1, e2, by simp only [partOf, hb, cnd_false]; exact m1, m2, m3, m4, m5, fun j y' hj hp => ?_⟩
          rcases pc j y' hp with ⟨_, rfl⟩ | ⟨_, hp⟩
          · exact hnx
          · exact m6 j y' hj hp
    split at h
    · rename_i r hav
      split at h
      · rename_i y hx0 hr0
        cases hc : Ty.cast y.1 d.1 y.2 with
        | none => rw [hc] at h; cases h
        | some u =>
        rw [hc] at h; simp only [] at h
        cases hs : setF t z i ⟨d.1, u⟩ with
        | none => rw [hs] at h; cases h
        | some z' =>
        rw [hs] at h; simp only [] at h
        obtain ⟨k1, k2, k3⟩ := ih hn'.1 h
        obtain ⟨g1, g2⟩ := getF_set hs
        obtain ⟨e1, e2⟩ := cast_some hc
        have hyd : (⟨d.1, u⟩ : Dat) = y := by
          obtain ⟨yt, yv⟩ := y
          simp only at e1 e2
          subst e1; subst e2; rfl
        have hkr : kr = some r ∧ ∀ j x', partOf j parts = some x' → notX (st.ent x').av := by
          rcases k3 with ⟨e1, k3⟩ | ⟨i0, x0, r', y', e1, _⟩
          · exact ⟨e1, k3⟩
          · cases e1
        have hgv : getF t v i = some y := by
          obtain ⟨y', hy', _⟩ := getF_type (z := v) hg
          have := k2 i y' hy'
          rw [hn'.2] at this
          simp only [] at this
          rw [g1 d hg rfl] at this
          rw [hy', ← this, hyd]
        have hself : partOf i ((i, x) :: parts) = some x := by simp [partOf]
        refine ⟨shared hs k1, fun j y' hy => ?_, .inr ⟨i, x, r, y, rfl, hkr.1, hself, hav, fun e => (by subst e; cases hr0), hgv, hx0, fun j y' hj hp => ?_⟩⟩
        · have := k2 j y' hy
          simp only [partOf]
          cases hb : Nat.beq j i with
          | true => intro hnx; exact absurd hav (hnx r [])
          | false =>
            have hne : j ≠ i := fun e => by subst e; simp at hb
            simp only [cnd_false]
            cases hq : partOf j parts with
            | none => rw [hq] at this; simp only [] at this ⊢; rw [← g2 j hne]; exact this
            | some y2 => rw [hq] at this; exact this
        · simp only [partOf] at hp
          cases hb : Nat.beq j i with
          | true => exact absurd (nbeq hb) hj
          | false => rw [hb] at hp; exact hkr.2 j y' hp
      · cases h
    · cases h
    · rename_i hno1 hno2
      have hnx : notX (st.ent x).av := fun r p e => by
        cases p with
        | nil => exact hno1 r e
        | cons j p => exact hno2 r j p e
      split at h
      · rename_i u hns has
        cases hs : setF t z i ⟨d.1, u⟩ with
        | none => rw [hs] at h; cases h
        | some z' => rw [hs] at h; exact data hnx hns has hs h
      · cases h
/-- what a build comes to -/
theorem run_buildC (hT : TabOk P tab) {t : TypeId} {ty : Ty} (hty : tab t = some ty) (hstr : isStr ty = true) {parts : Array (Nat × Operand)} (hop : o.op = .build t parts) (hn : noDup parts.toList = true)
    (hp : ∀ p ∈ parts.toList, ∃ (x : ty.val) (d : Dat), getF ty x p.1 = some d ∧ (a.eval p.2).cells.size = d.1.size) :
    ∃ cells, (execOp a.eval o).run P w = .ok (.value (.agg cells)) w ∧ cells.size = ty.size ∧ ∀ i u, typeAt ty [i] = some u → (cells.toList.drop (offs ty [i])).take u.size = match partOf i parts.toList with
        | some x => (a.eval x).cells.toList
        | none => ((zeroCells ty).drop (offs ty [i])).take u.size := by
  have htok := hT _ _ hty
  obtain ⟨fs, hfs, hff⟩ : ∃ fs, P.underlying t = some (.struct fs) ∧ FieldsOk tab ty 0 fs.toList := by
    have := htok.desc
    cases ty <;> first | exact this | cases hstr
  obtain ⟨ps, hps1, hps2⟩ := places_spec (P := P) (w := w) fs.toList (FieldsOk.all hT hff)
  have hplace : ∀ (x : ty.val) i d, getF ty x i = some d → ps.toArray[i]? = some (offs ty [i], d.1.size) := by
    intro x i d hg
    obtain ⟨f, k1, k2, k3, k4⟩ := fields_at hff hg
    have := hps2 i f d.1 k1 (hT _ _ k3)
    simpa [k2] using this
  have hzc : (wrapV ty (zeroCells ty)).cells = (zeroCells ty).toArray := wrapV_cells (zero_rep w (fun _ => none) ty)
  have hzl : (zeroCells ty).length = ty.size := by simpa using (zero_rep w (fun _ => none) ty).length
  obtain ⟨cells', m1, m2, m3⟩ := run_fillC (a := a) (place := (ps.toArray[·]?)) hplace parts.toList (zeroCells ty).toArray (by simpa using hzl) hn hp
  refine ⟨cells', ?_, m2.trans (by simpa using hzl), m3⟩
  have hm1 : Instr.fill (fun i => ps[i]?) (zeroCells ty).toArray (parts.toList.map fun p => (p.1, a.eval p.2)) = some cells' := by simpa using m1
  simp [execOp, hop, Instr.build, run_zeroValue htok, underlying, hfs, Array.mapM_eq_mapM_toList, hps1, hzc, hm1]
theorem partOf_of {i : Nat} {x : Operand} : ∀ {parts : List (Nat × Operand)}, noDup parts = true → (i, x) ∈ parts → partOf i parts = some x
  | (j, y) :: ps, hn, hm => by
    simp only [noDup] at hn
    simp only [partOf]
    rcases List.mem_cons.1 hm with hm | hm
    · injection hm with e1 e2; subst e1; subst e2; simp
    · cases hq : partOf j ps with
      | some _ => rw [hq] at hn; cases hn
      | none =>
        rw [hq] at hn
        have := partOf_of hn hm
        cases hb : Nat.beq i j with
        | true => have e := nbeq hb; subst e; rw [hq] at this; cases this
        | false => exact this
theorem str_agg {ty : Ty} (h : isStr ty = true) (cs : List Value) : wrapV ty cs = .agg cs.toArray := by cases ty <;> first | rfl | cases h
theorem ok_buildX (hT : TabOk P tab) (h : Sim w0 lim0 rb n st a w lim β) (hrb : ∀ k, some k = rb → k < w0.heap.size) (hd : ∀ d, o.dst = some d → d < n) {t : TypeId} {parts : Array (Nat × Operand)} (hop : o.op = .build t parts)
    (hc : stBuildX tab o t parts.toList st = some c) (ho : c.out st = some st') : OpOk P w0 lim0 rb n o st' a w := by
  unfold stBuildX at hc
  split at hc
  · rename_i ty d hty hfree
    split at hc
    · rename_i v r hstr hnd hfl
      injection hc with hc; subst hc
      obtain ⟨_, rfl⟩ := out_ret ho
      obtain ⟨hdst, hfd, _, _, hd0⟩ := free_some hfree
      obtain ⟨f1, f2, f3⟩ := fillX_spec hnd hfl
      rcases f3 with ⟨e1, _⟩ | ⟨i0, x0, r', y0, _, e2, p1, p2, p3, p4, p5, p6⟩
      · cases e1
      injection e2 with e2; subst e2
      obtain ⟨dr, hio, m8⟩ := atX_some p5
      have m8 : dr = y0 := Option.some.inj (show some dr = some y0 from m8)
      subst m8
      have hXr := h.xs.io r _ hio
      obtain ⟨dd, hio2, hv0⟩ := xf_val h p2 p5
      rw [hio] at hio2; injection hio2 with hio2; subst hio2
      have hseg : ((flatV (β.V r)).drop (offs dr.1 [])).take dr.1.size = flatV (β.V r) := by rw [offs0, List.drop_zero, ← hXr.length, List.take_length]
      rw [hseg] at hv0
      have hcl0 : (a.eval x0).cells.toList = flatV (β.V r) := by
        rw [hv0, wrapV_cells (hXr.crep (lim := fun _ => none) (fun _ _ => rfl))]
      have pdata : ∀ i x y, partOf i parts.toList = some x → i ≠ i0 → getF ty v i = some y → noSl y.1 = true ∧ (a.eval x).cells.toList = cellsV y.1 y.2 := by
        intro i x y hpi hne hy
        have := f2 i y hy
        rw [hpi] at this
        obtain ⟨k1, k2⟩ := this (p6 i x hne hpi)
        refine ⟨k1, ?_⟩
        have := (as_rep k2 (h.ent x)).cells
        exact (CRep_noSl k1).1 this
      obtain ⟨cells, hrun, hsz, hcells⟩ := run_buildC (P := P) (a := a) (w := w) hT hty hstr hop hnd (fun p hp => by
        obtain ⟨dp, k1⟩ := f1 p hp
        refine ⟨_, dp, k1, ?_⟩
        have hpo := partOf_of hnd hp
        obtain ⟨y', g1, g2⟩ := getF_type (z := v) k1
        by_cases hi : p.1 = i0
        · rw [hi] at hpo g1
          rw [p1] at hpo; injection hpo with hpo
          rw [p4] at g1; injection g1 with g1
          rw [← hpo, ← g2, ← g1]
          have := congrArg List.length hcl0
          rw [hXr.length] at this
          simpa using this
        · obtain ⟨k2, k3⟩ := pdata p.1 p.2 y' hpo hi g1
          have := congrArg List.length k3
          rw [cellsV_length k2, g2] at this
          simpa using this)
      let Bf : Nat → Nat → Prop := fun i => if i = i0 then β.B r else fun _ => False
      have hX : XRep w ty v cells.toList (fun g => ∃ i y, getF ty v i = some y ∧ Bf i g) := by
        refine XRep.ofFields hstr (by simpa using hsz) (fun i y hy => ?_) (fun i j g h1 h2 => ?_)
        · rw [hcells i y.1 (str_typeAt hy)]
          by_cases hi : i = i0
          · subst hi
            rw [p4] at hy; injection hy with hy; subst hy
            rw [p1]
            simp only [Bf, if_true, hcl0]; exact hXr
          · simp only [Bf, hi, if_false]
            cases hpi : partOf i parts.toList with
            | some x =>
              obtain ⟨k1, k2⟩ := pdata i x y hpi hi hy
              simp only [k2]
              exact (XRep_noSl k1).2 ⟨rfl, fun _ hg => hg⟩
            | none =>
              have := f2 i y hy
              rw [hpi] at this
              exact ((NRep_zero ty).fieldAt this).xrep
        · simp only [Bf] at h1 h2
          split at h1
          · split at h2
            · rename_i e1 e2; rw [e1, e2]
            · exact h2.elim
          · exact h1.elim
      have hfv : flatV (.agg cells) = cells.toList := rfl
      have hB : ∀ g, (∃ i y, getF ty v i = some y ∧ Bf i g) → β.B r g := by
        rintro g ⟨i, y, _, hb⟩
        simp only [Bf] at hb
        split at hb
        · exact hb
        · exact hb.elim
      obtain ⟨β', hsim⟩ := h.moveC hrb hio p3 (hd d hdst) hfd hd0 ⟨ty, v⟩ (.xf d []) (.agg cells) (fun g => ∃ i y, getF ty v i = some y ∧ Bf i g) rfl rfl rfl (Nat.le_refl _) (fun _ _ _ => rfl) (fun _ _ => rfl) (by rw [hfv]; exact hX)
        (fun g hg => ⟨.inr (hB g hg), (h.xs.base r _ g hio (hB g hg)).2.2⟩) (.inl ⟨rfl, by rw [hfv, str_agg hstr]⟩)
      exact OpOk.value (o := o) (lim := lim) (β := β') hrun (by rw [hdst]; exact hsim)
    · cases hc
  · cases hc
/-- the cells of a value whose slices are all nil -/
def nilC : (t : Ty) → t.val → List Value
  | .int k, x => [.int k x]
  | .bool, x => [.bool x]
  | .str, x => [.string ⟨⟨x⟩⟩]
  | .unit, _ => []
  | .prod a b, x => nilC a x.1 ++ nilC b x.2
  | .slice _, _ => [.slice none 0 0]
theorem NRep.eq : ∀ {t : Ty} {x : t.val} {cs : List Value}, NRep t x cs → cs = nilC t x
  | .int _, _, _, h => h
  | .bool, _, _, h => h
  | .str, _, _, h => h
  | .unit, _, _, h => h
  | .prod a b, _, _, h => by
    obtain ⟨c1, c2, rfl, h1, h2⟩ := h
    rw [h1.eq, h2.eq]; rfl
  | .slice _, _, _, h => h.1
theorem nilC_length : ∀ {t : Ty} {x : t.val}, (nilC t x).length = t.size
  | .int _, _ => rfl
  | .bool, _ => rfl
  | .str, _ => rfl
  | .unit, _ => rfl
  | .prod a b, x => by simp [nilC, Ty.size, nilC_length]
  | .slice _, _ => rfl
theorem nilC_field : ∀ {t : Ty} {x : t.val} {i : Nat} {y : Dat}, getF t x i = some y → ((nilC t x).drop (offs t [i])).take y.1.size = nilC y.1 y.2 := by
  intro t
  induction t with
  | prod a b _ ihb =>
    intro x i y hy
    have hl : (nilC a x.1).length = a.size := nilC_length
    cases i with
    | zero =>
      simp only [getF] at hy; injection hy with hy; subst hy
      simp only [nilC, offs, offs0, List.drop_zero]
      rw [← hl, List.take_left]
    | succ i =>
      have := ihb (show getF b x.2 i = some y from hy)
      simp only [nilC, offs]
      rw [← hl, List.drop_append, List.drop_eq_nil_of_le (by omega), List.nil_append, Nat.add_sub_cancel_left]; exact this
  | _ => intro x i y hy; cases hy
theorem fillR_spec {t : Ty} : ∀ {parts : List (Nat × Operand)} {z v : t.val} {qs ps : List (List Nat × Tmp × List Nat)}, noDup parts = true → fillR st t z parts qs = some (v, ps) →
    (∀ p ∈ parts, ∃ d, getF t z p.1 = some d) ∧ (∀ m ∈ qs, m ∈ ps) ∧ (∀ i y, getF t v i = some y → match partOf i parts with
      | none => getF t z i = some y
      | some x => (∃ r q y0, (st.ent x).av = .xf r q ∧ st.atX r q = some y0 ∧ y0.1 = y.1 ∧ ([i], r, q) ∈ ps ∧ getF t z i = some y) ∨ (noSl y.1 = true ∧ AV.as y.1 (st.ent x).av = some y.2)) ∧
    (∀ m ∈ ps, m ∈ qs ∨ ∃ i x r q y0, m = ([i], r, q) ∧ partOf i parts = some x ∧ (st.ent x).av = .xf r q ∧ st.atX r q = some y0 ∧ ∃ y, getF t v i = some y ∧ y0.1 = y.1) := by
  intro parts
  induction parts with
  | nil =>
    intro z v qs ps _ h
    simp only [fillR] at h; injection h with h; injection h with e1 e2; subst e1; subst e2
    exact ⟨fun p hp => (by cases hp), fun m hm => hm, fun i y hy => hy, fun m hm => .inl hm⟩
  | cons px parts ih =>
    intro z v qs ps hn h
    obtain ⟨i, x⟩ := px
    have hn' : noDup parts = true ∧ partOf i parts = none := by
      simp only [noDup] at hn
      cases hq : partOf i parts with
      | none => rw [hq] at hn; exact ⟨hn, rfl⟩
      | some _ => rw [hq] at hn; cases hn
    have bne : ∀ {j}, partOf j parts ≠ none → Nat.beq j i = false := fun {j} hj => by
      cases hb : Nat.beq j i with
      | true => have e := nbeq hb; subst e; exact absurd hn'.2 hj
      | false => rfl
    simp only [fillR] at h
    cases hg : getF t z i with
    | none => rw [hg] at h; cases h
    | some d =>
    rw [hg] at h; simp only [] at h
    split at h
    · rename_i r q hav
      cases hx : st.atX r q with
      | none => rw [hx] at h; cases h
      | some y0 =>
      rw [hx] at h; simp only [] at h
      cases hb0 : Ty.beq y0.1 d.1 with
      | false => rw [hb0] at h; cases h
      | true =>
      rw [hb0] at h
      have hty := Ty.of_beq hb0
      obtain ⟨k1, k2, k3, k4⟩ := ih hn'.1 h
      have hself : ([i], r, q) ∈ ps := k2 _ List.mem_cons_self
      have hgv : getF t v i = some d := by
        obtain ⟨y', hy', _⟩ := getF_type (z := v) hg
        have := k3 i y' hy'
        rw [hn'.2] at this
        simp only [] at this
        rw [hy', ← this, hg]
      refine ⟨fun p hp => ?_, fun m hm => k2 m (List.mem_cons_of_mem _ hm), fun j y hy => ?_, fun m hm => ?_⟩
      · rcases List.mem_cons.1 hp with rfl | hp
        · exact ⟨d, hg⟩
        · exact k1 p hp
      · have := k3 j y hy
        simp only [partOf]
        cases hb : Nat.beq j i with
        | true =>
          have e := nbeq hb; subst e
          rw [hgv] at hy; injection hy with hy; subst hy
          exact .inl ⟨r, q, y0, hav, hx, hty, hself, hg⟩
        | false => exact this
      · rcases k4 m hm with hm | ⟨j, x', r', q', y1, e1, m1, m2, m3, m4⟩
        · rcases List.mem_cons.1 hm with hm | hm
          · exact .inr ⟨i, x, r, q, y0, hm, by simp [partOf], hav, hx, d, hgv, hty⟩
          · exact .inl hm
        · exact .inr ⟨j, x', r', q', y1, e1, by simp only [partOf, bne (by rw [m1]; simp), cnd_false]; exact m1, m2, m3, m4⟩
    · rename_i hno
      split at h
      · rename_i u hns has
        cases hs : setF t z i ⟨d.1, u⟩ with
        | none => rw [hs] at h; cases h
        | some z' =>
        rw [hs] at h; simp only [] at h
        obtain ⟨k1, k2, k3, k4⟩ := ih hn'.1 h
        obtain ⟨g1, g2⟩ := getF_set hs
        have hnx : ∀ r q, (st.ent x).av ≠ .xf r q := fun r q e => hno r q e
        refine ⟨fun p hp => ?_, k2, fun j y hy => ?_, fun m hm => ?_⟩
        · rcases List.mem_cons.1 hp with rfl | hp
          · exact ⟨d, hg⟩
          · obtain ⟨d', hd'⟩ := k1 p hp
            obtain ⟨y', h1, _⟩ := getF_type (z := z) hd'
            exact ⟨y', h1⟩
        · have := k3 j y hy
          simp only [partOf]
          cases hb : Nat.beq j i with
          | true =>
            have e := nbeq hb; subst e
            rw [hn'.2] at this
            simp only [] at this
            rw [g1 d hg rfl] at this
            injection this with this; subst this
            exact .inr ⟨hns, has⟩
          | false =>
            have hne : j ≠ i := fun e => by subst e; simp at hb
            simp only [cnd_false]
            cases hq : partOf j parts with
            | none => rw [hq] at this; simp only [] at this ⊢; rw [← g2 j hne]; exact this
            | some y2 =>
              rw [hq] at this
              rcases this with ⟨r, q, y0, m1, m2, m3, m4, m5⟩ | this
              · exact .inl ⟨r, q, y0, m1, m2, m3, m4, by rw [← g2 j hne]; exact m5⟩
              · exact .inr this
        · rcases k4 m hm with hm | ⟨j, x', r', q', y1, e1, m1, m2, m3, m4⟩
          · exact .inl hm
          · exact .inr ⟨j, x', r', q', y1, e1, by simp only [partOf, bne (by rw [m1]; simp), cnd_false]; exact m1, m2, m3, m4⟩
      · cases h
theorem ok_buildR (hT : TabOk P tab) (h : Sim w0 lim0 rb n st a w lim β) (hd : ∀ d, o.dst = some d → d < n) {t : TypeId} {parts : Array (Nat × Operand)} (hop : o.op = .build t parts)
    (hc : stBuildR tab o t parts.toList st = some c) (ho : c.out st = some st') : OpOk P w0 lim0 rb n o st' a w := by
  unfold stBuildR at hc
  split at hc
  · rename_i ty hty
    split at hc
    · rename_i v ps hstr hnd hfl
      injection hc with hc; subst hc
      obtain ⟨_, rfl⟩ := out_ret ho
      obtain ⟨f1, _, f2, f3⟩ := fillR_spec hnd hfl
      -- a part of a tree
      have px : ∀ {x r q y0}, (st.ent x).av = .xf r q → st.atX r q = some y0 → ∃ dr, st.io r = some dr ∧ typeAt dr.1 q = some y0.1 ∧ (a.eval x).cells.toList = ((flatV (β.V r)).drop (offs dr.1 q)).take y0.1.size ∧ CRep w (fun _ => none) y0.1 y0.2 (a.eval x).cells.toList := by
        intro x r q y0 hav hx
        obtain ⟨dd, hio, hv⟩ := xf_val h hav hx
        obtain ⟨d2, Bu, m1, m2, m3, m6, m7, m8⟩ := h.atX hx
        rw [hio] at m1; injection m1 with m1; subst m1
        have hcr : CRep w (fun _ => none) y0.1 y0.2 (((flatV (β.V r)).drop (offs dd.1 q)).take y0.1.size) := m7.crep (fun _ _ => rfl)
        have hcl : (a.eval x).cells.toList = ((flatV (β.V r)).drop (offs dd.1 q)).take y0.1.size := by rw [hv, wrapV_cells hcr]
        exact ⟨dd, hio, m3, hcl, by rw [hcl]; exact hcr⟩
      have pd : ∀ {x : Operand} {y : Dat}, noSl y.1 = true → AV.as y.1 (st.ent x).av = some y.2 → (a.eval x).cells.toList = cellsV y.1 y.2 := fun k1 k2 => (CRep_noSl k1).1 (as_rep k2 (h.ent _)).cells
      obtain ⟨cells, hrun, hsz, hcells⟩ := run_buildC (P := P) (a := a) (w := w) hT hty hstr hop hnd (fun p hp => by
        obtain ⟨dp, k1⟩ := f1 p hp
        refine ⟨_, dp, k1, ?_⟩
        have hpo := partOf_of hnd hp
        obtain ⟨y', g1, g2⟩ := getF_type (z := v) k1
        have := f2 p.1 y' g1
        rw [hpo] at this
        rcases this with ⟨r, q, y0, m1, m2, m3, m4, m5⟩ | ⟨m1, m2⟩
        · obtain ⟨dr, j1, j2, j3, j4⟩ := px m1 m2
          have := j4.length
          rw [← g2, ← m3]
          simpa using this
        · have := congrArg List.length (pd m1 m2)
          rw [cellsV_length m1, g2] at this
          simpa using this)
      have hzc : ∀ i y, getF ty ty.zero i = some y → ((zeroCells ty).drop (offs ty [i])).take y.1.size = nilC y.1 y.2 := fun i y hy => ((NRep_zero ty).fieldAt hy).eq
      have hns : ∀ {u : Ty} {x : u.val}, noSl u = true → cellsV u x = nilC u x := fun hu => (NRep_noSl hu).eq
      -- each field's cells
      have seg : ∀ i y, getF ty v i = some y → ((∃ r q, ([i], r, q) ∈ ps) ∨ ((cells.toList.drop (offs ty [i])).take y.1.size = nilC y.1 y.2 ∧ NRep y.1 y.2 (nilC y.1 y.2))) ∧ (∀ u ∈ (cells.toList.drop (offs ty [i])).take y.1.size, notAgg u) ∧ NRep y.1 y.2 (nilC y.1 y.2) := by
        intro i y hy
        have := f2 i y hy
        rw [hcells i y.1 (str_typeAt hy)]
        have nz : ∀ {y : Dat}, getF ty ty.zero i = some y → NRep y.1 y.2 (nilC y.1 y.2) := fun {y} hy => by
          have := (NRep_zero ty).fieldAt hy
          rw [hzc i y hy] at this; exact this
        cases hp : partOf i parts.toList with
        | none =>
          rw [hp] at this
          simp only [] at this ⊢
          rw [hzc i y this]
          exact ⟨.inr ⟨rfl, nz this⟩, ((nz this).crep (w := w) (lim := lim)).cells, nz this⟩
        | some x =>
          rw [hp] at this
          rcases this with ⟨r, q, y0, m1, m2, m3, m4, m5⟩ | ⟨m1, m2⟩
          · obtain ⟨dr, j1, j2, j3, j4⟩ := px m1 m2
            exact ⟨.inl ⟨r, q, m4⟩, j4.cells, nz m5⟩
          · have e := pd m1 m2
            have en : NRep y.1 y.2 (nilC y.1 y.2) := by rw [← hns m1]; exact NRep_noSl m1
            simp only []
            rw [e, hns m1]
            exact ⟨.inr ⟨rfl, en⟩, (en.crep (w := w) (lim := lim)).cells, en⟩
      have hcl : cells.toList.length = ty.size := by simpa using hsz
      refine OpOk.value (o := o) (lim := lim) (β := β) hrun (h.plain o.dst (.mx ty v ps) (.agg cells) hd ⟨cells.toList, by rw [str_agg hstr], hcl, by rw [str_agg hstr]; rfl, fun u hu => ?_, ?_⟩)
      · obtain ⟨j, hj, rfl⟩ := List.getElem_of_mem hu
        obtain ⟨i, y, g1, g2, g3⟩ := str_cover (x := v) hstr j (by omega)
        refine (seg i y g1).2.1 _ ?_
        refine List.mem_of_getElem? (i := j - offs ty [i]) ?_
        rw [seg_get, if_pos (by omega), show offs ty [i] + (j - offs ty [i]) = j by omega, List.getElem?_eq_getElem hj]
      · refine ⟨⟨nilC ty v, NRep.ofFields hstr nilC_length (fun i y hy => ?_), by rw [nilC_length, hcl], fun j hj => ?_⟩, fun p r q hm => ?_⟩
        · rw [nilC_field hy]; exact (seg i y hy).2.2
        · by_cases hjl : j < ty.size
          · obtain ⟨i, y, g1, g2, g3⟩ := str_cover (x := v) hstr j hjl
            rcases (seg i y g1).1 with ⟨r, q, hm⟩ | ⟨e1, _⟩
            · exact absurd ⟨g2, g3⟩ (hj _ _ _ _ hm (str_typeAt g1))
            · exact seg_at (e1.trans (nilC_field g1).symm) j g2 g3
          · have : (nilC ty v).length = ty.size := nilC_length
            rw [List.getElem?_eq_none (by omega), List.getElem?_eq_none (by omega)]
        · rcases f3 _ hm with hm | ⟨i, x, r', q', y0, e1, m1, m2, m3, y, m4, m5⟩
          · cases hm
          · injection e1 with e1 e2; injection e2 with e2 e3; subst e1; subst e2; subst e3
            obtain ⟨dr, j1, j2, j3, j4⟩ := px m2 m3
            refine ⟨dr, j1, .inr ⟨y.1, str_typeAt m4, by rw [← m5]; exact j2, ?_⟩⟩
            rw [hcells i y.1 (str_typeAt m4), m1]
            simp only []
            rw [j3, m5]
    · cases hc
  · cases hc
end
end Go.Den

namespace Go.Den
section
variable {P : Program} {tab : Tab} {G : Gam} {w0 : Base} {lim0 : Lim} {rb : Option Nat} {n : Nat}
variable {st st' : St} {a : Act} {w w' : World} {lim lim' : Lim} {β : Mp} {o : Oper} {c : Comp}

/-- memory has grown; blocks that nobody names may be changed, and owned -/
theorem Sim.grownC (h : Sim w0 lim0 rb n st a w lim β) (hrb : ∀ k, some k = rb → k < w0.heap.size) (u : Upd) (v : Value) (hd : ∀ d, u.dst = some d → d < n) (hb : u.bw = none) (hta : u.takes = []) (hrd : u.rd = none) (htag : u.ent.tag = none)
    (h1 : w'.os = w.os) (h2 : w'.tape = w.tape) (h3 : w'.output = w.output) (hs : w.heap.size ≤ w'.heap.size) (C : Nat → Prop) (hC : ∀ k, C k → freeB w0 rb st a w lim β k ∧ ¬ isTree st β k)
    (hk : ∀ k, k < w.heap.size → ¬ C k → w'.heap[k]? = w.heap[k]? ∧ lim' k = lim k) (hv : ERep (apply st u) w' lim' β rb u.ent.av v)
    (hown : ∀ p ∈ u.own, ∃ T x, typeAV p u.ent.av = some T ∧ partAV v p u.ent.av = some x ∧ OwnT w' lim' w0.fr T x ∧ ∀ g, Blk w' T x g → w.heap.size ≤ g ∨ C g)
    (hsep : ∀ p ∈ u.own, ∀ q ∈ u.own, ∀ T T' x y g, typeAV p u.ent.av = some T → typeAV q u.ent.av = some T' → partAV v p u.ent.av = some x → partAV v q u.ent.av = some y → Blk w' T x g → Blk w' T' y g → p = q)
    (hxw : u.xw = none := by rfl) (hxk : u.xk = none := by rfl) (hxbw : u.xbw = none := by rfl) (hrw : u.rw = none := by rfl) :
    Sim w0 lim0 rb n (apply st u) (a.put u.dst v) w' lim' β := by
  have hiox : (apply st u).io = st.io := by simp [apply, hxw, hxk]
  have hxbx : (apply st u).xb = st.xb := by simp [apply, hxbw]
  have hio1 : ∀ r d, st.io r = some d → ∃ d', (apply st u).io r = some d' ∧ d'.1 = d.1 ∧ β.V r = β.V r := fun r d hr => ⟨d, by rw [hiox]; exact hr, rfl, rfl⟩
  have hxb1 : ∀ b t o, st.xb b = some (t, o) → (∃ o', (apply st u).xb b = some (t, o')) ∧ β.c b = β.c b := fun b t o hb' => ⟨⟨o, by rw [hxbx]; exact hb'⟩, rfl⟩
  have hbx : ∀ b, (apply st u).box b = st.box b := fun b => by simp [apply, hb]
  have hnb : ∀ c d o q, u.bw ≠ some (c, d, o, q) := fun _ _ _ _ e => by rw [hb] at e; cases e
  have key : ∀ l, newOwn u l → ∃ d p, l = .tmp d p ∧ u.dst = some d ∧ p ∈ u.own := by
    intro l hl
    cases l with
    | tmp t p => exact ⟨t, p, rfl, hl.1, hl.2⟩
    | box b p => obtain ⟨d, o, q, he, _⟩ := hl; exact absurd he (hnb _ _ _ _)
  have look : ∀ d p, u.dst = some d → locTy (apply st u) (.tmp d p) = typeAV p u.ent.av ∧ locV (apply st u) (a.put u.dst v) w' β (.tmp d p) = partAV v p u.ent.av := by
    intro d p hdd
    refine ⟨by rw [locTy_tmp, apply_env_dst hdd], ?_⟩
    rw [locV_tmp, apply_env_dst hdd, hdd, tmpOf_put_eq (by rw [h.size]; exact hd d hdd)]
  have hext : Ext w lim w' lim' := ⟨hs, fun b oo z hb hu hz => by
    by_cases hc : C b
    · have := hu 0 (hC b hc).1.lim0; omega
    · exact (World.cell?_of_block (hk b hb hc).1).trans hz, fun b m hb hu k hk' => by
    by_cases hc : C b
    · have := hu 0 (hC b hc).1.lim0; omega
    · rw [(hk b hb hc).2] at hk'; exact hu k hk'⟩
  have noC : ∀ k, k < w0.heap.size → ¬ w0.X k → ¬ C k := fun k hk' hX hc => by
    rcases (hC k hc).1.base with h4 | h4
    · omega
    · exact hX h4
  have hgrow : w0.grownBy w' rb := ⟨h1.trans h.grow.os, h2.trans h.grow.tape, h3.trans h.grow.output, Nat.le_trans h.grow.size hs, fun k hk' hne hX =>
    (hk k (Nat.lt_of_lt_of_le hk' h.grow.size) (noC k hk' hX)).1.trans (h.grow.block k hk' hne hX)⟩
  have back : ∀ d p g, u.dst = some d → p ∈ u.own → HasL (apply st u) (a.put u.dst v) w' β (.tmp d p) g → ∃ T x, typeAV p u.ent.av = some T ∧ partAV v p u.ent.av = some x ∧ Blk w' T x g ∧ (w.heap.size ≤ g ∨ C g) := by
    intro d p g hdd hp hg
    obtain ⟨T, x, k1, k2, k3, k4⟩ := hown p hp
    obtain ⟨T', x', m1, m2, m3⟩ := hg
    rw [(look d p hdd).1, k1] at m1; injection m1 with m1; subst m1
    rw [(look d p hdd).2, k2] at m2; injection m2 with m2; subst m2
    exact ⟨T, x, k1, k2, m3, k4 g m3⟩
  refine h.step u v w' lim' β hd hext hgrow (fun b hb' hX => (hk b (Nat.lt_of_lt_of_le hb' h.grow.size) (noC b hb' hX)).2) (fun _ _ _ => rfl) (fun _ _ => hv) (fun b d hbd _ => ?_) (fun l g hst hg => ?_)
    (fun c d o q he => absurd he (hnb _ _ _ _)) ?_ ?_ ?_ (fun d l _ ht => by rw [htag] at ht; cases ht) (.inl ⟨hrd, fun d b _ hb' => ?_⟩) hio1 hxb1 ?_
  · obtain ⟨cells, e, k1, _⟩ := h.box b d hbd
    exact hk _ (Array.getElem?_eq_some_iff.1 k1).1 (fun hc => (hC _ hc).1.box b d hbd rfl)
  · exact hk _ (h.lt hst.1 hg).1 (fun hc => (hC _ hc).1.own l hst.1 hg)
  · intro l hl
    obtain ⟨d, p, rfl, hdd, hp⟩ := key l hl
    obtain ⟨T, x, k1, k2, k3, k4⟩ := hown p hp
    exact ⟨T, x, (look d p hdd).1.trans k1, (look d p hdd).2.trans k2, k3⟩
  · intro l g hl hg
    obtain ⟨d, p, rfl, hdd, hp⟩ := key l hl
    obtain ⟨_, _, _, _, _, k4⟩ := back d p g hdd hp hg
    rcases k4 with hlt | hc
    · refine ⟨fun b d' hbd he => ?_, fun m hm hgy => ?_⟩
      · rw [hbx] at hbd
        obtain ⟨cells, e', h5, _⟩ := h.box b d' hbd
        have := (Array.getElem?_eq_some_iff.1 h5).1
        omega
      · have := (h.lt hm.1 hgy).1
        omega
    · refine ⟨fun b d' hbd he => ?_, fun m hm hgy => (hC g hc).1.own m hm.1 hgy⟩
      rw [hbx] at hbd
      exact (hC g hc).1.box b d' hbd he
  · intro l m g hl hm hx hy
    obtain ⟨d, p, rfl, hdd, hp⟩ := key l hl
    obtain ⟨d', q, rfl, hdd', hq⟩ := key m hm
    rw [hdd] at hdd'; injection hdd' with hdd'; subst hdd'
    obtain ⟨T, x, a1, a2, a3, _⟩ := back d p g hdd hp hx
    obtain ⟨T', y, b1, b2, b3, _⟩ := back d q g hdd hq hy
    rw [hsep p hp q hq T T' x y g a1 b1 a2 b2 a3 b3]
  · have hlt := hrb b hb'.symm
    exact hk _ (Nat.lt_of_lt_of_le hlt h.grow.size) (fun hc => (hC _ hc).1.rb hb'.symm)
  · intro hst
    refine h.xs.keep hiox hxbx (fun _ _ _ => ⟨rfl, rfl⟩) (fun _ _ _ _ => rfl) (fun g hg => hk g (h.xs.lt hg).1 (fun hc => (hC g hc).2 hg)) (fun b d hbd => h.xs.offb ((hbx b).symm.trans hbd)) (fun l g hl hg ht => ?_) (hrbk := apply_rb hrw)
    rcases own_apply hl with hn | hs'
    · obtain ⟨d, p, rfl, hdd, hp⟩ := key l hn
      obtain ⟨_, _, _, _, _, k4⟩ := back d p g hdd hp hg
      rcases k4 with hlt | hc
      · have := (h.xs.lt ht).1; omega
      · exact (hC g hc).2 ht
    · exact h.xs.off hs'.1 ((hst l g hs').1 hg) ht
theorem apply_buryU (r : Tmp) (st : St) {u : Upd} (h1 : u.xw = none) (h2 : u.xk = none) : apply (buryS st r) u = apply st { u with xk := some r } := by
  refine St.ext' rfl rfl rfl rfl rfl ?_ rfl rfl
  funext k
  simp only [apply, h1, h2, buryS]
theorem isCons_some {f : FuncId} {s : Sig} (hg : G f = some s) (h : isCons G f = true) : s.muts = true ∧ s.usesRd = false := by
  unfold isCons at h
  rw [hg] at h
  simp only [] at h
  cases hm : s.muts with
  | false => rw [hm] at h; cases h
  | true =>
    cases hu : s.usesRd with
    | true => rw [hm, hu] at h; cases h
    | false => exact ⟨rfl, rfl⟩
theorem exec_call {f : FuncId} {cl : Call} {s : Sig} (hf : FnOk P f s) (hop : o.op = .call cl) (hcal : cl.callee = .value (.func f)) : (execOp a.eval o).run P w = .ok (.enter f (cl.args.toList.map a.eval).toArray) w := by
  have hvals : (cl.args.map a.eval) = (cl.args.toList.map a.eval).toArray := by apply Array.ext'; rw [Array.toList_map]
  have e1 : ∀ args, (Deferred.ofValue (.func (.func f) #[] #[]) args) = (pure { target := .fn (.func f) #[], args := args } : Sem Deferred) := by
    intro args; simp [Deferred.ofValue]
  simp only [execOp, hop, resolve, hcal, Act.eval, hvals, e1, Sem.run_bind, Sem.run_pure, Result.andThen_ok, invoke]
  simpa using hf.enters _ w
theorem ok_callC (hG : GamOk P G) (h : Sim w0 lim0 rb n st a w lim β) (hrb : ∀ k, some k = rb → k < w0.heap.size) (hd : ∀ d, o.dst = some d → d < n) {f : FuncId} {cl : Call} (hop : o.op = .call cl) (hcal : cl.callee = .value (.func f))
    (hcons : isCons G f = true) (hc : stCallC G o f cl.args.toList st = some c) (ho : c.out st = some st') : OpOk P w0 lim0 rb n o st' a w := by
  unfold stCallC at hc
  cases hg : G f with
  | none => rw [hg] at hc; cases hc
  | some s =>
    obtain ⟨hmu, hu⟩ := isCons_some hg hcons
    rw [hg] at hc; simp only [] at hc
    have hf := hG f s hg
    have exec := exec_call (a := a) (w := w) hf hop hcal
    cases hfv : s.fv with
    | some g => rw [hfv] at hc; cases hc
    | none =>
    rw [hfv] at hc; simp only [isF, cnd_false] at hc
    obtain ⟨aty, rdty, usesRd, rty, one, own, opens, muts, fv, fn⟩ := s
    simp only at hc hf hmu hu hfv
    split at hc
    · rename_i _ x0 xs hargs
      split at hc
      · rename_i r hxe
        split at hc
        · rename_i y a0 b hat _
          split at hc
          · rename_i x0' x rd hcast hpk hcu hr0
            injection hc with hc; subst hc
            simp only [Comp.out] at ho
            cases hfn : fn (x0', x) rd with
            | none => rw [hfn] at ho; cases ho
            | some z =>
              rw [hfn] at ho; injection ho with ho; subst ho
              have hr0' : r ≠ 0 := fun e => by subst e; cases hr0
              obtain ⟨e1, e2⟩ := cast_some hcast
              obtain ⟨yt, yv⟩ := y
              have e1 : yt = a0 := e1
              subst e1
              have e2 : x0' = yv := e2
              subst e2
              obtain ⟨d, hio, m8⟩ := atX_some hat
              have m8 : d = ⟨yt, x0'⟩ := Option.some.inj (show some d = some ⟨yt, x0'⟩ from m8)
              subst m8
              have hX := h.xs.io r _ hio
              obtain ⟨dd, hio2, hv0⟩ := xf_val h hxe hat
              rw [hio] at hio2; injection hio2 with hio2; subst hio2
              have hseg : ((flatV (β.V r)).drop (offs yt [])).take yt.size = flatV (β.V r) := by rw [offs0, List.drop_zero, ← hX.length, List.take_length]
              have hx0 : a.eval x0 = wrapV yt (flatV (β.V r)) := by rw [← hseg]; exact hv0
              have hav : cl.args.toList.map a.eval = a.eval x0 :: xs.map a.eval := by rw [hargs]; rfl
              have ha : ArgsRep w lim none b x (xs.map a.eval) := by
                refine packArgs_rep (st := st) (β := β) (rb := rb) hpk (by simp) (fun i av v hi hv' => ?_)
                simp only [List.getElem?_map] at hi hv'
                cases hq : xs[i]? with
                | none => rw [hq] at hi; cases hi
                | some y =>
                  rw [hq] at hi hv'
                  injection hi with hi; injection hv' with hv'
                  subst hi; subst hv'
                  exact h.ent y
              intro K Q hK
              unfold Oper.wp
              rw [exec]
              refine Calls.mono (hf.consd hfv rfl hmu hu (x0', x) rd z hfn w lim _ (β.B r) (by rw [hav]; exact ⟨⟨_, hx0, hX⟩, ha⟩) (fun g hg' => (h.xs.base r _ g hio hg').2.2)) ?_
              intro e w' hret
              obtain ⟨v, lim', rfl, g1, g2, g3, g4, g5⟩ := hret
              show K (a.put o.dst v) w'
              have hb := h.bury hio hr0'
              have hfree : ∀ k, β.B r k → freeB w0 rb (buryS st r) a w lim (buryM β r) k ∧ ¬ isTree (buryS st r) (buryM β r) k := fun k hk => bury_free h hio hk
              have hS := hb.grownC (w' := w') (lim' := lim') hrb { upd0 o.dst (resAV rty one z.1) none with own := resOwn one own } v hd rfl rfl rfl rfl g1.os g1.tape g1.output g1.size (β.B r) hfree
                (fun k hk hn => ⟨g1.block k hk (by simp) hn, g2 k hk hn⟩) (ERep_res g3) (fun p hp => by
                  obtain ⟨T, u, k1, k2, k3⟩ := g4 p hp
                  refine ⟨T, u, k1, k2, k3.below (fun g hg => ?_), fun g hgz => (k3.lt hgz).2⟩
                  rcases hg with hg | hg
                  · exact .inl (Nat.le_trans h.grow.size hg)
                  · exact (h.xs.base r _ g hio hg).1) g5
              rw [apply_buryU r st rfl rfl] at hS
              exact hK _ _ lim' _ hS
          · cases hc
        · cases hc
      · cases hc
    · cases hc
/-- data with flat slices, as long as what it sees stays seen -/
theorem CRep.relimR {lim' : Lim} : ∀ {t : Ty} {x : t.val} {cs : List Value}, CRep w lim t x cs → flatT t = true → (∀ p e ad m c, typeAt t p = some (.slice e) → cs[offs t p]? = some (.slice (some ad) m c) → 0 < m → lim' ad.block = lim ad.block) → CRep w lim' t x cs := by
  intro t
  induction t with
  | int k => intro x cs h _ _; exact h
  | bool => intro x cs h _ _; exact h
  | str => intro x cs h _ _; exact h
  | unit => intro x cs h _ _; exact h
  | slice e _ =>
    intro x cs h hf hl
    obtain ⟨ad, c, h1, h2, h3⟩ := h
    subst h1
    refine ⟨ad, c, rfl, h2, ?_⟩
    rcases h3 with h3 | ⟨b, o, q1, q2, q3, q4⟩
    · exact .inl h3
    · subst q1
      by_cases hm : List.length (α := e.val) x = 0
      · exact .inl (List.eq_nil_of_length_eq_zero hm)
      · have hb := hl [] e ⟨b, o, none⟩ (List.length (α := e.val) x) c rfl (by simp [offs]) (by omega)
        have hb : lim' b = lim b := hb
        exact .inr ⟨b, o, rfl, q2, by unfold under; rw [hb]; exact q3, fun i y hy => by
          obtain ⟨ds, k1, k2⟩ := q4 i y hy
          exact ⟨ds, (CRep_noSl hf).2 ((CRep_noSl hf).1 k1), k2⟩⟩
  | prod a b iha ihb =>
    intro x cs h hf hl
    obtain ⟨c1, c2, rfl, h1, h2⟩ := h
    obtain ⟨f1, f2⟩ := flat_prod hf
    have l1 := h1.length
    refine ⟨c1, c2, rfl, iha h1 f1 (fun p e ad m c hp hv hm => hl (0 :: p) e ad m c (by simpa [typeAt] using hp) (by simp only [offs]; rw [List.getElem?_append_left (List.getElem?_eq_some_iff.1 hv).1]; exact hv) hm), ?_⟩
    rcases f2 with ⟨p', q', rfl, f2⟩ | rfl
    · refine ihb h2 f2 (fun p e ad m c hp hv hm => ?_)
      cases p with
      | nil => simp [typeAt] at hp
      | cons i p => exact hl ((i + 1) :: p) e ad m c (by simpa [typeAt] using hp) (by simp only [offs]; rw [List.getElem?_append_right (by omega), l1, show a.size + offs (.prod p' q') (i :: p) - a.size = offs (.prod p' q') (i :: p) by omega]; exact hv) hm
    · exact h2
theorem ok_callXR (hG : GamOk P G) (h : Sim w0 lim0 rb n st a w lim β) (hrb : ∀ k, some k = rb → k < w0.heap.size) (hd : ∀ d, o.dst = some d → d < n) {f : FuncId} {cl : Call} (hop : o.op = .call cl) (hcal : cl.callee = .value (.func f))
    (hc : stCallXR G o f cl.args.toList st = some c) (ho : c.out st = some st') : OpOk P w0 lim0 rb n o st' a w := by
  unfold stCallXR at hc
  cases hg : G f with
  | none => rw [hg] at hc; cases hc
  | some s =>
    rw [hg] at hc; simp only [] at hc
    have hf := hG f s hg
    have exec := exec_call (a := a) (w := w) hf hop hcal
    cases hfv : s.fv with
    | some g => rw [hfv] at hc; cases hc
    | none =>
    rw [hfv] at hc; simp only [isF, cnd_false] at hc
    split at hc
    · rename_i hus hopn hmu hro
      split at hc
      · rename_i x d dst hpk hrdst hcl0 hfr
        cases hcast : Ty.cast d.1 s.rdty d.2 with
        | none => rw [hcast] at hc; cases hc
        | some rd =>
          rw [hcast] at hc
          injection hc with hc; subst hc
          simp only [Comp.out] at ho
          cases hfn : s.fn x rd with
          | none => rw [hfn] at ho; cases ho
          | some r =>
            rw [hfn] at ho; injection ho with ho; subst ho
            obtain ⟨hflat, hcl⟩ : flatT s.rdty = true ∧ closedS s = true := by
              cases q : flatT s.rdty with
              | false => rw [q] at hcl0; cases hcl0
              | true => rw [q] at hcl0; exact ⟨rfl, hcl0⟩
            obtain ⟨hdst, hfio, _, _, hd0⟩ := free_some hfr
            obtain ⟨hty, hrdv⟩ := cast_some hcast
            obtain ⟨b, cells, e, k1, k2, k3, k4, k5⟩ := h.rd d hrdst
            obtain ⟨dt, dv⟩ := d
            simp only at hty hrdv k4
            subst hty; subst hrdv
            have ha : ArgsRep w lim rb s.aty x (cl.args.toList.map a.eval) := by
              refine packArgs_rep (st := st) (β := β) (rb := rb) (rv := some (.rdr [])) hpk (by simp) (fun i av v hi hv' => ?_)
              simp only [List.getElem?_map] at hi hv'
              cases hq : cl.args.toList[i]? with
              | none => rw [hq] at hi; cases hi
              | some y =>
                rw [hq] at hi hv'
                injection hi with hi; injection hv' with hv'
                subst hi; subst hv'
                exact h.ent y
            intro K Q hK
            unfold Oper.wp
            rw [exec]
            refine Calls.mono (hf.calls hfv hopn hmu x rd r hfn w lim rb _ ha ⟨fun _ => ⟨b, cells, e, k1, k3, k4, k5⟩, fun h' => by rw [hus] at h'; cases h'⟩) ?_
            intro ee w' hret
            obtain ⟨v, lim2, rfl, g1, g2, g3, g4, g5, g6, g7, g8, _, _, g11⟩ := ret_closed hcl hret
            obtain ⟨b', cells', e', m1, m2, m3, m4⟩ := g11 hus
            rw [k1] at m1; injection m1 with m1; subst m1
            show K (a.put o.dst v) w'
            let l3 : Lim := fun g => if g < w.heap.size then lim g else some 0
            have hl3 : ∀ k, k < w.heap.size → l3 k = lim k := fun k hk => by simp [l3, hk]
            have hbl : b < w.heap.size := Nat.lt_of_lt_of_le k2 h.grow.size
            have hblk : ∀ k, k < w.heap.size → some k ≠ rb → w'.heap[k]? = w.heap[k]? := fun k hk hn => g1.block k hk hn
            have hext : Ext w lim w' l3 := ⟨g1.size, fun g oo z hg hu hz => by
              by_cases hgb : some g = rb
              · rw [k1] at hgb; injection hgb with hgb; subst hgb
                have := hu 0 k5; omega
              · exact (World.cell?_of_block (hblk g hg hgb)).trans hz, fun g m hg hu => by unfold under; rw [hl3 g hg]; exact hu⟩
            have hrd' : CRep w' l3 s.rdty r.2 cells'.toList := by
              refine m3.relimR hflat (fun p e1 ad m c hp hv hm => ?_)
              obtain ⟨q1, q2⟩ := h.rdk _ b hrdst k1 p e1 hp
              have hq : w'.cell? ⟨b, offs s.rdty p, none⟩ = cells'.toList[offs s.rdty p]? := by simp [World.cell?, m2]
              rw [m4 p e1 hp] at hq
              have hq1 : w.cell? ⟨b, offs s.rdty p, none⟩ = w0.cell? ⟨b, offs s.rdty p, none⟩ := q1
              rw [hq1, hv] at hq
              have hlt := q2 ad m c hq hm
              have hlt' := Nat.lt_of_lt_of_le hlt h.grow.size
              rw [hl3 _ hlt', g2 _ hlt']
            have h1 := h.grown { upd0 none .any none with rd := some ⟨s.rdty, r.2⟩ } undef w' l3 (fun _ hd' => by cases hd') rfl hext (grow_keep h.grow g1.os g1.tape g1.output g1.size (fun k hk hne => hblk k (Nat.lt_of_lt_of_le hk h.grow.size) hne))
              (fun k hk hne _ => ⟨hblk k hk hne, hl3 k hk⟩) (fun k hk => ⟨hrb k hk, hl3 k (Nat.lt_of_lt_of_le (hrb k hk) h.grow.size)⟩) trivial (fun p hp => by cases hp) (fun p hp => by cases hp) rfl
              (.inr ⟨⟨s.rdty, r.2⟩, _, rfl, hrdst, rfl, b, cells', e', k1, k2, m2, hrd', by rw [hl3 b hbl]; exact k5, m4⟩)
            have hX := XRep.of_own (fun g => w.heap.size ≤ g) g5 g4 g6 g7
            have hput : a.put none undef = a := rfl
            have h1 : Sim w0 lim0 rb n (apply st { upd0 none .any none with rd := some ⟨s.rdty, r.2⟩ }) a w' l3 β := h1
            have hio1 : (apply st { upd0 none .any none with rd := some ⟨s.rdty, r.2⟩ }).io = st.io := by simp [apply, upd0]
            have newb : ∀ g, (∃ p ∈ slicePaths (rootOf s.one s.rty r.1).1, ∃ T v_1, typeAt (rootOf s.one s.rty r.1).1 p = some T ∧ (flatV v)[offs (rootOf s.one s.rty r.1).1 p]? = some v_1 ∧ Blk w' T v_1 g) → w.heap.size ≤ g := by
              rintro g ⟨p, hp, T, u, ht', hu', hbu⟩
              obtain ⟨T2, z, j1, j2, j3⟩ := g6 p hp
              rw [ht'] at j1; injection j1 with j1; subst j1
              rw [hu'] at j2; injection j2 with j2; subst j2
              exact (j3.lt hbu).2
            have hS := h1.newrootC (w' := w') (lim' := l3) hrb (d := dst) (hd dst hdst) (by rw [hio1]; exact hfio) hd0 (rootOf s.one s.rty r.1) (rootAV s.one s.rty dst) v _ rfl rfl rfl (Nat.le_refl _) (fun g => w.heap.size ≤ g ∧ g < w'.heap.size) (fun k ⟨hk1, hk2⟩ => ?_) (fun _ _ _ => rfl) (fun _ _ => rfl) hX (fun g hg => ⟨.inr ⟨newb g hg, hX.lt g hg⟩, if_neg (by have := newb g hg; omega)⟩) ?_
            · have e2 : apply (apply st { upd0 none .any none with rd := some ⟨s.rdty, r.2⟩ }) { upd0 (some dst) (rootAV s.one s.rty dst) none with xw := some (dst, rootOf s.one s.rty r.1) } = apply st { upd0 (some dst) (rootAV s.one s.rty dst) none with xw := some (dst, rootOf s.one s.rty r.1), rd := some ⟨s.rdty, r.2⟩ } := by
                refine St.ext' ?_ rfl ?_ rfl rfl rfl rfl rfl
                · funext t
                  simp only [apply, upd0]
                  cases isT t (some dst) with
                  | true => rfl
                  | false =>
                    simp only [isT, cnd_false]
                    cases (st.env t).tag with
                    | none => rfl
                    | some kl => obtain ⟨k, l⟩ := kl; cases l <;> rfl
                · funext l
                  cases l <;> simp [apply, upd0, isT, inLocs]
              rw [e2] at hS
              show K (a.put o.dst v) w'
              rw [hdst]
              exact hK _ _ l3 _ hS
            · refine ⟨⟨if_neg (by omega), .inl (Nat.le_trans h.grow.size hk1), fun hr => ?_, fun c d' hc he => ?_, fun l hl hg => ?_⟩, fun ht => ?_⟩
              · have := hrb k hr; have := h.grow.size; omega
              · have hc : st.box c = some d' := by simpa [apply, upd0] using hc
                obtain ⟨cs, e2, q1, _⟩ := h.box c d' hc
                have := (Array.getElem?_eq_some_iff.1 q1).1
                omega
              · have hl' : st.own l = true := own_none (u := { upd0 none .any none with rd := some ⟨s.rdty, r.2⟩ }) rfl rfl rfl hl
                have hlt : HasL st a w β l k := by
                  obtain ⟨T, u, q1, q2, q3⟩ := hg
                  have e1 : locTy (apply st { upd0 none .any none with rd := some ⟨s.rdty, r.2⟩ }) l = locTy st l := by
                    cases l with
                    | tmp t p => rw [locTy_tmp, locTy_tmp]; simp [apply, upd0, isT]
                    | box c p => simp [locTy, apply, upd0]
                  have e2 : locV (apply st { upd0 none .any none with rd := some ⟨s.rdty, r.2⟩ }) a w' β l = locV st a w β l := by
                    cases l with
                    | tmp t p => rw [locV_tmp, locV_tmp]; simp [apply, upd0, isT]
                    | box c p =>
                      obtain ⟨T0, v0, z1, _⟩ := h.own _ hl'
                      have hbx : (apply st { upd0 none .any none with rd := some ⟨s.rdty, r.2⟩ }).box c = st.box c := by simp [apply, upd0]
                      simp only [locV, hbx]
                      cases hbc : st.box c with
                      | none => rfl
                      | some dc =>
                        obtain ⟨cs, e3, q1', _, q3', _⟩ := h.box c dc hbc
                        have hltc := (Array.getElem?_eq_some_iff.1 q1').1
                        exact World.cell?_of_block (hblk _ hltc (fun hr => by have : β.b c < w0.heap.size := hrb _ hr; omega))
                  rw [e1] at q1; rw [e2] at q2
                  obtain ⟨T0, v0, z1, z2, z3⟩ := h.own l hl'
                  obtain ⟨e4, hT, xs, hcr⟩ := h.vis q1 q2 q3.oty
                  exact ⟨T, u, q1, q2, (Blk_ext hext hT hcr).1 q3⟩
                have := (h.lt hl' hlt).1
                omega
              · have ht : isTree st β k := by
                  rcases ht with ⟨r0, x0, q1, q2⟩ | ⟨c, t0, o0, q1, q2⟩
                  · exact .inl ⟨r0, x0, by simpa [apply, upd0] using q1, q2⟩
                  · exact .inr ⟨c, t0, o0, by simpa [apply, upd0] using q1, q2⟩
                have := (h.xs.lt ht).1
                omega
            · rcases g8 with ⟨q1, q2, _⟩ | ⟨q1, q2, _⟩
              · exact .inl ⟨q1 dst, q2⟩
              · exact .inr ⟨q1 dst, q2⟩
      · cases hc
    · cases hc
end
end Go.Den

namespace Go.Den
section
variable {P : Program} {tab : Tab} {w0 : Base} {lim0 : Lim} {rb : Option Nat} {n : Nat}
variable {st st' : St} {a : Act} {w : World} {lim : Lim} {β : Mp} {o : Oper} {c : Comp}

theorem ok_sliceX (hT : TabOk P tab) (h : Sim w0 lim0 rb n st a w lim β) (hrb : ∀ k, some k = rb → k < w0.heap.size) (hd : ∀ d, o.dst = some d → d < n) {t : TypeId} {x : Operand} {lo hi mx : Option Operand} (hop : o.op = .slice t x lo hi mx) (hc : stSliceX tab o t x lo hi mx st = some c) (ho : c.out st = some st') : OpOk P w0 lim0 rb n o st' a w := by
  unfold stSliceX at hc
  split at hc
  · rename_i r hx
    split at hc
    · rename_i e xs k hh d hio hhi hfree
      change List e.val at xs
      split at hc
      · rename_i hr0 hty hns
        injection hc with hc; subst hc
        obtain ⟨hchk, rfl⟩ := out_ret ho
        have hcut : cutL xs (avOpt st none) (avOpt st hi) = some (andB (le0 hh) (leI hh (lenL xs)), takeL xs hh) := by rw [hhi]; rfl
        have hr0' : r ≠ 0 := fun e0 => by subst e0; cases hr0
        obtain ⟨l, m, k0, k1, k2, hys, k3, k4, _⟩ := cut_spec hcut hchk
        have hl0 : l = 0 := by
          rcases k3 with ⟨_, k3⟩ | ⟨_, k3⟩
          · cases k3
          · exact k3
        subst hl0
        obtain ⟨el, h1, h2⟩ := elemTy hT (tyIs_some hty)
        obtain ⟨hdst, hfd, _, _, hd0⟩ := free_some hfree
        obtain ⟨dx, q1, q2⟩ : ERep st w lim β rb (.xf r []) (a.eval x) := hx ▸ h.ent x
        rw [hio] at q1; injection q1 with q1; subst q1
        have hX := h.xs.io r _ hio
        have hB := fun g hg => h.xs.base r _ g hio hg
        have hv : ∃ b cc, flatV (β.V r) = [.slice b xs.length cc] ∧ xs.length ≤ cc ∧ XRep w (.slice e) (xs.take m.toNat) [.slice b (m.toNat) cc] (β.B r) := by
          rcases XRep.flat hns hX with ⟨e1, e2, e3⟩ | ⟨g, cc, arr, el', fr, e1, e2, e3, e4, e5, e6, e7⟩
          · have e2 : xs.length = 0 := e2
            have hm : m.toNat = 0 := by omega
            refine ⟨none, 0, by rw [e1, e2], by omega, .inl ⟨by rw [hm], ?_, e3⟩⟩
            show (xs.take m.toNat).length = 0
            simp [hm]
          · refine ⟨_, cc, e1, e2, XRep.mkFlat hns ?_ ?_ e3 e4 e5 e6 (fun i z hz => ?_)⟩
            · have : (xs.take m.toNat).length = m.toNat := by simp; omega
              exact this.symm
            · have : (xs.take m.toNat).length = m.toNat := by simp; omega
              show (xs.take m.toNat).length ≤ cc
              have e2 : xs.length ≤ cc := e2
              omega
            · have hz : (xs.take m.toNat)[i]? = some z := hz
              rw [List.getElem?_take] at hz
              split at hz
              · exact e7 i z hz
              · cases hz
        obtain ⟨b, cc, hV, hle, hXr⟩ := hv
        have hev : a.eval x = .slice b xs.length cc := by
          rcases q2 with q2 | ⟨u, q3, q4⟩
          · cases q2
          · have : u = .slice e := by simpa [typeAt] using q3.symm
            subst this
            rw [hV] at q4
            simpa [offs, Ty.size, wrapV] using q4
        have hm : ∀ y, hi = some y → ∃ k', (Option.some y).map a.eval = some (.int k' m) := fun y hy => by
          subst hy
          rcases k4 with ⟨k', k4⟩ | ⟨k4, _⟩
          · simp only [avOpt] at k4; injection k4 with k4
            exact ⟨k', by simp only [Option.map_some, eval_int h k4]⟩
          · simp [avOpt] at k4
        have hhi' : ∃ k', hi.map a.eval = some (.int k' m) := by
          cases hi with
          | none => simp [avOpt] at hhi
          | some y => exact hm y rfl
        have hu := run_cut_slice (w := w) (b := b) (lo := none) h1 h2 k0 k1 k2 hle (.inr ⟨rfl, rfl⟩) (.inl hhi')
        have hb : (if cc = (0 : Int).toNat then b else b.map (·.add ((0 : Int).toNat * e.size))) = b := by
          split
          · rfl
          · cases b with
            | none => rfl
            | some ad => cases ad; simp [Addr.add]
        rw [hb] at hu
        have hm2 : takeL xs hh = xs.take m.toNat := by rw [hys]; simp
        have he : (execOp a.eval o).run P w = .ok (.value (.slice b m.toNat cc)) w := by
          simp only [execOp, hop, Instr.sliceAt, Sem.run_bind, underlying, run_program, h1, Result.andThen_ok, Sem.run_pure, Option.map_none, hev]
          simp only [hu, Result.andThen_ok]
          simp
        obtain ⟨β', hsim⟩ := h.moveC hrb hio hr0' (hd d hdst) hfd hd0 ⟨.slice e, xs.take m.toNat⟩ (.xf d []) (.slice b m.toNat cc) (β.B r) rfl rfl rfl (Nat.le_refl _) (fun _ _ _ => rfl) (fun _ _ => rfl) hXr (fun g hg => ⟨.inr hg, (hB g hg).2.2⟩) (.inl ⟨rfl, rfl⟩)
        refine OpOk.value (o := o) (lim := lim) (β := β') he ?_
        rw [hdst, hm2]
        exact hsim
      · cases hc
    · cases hc
  · cases hc
end
end Go.Den

namespace Go.Den
section
variable {P : Program} {tab : Tab} {w0 : Base} {lim0 : Lim} {rb : Option Nat} {n : Nat}
variable {st st' : St} {a : Act} {w : World} {lim : Lim} {β : Mp} {o : Oper} {c : Comp}

theorem SRep_list {l : Lim} {e : Ty} {ys : List e.val} {b : Option Addr} (h : SRep w l (CRep w l e) e.size ys b) : ∃ news, RRep w l e ys news ∧ (ys = [] ∨ ∃ bb oo, b = some ⟨bb, oo, none⟩ ∧ ∀ k v, news[k]? = some v → w.cell? ⟨bb, oo + k, none⟩ = some v) := by
  rcases h with hsy | ⟨bb, oo, rfl, hb, hu, hcell⟩
  · subst hsy; exact ⟨[], RRep.nil e, .inl rfl⟩
  · obtain ⟨L, k1, k2⟩ := SRep_cells hcell
    exact ⟨L, k1, .inr ⟨bb, oo, rfl, k2⟩⟩
theorem RRep.cells {l : Lim} {e : Ty} {ys : List e.val} {news : List Value} (hns : noSl e = true) (hrn : RRep w l e ys news) : ∀ (i : Nat) (z : e.val), ys[i]? = some z → ∀ j v, (cellsV e z)[j]? = some v → news[i * e.size + j]? = some v := fun i z hz j v hv => by
  obtain ⟨cs, k1, k2⟩ := hrn.2 i z hz
  rw [(CRep_noSl hns).1 k1] at k2
  exact k2 j v hv
theorem cells_app {e : Ty} (hns : noSl e = true) {xs ys : List e.val} {olds news rest : List Value} (ho : olds.length = xs.length * e.size)
    (h1 : ∀ (i : Nat) (z : e.val), xs[i]? = some z → ∀ j v, (cellsV e z)[j]? = some v → olds[i * e.size + j]? = some v) (h2 : ∀ (i : Nat) (z : e.val), ys[i]? = some z → ∀ j v, (cellsV e z)[j]? = some v → news[i * e.size + j]? = some v) :
    ∀ (i : Nat) (z : e.val), (xs ++ ys)[i]? = some z → ∀ j v, (cellsV e z)[j]? = some v → (olds ++ (news ++ rest)).toArray[i * e.size + j]? = some v := fun i z hz j v hv => by
  simp only [List.getElem?_toArray]
  by_cases hi : i < xs.length
  · rw [List.getElem?_append_left hi] at hz
    have := h1 i z hz j v hv
    rw [List.getElem?_append_left (List.getElem?_eq_some_iff.1 this).1]; exact this
  · rw [List.getElem?_append_right (by omega)] at hz
    have := h2 _ z hz j v hv
    have e1 : i * e.size + j = olds.length + ((i - xs.length) * e.size + j) := by
      rw [ho, ← Nat.add_assoc, ← Nat.add_mul]; congr 2; omega
    rw [e1, List.getElem?_append_right (by omega), Nat.add_sub_cancel_left, List.getElem?_append_left (List.getElem?_eq_some_iff.1 this).1]; exact this
theorem ok_appendT (hT : TabOk P tab) (h : Sim w0 lim0 rb n st a w lim β) (hrb : ∀ k, some k = rb → k < w0.heap.size) (hd : ∀ d, o.dst = some d → d < n) {t : TypeId} {x y : Operand} {cl : Call} (hop : o.op = .call cl) (hcal : cl.callee = .builtin .append) (ha : cl.args = #[x, y]) (hat : cl.argTypes = #[t, t])
    (hc : stAppendT tab o t x y st = some c) (ho : c.out st = some st') : OpOk P w0 lim0 rb n o st' a w := by
  unfold stAppendT at hc
  split at hc
  · rename_i r hx
    split at hc
    · rename_i e xs hio
      change List e.val at xs
      split at hc
      · rename_i ys d hy hfree
        change List e.val at ys
        split at hc
        · rename_i hr0 hty hns
          injection hc with hc; subst hc
          obtain ⟨hchk, rfl⟩ := out_ret ho
          have hr0' : r ≠ 0 := fun e0 => by subst e0; cases hr0
          have hlt : (xs.length : Int) + (ys.length : Int) < big := ltI_iff.1 hchk
          unfold big at hlt
          obtain ⟨hdst, hfd, _, _, hd0⟩ := free_some hfree
          obtain ⟨el, h1, h2⟩ := elemTy hT (tyIs_some hty)
          have hax : argX st (st.ent x).av = .dat (.slice e) xs := by rw [hx]; simp [argX, St.atX, hio, isU, getP]
          obtain ⟨bx, cx, hvx, hlx, hsx⟩ := slice_rep (st := st) (β := β) (rb := rb) (hax ▸ argX_rep h x)
          obtain ⟨by', cy, hvy, hly, hsy⟩ := slice_rep (st := st) (β := β) (rb := rb) (as_rep hy (argX_rep h y))
          have hvx : a.eval x = .slice bx xs.length cx := hvx
          have hvy : a.eval y = .slice by' ys.length cy := hvy
          obtain ⟨olds, hro, hoc⟩ := SRep_list hsx
          obtain ⟨news, hrn, hnc⟩ := SRep_list hsy
          have hoV := RRep.cells hns hro
          have hnV := RRep.cells hns hrn
          have exec : ∀ {r w2}, (Builtin.append_ #[t, t] o.type #[a.eval x, a.eval y]).run P w = .ok r w2 → (execOp a.eval o).run P w = .ok (.value r) w2 := by
            intro r w2 hr
            have e0 : cl.args.map a.eval = #[a.eval x, a.eval y] := by rw [ha]; simp
            simp only [execOp, hop, resolve, hcal, Sem.run_bind, Sem.run_pure, Result.andThen_ok, invoke, builtin, e0, hat, hr]
          have fin : ∀ (v : Value) (w2 : World) (l2 : Lim) (B0 : Nat → Prop), (execOp a.eval o).run P w = .ok (.value v) w2 → w2.os = w.os → w2.tape = w.tape → w2.output = w.output → w.heap.size ≤ w2.heap.size →
              (∀ k, k < w.heap.size → ¬ β.B r k → w2.heap[k]? = w.heap[k]?) → (∀ k, k < w.heap.size → l2 k = lim k) → XRep w2 (.slice e) (xs ++ ys) (flatV v) B0 → (∀ g, B0 g → (w.heap.size ≤ g ∨ β.B r g) ∧ l2 g = some 0) → v = wrapV (.slice e) (flatV v) →
              OpOk P w0 lim0 rb n o (apply st { upd0 (some d) (.xf d []) none with xw := some (d, ⟨.slice e, appL xs ys⟩), xk := some r }) a w := by
            intro v w2 l2 B0 he m1 m2 m3 m4 hk hl hX hB hv
            obtain ⟨β', hsim⟩ := h.moveC hrb hio hr0' (hd d hdst) hfd hd0 ⟨.slice e, xs ++ ys⟩ (.xf d []) v B0 m1 m2 m3 m4 hk hl hX hB (.inl ⟨rfl, hv⟩)
            exact OpOk.value (o := o) (lim := l2) (β := β') he (by rw [hdst]; exact hsim)
          have hll : (xs ++ ys).length = xs.length + ys.length := by simp
          have hz : (zeroCells e).toArray.size = e.size := by simpa using (zero_rep w lim e).length
          have grow : cx < xs.length + ys.length → OpOk P w0 lim0 rb n o (apply st { upd0 (some d) (.xf d []) none with xw := some (d, ⟨.slice e, appL xs ys⟩), xk := some r }) a w := by
            intro hg
            have r1 := run_first (P := P) (cc := cx) (w2 := w.drew) hro hoc
            have r2 := run_first (P := P) (cc := cy) (w2 := w.drew) hrn hnc
            have hrun := run_append_at_new (ty := o.type) h1 h2 (sv := .slice bx xs.length cx) rfl r1 r2 (by omega) (by omega)
            have hge := grownCap_ge w (xs.length + ys.length) cx el
            refine fin (.slice (some ⟨w.heap.size, 0, none⟩) (xs.length + ys.length) (grownCap w (xs.length + ys.length) cx el)) (w.drew.alloc (.cells (olds ++ (news ++ (Builtin.zeroCells (zeroCells e).toArray (grownCap w (xs.length + ys.length) cx el - (xs.length + ys.length))).toList)).toArray el)) (limSet lim w.heap.size (some 0)) (fun g => g = w.heap.size) (exec (by rw [hvx, hvy, hrun])) rfl rfl rfl (by simp)
              (fun k hk _ => alloc_old (w := w.drew) _ hk) (fun k hk => by simp [limSet, show k ≠ w.heap.size by omega]) (XRep.mkFlat hns hll.symm (by rw [hll]; exact hge) ?_ (alloc_new (w := w.drew) _) (fun _ _ hk => by simp at hk) (fun _ => Iff.rfl) (cells_app hns hro.1 hoV hnV))
              (fun g hg => ⟨.inl (by rw [hg]; exact Nat.le_refl _), by simp [limSet, hg]⟩) rfl
            simp only [List.size_toArray, List.length_append, Array.length_toList, size_zeroCells, hz, hrn.1, hro.1]
            rw [← Nat.add_mul, ← Nat.add_mul]
            exact Nat.mul_le_mul_right _ (by omega)
          obtain ⟨dx, q1, q2⟩ : ERep st w lim β rb (.xf r []) (a.eval x) := hx ▸ h.ent x
          rw [hio] at q1; injection q1 with q1; subst q1
          have hev : a.eval x = wrapV (.slice e) ((flatV (β.V r)).take 1) := by
            rcases q2 with q2 | ⟨u, q3, q4⟩
            · cases q2
            · have : u = .slice e := by simpa [typeAt] using q3.symm
              subst this
              simpa [offs, Ty.size] using q4
          have hX := h.xs.io r _ hio
          rcases XRep.flat hns hX with ⟨e1, e2, e3⟩ | ⟨g, cc, arr, el', fr, e1, e2, e3, e4, e5, e6, e7⟩
          · have e2 : xs.length = 0 := e2
            have hev : a.eval x = .slice none 0 0 := by rw [hev, e1]; rfl
            have hev2 := hev
            rw [hvx] at hev2; injection hev2 with _ _ k3
            by_cases hz0 : ys.length = 0
            · have r2 := run_first (P := P) (cc := cy) (w2 := w) hrn hnc
              rw [hz0] at r2
              have hrun := run_append_nothing (ty := o.type) h1 h2 r2
              exact fin (.slice none 0 0) w lim (fun _ => False) (exec (by rw [hev, hvy, hz0]; exact hrun)) rfl rfl rfl (Nat.le_refl _) (fun _ _ _ => rfl) (fun _ _ => rfl) (.inl ⟨rfl, by show (xs ++ ys).length = 0; omega, fun _ hg => hg⟩) (fun _ hg => hg.elim) rfl
            · exact grow (by omega)
          · have hev : a.eval x = .slice (some ⟨g, 0, none⟩) xs.length cc := by rw [hev, e1]; rfl
            rw [hvx] at hev; injection hev with k1 _ k3
            subst k1; subst k3
            have e3 : cx * e.size ≤ arr.size := e3
            by_cases hroom : xs.length + ys.length ≤ cx
            · have r2 := run_first (P := P) (cc := cy) (w2 := w) hrn hnc
              have hfit : (xs.length + ys.length) * e.size ≤ arr.size := Nat.le_trans (Nat.mul_le_mul_right _ hroom) e3
              rw [Nat.add_mul] at hfit
              have hnl := hrn.1
              have hal : arr.toList.length = arr.size := by simp
              obtain ⟨c1, c2, c3, k1, k2, k3, k4⟩ : ∃ c1 c2 c3, arr.toList = c1 ++ (c2 ++ c3) ∧ c1.length = xs.length * e.size ∧ c2.length = news.length ∧ c1 = arr.toList.take (xs.length * e.size) := by
                refine ⟨arr.toList.take (xs.length * e.size), (arr.toList.drop (xs.length * e.size)).take news.length, (arr.toList.drop (xs.length * e.size)).drop news.length, ?_, ?_, ?_, rfl⟩
                · rw [List.take_append_drop, List.take_append_drop]
                · rw [List.length_take]; omega
                · rw [List.length_take, List.length_drop]; omega
              obtain ⟨w', m1, m2⟩ := run_append_at_room (ty := o.type) (s := xs.length) (sc := cx) (m := ys.length) h1 h2 r2 hroom e4 k1 k2 k3 hrn.notAgg (fun k hk => e5 k hk)
              have hc1 : ∀ (i : Nat) (z : e.val), xs[i]? = some z → ∀ j v, (cellsV e z)[j]? = some v → c1[i * e.size + j]? = some v := fun i z hz j v hv => by
                have m := e7 i z hz j v hv
                have hj : j < e.size := by
                  rw [← cellsV_length (x := z) hns]; exact (List.getElem?_eq_some_iff.1 hv).1
                have hi : i < xs.length := (List.getElem?_eq_some_iff.1 hz).1
                have : (i + 1) * e.size ≤ xs.length * e.size := Nat.mul_le_mul_right _ hi
                rw [Nat.add_mul] at this
                rw [k4, List.getElem?_take, if_pos (by omega)]
                simpa using m
              have hsz : (c1 ++ (news ++ c3)).toArray.size = arr.size := by
                have e1 : arr.size = arr.toList.length := by simp
                rw [e1, k1]
                simp only [List.size_toArray, List.length_append]; omega
              refine fin (.slice (some ⟨g, 0, none⟩) (xs.length + ys.length) cx) w' lim (fun h => h = g) (exec (by rw [hvx, hvy]; exact m1)) m2.os m2.tape m2.output (by rw [m2.size]; exact Nat.le_refl _) (fun k _ hk => m2.other k (fun e0 => hk ((e6 k).2 e0))) (fun _ _ => rfl)
                (XRep.mkFlat hns hll.symm (by rw [hll]; exact hroom) (by rw [hsz]; exact e3) m2.at_ (fun k hk => e5 k (by rw [← hsz]; exact hk)) (fun _ => Iff.rfl) (cells_app hns k2 hc1 hnV)) (fun g' hg => ⟨.inr ((e6 g').2 hg), (h.xs.base r _ g' hio ((e6 g').2 hg)).2.2⟩) rfl
            · exact grow (by omega)
        · cases hc
      · cases hc
    · cases hc
  · cases hc
end
end Go.Den

namespace Go.Den
section
variable {P : Program} {tab : Tab} {w0 : Base} {lim0 : Lim} {rb : Option Nat} {n : Nat}
variable {st st' : St} {a : Act} {w : World} {lim : Lim} {β : Mp} {o : Oper} {c : Comp}

theorem ok_graftX (hT : TabOk P tab) (h : Sim w0 lim0 rb n st a w lim β) (hrb : ∀ k, some k = rb → k < w0.heap.size) (hd : ∀ d, o.dst = some d → d < n) {t : TypeId} {x v : Operand} {r r2 : Tmp} {p q : List Nat} {k : Int} (hop : o.op = .store t x v) (hxe : (st.ent x).av = .xp r p k q) (hve : (st.ent v).av = .xf r2 [])
    (hc : stGraftX tab o t r p k q r2 st = some c) (ho : c.out st = some st') : OpOk P w0 lim0 rb n o st' a w := by
  unfold stGraftX at hc
  split at hc
  · rename_i d e xs z hio hat hat2
    change List e.val at xs
    cases hy : getP e (atL (α := e.val) xs k e.zero) q with
    | none => rw [hy] at hc; cases hc
    | some y =>
      rw [hy] at hc; simp only [] at hc
      cases hty : tyIs (tab t) y.1 with
      | false => rw [hty] at hc; cases hc
      | true =>
      cases hne : cnd (Nat.beq r 0) true (cnd (Nat.beq r2 0) true (Nat.beq r r2)) with
      | true => rw [hty, hne] at hc; cases hc
      | false =>
      cases hz : Ty.cast z.1 y.1 z.2 with
      | none => rw [hty, hne, hz] at hc; cases hc
      | some z' =>
        rw [hty, hne, hz] at hc; simp only [] at hc
        cases hs1 : setP e (atL (α := e.val) xs k e.zero) q ⟨y.1, z'⟩ with
        | none => rw [hs1] at hc; cases hc
        | some x' =>
          rw [hs1] at hc; simp only [] at hc
          cases hs2 : setP d.1 d.2 p ⟨.slice e, setL (α := e.val) xs k x'⟩ with
          | none => rw [hs2] at hc; cases hc
          | some d' =>
            rw [hs2] at hc
            injection hc with hc; subst hc
            obtain ⟨hr, rfl⟩ := out_ret ho
            have hr := inRange hr
            have hr0 : r ≠ 0 := fun e0 => by rw [e0] at hne; cases hne
            have hr20 : r2 ≠ 0 := fun e0 => by rw [e0] at hne; cases hq : Nat.beq r 0 <;> rw [hq] at hne <;> cases hne
            have hrr : r ≠ r2 := fun e0 => by
              subst e0
              have : Nat.beq r 0 = false := by cases hq : Nat.beq r 0 with
                | false => rfl
                | true => exact absurd (nbeq hq) hr0
              rw [this, Nat.beq_refl] at hne; cases hne
            obtain ⟨d2, h2io, h2p⟩ := atX_some hat2
            have hzd : d2 = z := by
              simp only [getP] at h2p; injection h2p
            subst hzd
            obtain ⟨e1, e2⟩ := cast_some hz
            obtain ⟨yt, yv⟩ := y
            obtain ⟨zt, zv⟩ := d2
            simp only at e1 e2 hs1 hs2 hty
            subst e1
            have e2 : z' = zv := e2
            subst e2
            have X2 := h.xs.io r2 _ h2io
            obtain ⟨d3, h3io, hv⟩ := xf_val h hve hat2
            rw [h2io] at h3io; injection h3io with h3io; subst h3io
            have ho0 : offs zt [] = 0 := by cases zt <;> rfl
            have hl2 := X2.length
            simp only at hl2
            have hv : a.eval v = wrapV zt (flatV (β.V r2)) := by
              rw [hv]; simp only [ho0, List.drop_zero]; rw [← hl2, List.take_length]
            have hcr := X2.crep (lim := fun _ => none) (fun _ _ => rfl)
            have hcl : (a.eval v).cells = (flatV (β.V r2)).toArray := by rw [hv]; exact wrapV_cells hcr
            obtain ⟨w', g, ob, Bu, he, r5, c1, c2, c3, c4, _⟩ := store_core hT h hop hxe hio hat hr hy hty (by rw [hcl]; simpa using hl2) (fun u hu => hcr.cells u (by rw [hcl] at hu; simpa using hu))
            have hglt := (h.xs.io r d hio).lt g c1
            have hX2 : XRep w' zt z' (flatV (β.V r2)) (β.B r2) := X2.keep fun b hb => r5.other b (fun e0 => hrr (h.xs.dis r d r2 _ b hio h2io (by rw [e0]; exact c1) hb))
            have hX := c4 z' x' d' (β.B r2) hs1 hs2 (fun b hb hb2 => absurd (h.xs.dis r d r2 _ b hio h2io hb2 hb) hrr) (by rw [hcl]; exact hX2)
            have eV : (buryM β r2).V r = β.V r := by simp [buryM, hrr]
            have eB : (buryM β r2).B r = β.B r := by simp [buryM, hrr]
            have hb := h.bury h2io hr20
            have hsim := hb.setrootB (o := o) (d := d) (d' := ⟨d.1, d'⟩) (w' := w') (lim' := lim) hrb hd (by rw [bury_ne hrr]; exact hio) rfl .skp undef (fun b => (β.B r b ∧ ¬ Bu b) ∨ β.B r2 b) (β.B r2) (fun b hb => bury_free h h2io hb)
              (fun b hb => hb.elim (fun hb => .inl (by rw [eB]; exact hb.1)) .inr) (fun b hb => X2.lt b hb) hr0 r5.os r5.tape r5.output (by rw [r5.size]; exact Nat.le_refl _)
              (fun j _ hn => r5.other j (fun e0 => hn (by rw [eB, e0]; exact c1))) (fun _ _ => rfl) (by rw [eV]; exact hX) (fun _ _ => rfl)
            rw [apply_bury] at hsim
            exact .skip (lim := lim) he hsim
  · cases hc
end
end Go.Den

namespace Go.Den
section
variable {P : Program} {tab : Tab} {G : Gam} {w0 : Base} {lim0 : Lim} {rb : Option Nat} {n : Nat}
variable {st st' : St} {a : Act} {w w' : World} {lim lim' : Lim} {β : Mp} {o : Oper} {c : Comp}
theorem ok_assignM (h : Sim w0 lim0 rb n st a w lim β) (hd : ∀ d, o.dst = some d → d < n) {x : Operand} (he : (execOp a.eval o).run P w = .ok (.value (a.eval x)) w) (ho : (stAssignM o x st c).out st = some st') (hc : c.out st = some st' → OpOk P w0 lim0 rb n o st' a w) : OpOk P w0 lim0 rb n o st' a w := by
  unfold stAssignM at ho
  split at ho
  · rename_i e v l hav hw
    have hx := h.ent x
    rw [hav] at hx
    have has : AV.as (.slice e) (st.ent x).av = some v := by rw [hav]; exact cast_self _ _
    rcases owner_spec h hw has with ⟨l', e1, k1, k2, k3⟩ | ⟨e1, _⟩
    · injection e1 with e1; subst e1
      obtain ⟨b, cc, hv, _⟩ := slice_rep hx
      cases hst : st.own (starL l) with
      | false =>
        rw [hst] at ho
        obtain ⟨_, rfl⟩ := out_ret ho
        refine .value he (h.val { upd0 o.dst (.dat (.slice e) v) none with own := [[]], takes := [l] } _ hd rfl rfl hx (fun _ => l) (fun p hp => ?_) (fun p hp q hq _ => ?_) (fun l hl => by cases hl) (fun l hl => by cases hl))
        · simp at hp; subst hp
          refine ⟨.slice e, a.eval x, rfl, ?_, .inr ⟨by simp, k1, k2, k3⟩⟩
          simp only [upd0, partAV, hv, flat_slice, offs]; rfl
        · simp at hp hq; subst hp; subst hq; rfl
      | true =>
        rw [hst] at ho
        obtain ⟨_, rfl⟩ := out_ret ho
        obtain ⟨s1, s2⟩ := starL_loc (a := a) (w := w) (β := β) k3
        refine .value he (h.val { upd0 o.dst (.dat (.slice e) v) none with own := [[], [0]], takes := [l, starL l] } _ hd rfl rfl hx (fun p => match p with
          | [] => l
          | _ => starL l) (fun p hp => ?_) (fun p hp q hq hpq => ?_) (fun l hl => by cases hl) (fun l hl => by cases hl))
        · have hp : p = [] ∨ p = [0] := by simpa using hp
          rcases hp with rfl | rfl
          · refine ⟨.slice e, a.eval x, rfl, ?_, .inr ⟨by simp, k1, k2, k3⟩⟩
            simp only [upd0, partAV, hv, flat_slice, offs]; rfl
          · refine ⟨.prod (.slice e) .unit, a.eval x, rfl, ?_, .inr ⟨by simp, hst, s2.trans k2, s1⟩⟩
            simp only [upd0, partAV, hv, flat_slice, offs]; rfl
        · have hp : p = [] ∨ p = [0] := by simpa using hp
          have hq : q = [] ∨ q = [0] := by simpa using hq
          rcases hp with rfl | rfl <;> rcases hq with rfl | rfl
          · rfl
          · exact absurd (show starL l = l from (show l = starL l from hpq).symm) (starL_ne l)
          · exact absurd (show starL l = l from hpq) (starL_ne l)
          · rfl
    · cases e1
  · rename_i t v hav
    obtain ⟨_, rfl⟩ := out_ret ho
    have hx := h.ent x
    rw [hav] at hx
    refine .value he (h.val { upd0 o.dst (.tup t v) none with own := st.owned x (slicePaths t), takes := takesOf x (st.owned x (slicePaths t)) } _ hd rfl rfl hx (srcOf x) (fun p hp => ?_) (fun p _ q _ hpq => srcOf_inj _ hpq) (fun l hl => by cases hl) (fun l hl => by cases hl))
    obtain ⟨h1, h2⟩ := owned_mem hp
    cases x with
    | tmp s =>
      obtain ⟨e, y, k1, k2, _⟩ := h.own _ h2
      have k1' := k1
      have k2' := k2
      have hav' : (st.env s).av = .tup t v := hav
      rw [locTy_tmp, hav'] at k1'
      rw [locV_tmp, hav'] at k2'
      exact ⟨e, y, k1', k2', .inr ⟨mem_takesOf (fun k hk => by cases hk) h2 hp, h2, k2, k1⟩⟩
    | const kk => simp only [St.ent] at hav; unfold constAV at hav; split at hav <;> cases hav
    | global g => cases h2
    | func f => cases h2
  · exact hc ho
theorem arr1 {α : Type} {x : Array α} {y : α} (h : x.toList = [y]) : x = #[y] := by apply Array.ext'; simpa using h
theorem arr2 {α : Type} {x : Array α} {y z : α} (h : x.toList = [y, z]) : x = #[y, z] := by apply Array.ext'; simpa using h

/-- ONE OPERATION: what the machine does is what the reading says. -/
theorem step_ok (hT : TabOk P tab) (hG : GamOk P G) (h : Sim w0 lim0 rb n st a w lim β) (hrb : ∀ k, some k = rb → k < w0.heap.size) (hd : ∀ d, o.dst = some d → d < n) (hc : stepC tab G o st = some c) (ho : c.out st = some st') : OpOk P w0 lim0 rb n o st' a w := by
  unfold stepC at hc
  cases hop : o.op with
  | move x =>
    rw [hop] at hc; injection hc with hc; subst hc
    cases hm : mkD st o.dst with
    | true => rw [hm] at ho; exact ok_assignM h hd (by simp [execOp, hop]) ho fun ho => ok_move h hd hop ho
    | false => rw [hm] at ho; exact ok_move h hd hop ho
  | assign x =>
    rw [hop] at hc; injection hc with hc; subst hc
    cases hm : mkD st o.dst with
    | true => rw [hm] at ho; exact ok_assignM h hd (by simp [execOp, hop]) ho fun ho => ok_assign h hd hop ho
    | false => rw [hm] at ho; exact ok_assign h hd hop ho
  | pick x y z => rw [hop] at hc; exact ok_pick h hd hop hc ho
  | alloc e =>
    rw [hop] at hc; simp only [] at hc
    cases hm : mkD st o.dst with
    | true => rw [hm] at hc; exact ok_allocX hT h hrb hd hop hc ho
    | false => rw [hm] at hc; exact ok_alloc hT h hrb hd hop hc ho
  | box e x =>
    rw [hop] at hc; simp only [] at hc
    split at hc
    · rename_i r p hx; exact ok_boxX h hrb hd hop hx hc ho
    · exact ok_box h hrb hd hop hc ho
  | build t ps =>
    rw [hop] at hc; simp only [] at hc
    cases hax : anyX st (ps.toList.map fun p => p.2) with
    | false => rw [hax] at hc; exact ok_build hT h hd hop hc ho
    | true =>
      rw [hax] at hc; simp only [cnd_true] at hc
      cases hm : mkD st o.dst with
      | true => rw [hm] at hc; exact ok_buildX hT h hrb hd hop hc ho
      | false => rw [hm] at hc; exact ok_buildR hT h hd hop hc ho
  | buildSlice t k ps => rw [hop] at hc; exact ok_buildSlice hT h hrb hd hop hc ho
  | load t x =>
    rw [hop] at hc; simp only [] at hc
    split at hc
    · rename_i b p hx; exact ok_loadX hT h hd hop hx hc ho
    · rename_i r p k q hx; exact ok_loadP hT h hd hop hx hc ho
    · exact ok_load hT h hrb hd hop hc ho
  | store t x v =>
    rw [hop] at hc; simp only [] at hc
    split at hc
    · rename_i r p k q r2 hx hv; exact ok_graftX hT h hrb hd hop hx hv hc ho
    · rename_i r p k q hx _; exact ok_storeX hT h hrb hd hop hx hc ho
    · rename_i b r q hx hv; exact ok_putX hT h hrb hd hop hx hv hc ho
    · rename_i b ty x ps hx hv; exact ok_putR hT h hrb hd hop hx hv hc ho
    · rename_i b p r q _ hx hv; exact ok_partR hT h hrb hd hop hx hv hc ho
    · exact ok_store hT h hrb hd hop hc ho
  | nilCheck x => rw [hop] at hc; exact ok_nilCheck h hd hop hc ho
  | binOp op xt x y yt => rw [hop] at hc; exact ok_bin hT h hd hop hc ho
  | unOp op t x => rw [hop] at hc; exact ok_un h hd hop hc ho
  | convert s t x =>
    rw [hop] at hc; simp only [] at hc
    split at hc
    · rename_i r p hx; exact ok_convX hT h hd hop hx hc ho
    · exact ok_conv hT h hd hop hc ho hrb
  | makeSlice t x y =>
    rw [hop] at hc; simp only [] at hc
    cases hm : mkD st o.dst with
    | true => rw [hm] at hc; exact ok_makeX hT h hrb hd hop hc ho
    | false => rw [hm] at hc; exact ok_makeSlice hT h hrb hd hop hc ho
  | slice t x lo hi mx =>
    rw [hop] at hc
    simp only [] at hc
    split at hc
    · exact ok_sliceX hT h hrb hd hop hc ho
    · exact ok_slice hT h hd hop hc ho
  | fieldAddr s x f =>
    rw [hop] at hc; simp only [] at hc
    split at hc
    · rename_i r p k q hx; exact ok_fieldAddrX hT h hd hop hx hc ho
    · rename_i b p hx; exact ok_fieldAddrC hT h hd hop hx hc ho
    · exact ok_fieldAddr hT h hd hop hc ho
  | field s x f => rw [hop] at hc; exact ok_field hT h hd hop hc ho
  | indexAddr t x i =>
    rw [hop] at hc; simp only [] at hc
    split at hc
    · rename_i r p hx; exact ok_indexAddrX hT h hd hop hx hc ho
    · exact ok_indexAddr hT h hd hop hc ho
  | index t x i => rw [hop] at hc; exact ok_index hT h hd hop hc ho
  | extract x i =>
    rw [hop] at hc; simp only [] at hc
    split at hc
    · rename_i r hx; exact ok_extractX h hd hop hx hc ho
    · exact ok_extract h hd hop hc ho
  | call cl =>
    rw [hop] at hc
    simp only [] at hc
    split at hc
    · rename_i f hcal
      cases hF : hasF G f with
      | true => rw [hF] at hc; exact ok_callF hG h hrb hd hop hcal hc ho
      | false =>
      rw [hF] at hc; simp only [cnd_false] at hc
      cases hcs : isCons G f with
      | true => rw [hcs] at hc; exact ok_callC hG h hrb hd hop hcal hcs hc ho
      | false =>
      rw [hcs] at hc; simp only [cnd_false] at hc
      cases hmr : cnd (mkD st o.dst) (isRdM G f) false with
      | true => rw [hmr] at hc; exact ok_callXR hG h hrb hd hop hcal hc ho
      | false =>
      rw [hmr] at hc; simp only [cnd_false] at hc
      cases hm : cnd (anyX st cl.args.toList) true (cnd (mkD st o.dst) true (isMut G f)) with
      | true => rw [hm] at hc; exact ok_callX hG h hrb hd hop hcal hc ho
      | false => rw [hm] at hc; exact ok_call hG h hrb hd hop hcal rfl hc ho
    · rename_i t hcal
      split at hc
      · rename_i f hav
        have ht := h.env t
        rw [hav] at ht
        exact ok_call hG h hrb hd hop hcal ht hc ho
      · cases hc
    · rename_i hcal
      split at hc
      · rename_i x t hx ht
        split at hc
        · rename_i r p hxe; exact ok_lenX hT h hd hop hcal (arr1 hx) (arr1 ht) hxe hc ho
        · exact ok_len hT h hd hop hcal (arr1 hx) (arr1 ht) hc ho
      · cases hc
    · rename_i hcal
      split at hc
      · rename_i x y t t' hx ht
        cases hq : Nat.beq t t' with
        | false => rw [hq] at hc; cases hc
        | true =>
          rw [hq] at hc
          have := nbeq hq; subst this
          simp only [cnd_true] at hc
          split at hc
          · exact ok_appendT hT h hrb hd hop hcal (arr2 hx) (arr2 ht) hc ho
          · cases hm : mkD st o.dst with
            | true => rw [hm] at hc; exact ok_appendX hT h hrb hd hop hcal (arr2 hx) (arr2 ht) hc ho
            | false => rw [hm] at hc; exact ok_append hT h hrb hd hop hcal (arr2 hx) (arr2 ht) hc ho
      · cases hc
    · rename_i hcal
      split at hc
      · rename_i x y hx
        exact ok_minmax (mx := false) h hd hop hcal (arr2 hx) hc ho
      · cases hc
    · rename_i hcal
      split at hc
      · rename_i x y hx
        exact ok_minmax (mx := true) h hd hop hcal (arr2 hx) hc ho
      · cases hc
    · cases hc
  | _ => rw [hop] at hc; cases hc
end
end Go.Den

namespace Go.Den
section
variable {P : Program} {tab : Tab} {G : Gam} {w0 : Base} {lim0 : Lim} {rb : Option Nat} {n : Nat}
variable {st st' : St} {a : Act} {w w' : World} {lim lim' : Lim} {β : Mp} {o : Oper} {c : Comp}

theorem setAV_self {t : Tmp} {v : AV} (h : (st.env t).av = v) : setAV st t v = st := by
  obtain ⟨env, box, own, rd⟩ := st
  unfold setAV
  simp only at h ⊢
  congr 1
  funext u
  cases hq : Nat.beq u t with
  | true =>
    have := nbeq hq; subst this
    rw [cnd_true, ← h]
  | false => rfl

theorem guardT_spec {ops : Array Oper} {g : Nat} {t : Tmp} (h : guardT ops.toList g = some t) : (ops[g]?).bind (·.dst) = some t := by
  unfold guardT at h
  have e1 : ops.toList[g]? = ops[g]? := by simp
  rw [e1] at h
  cases hq : ops[g]? with
  | none => rw [hq] at h; cases h
  | some o => rw [hq] at h; exact h
theorem yielded_bool {ops : Array Oper} {g : Nat} {t : Tmp} {b : Bool} (hg : guardT ops.toList g = some t) (hv : tmpOf a t = .bool b) : yielded ops a.tmps g = some b := by
  unfold yielded
  rw [guardT_spec hg]
  simp only [Option.bind_some]
  unfold tmpOf at hv
  rw [Array.getD_eq_getD_getElem?] at hv
  cases hq : a.tmps[t]? with
  | none => rw [hq] at hv; cases hv
  | some v => rw [hq] at hv; simp only [Option.getD_some] at hv; rw [hv]
theorem yielded_skip {ops : Array Oper} {g : Nat} {t : Tmp} (hg : guardT ops.toList g = some t) (hv : tmpOf a t = undef) : yielded ops a.tmps g = none := by
  unfold yielded
  rw [guardT_spec hg]
  simp only [Option.bind_some]
  unfold tmpOf at hv
  rw [Array.getD_eq_getD_getElem?] at hv
  cases hq : a.tmps[t]? with
  | none => rfl
  | some v => rw [hq] at hv; simp only [Option.getD_some] at hv; rw [hv]; rfl

def eqW (b want : Bool) : Bool := b == want
/-- what one operation's reading is, its guard included: the change, and what it looks at -/
def oneU (tab : Tab) (G : Gam) (ops : List Oper) (o : Oper) (st : St) : Option (Upd × List Res) :=
  let go (rs : List Res) : Option (Upd × List Res) := match stepC tab G o st with
    | some (.ret c u) => cond (chkB c) (some (u, rs)) none
    | some (.call _ _ F u) => F.map fun r => (u r, rs)
    | none => none
  match o.guard with
  | none => go (reads st o)
  | some (g, want) => match guardT ops g with
    | none => none
    | some t => match (st.env t).av with
      | .dat .bool b => cond (eqW b want) (go (.tmp t :: reads st o)) (some (skipU o, [.tmp t]))
      | .skp => some (skipU o, [.tmp t])
      | _ => none
def runT (tab : Tab) (G : Gam) (ops : List Oper) : List Oper → St → Option (St × List FP)
  | [], st => some (st, [])
  | o :: rest, st => match oneU tab G ops o st with
    | some (u, rs) => (runT tab G ops rest (apply st u)).map fun x => (x.1, ⟨tagRes u ++ rs, u.writes⟩ :: x.2)
    | none => none

/-- alike but for what is known while the code is read -/
def Alike (st st' : St) : Prop := ∃ f, st = { st' with kn := f }
theorem Alike.refl (st : St) : Alike st st := ⟨st.kn, rfl⟩
theorem Alike.apply {st st' : St} (h : Alike st st') (u : Upd) (t : Option Tmp) (b : Bool) : Alike (setKn (Den.apply st u) t b) (Den.apply st' u) := by
  obtain ⟨f, rfl⟩ := h
  exact ⟨_, rfl⟩
theorem Alike.setKn {st st' : St} (h : Alike st st') (t : Option Tmp) (b : Bool) : Alike (Den.setKn st t b) st' := by
  obtain ⟨f, rfl⟩ := h
  exact ⟨_, rfl⟩
theorem Alike.setAV {st st' : St} (h : Alike st st') {t : Tmp} {v : AV} (hv : (st'.env t).av = v) : Alike (Den.setAV st t v) st' := by
  obtain ⟨f, rfl⟩ := h
  have := setAV_self hv
  refine ⟨f, ?_⟩
  have e : Den.setAV { st' with kn := f } t v = { Den.setAV st' t v with kn := f } := rfl
  rw [e, this]
theorem Alike.env {st st' : St} (h : Alike st st') : st.env = st'.env := by obtain ⟨f, rfl⟩ := h; rfl
theorem Alike.step {st st' : St} (h : Alike st st') : stepC tab G o st = stepC tab G o st' := by
  obtain ⟨f, rfl⟩ := h
  have e1 : ∀ x, ({ st' with kn := f } : St).ent x = st'.ent x := fun x => by cases x <;> rfl
  have e2 : ∀ x p, ({ st' with kn := f } : St).ownOp x p = st'.ownOp x p := fun x p => by cases x <;> rfl
  have e3 : ∀ x ps, ({ st' with kn := f } : St).owned x ps = st'.owned x ps := fun x ps => by
    induction ps with
    | nil => rfl
    | cons p ps ih => simp only [St.owned, e2, ih]
  have e4 : ∀ x, ({ st' with kn := f } : St).owner x = st'.owner x := fun x => by cases x <;> rfl
  have e5 : ∀ (ps : List (Nat × Operand)) t z, fillP { st' with kn := f } t z ps = fillP st' t z ps := fun ps => by
    induction ps with
    | nil => intros; rfl
    | cons q ps ih => obtain ⟨i, x⟩ := q; intro t z; simp only [fillP, e1, ih]
  have e6 : ∀ (ps : List (Nat × Operand)) e z, fillS { st' with kn := f } e z ps = fillS st' e z ps := fun ps => by
    induction ps with
    | nil => intros; rfl
    | cons q ps ih => obtain ⟨i, x⟩ := q; intro e z; simp only [fillS, e1, ih]
  have e7 : ∀ (ps : List (Nat × Operand)) (qs : List (List Nat)), ({ st' with kn := f } : St).builtOwn ps qs = st'.builtOwn ps qs := fun ps qs => by
    induction qs with
    | nil => rfl
    | cons q qs ih =>
      cases q with
      | nil => simp only [St.builtOwn]; exact ih
      | cons i p => simp only [St.builtOwn, e2, ih]
  have e8 : ∀ x, avOpt ({ st' with kn := f } : St) x = avOpt st' x := fun x => by cases x <;> simp only [avOpt, e1]
  have em : ∀ x, mkD ({ st' with kn := f } : St) x = mkD st' x := fun x => by cases x <;> rfl
  have ef : ∀ x, freeD ({ st' with kn := f } : St) x = freeD st' x := fun x => by cases x <;> rfl
  have eo : ∀ b p qs, ({ st' with kn := f } : St).ownedB b p qs = st'.ownedB b p qs := fun b p qs => by
    induction qs with
    | nil => rfl
    | cons q qs ih => simp only [St.ownedB, ih]
  have ea : ∀ r p, ({ st' with kn := f } : St).atX r p = st'.atX r p := fun _ _ => rfl
  have ex : ∀ av, argX ({ st' with kn := f } : St) av = argX st' av := fun av => by cases av <;> rfl
  have eX : ∀ (ps : List (Nat × Operand)) t z k, fillX { st' with kn := f } t z ps k = fillX st' t z ps k := fun ps => by
    induction ps with
    | nil => intros; rfl
    | cons q ps ih => obtain ⟨i, x⟩ := q; intro t z k; simp only [fillX, e1, ih, ea]
  have eR : ∀ (ps : List (Nat × Operand)) t z k, fillR { st' with kn := f } t z ps k = fillR st' t z ps k := fun ps => by
    induction ps with
    | nil => intros; rfl
    | cons q ps ih => obtain ⟨i, x⟩ := q; intro t z k; simp only [fillR, e1, ih, ea]
  have es0 : ∀ e (ps : List (Nat × Operand)) l, starPart ({ st' with kn := f } : St) e ps l = starPart st' e ps l := fun e ps => by
    induction ps with
    | nil => intro l; rfl
    | cons q ps ih => obtain ⟨i, x⟩ := q; intro l; cases x <;> simp only [starPart, ih]
  have es : ∀ e ps, starParts ({ st' with kn := f } : St) e ps = starParts st' e ps := fun e ps => by simp only [starParts, es0]
  have et : ∀ e l y, starApp ({ st' with kn := f } : St) e l y = starApp st' e l y := fun _ _ _ => rfl
  have ey : ∀ l, anyX ({ st' with kn := f } : St) l = anyX st' l := fun l => by
    induction l with
    | nil => rfl
    | cons x l ih => simp only [anyX, e1, ih]
  unfold stepC
  cases o.op with
  | move x => simp only [stAssignM, stMove, e1, e3, e4, em]
  | assign x => simp only [stAssignM, stAssign, e1, e3, e4, em]
  | pick x y z => simp only [stPick, e1]
  | alloc e => simp only [stAlloc, stAllocX, em, ef]
  | box e x => simp only [stBox, stBoxX, e1, e3, ef, ea]
  | build t ps => simp only [stBuild, stBuildX, stBuildR, e5, e7, eX, eR, ef, em, ey]
  | buildSlice t k ps => simp only [stBuildSlice, e6, es]
  | load t x => simp only [stLoad, starOf, stLoadX, stLoadR, stLoadP, e1, ea, em, eo]
  | store t x v => simp only [stStore, stStoreX, stGraftX, stPutX, stPutR, stPartR, e1, e3, ea]
  | nilCheck x => simp only [e1]
  | binOp op xt x y yt => simp only [stBin, e1]
  | unOp op t x => simp only [stUn, e1]
  | convert s t x => simp only [stConv, stConvX, ea, e1]
  | makeSlice t x y => simp only [stMakeSlice, stMakeX, e1, em, ef]
  | slice t x lo hi mx => simp only [stSlice, stSliceX, e1, e3, e8, ef]
  | fieldAddr s x f => simp only [stFieldAddr, stFieldAddrX, stFieldAddrC, stFieldAddrR, e1, ea]
  | field s x f => simp only [stField, e1]
  | indexAddr t x i => simp only [stIndexAddr, starTag, e2, em, stIndexAddrX, e1, ea]
  | index t x i => simp only [stIndex, e1]
  | extract x i => simp only [stExtract, stExtractX, e1, e3, em]
  | call cl => simp only [stCall, stCallF, stCallX, stCallC, stCallXR, stLen, stLenX, stAppend, stAppendX, stAppendT, e3, ex, ef, em, stMinMax, e1, e4, em, ef, ea, ex, ey, et]
  | _ => rfl
theorem Alike.reads {st st' : St} (h : Alike st st') : Den.reads st o = Den.reads st' o := by
  obtain ⟨f, rfl⟩ := h
  have : ∀ l, readsL { st' with kn := f } l = readsL st' l := fun l => by
    induction l with
    | nil => rfl
    | cons x l ih => simp only [readsL, ih]; cases x <;> rfl
  have e : exNo { st' with kn := f } o.dst o.op = exNo st' o.dst o.op := by
    cases o.op with
    | extract x i => cases x <;> cases o.dst <;> rfl
    | _ => rfl
  have e2 : mvNo { st' with kn := f } o.op = mvNo st' o.op := by
    cases o.op with
    | move x => cases x <;> rfl
    | _ => rfl
  have e3 : ∀ t, readsM { st' with kn := f } t = readsM st' t := fun _ => rfl
  unfold Den.reads
  rw [this, e, e2]
  simp only [e3]

theorem opsK_runT {R : Type} {ops : List Oper} : ∀ {rest : List Oper} {i : Nat} {st st2 : St} {k : St → Option R} {r : R}, Alike st st2 → opsK tab G ops rest i st k = some r → ∃ st' fs st3, runT tab G ops rest st2 = some (st', fs) ∧ Alike st3 st' ∧ k st3 = some r := by
  intro rest
  induction rest with
  | nil => intro i st st2 k r hA h; exact ⟨st2, [], st, rfl, hA, h⟩
  | cons o rest ih =>
    intro i st st2 k r hA h
    have go : ∀ {st : St} {c : Comp} {rs : List Res} {t : Option Tmp} {b : Bool}, Alike st st2 → c.runK st (fun st' => opsK tab G ops rest (Nat.succ i) (setKn st' t b) k) = some r →
        ∃ u, (match c with | .ret c u => cond (chkB c) (some (u, rs)) none | .call _ _ F u => F.map fun r => (u r, rs)) = some (u, rs) ∧ ∃ st' fs st3, runT tab G ops rest (apply st2 u) = some (st', fs) ∧ Alike st3 st' ∧ k st3 = some r := by
      intro st c rs t b hA hc
      cases c with
      | ret c u =>
        cases c with
        | none => exact ⟨u, rfl, ih (hA.apply u t b) hc⟩
        | some c =>
          cases c with
          | false => cases hc
          | true => exact ⟨u, rfl, ih (hA.apply u t b) hc⟩
      | call rt rdt F u =>
        cases F with
        | none => cases hc
        | some x => exact ⟨u x, rfl, ih (hA.apply (u x) t b) hc⟩
    simp only [opsK] at h
    simp only [runT, oneU]
    cases hg : o.guard with
    | none =>
      rw [hg] at h; simp only [] at h ⊢
      rw [hA.step] at h
      cases hc : stepC tab G o st2 with
      | none => rw [hc] at h; cases h
      | some c =>
        rw [hc] at h
        obtain ⟨u, h1, st', fs, st3, h2, h3, h4⟩ := go (rs := reads st2 o) hA h
        refine ⟨st', ⟨tagRes u ++ reads st2 o, u.writes⟩ :: fs, st3, ?_, h3, h4⟩
        cases c <;> simp only [] at h1 ⊢ <;> rw [h1] <;> simp [h2]
    | some gw =>
      obtain ⟨g, want⟩ := gw
      rw [hg] at h; simp only [] at h ⊢
      cases hgt : guardT ops g with
      | none => rw [hgt] at h; cases h
      | some t =>
        rw [hgt] at h; simp only [] at h ⊢
        have skip : ∀ {st : St}, Alike st st2 → opsK tab G ops rest (Nat.succ i) (setKn (apply st (skipU o)) o.dst false) k = some r → ∃ st' fs st3, (match (some (skipU o, [Res.tmp t]) : Option (Upd × List Res)) with
            | some (u, rs) => (runT tab G ops rest (apply st2 u)).map fun x => (x.1, (⟨tagRes u ++ rs, u.writes⟩ : FP) :: x.2)
            | none => none) = some (st', fs) ∧ Alike st3 st' ∧ k st3 = some r := by
          intro st hA hk
          obtain ⟨st', fs, st3, h2, h3, h4⟩ := ih (hA.apply (skipU o) o.dst false) hk
          exact ⟨st', ⟨[.tmp t], (skipU o).writes⟩ :: fs, st3, by simp [h2, show tagRes (skipU o) = [] from rfl], h3, h4⟩
        have step : ∀ {st : St}, Alike st st2 → (match stepC tab G o st with
            | some c => c.runK st fun st' => opsK tab G ops rest (Nat.succ i) (setKn st' o.dst (knOf o st)) k
            | none => none) = some r → ∃ st' fs st3, (match (match stepC tab G o st2 with
              | some (.ret c u) => cond (chkB c) (some (u, Res.tmp t :: reads st2 o)) none
              | some (.call _ _ F u) => F.map fun r => (u r, Res.tmp t :: reads st2 o)
              | none => none : Option (Upd × List Res)) with
            | some (u, rs) => (runT tab G ops rest (apply st2 u)).map fun x => (x.1, (⟨tagRes u ++ rs, u.writes⟩ : FP) :: x.2)
            | none => none) = some (st', fs) ∧ Alike st3 st' ∧ k st3 = some r := by
          intro st hA hk
          rw [hA.step] at hk
          cases hc : stepC tab G o st2 with
          | none => rw [hc] at hk; cases hk
          | some c =>
            rw [hc] at hk
            obtain ⟨u, h1, st', fs, st3, h2, h3, h4⟩ := go (rs := Res.tmp t :: reads st2 o) hA hk
            refine ⟨st', ⟨tagRes u ++ Res.tmp t :: reads st2 o, u.writes⟩ :: fs, st3, ?_, h3, h4⟩
            cases c <;> simp only [] at h1 ⊢ <;> rw [h1] <;> simp [h2]
        rw [hA.env] at h
        cases hav : (st2.env t).av with
        | dat ty b =>
          rw [hav] at h
          cases ty <;> try (simp only [] at h; cases h; done)
          simp only [] at h ⊢
          have hset := hA.setAV hav
          cases b with
          | true =>
            cases hkn : st.kn t with
            | true =>
              rw [hkn] at h
              have h : cnd want _ _ = some r := h
              cases want with
              | true => exact step hA h
              | false => exact skip hA h
            | false =>
              rw [hkn] at h
              have h : cnd want _ _ = some r := h
              cases want with
              | true => exact step (hset.setKn _ _) h
              | false => exact skip (hset.setKn _ _) h
          | false =>
            cases hkn : st.kn t with
            | true =>
              rw [hkn] at h
              have h : cnd want _ _ = some r := h
              cases want with
              | true => exact skip hA h
              | false => exact step hA h
            | false =>
              rw [hkn] at h
              have h : cnd want _ _ = some r := h
              cases want with
              | true => exact skip (hset.setKn _ _) h
              | false => exact step (hset.setKn _ _) h
        | skp => rw [hav] at h; exact skip hA h
        | _ => rw [hav] at h; simp only [] at h; cases h
theorem drawK_runT {R : Type} {ops : List Oper} : ∀ {rest : List Oper} {i : Nat} {st st2 : St} {acc : List FP} {k : St → List FP → Option R} {r : R}, Alike st st2 → drawK tab G ops rest i st acc k = some r → ∃ st' fs st3, runT tab G ops rest st2 = some (st', fs) ∧ Alike st3 st' ∧ k st3 (acc ++ fs) = some r := by
  intro rest
  induction rest with
  | nil => intro i st st2 acc k r hA h; exact ⟨st2, [], st, rfl, hA, by simpa [drawK] using h⟩
  | cons o rest ih =>
    intro i st st2 acc k r hA h
    have go : ∀ {st : St} {c : Comp} {rs : List Res} {t : Option Tmp} {b : Bool}, Alike st st2 → c.runT st rs (fun st' f => drawK tab G ops rest (Nat.succ i) (setKn st' t b) (acc ++ [f]) k) = some r →
        ∃ u, (match c with | .ret c u => cond (chkB c) (some (u, rs)) none | .call _ _ F u => F.map fun r => (u r, rs)) = some (u, rs) ∧ ∃ st' fs st3, runT tab G ops rest (apply st2 u) = some (st', fs) ∧ Alike st3 st' ∧ k st3 ((acc ++ [⟨tagRes u ++ rs, u.writes⟩]) ++ fs) = some r := by
      intro st c rs t b hA hc
      cases c with
      | ret c u =>
        cases c with
        | none => exact ⟨u, rfl, ih (hA.apply u t b) hc⟩
        | some c =>
          cases c with
          | false => cases hc
          | true => exact ⟨u, rfl, ih (hA.apply u t b) hc⟩
      | call rt rdt F u =>
        cases F with
        | none => cases hc
        | some x => exact ⟨u x, rfl, ih (hA.apply (u x) t b) hc⟩
    simp only [drawK] at h
    simp only [runT, oneU]
    cases hg : o.guard with
    | none =>
      rw [hg] at h; simp only [] at h ⊢
      rw [hA.step, hA.reads] at h
      cases hc : stepC tab G o st2 with
      | none => rw [hc] at h; cases h
      | some c =>
        rw [hc] at h
        obtain ⟨u, h1, st', fs, st3, h2, h3, h4⟩ := go (rs := reads st2 o) hA h
        refine ⟨st', ⟨tagRes u ++ reads st2 o, u.writes⟩ :: fs, st3, ?_, h3, by simpa using h4⟩
        cases c <;> simp only [] at h1 ⊢ <;> rw [h1] <;> simp [h2]
    | some gw =>
      obtain ⟨g, want⟩ := gw
      rw [hg] at h; simp only [] at h ⊢
      cases hgt : guardT ops g with
      | none => rw [hgt] at h; cases h
      | some t =>
        rw [hgt] at h; simp only [] at h ⊢
        have skip : ∀ {st : St}, Alike st st2 → drawK tab G ops rest (Nat.succ i) (setKn (apply st (skipU o)) o.dst false) (acc ++ [⟨[.tmp t], (skipU o).writes⟩]) k = some r → ∃ st' fs st3, (match (some (skipU o, [Res.tmp t]) : Option (Upd × List Res)) with
            | some (u, rs) => (runT tab G ops rest (apply st2 u)).map fun x => (x.1, (⟨tagRes u ++ rs, u.writes⟩ : FP) :: x.2)
            | none => none) = some (st', fs) ∧ Alike st3 st' ∧ k st3 (acc ++ fs) = some r := by
          intro st hA hk
          obtain ⟨st', fs, st3, h2, h3, h4⟩ := ih (hA.apply (skipU o) o.dst false) hk
          exact ⟨st', ⟨[.tmp t], (skipU o).writes⟩ :: fs, st3, by simp [h2, show tagRes (skipU o) = [] from rfl], h3, by simpa using h4⟩
        have step : ∀ {st : St}, Alike st st2 → (match stepC tab G o st with
            | some c => c.runT st (.tmp t :: reads st o) fun st' f => drawK tab G ops rest (Nat.succ i) (setKn st' o.dst (knOf o st)) (acc ++ [f]) k
            | none => none) = some r → ∃ st' fs st3, (match (match stepC tab G o st2 with
              | some (.ret c u) => cond (chkB c) (some (u, Res.tmp t :: reads st2 o)) none
              | some (.call _ _ F u) => F.map fun r => (u r, Res.tmp t :: reads st2 o)
              | none => none : Option (Upd × List Res)) with
            | some (u, rs) => (runT tab G ops rest (apply st2 u)).map fun x => (x.1, (⟨tagRes u ++ rs, u.writes⟩ : FP) :: x.2)
            | none => none) = some (st', fs) ∧ Alike st3 st' ∧ k st3 (acc ++ fs) = some r := by
          intro st hA hk
          rw [hA.step, hA.reads] at hk
          cases hc : stepC tab G o st2 with
          | none => rw [hc] at hk; cases hk
          | some c =>
            rw [hc] at hk
            obtain ⟨u, h1, st', fs, st3, h2, h3, h4⟩ := go (rs := Res.tmp t :: reads st2 o) hA hk
            refine ⟨st', ⟨tagRes u ++ Res.tmp t :: reads st2 o, u.writes⟩ :: fs, st3, ?_, h3, by simpa using h4⟩
            cases c <;> simp only [] at h1 ⊢ <;> rw [h1] <;> simp [h2]
        rw [hA.env] at h
        cases hav : (st2.env t).av with
        | dat ty b =>
          rw [hav] at h
          cases ty <;> try (simp only [] at h; cases h; done)
          simp only [] at h ⊢
          have hset := hA.setAV hav
          cases b with
          | true =>
            cases hkn : st.kn t with
            | true =>
              rw [hkn] at h
              have h : cnd want _ _ = some r := h
              cases want with
              | true => exact step hA h
              | false => exact skip hA h
            | false =>
              rw [hkn] at h
              have h : cnd want _ _ = some r := h
              cases want with
              | true => exact step (hset.setKn _ _) h
              | false => exact skip (hset.setKn _ _) h
          | false =>
            cases hkn : st.kn t with
            | true =>
              rw [hkn] at h
              have h : cnd want _ _ = some r := h
              cases want with
              | true => exact skip hA h
              | false => exact step hA h
            | false =>
              rw [hkn] at h
              have h : cnd want _ _ = some r := h
              cases want with
              | true => exact skip (hset.setKn _ _) h
              | false => exact step (hset.setKn _ _) h
        | skp => rw [hav] at h; exact skip hA h
        | _ => rw [hav] at h; simp only [] at h; cases h

theorem one_sound (hT : TabOk P tab) (hG : GamOk P G) {ops : Array Oper} (h : Sim w0 lim0 rb n st a w lim β) (hrb : ∀ k, some k = rb → k < w0.heap.size) (hd : ∀ d, o.dst = some d → d < n) {u : Upd} {rs : List Res} (hu : oneU tab G ops.toList o st = some (u, rs))
    (K : Act → World → Prop) (Q : Exit → Act → World → Prop) (hK : ∀ a' w' lim' β', Sim w0 lim0 rb n (apply st u) a' w' lim' β' → K a' w') :
    if Region.wanted o (yielded ops a.tmps) = true then o.wp P a w K Q else K (a.put o.dst undef) w := by
  have go : ∀ {rs' : List Res}, (match stepC tab G o st with
      | some (.ret c u) => cond (chkB c) (some (u, rs')) none
      | some (.call _ _ F u) => F.map fun r => (u r, rs')
      | none => none : Option (Upd × List Res)) = some (u, rs) → o.wp P a w K Q := by
    intro rs' hgo
    cases hc : stepC tab G o st with
    | none => rw [hc] at hgo; cases hgo
    | some c =>
      rw [hc] at hgo
      have hout : c.out st = some (apply st u) := by
        cases c with
        | ret c u' =>
          simp only [Comp.out]
          cases hck : chkB c with
          | false => simp only [hck] at hgo; cases hgo
          | true => simp only [hck] at hgo; injection hgo with hgo; injection hgo with hgo _; subst hgo; rfl
        | call rt rdt F u' =>
          cases F with
          | none => cases hgo
          | some r => injection hgo with hgo; injection hgo with hgo _; subst hgo; rfl
      exact step_ok hT hG h hrb hd hc hout K Q hK
  have skip : (some (skipU o, rs) : Option (Upd × List Res)) = some (u, rs) → K (a.put o.dst undef) w := by
    intro hs
    injection hs with hs; injection hs with hs _; subst hs
    exact hK _ _ _ _ (h.plain _ _ _ hd rfl)
  unfold oneU at hu
  cases hg : o.guard with
  | none =>
    rw [hg] at hu
    rw [if_pos (by simp [Region.wanted, hg])]
    exact go hu
  | some gw =>
    obtain ⟨g, want⟩ := gw
    rw [hg] at hu; simp only [] at hu
    cases hgt : guardT ops.toList g with
    | none => rw [hgt] at hu; cases hu
    | some t =>
      rw [hgt] at hu; simp only [] at hu
      have ht := h.env t
      cases hav : (st.env t).av with
      | dat ty b =>
        rw [hav] at hu ht
        cases ty <;> try (simp only [] at hu; cases hu; done)
        simp only [] at hu
        have hv := bool_rep ht
        have hy := yielded_bool (ops := ops) hgt hv
        have hwt : Region.wanted o (yielded ops a.tmps) = eqW b want := by
          unfold Region.wanted eqW
          rw [hg]
          show (yielded ops a.tmps g == some want) = _
          rw [hy]
          exact Option.some_beq_some
        cases hq : eqW b want with
        | true =>
          rw [hq] at hu hwt
          rw [if_pos hwt]
          exact go hu
        | false =>
          rw [hq] at hu hwt
          rw [if_neg (by rw [hwt]; simp)]
          injection hu with hu; injection hu with h1 h2; subst h1; subst h2
          exact skip rfl
      | skp =>
        rw [hav] at hu ht
        have hy := yielded_skip (ops := ops) hgt ht
        rw [if_neg (by simp [Region.wanted, hg, hy])]
        injection hu with hu; injection hu with h1 h2; subst h1; subst h2
        exact skip rfl
      | _ => rw [hav] at hu; simp only [] at hu; cases hu

theorem opsDst_mem {m : Nat} : ∀ {os : List Oper}, opsDst m os = true → ∀ o ∈ os, ∀ d, o.dst = some d → d < m
  | [], _, o, ho, _, _ => by cases ho
  | x :: os, h, o, ho, d, hd => by
    simp only [opsDst] at h
    have h2 : opsDst m os = true ∧ ∀ d, x.dst = some d → d < m := by
      cases hx : x.dst with
      | none => rw [hx] at h; exact ⟨h, fun d hd => by cases hd⟩
      | some e =>
        rw [hx] at h; simp only [] at h
        cases hb : Nat.blt e m with
        | false => rw [hb] at h; cases h
        | true => rw [hb] at h; exact ⟨h, fun d hd => by injection hd with hd; subst hd; simpa [Nat.blt_eq] using hb⟩
    rcases List.mem_cons.1 ho with rfl | ho
    · exact h2.2 d hd
    · exact opsDst_mem h2.1 o ho d hd

theorem run_sound (hT : TabOk P tab) (hG : GamOk P G) {ops : Array Oper} {Q : Exit → Act → World → Prop} (hrb : ∀ k, some k = rb → k < w0.heap.size) : ∀ {rest : List Oper} {st : St} {a : Act} {w : World} {lim : Lim} {β : Mp} {fs : List FP},
    runT tab G ops.toList rest st = some (st', fs) → (∀ o ∈ rest, ∀ d, o.dst = some d → d < n) → Sim w0 lim0 rb n st a w lim β → (∀ a' w' lim' β', Sim w0 lim0 rb n st' a' w' lim' β' → Q .normal a' w') → wpList P ops Q rest a w := by
  intro rest
  induction rest with
  | nil =>
    intro st a w lim β fs hr _ h hQ
    injection hr with hr; injection hr with h1 _; subst h1
    exact hQ _ _ _ _ h
  | cons o rest ih =>
    intro st a w lim β fs hr hd h hQ
    simp only [runT] at hr
    cases hu : oneU tab G ops.toList o st with
    | none => rw [hu] at hr; cases hr
    | some ur =>
      obtain ⟨u, rs⟩ := ur
      rw [hu] at hr; simp only [] at hr
      cases hrest : runT tab G ops.toList rest (apply st u) with
      | none => rw [hrest] at hr; cases hr
      | some sf =>
        obtain ⟨s', fs'⟩ := sf
        rw [hrest] at hr
        injection hr with hr; injection hr with h1 _; subst h1
        have := one_sound (ops := ops) hT hG h hrb (hd o (by simp)) hu (wpList P ops Q rest) Q (fun a' w' lim' β' hs => ih hrest (fun o' ho' => hd o' (by simp [ho'])) hs hQ)
        unfold wpList
        split
        · rename_i hw; rw [if_pos hw] at this; exact .inl this
        · rename_i hw; rw [if_neg hw] at this; exact this
end
end Go.Den
