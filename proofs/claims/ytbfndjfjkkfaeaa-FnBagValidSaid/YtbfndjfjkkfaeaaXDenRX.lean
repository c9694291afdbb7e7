/- Trees of one's own: each operation. -/
import Derived.Test.YtbfndjfjkkfaeaaXDenR
set_option linter.unusedVariables false
set_option linter.unusedSimpArgs false
namespace Go.Den
section
variable {P : Program} {tab : Tab} {G : Gam} {w0 : Base} {lim0 : Lim} {rb : Option Nat} {n : Nat}
variable {st st' : St} {a : Act} {w w' : World} {lim lim' : Lim} {β : Mp} {o : Oper} {c : Comp}

theorem flat_getF : ∀ {t : Ty} {x : t.val} {i : Nat} {d : Dat}, flatT t = true → getF t x i = some d → flatT d.1 = true := by
  intro t
  induction t with
  | prod p q _ ihq =>
    intro x i d hf h
    obtain ⟨f1, f2⟩ := flat_prod hf
    cases i with
    | zero => simp only [getF] at h; injection h with h; subst h; exact f1
    | succ i =>
      simp only [getF] at h
      rcases f2 with ⟨_, _, _, f2⟩ | rfl
      · exact ihq f2 h
      · cases h
  | _ => intro x i d hf h; cases h
theorem flat_getP : ∀ {p : List Nat} {t : Ty} {x : t.val} {y : Dat}, flatT t = true → getP t x p = some y → flatT y.1 = true
  | [], t, x, y, hf, h => by simp only [getP] at h; injection h with h; subst h; exact hf
  | i :: p, t, x, y, hf, h => by
    simp only [getP] at h
    cases hg : getF t x i with
    | none => rw [hg] at h; cases h
    | some d => rw [hg] at h; exact flat_getP (flat_getF hf hg) h
theorem atX_some {r : Tmp} {p : List Nat} {y : Dat} (h : st.atX r p = some y) : ∃ d, st.io r = some d ∧ getP d.1 d.2 p = some y := by
  unfold St.atX at h
  cases hr : st.io r with
  | none => rw [hr] at h; cases h
  | some d => rw [hr] at h; exact ⟨d, rfl, h⟩
/-- the value at a place of a tree -/
theorem Sim.atX (h : Sim w0 lim0 rb n st a w lim β) {r : Tmp} {p : List Nat} {y : Dat} (hy : st.atX r p = some y) :
    ∃ d Bu, st.io r = some d ∧ getP d.1 d.2 p = some y ∧ typeAt d.1 p = some y.1 ∧ flatT d.1 = true ∧ flatT y.1 = true ∧ (∀ g, Bu g → β.B r g) ∧ XRep w y.1 y.2 (((flatV (β.V r)).drop (offs d.1 p)).take y.1.size) Bu ∧
      ∀ (w' : World) (z : y.1.val) (x' : d.1.val), setP d.1 d.2 p ⟨y.1, z⟩ = some x' → (∀ g, β.B r g → ¬ Bu g → w'.heap[g]? = w.heap[g]?) → XRep w' y.1 z (((flatV (β.V r)).drop (offs d.1 p)).take y.1.size) Bu → XRep w' d.1 x' (flatV (β.V r)) (β.B r) := by
  obtain ⟨d, h1, h2⟩ := atX_some hy
  obtain ⟨hf, hX⟩ := h.xs.io r d h1
  obtain ⟨Bu, k1, k2, k3⟩ := hX.sub h2
  exact ⟨d, Bu, h1, h2, typeAt_getP h2, hf, flat_getP hf h2, k1, k2, k3⟩
theorem xf_val (h : Sim w0 lim0 rb n st a w lim β) {x : Operand} {r : Tmp} {p : List Nat} {y : Dat} (hx : (st.ent x).av = .xf r p) (hy : st.atX r p = some y) :
    ∃ d, st.io r = some d ∧ a.eval x = wrapV y.1 (((flatV (β.V r)).drop (offs d.1 p)).take y.1.size) := by
  obtain ⟨d, Bu, h1, h2, h3, _⟩ := h.atX hy
  have := h.ent x
  rw [hx] at this
  obtain ⟨d', u, k1, k2, k3⟩ := this
  rw [h1] at k1; injection k1 with k1; subst k1
  rw [h3] at k2; injection k2 with k2; subst k2
  exact ⟨d, h1, k3⟩
/-- a slice at a place of a tree: its cell -/
theorem Sim.sliceX (h : Sim w0 lim0 rb n st a w lim β) {r : Tmp} {p : List Nat} {e : Ty} {xs : List e.val} (hy : st.atX r p = some ⟨.slice e, xs⟩) :
    ∃ d, st.io r = some d ∧ getP d.1 d.2 p = some ⟨.slice e, xs⟩ ∧ typeAt d.1 p = some (.slice e) ∧ noSl e = true ∧
      ((xs.length = 0 ∧ (flatV (β.V r))[offs d.1 p]? = some (.slice none 0 0)) ∨ ∃ g c arr el fr, (flatV (β.V r))[offs d.1 p]? = some (.slice (some ⟨g, 0, none⟩) xs.length c) ∧ xs.length ≤ c ∧ c * e.size ≤ arr.size ∧ w.heap[g]? = some (.cells arr el fr) ∧
        (∀ o, o < arr.size → ¬ (fr.1 ≤ o ∧ o < fr.2)) ∧ β.B r g ∧ (∀ (i : Nat) (x : e.val), xs[i]? = some x → ∀ j v, (cellsV e x)[j]? = some v → arr[i * e.size + j]? = some v) ∧
        ∀ (w' : World) (ys : List e.val) (x' : d.1.val) (arr' : Array Value), ys.length = xs.length → setP d.1 d.2 p ⟨.slice e, ys⟩ = some x' → (∀ k, β.B r k → k ≠ g → w'.heap[k]? = w.heap[k]?) → w'.heap[g]? = some (.cells arr' el fr) → arr'.size = arr.size →
          (∀ (i : Nat) (x : e.val), ys[i]? = some x → ∀ j v, (cellsV e x)[j]? = some v → arr'[i * e.size + j]? = some v) → XRep w' d.1 x' (flatV (β.V r)) (β.B r)) := by
  obtain ⟨d, Bu, h1, h2, h3, h4, h5, h6, h7, h8⟩ := h.atX hy
  refine ⟨d, h1, h2, h3, h5, ?_⟩
  have hcell : ∀ v, (((flatV (β.V r)).drop (offs d.1 p)).take (Ty.slice e).size) = [v] → (flatV (β.V r))[offs d.1 p]? = some v := by
    intro v hv
    have e1 : ((flatV (β.V r)).drop (offs d.1 p))[0]? = some v := by
      have hs : (Ty.slice e).size = 1 := rfl
      rw [hs] at hv
      cases hq : (flatV (β.V r)).drop (offs d.1 p) with
      | nil => rw [hq] at hv; cases hv
      | cons z zs => rw [hq] at hv; simp at hv; rw [hv]; rfl
    simpa using e1
  rcases h7 with ⟨k1, k2, k3⟩ | ⟨g, c, arr, el, fr, k1, k2, k3, k4, kf, k5, k6⟩
  · exact .inl ⟨k2, hcell _ k1⟩
  · refine .inr ⟨g, c, arr, el, fr, hcell _ k1, k2, k3, k4, kf, h6 g ((k5 g).2 rfl), k6, fun w' ys x' arr' hlen hset hk hg hsz hel => ?_⟩
    refine h8 w' ys x' hset (fun k hk' hn => hk k hk' (fun e => hn ((k5 k).2 e))) (.inr ⟨g, c, arr', el, fr, ?_, ?_, by rw [hsz]; exact k3, hg, by rw [hsz]; exact kf, k5, hel⟩)
    · rw [k1]; congr 2; exact hlen.symm
    · show ys.length ≤ c
      rw [hlen]; exact k2

theorem free_some {d : Tmp} {x : Option Tmp} (h : freeD st x = some d) : x = some d ∧ st.io d = none ∧ st.box d = none ∧ st.xb d = none ∧ d ≠ 0 := by
  unfold freeD at h
  cases x with
  | none => cases h
  | some d' =>
    simp only [] at h
    split at h
    · rename_i q1 q2 q3 q4
      injection h with h; subst h
      exact ⟨rfl, q1, q2, q3, fun e => by rw [e] at q4; cases q4⟩
    · cases h
theorem ok_makeX (hT : TabOk P tab) (h : Sim w0 lim0 rb n st a w lim β) (hrb : ∀ k, some k = rb → k < w0.heap.size) (hd : ∀ d, o.dst = some d → d < n) {t : TypeId} {x y : Operand} (hop : o.op = .makeSlice t x y)
    (hc : stMakeX tab o t x y st = some c) (ho : c.out st = some st') : OpOk P w0 lim0 rb n o st' a w := by
  unfold stMakeX at hc
  split at hc
  · rename_i e k l k' m d hty hx hy hfree
    change Int at l
    change Int at m
    cases hns : noSl e with
    | false => rw [hns] at hc; cases hc
    | true =>
    rw [hns] at hc
    injection hc with hc; subst hc
    obtain ⟨hchk, rfl⟩ := out_ret ho
    have q1 := andB_iff.1 hchk
    have q2 := andB_iff.1 q1.2
    have g0 : 0 ≤ l := le0_iff.1 q1.1
    have g1 : l ≤ m := leI_iff.1 q2.1
    have g2 : m < big := ltI_iff.1 q2.2
    unfold big at g2
    obtain ⟨el, h1, h2⟩ := elemTy hT hty
    obtain ⟨i, hi1, hi2, hi3, hi4⟩ := h2.info
    have hzc : (wrapV e (zeroCells e)).cells = (zeroCells e).toArray := wrapV_cells (zero_rep w lim e)
    have hb : (i.bytes : Int) * m ≤ 281474976710656 := by
      have e1 : (i.bytes : Int) * m ≤ 4096 * m := Int.mul_le_mul_of_nonneg_right (by omega) (by omega)
      omega
    have hrun := run_make (P := P) w t el i (wrapV e (zeroCells e)) h1 hi1 hi3 k k' l m g0 g1 hb (by omega)
    have hlen : (repL l e.zero).length = l.toNat := by simp [repL]
    have he : (execOp a.eval o).run P w = .ok (.value (.slice (some ⟨w.heap.size, 0, none⟩) (repL l e.zero).length m.toNat)) (w.alloc (.cells (madeCells (zeroCells e).toArray (m.toNat * e.size)) el)) := by
      simp only [execOp, hop, Sem.run_bind, eval_int h hx, eval_int h hy, hrun, Result.andThen_ok, Sem.run_pure, hi2, hzc, hlen]
    have hm := (RRep.made (w := w) (lim := lim) e m.toNat)
    obtain ⟨hdst, hfd, _, _, hd0⟩ := free_some hfree
    have hnew := h.newroot hrb (hd d hdst) hfd hd0 ⟨.slice e, repL l e.zero⟩ (.xf d []) (.slice (some ⟨w.heap.size, 0, none⟩) (repL l e.zero).length m.toNat) (fun g => g = w.heap.size)
      (w' := w.alloc (.cells (madeCells (zeroCells e).toArray (m.toNat * e.size)) el)) (lim' := limSet lim w.heap.size (some 0)) rfl rfl rfl (by simp) (fun k hk => alloc_old _ hk) (fun k hk => by simp [limSet, show k ≠ w.heap.size by omega]) hns
      (.inr ⟨w.heap.size, m.toNat, _, el, (0, 0), rfl, by show (repL l e.zero).length ≤ m.toNat; rw [hlen]; omega, by rw [size_madeCells]; exact Nat.le_refl _, alloc_new _, fun _ _ hk => by simp at hk, fun _ => Iff.rfl, fun j z hj q v hv => ?_⟩)
      (fun g hg => ⟨by rw [hg]; exact Nat.le_refl _, by simp [limSet, hg]⟩) (.inl ⟨rfl, rfl⟩)
    · have := OpOk.value (o := o) (lim := limSet lim w.heap.size (some 0)) he (by rw [hdst]; exact hnew)
      exact this
    · have hj : (repL l e.zero)[j]? = some z := hj
      have hjl : j < l.toNat := by have := (List.getElem?_eq_some_iff.1 hj).1; omega
      have hz : z = e.zero := by
        simp only [repL, List.getElem?_replicate, hjl, if_true] at hj
        injection hj with hj; exact hj.symm
      subst hz
      obtain ⟨cs, k1, k2⟩ := hm.2 j e.zero (by rw [List.getElem?_replicate]; exact if_pos (by omega))
      rw [(CRep_noSl hns).1 k1] at k2
      have := k2 q v hv
      rw [← Array.getElem?_toList]; exact this
  · cases hc
theorem ok_allocX (hT : TabOk P tab) (h : Sim w0 lim0 rb n st a w lim β) (hrb : ∀ k, some k = rb → k < w0.heap.size) (hd : ∀ d, o.dst = some d → d < n) {el : TypeId} (hop : o.op = .alloc el) (hc : stAllocX tab o el st = some c) (ho : c.out st = some st') : OpOk P w0 lim0 rb n o st' a w := by
  unfold stAllocX at hc
  split at hc
  · rename_i ty d hty hfree
    injection hc with hc; subst hc
    obtain ⟨_, rfl⟩ := out_ret ho
    obtain ⟨hdst, _, _, hx, _⟩ := free_some hfree
    have hcl : (wrapV ty (zeroCells ty)).cells = (zeroCells ty).toArray := wrapV_cells (zero_rep w lim ty)
    have he : (execOp a.eval o).run P w = .ok (.value (.pointer (some ⟨w.heap.size, 0, none⟩))) (w.alloc (.cells (zeroCells ty).toArray el)) := by
      simp [execOp, hop, Instr.alloc, run_zeroValue (hT _ _ hty), newVar, newRow, hcl]
    have hl := (zero_rep w lim ty).length
    refine .value (lim := limSet lim w.heap.size (some 0)) (β := { β with c := fun k => if k = d then w.heap.size else β.c k }) he ?_
    rw [hdst]
    exact h.setxb hrb (some d) (fun d' hd' => by injection hd' with hd'; rw [← hd']; exact hd d hdst) (.cx d []) _ (.inl hx) (fun _ => Nat.le_refl _) rfl rfl rfl (by simp) (fun k hk _ => alloc_old _ hk) (fun k hk => by simp [limSet, show k ≠ w.heap.size by omega])
      (alloc_new _) (by simpa using hl) (by simp [limSet]) (fun r q hrq => by cases hrq) (fun d' hd' => ⟨ty, none, by simp [apply], by
        have : offs ty [] = 0 := by cases ty <;> rfl
        simp [this]⟩)
  · cases hc
theorem ok_boxX (h : Sim w0 lim0 rb n st a w lim β) (hrb : ∀ k, some k = rb → k < w0.heap.size) (hd : ∀ d, o.dst = some d → d < n) {el : TypeId} {x : Operand} {r : Tmp} {p : List Nat} (hop : o.op = .box el x) (hxe : (st.ent x).av = .xf r p)
    (hc : stBoxX tab o el r p st = some c) (ho : c.out st = some st') : OpOk P w0 lim0 rb n o st' a w := by
  unfold stBoxX at hc
  split at hc
  · rename_i ty d y hty hfree hy
    cases hb : Ty.beq y.1 ty with
    | false => rw [hb] at hc; cases hc
    | true =>
      rw [hb] at hc
      injection hc with hc; subst hc
      obtain ⟨_, rfl⟩ := out_ret ho
      have hb := Ty.of_beq hb
      subst hb
      obtain ⟨hdst, _, _, hx, _⟩ := free_some hfree
      obtain ⟨dd, hio, hv⟩ := xf_val h hxe hy
      obtain ⟨d2, Bu, m1, m2, m3, m4, m5, m6, m7, m8⟩ := h.atX hy
      rw [hio] at m1; injection m1 with m1; subst m1
      have hcr : CRep w (fun _ => none) y.1 y.2 (((flatV (β.V r)).drop (offs dd.1 p)).take y.1.size) := m7.crep m5 (fun _ _ => rfl)
      have hcl : (a.eval x).cells = (((flatV (β.V r)).drop (offs dd.1 p)).take y.1.size).toArray := by rw [hv]; exact wrapV_cells hcr
      have he : (execOp a.eval o).run P w = .ok (.value (.pointer (some ⟨w.heap.size, 0, none⟩))) (w.alloc (.cells (a.eval x).cells el)) := by
        simp [execOp, hop, Instr.box, newVar, newRow]
      refine .value (lim := limSet lim w.heap.size (some 0)) (β := { β with c := fun k => if k = d then w.heap.size else β.c k }) he ?_
      rw [hdst]
      exact h.setxb hrb (some d) (fun d' hd' => by injection hd' with hd'; rw [← hd']; exact hd d hdst) (.cx d []) _ (.inl hx) (fun _ => Nat.le_refl _) rfl rfl rfl (by simp) (fun k hk _ => alloc_old _ hk) (fun k hk => by simp [limSet, show k ≠ w.heap.size by omega])
        (alloc_new _) (by rw [hcl]; simpa using hcr.length) (by simp [limSet]) (fun r' q hrq => by
          injection hrq with hrq; injection hrq with e1 e2; subst e1; subst e2
          exact ⟨dd, hio, m3, by rw [hcl]⟩) (fun d' hd' => ⟨y.1, some (r, p), by simp [apply], by
          have : offs y.1 [] = 0 := by cases y.1 <;> rfl
          simp [this]⟩)
  · cases hc
theorem ok_putX (hT : TabOk P tab) (h : Sim w0 lim0 rb n st a w lim β) (hrb : ∀ k, some k = rb → k < w0.heap.size) (hd : ∀ d, o.dst = some d → d < n) {t : TypeId} {x v : Operand} {b r : Tmp} {q : List Nat} (hop : o.op = .store t x v)
    (hxe : (st.ent x).av = .cx b []) (hve : (st.ent v).av = .xf r q) (hc : stPutX tab o t b r q st = some c) (ho : c.out st = some st') : OpOk P w0 lim0 rb n o st' a w := by
  unfold stPutX at hc
  split at hc
  · rename_i ty y hxb hy
    cases hty : tyIs (tab t) ty with
    | false => rw [hty] at hc; cases hc
    | true =>
    cases hb : Ty.beq y.1 ty with
    | false => rw [hty, hb] at hc; cases hc
    | true =>
      rw [hty, hb] at hc
      injection hc with hc; subst hc
      obtain ⟨_, rfl⟩ := out_ret ho
      have hb := Ty.of_beq hb
      subst hb
      obtain ⟨dd, hio, hv⟩ := xf_val h hve hy
      obtain ⟨d2, Bu, m1, m2, m3, m4, m5, m6, m7, m8⟩ := h.atX hy
      rw [hio] at m1; injection m1 with m1; subst m1
      have hcr : CRep w (fun _ => none) y.1 y.2 (((flatV (β.V r)).drop (offs dd.1 q)).take y.1.size) := m7.crep m5 (fun _ _ => rfl)
      have hcl : (a.eval v).cells = (((flatV (β.V r)).drop (offs dd.1 q)).take y.1.size).toArray := by rw [hv]; exact wrapV_cells hcr
      obtain ⟨cells, e, k1, k2, k3, k4, _⟩ := h.xs.xb b y.1 none hxb
      have hx := h.ent x
      rw [hxe] at hx
      obtain ⟨t', o', j1, j2⟩ := hx
      rw [hxb] at j1; injection j1 with j1; injection j1 with j1 _; subst j1
      have ho0 : offs y.1 [] = 0 := by cases y.1 <;> rfl
      rw [ho0] at j2
      have hlen := hcr.length
      have hsz : (a.eval v).cells.size = y.1.size := by rw [hcl]; simpa using hlen
      obtain ⟨w', r1, r5⟩ := run_storeCells (P := P) (a.eval v).cells.toList cells e (0, 0) (β.c b) 0 0 w [] cells.toList [] k1 (by simp) rfl (by simpa using (k2.trans hsz.symm)) (fun u hu => by rw [hcl] at hu; exact hcr.cells u (by simpa using hu)) (fun k _ hk => by omega)
      have he : (execOp a.eval o).run P w = .ok .skip w' := by
        simp only [execOp, hop, Instr.storeAt, Instr.sureAddr, j2, Sem.run_bind, Sem.run_pure, Result.andThen_ok, storeVar, run_sizeOf (hT _ _ (tyIs_some hty)), hsz, ne_eq, not_true_eq_false, if_false]
        simp only [r1, Result.andThen_ok]
      have hlt := (Array.getElem?_eq_some_iff.1 k1).1
      have hwa := r5.at_
      simp only [List.nil_append, List.append_nil] at hwa
      refine .skip (lim := lim) (β := { β with c := fun k => if k = b then β.c b else β.c k }) he ?_
      exact h.setxb hrb o.dst hd .skp undef (.inr ⟨⟨none, hxb⟩, rfl⟩) (fun hn => by rw [hxb] at hn; cases hn) r5.os r5.tape r5.output (by rw [r5.size]; exact Nat.le_refl _) (fun k _ hne => r5.other k hne) (fun _ _ => rfl)
        hwa (by simpa using hsz) k4 (fun r' q' hrq => by
          injection hrq with hrq; injection hrq with e1 e2; subst e1; subst e2
          exact ⟨dd, hio, m3, by rw [hcl]⟩) (fun _ _ => rfl)
  · cases hc
theorem xb_rep (h : Sim w0 lim0 rb n st a w lim β) {x : Operand} {b r : Tmp} {p q : List Nat} {ty : Ty} {z y : Dat} (hxe : (st.ent x).av = .cx b p) (hxb : st.xb b = some (ty, some (r, q))) (hz : st.atX r q = some z) (hb : z.1 = ty) (hy : getP z.1 z.2 p = some y) :
    a.eval x = .pointer (some ⟨β.c b, offs z.1 p, none⟩) ∧ ∃ d cells e, st.io r = some d ∧ flatT y.1 = true ∧ w.heap[β.c b]? = some (.cells cells e (0, 0)) ∧ CRep w (fun _ => none) z.1 z.2 cells.toList ∧ typeAt d.1 (q ++ p) = some y.1 ∧
      (cells.toList.drop (offs z.1 p)).take y.1.size = ((flatV (β.V r)).drop (offs d.1 (q ++ p))).take y.1.size := by
  subst hb
  have hx := h.ent x
  rw [hxe] at hx
  obtain ⟨t', o', j1, j2⟩ := hx
  rw [hxb] at j1; injection j1 with j1; injection j1 with j1 _; subst j1
  refine ⟨j2, ?_⟩
  obtain ⟨d, Bu, m1, m2, m3, m4, m5, m6, m7, m8⟩ := h.atX hz
  obtain ⟨cells, e, k1, k2, k3, k4, k5⟩ := h.xs.xb b _ _ hxb
  obtain ⟨d', n1, n2, n3⟩ := k5 r q rfl
  rw [m1] at n1; injection n1 with n1; subst n1
  obtain ⟨g1, g2⟩ := getP_app m2 p (typeAt_getP hy)
  refine ⟨d, cells, e, m1, flat_getP m5 hy, k1, by rw [n3]; exact m7.crep m5 (fun _ _ => rfl), g1, ?_⟩
  have hlt := typeAt_lt (typeAt_getP hy)
  rw [n3, g2, ← List.drop_drop, List.drop_take, List.take_take, Nat.min_eq_left (by omega)]
theorem ok_loadX (hT : TabOk P tab) (h : Sim w0 lim0 rb n st a w lim β) (hd : ∀ d, o.dst = some d → d < n) {t : TypeId} {x : Operand} {b : Tmp} {p : List Nat} (hop : o.op = .load t x) (hxe : (st.ent x).av = .cx b p)
    (hc : stLoadX tab o t b p st = some c) (ho : c.out st = some st') : OpOk P w0 lim0 rb n o st' a w := by
  unfold stLoadX at hc
  split at hc
  · rename_i ty r q hxb
    cases hz : st.atX r q with
    | none => rw [hz] at hc; cases hc
    | some z =>
      rw [hz] at hc; simp only [] at hc
      cases hb : Ty.beq z.1 ty with
      | false => rw [hb] at hc; cases hc
      | true =>
        cases hy : getP z.1 z.2 p with
        | none => rw [hb, hy] at hc; cases hc
        | some y =>
          rw [hb, hy] at hc; simp only [] at hc
          cases hty : tyIs (tab t) y.1 with
          | false => rw [hty] at hc; cases hc
          | true =>
            rw [hty] at hc; simp only [cnd_true] at hc
            obtain ⟨he, d, cells, e, m1, m2, m3, m4, m5, m6⟩ := xb_rep h hxe hxb hz (Ty.of_beq hb) hy
            obtain ⟨c1, c2, c3, q1, q2, q3, _⟩ := m4.part hy
            have hm : ∀ j u, c2[j]? = some u → w.cell? ⟨β.c b, offs z.1 p + j, none⟩ = some u := by
              intro j u hu
              simp only [World.cell?, m3]
              rw [← q2]
              simp only [Option.isSome_none, Bool.false_eq_true, if_false]
              rw [← Array.getElem?_toList, q1, List.getElem?_append_right (by omega)]
              rw [show c1.length + j - c1.length = j by omega, List.getElem?_append_left (List.getElem?_eq_some_iff.1 hu).1]
              exact hu
            have hrun : (execOp a.eval o).run P w = .ok (.value (wrapV y.1 c2)) w := by
              simp [execOp, hop, Instr.loadAt, Instr.sureAddr, he, run_loadVar (hT _ _ (tyIs_some hty)) q3 hm]
            have hc2 : (cells.toList.drop (offs z.1 p)).take y.1.size = c2 := by
              rw [q1, ← q2, List.drop_left, ← q3.length, List.take_left]
            cases hns : noSl y.1 with
            | true =>
              rw [hns] at hc
              injection hc with hc; subst hc
              obtain ⟨_, rfl⟩ := out_ret ho
              exact .value hrun (h.plain _ _ _ hd ⟨c2, (CRep_noSl hns).2 ((CRep_noSl hns).1 q3), rfl⟩)
            | false =>
              rw [hns] at hc
              injection hc with hc; subst hc
              obtain ⟨_, rfl⟩ := out_ret ho
              exact .value hrun (h.plain _ _ _ hd ⟨d, y.1, m1, m5, by rw [← m6, hc2]⟩)
  · cases hc
theorem ok_fieldAddrC (hT : TabOk P tab) (h : Sim w0 lim0 rb n st a w lim β) (hd : ∀ d, o.dst = some d → d < n) {s : TypeId} {x : Operand} {f : Nat} {b : Tmp} {p : List Nat} (hop : o.op = .fieldAddr s x f) (hxe : (st.ent x).av = .cx b p)
    (hc : stFieldAddrC tab o s b p f st = some c) (ho : c.out st = some st') : OpOk P w0 lim0 rb n o st' a w := by
  unfold stFieldAddrC at hc
  split at hc
  · rename_i ty r q hxb
    cases hz : st.atX r q with
    | none => rw [hz] at hc; cases hc
    | some z =>
      rw [hz] at hc; simp only [] at hc
      cases hb : Ty.beq z.1 ty with
      | false => rw [hb] at hc; cases hc
      | true =>
        cases hy : getP z.1 z.2 p with
        | none => rw [hb, hy] at hc; cases hc
        | some y =>
          rw [hb, hy] at hc; simp only [] at hc
          cases hty : tyIs (tab s) y.1 with
          | false => rw [hty] at hc; cases hc
          | true =>
            cases hf : getF y.1 y.2 f with
            | none => rw [hty, hf] at hc; cases hc
            | some u =>
              rw [hty, hf] at hc
              injection hc with hc; subst hc
              obtain ⟨_, rfl⟩ := out_ret ho
              obtain ⟨he, _⟩ := xb_rep h hxe hxb hz (Ty.of_beq hb) hy
              refine .value (by simp [execOp, hop, he, run_fieldAt hT (tyIs_some hty) hf] <;> rfl) (h.plain _ _ _ hd ⟨ty, _, hxb, ?_⟩)
              have := Ty.of_beq hb
              subst this
              rw [(getP_snoc hy hf).2]
  · cases hc
theorem xp_rep (h : Sim w0 lim0 rb n st a w lim β) {x : Operand} {r : Tmp} {p q : List Nat} {k : Int} {e : Ty} {xs : List e.val} (hxe : (st.ent x).av = .xp r p k q) (hy : st.atX r p = some ⟨.slice e, xs⟩) :
    ∃ g m cc d, st.io r = some d ∧ 0 ≤ k ∧ (flatV (β.V r))[offs d.1 p]? = some (.slice (some ⟨g, 0, none⟩) m cc) ∧ a.eval x = .pointer (some ⟨g, k.toNat * e.size + offs e q, none⟩) := by
  have hx := h.ent x
  rw [hxe] at hx
  obtain ⟨d, e', g, m, cc, k1, k2, k3, k4, k5⟩ := hx
  obtain ⟨d', _, m1, _, m3, _⟩ := h.atX hy
  rw [k1] at m1; injection m1 with m1; subst m1
  rw [k2] at m3; injection m3 with m3; injection m3 with m3; subst m3
  exact ⟨g, m, cc, d, k1, k3, k4, k5⟩
theorem ok_fieldAddrX (hT : TabOk P tab) (h : Sim w0 lim0 rb n st a w lim β) (hd : ∀ d, o.dst = some d → d < n) {s : TypeId} {x : Operand} {f : Nat} {r : Tmp} {p q : List Nat} {k : Int} (hop : o.op = .fieldAddr s x f) (hxe : (st.ent x).av = .xp r p k q)
    (hc : stFieldAddrX tab o s r p k q f st = some c) (ho : c.out st = some st') : OpOk P w0 lim0 rb n o st' a w := by
  unfold stFieldAddrX at hc
  split at hc
  · rename_i e xs hat
    change List e.val at xs
    cases hy : getP e (atL (α := e.val) xs k e.zero) q with
    | none => rw [hy] at hc; cases hc
    | some y =>
      rw [hy] at hc; simp only [] at hc
      cases hty : tyIs (tab s) y.1 with
      | false => rw [hty] at hc; cases hc
      | true =>
        cases hf : getF y.1 y.2 f with
        | none => rw [hty, hf] at hc; cases hc
        | some u =>
          rw [hty, hf] at hc
          injection hc with hc; subst hc
          obtain ⟨_, rfl⟩ := out_ret ho
          obtain ⟨g, m, cc, d, k1, k2, k3, k4⟩ := xp_rep h hxe hat
          obtain ⟨d', _, m1, _, m3, _⟩ := h.atX hat
          rw [k1] at m1; injection m1 with m1; subst m1
          refine .value (by simp [execOp, hop, k4, run_fieldAt hT (tyIs_some hty) hf] <;> rfl) (h.plain _ _ _ hd ⟨d, e, g, m, cc, k1, m3, k2, k3, ?_⟩)
          rw [(getP_snoc hy hf).2, Nat.add_assoc]
  · cases hc
theorem ok_indexAddrX (hT : TabOk P tab) (h : Sim w0 lim0 rb n st a w lim β) (hd : ∀ d, o.dst = some d → d < n) {t : TypeId} {x i : Operand} {r : Tmp} {p : List Nat} (hop : o.op = .indexAddr t x i) (hxe : (st.ent x).av = .xf r p)
    (hc : stIndexAddrX tab o t r p i st = some c) (ho : c.out st = some st') : OpOk P w0 lim0 rb n o st' a w := by
  unfold stIndexAddrX at hc
  split at hc
  · rename_i e xs k m hat hi
    change List e.val at xs
    change Int at m
    cases hty : tyIs (tab t) (.slice e) with
    | false => rw [hty] at hc; cases hc
    | true =>
      rw [hty] at hc
      injection hc with hc; subst hc
      obtain ⟨hr, rfl⟩ := out_ret ho
      have hr := inRange hr
      have hm := eval_int h hi
      obtain ⟨d, hio, hv⟩ := xf_val h hxe hat
      obtain ⟨d', m1, m2, m3, m4, m5⟩ := h.sliceX hat
      rw [hio] at m1; injection m1 with m1; subst m1
      obtain ⟨el, h1, h2⟩ := elemTy hT (tyIs_some hty)
      rcases m5 with ⟨m5, _⟩ | ⟨g, cc, arr, el', fr, m5, _⟩
      · exfalso; have : xs.length = 0 := m5; omega
      · have hv' : a.eval x = .slice (some ⟨g, 0, none⟩) xs.length cc := by
          rw [hv]
          have hlt := (List.getElem?_eq_some_iff.1 m5).1
          have : ((flatV (β.V r)).drop (offs d.1 p)).take (Ty.slice e).size = [.slice (some ⟨g, 0, none⟩) xs.length cc] := by
            have hs : (Ty.slice e).size = 1 := rfl
            have hv2 := (List.getElem?_eq_some_iff.1 m5).2
            rw [hs, List.drop_eq_getElem_cons hlt, hv2]; rfl
          rw [this]; rfl
        refine .value (v := .pointer (some ⟨g, m.toNat * e.size, none⟩)) ?_ (h.plain _ _ _ hd ⟨d, e, g, _, cc, hio, m3, hr.1, m5, ?_⟩)
        · simp [execOp, hop, hv', hm, Instr.indexAt, asIntOf, underlying, h1, run_sizeOf h2, hr.1, hr.2, addr_add]
        · have : offs e [] = 0 := by cases e <;> rfl
          rw [this]; rfl
  · cases hc
theorem ok_lenX (hT : TabOk P tab) (h : Sim w0 lim0 rb n st a w lim β) (hd : ∀ d, o.dst = some d → d < n) {t : TypeId} {x : Operand} {cl : Call} {r : Tmp} {p : List Nat} (hop : o.op = .call cl) (hcal : cl.callee = .builtin .len) (ha : cl.args = #[x]) (hat : cl.argTypes = #[t]) (hxe : (st.ent x).av = .xf r p)
    (hc : stLenX tab o t r p st = some c) (ho : c.out st = some st') : OpOk P w0 lim0 rb n o st' a w := by
  unfold stLenX at hc
  split at hc
  · rename_i e xs hy
    change List e.val at xs
    cases hty : tyIs (tab t) (.slice e) with
    | false => rw [hty] at hc; cases hc
    | true =>
      rw [hty] at hc
      injection hc with hc; subst hc
      obtain ⟨_, rfl⟩ := out_ret ho
      obtain ⟨el, h1, h2⟩ := elemTy hT (tyIs_some hty)
      obtain ⟨d, hio, hv⟩ := xf_val h hxe hy
      obtain ⟨d2, Bu, m1, m2, m3, m4, m5, m6, m7, m8⟩ := h.atX hy
      rw [hio] at m1; injection m1 with m1; subst m1
      have : ∃ ad cc, a.eval x = .slice ad xs.length cc := by
        rw [hv]
        rcases m7 with ⟨k1, k2, _⟩ | ⟨g, cc, arr, e', fr, k1, _⟩
        · have k2 : xs.length = 0 := k2
          rw [k1, k2]; exact ⟨_, _, rfl⟩
        · rw [k1]; exact ⟨_, _, rfl⟩
      obtain ⟨ad, cc, hv⟩ := this
      refine .value (v := .int .i64 (lenL xs)) ?_ (h.plain _ _ _ hd mk_int)
      simp [execOp, hop, resolve, hcal, ha, hat, invoke, builtin, Builtin.len_, underlying, h1, hv, goInt, lenL]
  · cases hc
end
end Go.Den
