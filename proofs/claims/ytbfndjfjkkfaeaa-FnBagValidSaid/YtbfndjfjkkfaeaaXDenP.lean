/- Slices that are made. -/
import Derived.Test.YtbfndjfjkkfaeaaXDenO
import Derived.Lib.ConvBytes
set_option linter.unusedVariables false
set_option linter.unusedSimpArgs false
namespace Go.Den
section
variable {P : Program} {tab : Tab} {w0 : Base} {lim0 : Lim} {rb : Option Nat} {n : Nat}
variable {st st' : St} {a : Act} {w w' : World} {lim lim' : Lim} {β : Mp} {o : Oper} {c : Comp}

/-- the cells of a list, one element after the other -/
def RRep (w : World) (lim : Lim) (e : Ty) (xs : List e.val) (L : List Value) : Prop :=
  L.length = xs.length * e.size ∧ ∀ i x, xs[i]? = some x → ∃ cs, CRep w lim e x cs ∧ ∀ j v, cs[j]? = some v → L[i * e.size + j]? = some v

theorem RRep.mono (he : Ext w lim w' lim') {e : Ty} {xs : List e.val} {L : List Value} (h : RRep w lim e xs L) : RRep w' lim' e xs L :=
  ⟨h.1, fun i x hx => let ⟨cs, h1, h2⟩ := h.2 i x hx; ⟨cs, h1.mono he, h2⟩⟩
theorem RRep.nil (e : Ty) : RRep w lim e [] [] := ⟨by simp, fun i x hx => by simp at hx⟩
theorem RRep.append {e : Ty} {xs ys : List e.val} {L M : List Value} (h : RRep w lim e xs L) (k : RRep w lim e ys M) : RRep w lim e (xs ++ ys) (L ++ M) := by
  refine ⟨by simp [h.1, k.1, Nat.add_mul], fun i x hx => ?_⟩
  by_cases hi : i < xs.length
  · rw [List.getElem?_append_left hi] at hx
    obtain ⟨cs, h1, h2⟩ := h.2 i x hx
    refine ⟨cs, h1, fun j v hv => ?_⟩
    have := h2 j v hv
    rw [List.getElem?_append_left (List.getElem?_eq_some_iff.1 this).1]; exact this
  · rw [List.getElem?_append_right (by omega)] at hx
    obtain ⟨cs, h1, h2⟩ := k.2 _ x hx
    refine ⟨cs, h1, fun j v hv => ?_⟩
    have := h2 j v hv
    have hm : xs.length * e.size + (i - xs.length) * e.size = i * e.size := by rw [← Nat.add_mul]; congr 1; omega
    rw [List.getElem?_append_right (by rw [h.1]; omega), h.1, show i * e.size + j - xs.length * e.size = (i - xs.length) * e.size + j by omega]; exact this
theorem RRep.set {e : Ty} {xs : List e.val} {c1 c2 c3 cs : List Value} {i : Nat} {v : e.val} (h : RRep w lim e xs (c1 ++ (c2 ++ c3))) (hl : c1.length = i * e.size) (hl2 : c2.length = e.size) (hv : CRep w lim e v cs) :
    RRep w lim e (xs.set i v) (c1 ++ (cs ++ c3)) := by
  have hcs := hv.length
  refine ⟨by have := h.1; simp at this ⊢; omega, fun k x hx => ?_⟩
  by_cases hk : k = i
  · subst hk
    rw [List.getElem?_set] at hx
    simp only [if_true] at hx
    split at hx
    · injection hx with hx; subst hx
      refine ⟨cs, hv, fun j u hu => ?_⟩
      have hlt := (List.getElem?_eq_some_iff.1 hu).1
      rw [List.getElem?_append_right (by omega), hl, show k * e.size + j - k * e.size = j by omega, List.getElem?_append_left hlt]; exact hu
    · cases hx
  · rw [List.getElem?_set_ne (by omega)] at hx
    obtain ⟨ds, h1, h2⟩ := h.2 k x hx
    refine ⟨ds, h1, fun j u hu => ?_⟩
    have := h2 j u hu
    have hj := (List.getElem?_eq_some_iff.1 hu).1
    rw [h1.length] at hj
    rcases Nat.lt_or_gt_of_ne hk with hk | hk
    · have hm : (k + 1) * e.size ≤ i * e.size := Nat.mul_le_mul_right _ hk
      rw [Nat.succ_mul] at hm
      rw [List.getElem?_append_left (by omega)] at this ⊢; exact this
    · have hm : (i + 1) * e.size ≤ k * e.size := Nat.mul_le_mul_right _ hk
      rw [Nat.succ_mul] at hm
      rw [List.getElem?_append_right (by omega), List.getElem?_append_right (by omega)] at this
      rw [List.getElem?_append_right (by omega), List.getElem?_append_right (by omega), show k * e.size + j - c1.length - cs.length = k * e.size + j - c1.length - c2.length by omega]; exact this

theorem RRep.made (e : Ty) (k : Nat) : RRep w lim e (List.replicate k e.zero) ((Array.range (k * e.size)).map ((zeroCells e).toArray[· % (zeroCells e).toArray.size]!)).toList := by
  have hz := (zero_rep w lim e).length
  refine ⟨by simp, fun i x hx => ?_⟩
  rw [List.getElem?_replicate] at hx
  split at hx
  · rename_i hi
    injection hx with hx; subst hx
    refine ⟨zeroCells e, zero_rep w lim e, fun j v hv => ?_⟩
    have hj := (List.getElem?_eq_some_iff.1 hv).1
    have hb : i * e.size + j < k * e.size := by
      have hm : (i + 1) * e.size ≤ k * e.size := Nat.mul_le_mul_right _ hi
      rw [Nat.succ_mul] at hm
      omega
    have hmod : (i * e.size + j) % e.size = j := by
      rw [Nat.mul_comm, Nat.mul_add_mod]; exact Nat.mod_eq_of_lt (by omega)
    have hv' := (List.getElem?_eq_some_iff.1 hv).2
    simp only [Array.toList_map, List.getElem?_map, Array.toList_range, List.getElem?_range hb, Option.map_some]
    simp only [List.size_toArray, hz, hmod]
    congr 1
    simp [hj, hv']
  · cases hx

theorem SRep_block {e : Ty} {xs : List e.val} {L : List Value} {arr : Array Value} {el : TypeId} {fr : Nat × Nat} {b : Nat} {rest : List Value} (hb : w.heap[b]? = some (.cells arr el fr)) (ha : arr.toList = L ++ rest) (hr : RRep w lim e xs L) (hu : under lim b (xs.length * e.size)) :
    SRep w lim (CRep w lim e) e.size xs (some ⟨b, 0, none⟩) := by
  refine .inr ⟨b, 0, rfl, (Array.getElem?_eq_some_iff.1 hb).1, by simpa using hu, fun i x hx => ?_⟩
  obtain ⟨cs, h1, h2⟩ := hr.2 i x hx
  refine ⟨cs, h1, fun j v hv => ?_⟩
  have := h2 j v hv
  simp only [World.cell?, hb]
  simp only [Option.isSome_none, Bool.false_eq_true, if_false, Nat.zero_add]
  have e1 : arr[i * e.size + j]? = arr.toList[i * e.size + j]? := by simp
  rw [e1, ha, List.getElem?_append_left (List.getElem?_eq_some_iff.1 this).1]; exact this

/-- the cells of a list that lies in memory -/
theorem SRep_cells {e : Ty} : ∀ {xs : List e.val} {b oo : Nat}, (∀ i x, xs[i]? = some x → ∃ cs, CRep w lim e x cs ∧ ∀ j v, cs[j]? = some v → w.cell? ⟨b, oo + i * e.size + j, none⟩ = some v) →
    ∃ L, RRep w lim e xs L ∧ ∀ k v, L[k]? = some v → w.cell? ⟨b, oo + k, none⟩ = some v := by
  intro xs
  induction xs with
  | nil => intro b oo _; exact ⟨[], RRep.nil e, fun k v hk => by simp at hk⟩
  | cons x xs ih =>
    intro b oo hc
    obtain ⟨cs, k1, k2⟩ := hc 0 x rfl
    obtain ⟨L, h1, h2⟩ := ih (b := b) (oo := oo + e.size) (fun i y hy => by
      obtain ⟨ds, g1, g2⟩ := hc (i + 1) y (by simpa using hy)
      refine ⟨ds, g1, fun j v hv => ?_⟩
      have := g2 j v hv
      rw [Nat.succ_mul] at this
      rw [show oo + e.size + i * e.size + j = oo + (i * e.size + e.size) + j by omega]; exact this)
    have hone : RRep w lim e [x] cs := ⟨by simp [k1.length], fun i y hy => by
      cases i with
      | zero => simp at hy; subst hy; exact ⟨cs, k1, fun j v hv => by simpa using hv⟩
      | succ i => simp at hy⟩
    refine ⟨cs ++ L, hone.append h1, fun k v hk => ?_⟩
    by_cases hlt : k < cs.length
    · rw [List.getElem?_append_left hlt] at hk
      have := k2 k v hk
      simpa using this
    · rw [List.getElem?_append_right (by omega)] at hk
      have := h2 _ v hk
      rw [k1.length] at this hlt
      rw [show oo + k = oo + e.size + (k - e.size) by omega]; exact this
theorem RRep.notAgg {e : Ty} {xs : List e.val} {L : List Value} (h : RRep w lim e xs L) : ∀ v ∈ L, notAgg v := by
  intro v hv
  obtain ⟨k, hk, rfl⟩ := List.getElem_of_mem hv
  have hk' := hk
  rw [h.1] at hk'
  have hs : 0 < e.size := by
    rcases Nat.eq_zero_or_pos e.size with hz | hz
    · rw [hz] at hk'; simp at hk'
    · exact hz
  have hi : k / e.size < xs.length := Nat.div_lt_of_lt_mul (by rw [Nat.mul_comm]; exact hk')
  obtain ⟨cs, h1, h2⟩ := h.2 _ _ (List.getElem?_eq_getElem hi)
  have hj : k % e.size < cs.length := by rw [h1.length]; exact Nat.mod_lt _ hs
  have := h2 _ _ (List.getElem?_eq_getElem hj)
  rw [Nat.mul_comm, Nat.div_add_mod, List.getElem?_eq_getElem hk] at this
  injection this with this
  rw [this]
  exact h1.cells _ (List.getElem_mem hj)

/-- a slice of its own block is put -/
theorem Sim.fresh (h : Sim w0 lim0 rb n st a w lim β) (hrb : ∀ k, some k = rb → k < w0.heap.size) (hd : ∀ d, o.dst = some d → d < n) {e : Ty} {xs : List e.val} {L rest : List Value} {arr : Array Value} {el : TypeId} {fr : Nat × Nat} {cc : Nat} {takes : List Loc}
    (hs : w.heap.size ≤ w'.heap.size) (hk : ∀ k, k < w.heap.size → w'.heap[k]? = w.heap[k]?) (h1 : w'.os = w.os) (h2 : w'.tape = w.tape) (h3 : w'.output = w.output)
    (hb : w'.heap[w.heap.size]? = some (.cells arr el fr)) (hfr : ∀ k, k < arr.size → ¬ (fr.1 ≤ k ∧ k < fr.2)) (hr : RRep w lim e xs L) (ha : arr.toList = L ++ rest) (hle : xs.length ≤ cc) (hcc : cc * e.size ≤ arr.size) :
    Sim w0 lim0 rb n (apply st { upd0 o.dst (.dat (.slice e) xs) none with own := [[]], takes := takes }) (a.put o.dst (.slice (some ⟨w.heap.size, 0, none⟩) xs.length cc)) w' (limSet lim w.heap.size (some (xs.length * e.size))) β := by
  have hl : ∀ k, k < w.heap.size → limSet lim w.heap.size (some (xs.length * e.size)) k = lim k := fun k hk => by simp [limSet, show k ≠ w.heap.size by omega]
  have hext : Ext w lim w' (limSet lim w.heap.size (some (xs.length * e.size))) := ext_keep hs hk hl
  have hrep : SRep w' (limSet lim w.heap.size (some (xs.length * e.size))) (CRep w' (limSet lim w.heap.size (some (xs.length * e.size))) e) e.size xs (some ⟨w.heap.size, 0, none⟩) :=
    SRep_block hb ha (hr.mono hext) (fun m hm => by simp [limSet] at hm; omega)
  refine h.grown { upd0 o.dst (.dat (.slice e) xs) none with own := [[]], takes := takes } _ w' _ hd rfl hext (grow_keep h.grow h1 h2 h3 hs (fun k hk' _ => hk k (Nat.lt_of_lt_of_le hk' h.grow.size))) (fun k hk' _ _ => ⟨hk k hk', hl k hk'⟩)
    (fun k hk' => ⟨hrb k hk', hl k (Nat.lt_of_lt_of_le (hrb k hk') h.grow.size)⟩) ⟨[_], ⟨some ⟨w.heap.size, 0, none⟩, cc, rfl, hle, hrep⟩, rfl⟩ (fun p hp => ?_) (fun p hp q hq x y g _ _ _ _ => ?_) rfl
    (.inl ⟨rfl, fun b hb' => hk b (Nat.lt_of_lt_of_le (hrb b hb'.symm) h.grow.size)⟩)
  · have hp : p = [] := by simpa using hp
    subst hp
    refine ⟨e, .slice (some ⟨w.heap.size, 0, none⟩) xs.length cc, rfl, rfl, .inr ⟨w.heap.size, xs.length, cc, arr, el, fr, rfl, h.grow.size, hb, hfr, hle, hcc, by simp [limSet]⟩, fun g hg => ?_⟩
    injection hg with hg; left; rw [← hg]; exact Nat.le_refl _
  · have hp : p = [] := by simpa using hp
    have hq : q = [] := by simpa using hq
    rw [hp, hq]

theorem run_fillS (h : Sim w0 lim0 rb n st a w lim β) {e : Ty} : ∀ (parts : List (Nat × Operand)) (z v : List e.val) (cells : Array Value), RRep w lim e z cells.toList → partsBelow z.length parts = true → fillS st e z parts = some v →
    ∃ cells', Instr.fill (fun i => some (i * e.size, e.size)) cells (parts.map fun p => (p.1, a.eval p.2)) = some cells' ∧ RRep w lim e v cells'.toList ∧ v.length = z.length := by
  intro parts
  induction parts with
  | nil =>
    intro z v cells hc _ hf
    simp only [fillS] at hf; injection hf with hf; subst hf
    exact ⟨cells, rfl, hc, rfl⟩
  | cons px parts ih =>
    intro z v cells hc hb hf
    obtain ⟨i, x⟩ := px
    simp only [fillS] at hf
    cases hv : AV.as e (st.ent x).av with
    | none => rw [hv] at hf; cases hf
    | some y =>
      rw [hv] at hf; simp only [] at hf
      have hb' : i < z.length ∧ partsBelow z.length parts = true := by
        simp only [partsBelow] at hb
        cases hq : Nat.blt i z.length with
        | true => rw [hq] at hb; exact ⟨by simpa [Nat.blt_eq] using hq, hb⟩
        | false => rw [hq] at hb; cases hb
      have hr := (as_rep hv (h.ent x)).cells
      have hm : (i + 1) * e.size ≤ z.length * e.size := Nat.mul_le_mul_right _ hb'.1
      rw [Nat.succ_mul] at hm
      have hlen := hc.1
      obtain ⟨c1, c2, c3, k1, k2, k3⟩ : ∃ c1 c2 c3, cells.toList = c1 ++ (c2 ++ c3) ∧ c1.length = i * e.size ∧ c2.length = e.size := by
        refine ⟨cells.toList.take (i * e.size), (cells.toList.drop (i * e.size)).take e.size, (cells.toList.drop (i * e.size)).drop e.size, ?_, ?_, ?_⟩
        · rw [List.take_append_drop, List.take_append_drop]
        · rw [List.length_take]; omega
        · rw [List.length_take, List.length_drop]; omega
      rw [k1] at hc
      have hset := hc.set (v := y) k2 k3 hr
      obtain ⟨cells', m1, m2, m3⟩ := ih (z.set i y) v (c1 ++ ((a.eval x).cells.toList ++ c3)).toArray (by simpa using hset) (by simpa using hb'.2) hf
      refine ⟨cells', ?_, m2, by simpa using m3⟩
      simp only [List.map_cons]
      rw [fill_step rfl (by have := hr.length; simpa using this) k1 k2 k3]; exact m1

theorem ok_buildSlice (hT : TabOk P tab) (h : Sim w0 lim0 rb n st a w lim β) (hrb : ∀ k, some k = rb → k < w0.heap.size) (hd : ∀ d, o.dst = some d → d < n) {t : TypeId} {len : Nat} {parts : Array (Nat × Operand)} (hop : o.op = .buildSlice t len parts)
    (hc : stBuildSlice tab o t len parts.toList st = some c) (ho : c.out st = some st') : OpOk P w0 lim0 rb n o st' a w := by
  unfold stBuildSlice at hc
  cases hty : tab t with
  | none => rw [hty] at hc; cases hc
  | some ty =>
    cases ty with
    | slice e =>
      rw [hty] at hc; simp only [] at hc
      split at hc
      · rename_i v hlen hbl hfl
        injection hc with hc; subst hc
        obtain ⟨_, rfl⟩ := out_ret ho
        obtain ⟨el, h1, h2⟩ := elemTy hT hty
        obtain ⟨cells', m1, m2, m3⟩ := run_fillS h parts.toList (List.replicate len e.zero) v _ (RRep.made e len) (by simpa using hbl) hfl
        have hl : len * e.size ≤ 65536 := Nat.le_of_ble_eq_true hlen
        have hzc : (wrapV e (zeroCells e)).cells = (zeroCells e).toArray := wrapV_cells (zero_rep w lim e)
        have hbound : ¬ (len * e.size > 2 ^ 24) := by omega
        have hvl : v.length = len := by simpa using m3
        have he : (execOp a.eval o).run P w = .ok (.value (.slice (some ⟨w.heap.size, 0, none⟩) v.length len)) (w.alloc (.cells cells' el)) := by
          have hmade : ∀ z : Array Value, (len * e.size = 0 ∨ z = (zeroCells e).toArray) → (Array.range (len * e.size)).map (z[· % z.size]!) = (Array.range (len * e.size)).map ((zeroCells e).toArray[· % (zeroCells e).toArray.size]!) := by
            intro z hz
            rcases hz with hz | rfl
            · rw [hz]; simp
            · rfl
          have hfill : ∀ z : Array Value, (len * e.size = 0 ∨ z = (zeroCells e).toArray) → Instr.fill (fun i => some (i * e.size, e.size)) ((Array.range (len * e.size)).map (z[· % z.size]!)) (parts.toList.map fun p => (p.1, a.eval p.2)) = some cells' := by
            intro z hz
            rw [hmade z hz]; exact m1
          rw [hvl]
          by_cases hz : len * e.size = 0
          · have := hfill #[] (.inl hz)
            simp only [execOp, hop, Instr.buildSlice, Sem.run_bind, underlying, run_program, h1, Result.andThen_ok, Sem.run_pure, run_sizeOf h2, hbound, if_false, Array.toList_map]
            simp [hz, newRow] at this ⊢
            simp [this]
          · have := hfill (zeroCells e).toArray (.inr rfl)
            simp only [execOp, hop, Instr.buildSlice, Sem.run_bind, underlying, run_program, h1, Result.andThen_ok, Sem.run_pure, run_sizeOf h2, hbound, if_false, Array.toList_map, hz, run_zeroValue h2, hzc, this]
            simp [newRow]
        refine .value he (h.fresh hrb hd (by simp) (fun k hk => alloc_old _ hk) rfl rfl rfl (alloc_new _) (fun k _ hk => by simp at hk) m2 (rest := []) (by simp) (by omega) ?_)
        have := m2.1
        simp at this
        rw [this, hvl]; exact Nat.le_refl _
      · cases hc
    | _ => rw [hty] at hc; cases hc
theorem RRep.ints (k : IntKind) (xs : List Int) : RRep w lim (.int k) xs (xs.map (Value.int k)) := by
  refine ⟨?_, fun i (x : Int) hx => ⟨[.int k x], rfl, fun j v hj => ?_⟩⟩
  · show (xs.map (Value.int k)).length = xs.length * 1
    simp
  · show (xs.map (Value.int k))[i * 1 + j]? = some v
    have hx : xs[i]? = some x := hx
    cases j with
    | zero => simp at hj; subst hj; simp [hx]
    | succ j => simp at hj

theorem ok_conv (hT : TabOk P tab) (h : Sim w0 lim0 rb n st a w lim β) (hd : ∀ d, o.dst = some d → d < n) {s t : TypeId} {x : Operand} (hop : o.op = .convert s t x) (hc : stConv tab o s t x st = some c) (ho : c.out st = some st')
    (hrb : ∀ k, some k = rb → k < w0.heap.size) : OpOk P w0 lim0 rb n o st' a w := by
  unfold stConv at hc
  split at hc
  · rename_i k0 k k1 m hs ht hx
    change Int at m
    injection hc with hc; subst hc
    obtain ⟨_, rfl⟩ := out_ret ho
    have h1 : P.underlying s = some (.int k0) := (hT _ _ hs).desc
    have h2 : P.underlying t = some (.int k) := (hT _ _ ht).desc
    have h3 := eval_int h hx
    refine .value (v := .int k (wrapI k m)) ?_ (h.plain _ _ _ hd mk_int)
    simp [execOp, hop, convert, underlying, h1, h2, h3, Conv.intToInt, wrapI]
  · rename_i xs hs ht hx
    change List Int at xs
    injection hc with hc; subst hc
    obtain ⟨_, rfl⟩ := out_ret ho
    obtain ⟨el, h1, h1'⟩ := elemTy hT hs
    have h1' : P.underlying el = some (.int .u8) := h1'.desc
    have h2 : P.underlying t = some .string := (hT _ _ ht).desc
    obtain ⟨b, cc, hv, hle, hsr⟩ := slice_rep (hx ▸ h.ent x)
    refine .value (v := .string ⟨⟨byteList xs⟩⟩) ?_ (h.plain _ _ _ hd mk_str)
    have hrun : (convert s t (.slice b xs.length cc)).run P w = .ok (.string ⟨⟨byteList xs⟩⟩) w := by
      rcases hsr with hsr | ⟨bb, oo, rfl, hb, hu, hcell⟩
      · subst hsr
        cases b with
        | none => rw [run_convert_bytes_nil w s el h1 h1' _ _ t h2]; rfl
        | some b => simp [convert, underlying, h1, h2, h1', Conv.bytesToString, loadCells]; rfl
      · rw [run_convert_bytes_arg w s el h1 h1' bb oo xs.length cc xs rfl ?_ t h2, strOf_bytes]
        intro i hi
        obtain ⟨cs, hcs, hj⟩ := hcell i _ (List.getElem?_eq_getElem hi)
        have hcs : cs = [.int .u8 xs[i]] := hcs
        subst hcs
        have := hj 0 _ rfl
        simpa [Ty.size, hi] using this
    have hv' : a.eval x = .slice b xs.length cc := hv
    simp [execOp, hop, hv', hrun]
  · rename_i ss hs ht hx
    change List UInt8 at ss
    injection hc with hc; subst hc
    obtain ⟨hb, rfl⟩ := out_ret ho
    obtain ⟨el, h1, h1'⟩ := elemTy hT ht
    have h1' : P.underlying el = some (.int .u8) := h1'.desc
    have h2 : P.underlying s = some .string := (hT _ _ hs).desc
    have h3 := eval_str h hx
    have hge := grownCap_ge w ss.length 0 el
    have hcell : (Lib.bytesCells w el ⟨⟨ss⟩⟩).toList = (intList ss).map (Value.int .u8) ++ (Array.replicate (grownCap w ss.length 0 el - ss.length) (Value.int .u8 0)).toList := by
      simp [Lib.bytesCells, intList]
      rfl
    have hrr : RRep w lim (.int .u8) (intList ss) ((intList ss).map (Value.int .u8)) := RRep.ints .u8 _
    have hlen : (intList ss).length = ss.length := by simp [intList]
    have he : (execOp a.eval o).run P w = .ok (.value (.slice (some ⟨w.heap.size, 0, none⟩) (intList ss).length (grownCap w ss.length 0 el))) (Lib.bytesWorld w el ⟨⟨ss⟩⟩) := by
      have := Lib.run_convert_string_bytes (P := P) w s t el ⟨⟨ss⟩⟩ h2 h1 h1'
      simp only [execOp, hop, Sem.run_bind, h3, this, Result.andThen_ok, Sem.run_pure, hlen]
      rfl
    refine .value he (h.fresh hrb hd (by rw [Lib.bytesWorld_size]; omega) (fun k hk => Lib.bytesWorld_at_old w el _ k hk) rfl rfl rfl (Lib.bytesWorld_at_new w el _) (fun k hk => by simp only; omega) hrr hcell (show (intList ss).length ≤ _ from hlen ▸ hge) ?_)
    simp [Lib.bytesCells, Ty.size]
    rw [show (ByteArray.mk ⟨ss⟩).size = ss.length from rfl]; omega
  · rename_i ss hs ht hx
    change List UInt8 at ss
    injection hc with hc; subst hc
    obtain ⟨_, rfl⟩ := out_ret ho
    have h1 : P.underlying s = some .string := (hT _ _ hs).desc
    have h2 : P.underlying t = some .string := (hT _ _ ht).desc
    have h3 := eval_str h hx
    refine .value (v := .string ⟨⟨ss⟩⟩) ?_ (h.plain _ _ _ hd mk_str)
    simp [execOp, hop, convert, underlying, h1, h2, h3]
  · cases hc


theorem ok_makeSlice (hT : TabOk P tab) (h : Sim w0 lim0 rb n st a w lim β) (hrb : ∀ k, some k = rb → k < w0.heap.size) (hd : ∀ d, o.dst = some d → d < n) {t : TypeId} {x y : Operand} (hop : o.op = .makeSlice t x y)
    (hc : stMakeSlice tab o t x y st = some c) (ho : c.out st = some st') : OpOk P w0 lim0 rb n o st' a w := by
  unfold stMakeSlice at hc
  split at hc
  · rename_i e k l k' m hty hx hy
    change Int at l
    change Int at m
    injection hc with hc; subst hc
    obtain ⟨hchk, rfl⟩ := out_ret ho
    have q1 := andB_iff.1 hchk
    have q2 := andB_iff.1 q1.2
    have g0 : 0 ≤ l := le0_iff.1 q1.1
    have g1 : l ≤ m := leI_iff.1 q2.1
    have g2 : m < big := ltI_iff.1 q2.2
    unfold big at g2
    obtain ⟨el, h1, h2⟩ := elemTy hT hty
    obtain ⟨i, hi1, hi2, hi3, hi4⟩ := h2.info
    have hzc : (wrapV e (zeroCells e)).cells = (zeroCells e).toArray := wrapV_cells (zero_rep w lim e)
    have hb : (i.bytes : Int) * m ≤ 281474976710656 := by
      have e1 : (i.bytes : Int) * m ≤ 4096 * m := Int.mul_le_mul_of_nonneg_right (by omega) (by omega)
      omega
    have hrun := run_make (P := P) w t el i (wrapV e (zeroCells e)) h1 hi1 hi3 k k' l m g0 g1 hb (by omega)
    have hlen : (repL l e.zero).length = l.toNat := by simp [repL]
    have he : (execOp a.eval o).run P w = .ok (.value (.slice (some ⟨w.heap.size, 0, none⟩) (repL l e.zero).length m.toNat)) (w.alloc (.cells (madeCells (zeroCells e).toArray (m.toNat * e.size)) el)) := by
      simp only [execOp, hop, Sem.run_bind, eval_int h hx, eval_int h hy, hrun, Result.andThen_ok, Sem.run_pure, hi2, hzc, hlen]
    have hm := (RRep.made (w := w) (lim := lim) e m.toNat)
    have hmc : (madeCells (zeroCells e).toArray (m.toNat * e.size)).toList = ((madeCells (zeroCells e).toArray (m.toNat * e.size)).toList.take (l.toNat * e.size)) ++ ((madeCells (zeroCells e).toArray (m.toNat * e.size)).toList.drop (l.toNat * e.size)) := (List.take_append_drop _ _).symm
    have hle : l.toNat * e.size ≤ m.toNat * e.size := Nat.mul_le_mul_right _ (by omega)
    have hpre : RRep w lim e (repL l e.zero) ((madeCells (zeroCells e).toArray (m.toNat * e.size)).toList.take (l.toNat * e.size)) := by
      refine ⟨by rw [hlen, List.length_take, Array.length_toList, size_madeCells]; omega, fun j z hj => ?_⟩
      have hjl : j < l.toNat := by have := (List.getElem?_eq_some_iff.1 hj).1; omega
      have hz : z = e.zero := by
        simp only [repL, List.getElem?_replicate, hjl, if_true] at hj
        injection hj with hj; exact hj.symm
      subst hz
      obtain ⟨cs, k1, k2⟩ := hm.2 j e.zero (by rw [List.getElem?_replicate]; exact if_pos (by omega))
      refine ⟨cs, k1, fun q v hv => ?_⟩
      have hq := (List.getElem?_eq_some_iff.1 hv).1
      rw [k1.length] at hq
      have hmm : (j + 1) * e.size ≤ l.toNat * e.size := Nat.mul_le_mul_right _ hjl
      rw [Nat.succ_mul] at hmm
      rw [List.getElem?_take_of_lt (by omega)]
      exact k2 q v hv
    refine .value he (h.fresh hrb hd (by simp) (fun k hk => alloc_old _ hk) rfl rfl rfl (alloc_new _) (fun k _ hk => by simp at hk) hpre hmc (by rw [hlen]; omega) (by rw [size_madeCells]; exact Nat.le_refl _))
  · cases hc

theorem owner_spec (h : Sim w0 lim0 rb n st a w lim β) {x : Operand} {ol : Option Loc} {e : Ty} {xs : List e.val} (ho : st.owner x = some ol) (hx : AV.as (.slice e) (st.ent x).av = some xs) :
    (∃ l, ol = some l ∧ st.own l = true ∧ locV st a w β l = some (a.eval x) ∧ locTy st l = some (.slice e)) ∨ (ol = none ∧ a.eval x = .slice none 0 0) := by
  cases x with
  | const k =>
    simp only [St.owner] at ho; injection ho with ho; subst ho
    right
    refine ⟨rfl, ?_⟩
    rcases (as_av hx).2 k rfl with hn | hn
    · have := h.ent (.const k); rw [hn] at this; exact this
    · simp [slicePaths] at hn
  | tmp t =>
    left
    have hav : ∃ v : List e.val, (st.env t).av = .dat (.slice e) v ∨ (st.env t).av = .nil := by
      rcases (as_av hx).1 t rfl with ⟨v, hv⟩ | hv
      · exact ⟨v, .inl hv⟩
      · exact ⟨[], .inr hv⟩
    obtain ⟨v, hav⟩ := hav
    simp only [St.owner] at ho
    cases hot : st.own (.tmp t []) with
    | true =>
      rw [hot] at ho; simp only [cnd_true] at ho; injection ho with ho; subst ho
      rcases hav with hav | hav
      · refine ⟨_, rfl, hot, ?_, by rw [locTy_tmp, hav]; rfl⟩
        rw [locV_tmp, hav]
        have hev := h.env t
        rw [hav] at hev
        obtain ⟨b, cc, hv, _⟩ := slice_rep hev
        simp only [partAV, hv, flat_slice, offs]
        have : a.eval (.tmp t) = tmpOf a t := rfl
        rw [this, hv]; rfl
      · obtain ⟨e', y', k1, _⟩ := h.own _ hot
        rw [locTy_tmp, hav] at k1; cases k1
    | false =>
      rw [hot] at ho; simp only [cnd_false] at ho
      cases htg : (st.env t).tag with
      | none => rw [htg] at ho; cases ho
      | some kl =>
        obtain ⟨k, l⟩ := kl
        rw [htg] at ho
        cases k with
        | false => cases ho
        | true =>
        simp only [] at ho
        cases hol : st.own l with
        | false => rw [hol] at ho; cases ho
        | true =>
          rw [hol] at ho; simp only [cnd_true] at ho; injection ho with ho; subst ho
          obtain ⟨k1, e', x', k2, k3⟩ := h.tag t l htg hol
          refine ⟨l, rfl, hol, k1, ?_⟩
          rcases hav with hav | hav
          · rw [hav] at k2; injection k2 with k2 _; injection k2 with k2; subst k2; exact k3
          · rw [hav] at k2; cases k2
  | global g => cases ho
  | func f => cases ho

theorem run_first {e : Ty} {ys : List e.val} {news : List Value} {b : Option Addr} {cc : Nat} {w2 : World} (hr : RRep w lim e ys news) (hb : ys = [] ∨ ∃ bb oo, b = some ⟨bb, oo, none⟩ ∧ ∀ k v, news[k]? = some v → w2.cell? ⟨bb, oo + k, none⟩ = some v) :
    (Builtin.firstCells e.size ys.length (.slice b ys.length cc)).run P w2 = .ok news.toArray w2 := by
  rcases hb with hb | ⟨bb, oo, rfl, hc⟩
  · subst hb
    have : news = [] := List.eq_nil_of_length_eq_zero (by have := hr.1; simpa using this)
    subst this
    cases b <;> simp [Builtin.firstCells, loadCells, loadCellsFrom]
  · exact run_firstCells_some w2 e.size ys.length ⟨bb, oo, none⟩ ys.length cc news hr.1 (fun j v hv => by rw [addr_add]; exact hc j v hv)
end
end Go.Den
