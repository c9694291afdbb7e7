/- Slices that are made. -/
import Derived.Lib.ConvBytes
import Derived.RegionTactic
import Derived.Tactics
import Derived.Test.YtojleoiiijlhaaaXDm1
set_option linter.unusedVariables false
set_option linter.unusedSimpArgs false
namespace Go.Den
section
variable {P : Program} {tab : Tab} {w0 : Base} {lim0 : Lim} {rb : Option Nat} {n : Nat}
variable {st st' : St} {a : Act} {w w' : World} {lim lim' : Lim} {β : Mp} {o : Oper} {c : Comp}

/-- the cells of a list, one element after the other -/
def RRep (w : World) (lim : Lim) (e : Ty) (xs : List e.val) (L : List Value) : Prop :=
  L.length = xs.length * e.size ∧ ∀ i x, xs[i]? = some x → ∃ cs, CRep w lim e x cs ∧ ∀ j v, cs[j]? = some v → L[i * e.size + j]? = some v

theorem RRep.mono (he : Ext w lim w' lim') {e : Ty} {xs : List e.val} {L : List Value} (h : RRep w lim e xs L) : RRep w' lim' e xs L :=
  ⟨h.1, fun i x hx => let ⟨cs, h1, h2⟩ := h.2 i x hx; ⟨cs, h1.mono he, h2⟩⟩
theorem RRep.nil (e : Ty) : RRep w lim e [] [] := ⟨by simp, fun i x hx => by simp at hx⟩
theorem RRep.append {e : Ty} {xs ys : List e.val} {L M : List Value} (h : RRep w lim e xs L) (k : RRep w lim e ys M) : RRep w lim e (xs ++ ys) (L ++ M) := by
  refine ⟨by simp [h.1, k.1, Nat.add_mul], fun i x hx => ?_⟩
  by_cases hi : i < xs.length
  · rw [List.getElem?_append_left hi] at hx
    obtain ⟨cs, h1, h2⟩ := h.2 i x hx
    refine ⟨cs, h1, fun j v hv => ?_⟩
    have := h2 j v hv
    rw [List.getElem?_append_left (List.getElem?_eq_some_iff.1 this).1]; exact this
  · rw [List.getElem?_append_right (by omega)] at hx
    obtain ⟨cs, h1, h2⟩ := k.2 _ x hx
    refine ⟨cs, h1, fun j v hv => ?_⟩
    have := h2 j v hv
    have hm : xs.length * e.size + (i - xs.length) * e.size = i * e.size := by rw [← Nat.add_mul]; congr 1; omega
    rw [List.getElem?_append_right (by rw [h.1]; omega), h.1, show i * e.size + j - xs.length * e.size = (i - xs.length) * e.size + j by omega]; exact this
theorem RRep.set {e : Ty} {xs : List e.val} {c1 c2 c3 cs : List Value} {i : Nat} {v : e.val} (h : RRep w lim e xs (c1 ++ (c2 ++ c3))) (hl : c1.length = i * e.size) (hl2 : c2.length = e.size) (hv : CRep w lim e v cs) :
    RRep w lim e (xs.set i v) (c1 ++ (cs ++ c3)) := by
  have hcs := hv.length
  refine ⟨by have := h.1; simp at this ⊢; omega, fun k x hx => ?_⟩
  by_cases hk : k = i
  · subst hk
    rw [List.getElem?_set] at hx
    simp only [if_true] at hx
    split at hx
    · injection hx with hx; subst hx
      refine ⟨cs, hv, fun j u hu => ?_⟩
      have hlt := (List.getElem?_eq_some_iff.1 hu).1
      rw [List.getElem?_append_right (by omega), hl, show k * e.size + j - k * e.size = j by omega, List.getElem?_append_left hlt]; exact hu
    · cases hx
  · rw [List.getElem?_set_ne (by omega)] at hx
    obtain ⟨ds, h1, h2⟩ := h.2 k x hx
    refine ⟨ds, h1, fun j u hu => ?_⟩
    have := h2 j u hu
    have hj := (List.getElem?_eq_some_iff.1 hu).1
    rw [h1.length] at hj
    rcases Nat.lt_or_gt_of_ne hk with hk | hk
    · have hm : (k + 1) * e.size ≤ i * e.size := Nat.mul_le_mul_right _ hk
      rw [Nat.succ_mul] at hm
      rw [List.getElem?_append_left (by omega)] at this ⊢; exact this
    · have hm : (i + 1) * e.size ≤ k * e.size := Nat.mul_le_mul_right _ hk
      rw [Nat.succ_mul] at hm
      rw [List.getElem?_append_right (by omega), List.getElem?_append_right (by omega)] at this
      rw [List.getElem?_append_right (by omega), List.getElem?_append_right (by omega), show k * e.size + j - c1.length - cs.length = k * e.size + j - c1.length - c2.length by omega]; exact this

theorem made_at (w : World) (e : Ty) (k : Nat) {i : Nat} (hi : i < k) {j : Nat} {v : Value} (hv : (zeroCells e)[j]? = some v) : ((Array.range (k * e.size)).map ((zeroCells e).toArray[· % (zeroCells e).toArray.size]!)).toList[i * e.size + j]? = some v := by
  have hz := (zero_rep w (fun _ => none) e).length
  have hj := (List.getElem?_eq_some_iff.1 hv).1
  have hb : i * e.size + j < k * e.size := by
    have hm : (i + 1) * e.size ≤ k * e.size := Nat.mul_le_mul_right _ hi
    rw [Nat.succ_mul] at hm
    omega
  have hmod : (i * e.size + j) % e.size = j := by
    rw [Nat.mul_comm, Nat.mul_add_mod]; exact Nat.mod_eq_of_lt (by omega)
  have hv' := (List.getElem?_eq_some_iff.1 hv).2
  simp only [Array.toList_map, List.getElem?_map, Array.toList_range, List.getElem?_range hb, Option.map_some]
  simp only [List.size_toArray, hz, hmod]
  congr 1
  simp [hj, hv']
theorem RRep.made (e : Ty) (k : Nat) : RRep w lim e (List.replicate k e.zero) ((Array.range (k * e.size)).map ((zeroCells e).toArray[· % (zeroCells e).toArray.size]!)).toList := by
  have hz := (zero_rep w lim e).length
  refine ⟨by simp, fun i x hx => ?_⟩
  rw [List.getElem?_replicate] at hx
  split at hx
  · rename_i hi
    injection hx with hx; subst hx
    exact ⟨zeroCells e, zero_rep w lim e, fun j v hv => made_at w e k hi hv⟩
  · cases hx

theorem SRep_block {e : Ty} {xs : List e.val} {L : List Value} {arr : Array Value} {el : TypeId} {fr : Nat × Nat} {b : Nat} {rest : List Value} (hb : w.heap[b]? = some (.cells arr el fr)) (ha : arr.toList = L ++ rest) (hr : RRep w lim e xs L) (hu : under lim b (xs.length * e.size)) :
    SRep w lim (CRep w lim e) e.size xs (some ⟨b, 0, none⟩) := by
  refine .inr ⟨b, 0, rfl, (Array.getElem?_eq_some_iff.1 hb).1, by simpa using hu, fun i x hx => ?_⟩
  obtain ⟨cs, h1, h2⟩ := hr.2 i x hx
  refine ⟨cs, h1, fun j v hv => ?_⟩
  have := h2 j v hv
  simp only [World.cell?, hb]
  simp only [Option.isSome_none, Bool.false_eq_true, if_false, Nat.zero_add]
  have e1 : arr[i * e.size + j]? = arr.toList[i * e.size + j]? := by simp
  rw [e1, ha, List.getElem?_append_left (List.getElem?_eq_some_iff.1 this).1]; exact this

/-- the cells of a list that lies in memory -/
theorem SRep_cells {e : Ty} : ∀ {xs : List e.val} {b oo : Nat}, (∀ i x, xs[i]? = some x → ∃ cs, CRep w lim e x cs ∧ ∀ j v, cs[j]? = some v → w.cell? ⟨b, oo + i * e.size + j, none⟩ = some v) →
    ∃ L, RRep w lim e xs L ∧ ∀ k v, L[k]? = some v → w.cell? ⟨b, oo + k, none⟩ = some v := by
  intro xs
  induction xs with
  | nil => intro b oo _; exact ⟨[], RRep.nil e, fun k v hk => by simp at hk⟩
  | cons x xs ih =>
    intro b oo hc
    obtain ⟨cs, k1, k2⟩ := hc 0 x rfl
    obtain ⟨L, h1, h2⟩ := ih (b := b) (oo := oo + e.size) (fun i y hy => by
      obtain ⟨ds, g1, g2⟩ := hc (i + 1) y (by simpa using hy)
      refine ⟨ds, g1, fun j v hv => ?_⟩
      have := g2 j v hv
      rw [Nat.succ_mul] at this
      rw [show oo + e.size + i * e.size + j = oo + (i * e.size + e.size) + j by omega]; exact this)
    have hone : RRep w lim e [x] cs := ⟨by simp [k1.length], fun i y hy => by
      cases i with
      | zero => simp at hy; subst hy; exact ⟨cs, k1, fun j v hv => by simpa using hv⟩
      | succ i => simp at hy⟩
    refine ⟨cs ++ L, hone.append h1, fun k v hk => ?_⟩
    by_cases hlt : k < cs.length
    · rw [List.getElem?_append_left hlt] at hk
      have := k2 k v hk
      simpa using this
    · rw [List.getElem?_append_right (by omega)] at hk
      have := h2 _ v hk
      rw [k1.length] at this hlt
      rw [show oo + k = oo + e.size + (k - e.size) by omega]; exact this
theorem RRep.notAgg {e : Ty} {xs : List e.val} {L : List Value} (h : RRep w lim e xs L) : ∀ v ∈ L, notAgg v := by
  intro v hv
  obtain ⟨k, hk, rfl⟩ := List.getElem_of_mem hv
  have hk' := hk
  rw [h.1] at hk'
  have hs : 0 < e.size := by
    rcases Nat.eq_zero_or_pos e.size with hz | hz
    · rw [hz] at hk'; simp at hk'
    · exact hz
  have hi : k / e.size < xs.length := Nat.div_lt_of_lt_mul (by rw [Nat.mul_comm]; exact hk')
  obtain ⟨cs, h1, h2⟩ := h.2 _ _ (List.getElem?_eq_getElem hi)
  have hj : k % e.size < cs.length := by rw [h1.length]; exact Nat.mod_lt _ hs
  have := h2 _ _ (List.getElem?_eq_getElem hj)
  rw [Nat.mul_comm, Nat.div_add_mod, List.getElem?_eq_getElem hk] at this
  injection this with this
  rw [this]
  exact h1.cells _ (List.getElem_mem hj)

/-- a slice of its own block is put -/
theorem Sim.fresh (h : Sim w0 lim0 rb n st a w lim β) (hrb : ∀ k, some k = rb → k < w0.heap.size) (hd : ∀ d, o.dst = some d → d < n) {e : Ty} {xs : List e.val} {L rest : List Value} {arr : Array Value} {el : TypeId} {fr : Nat × Nat} {cc : Nat} {takes : List Loc}
    (hs : w.heap.size ≤ w'.heap.size) (hk : ∀ k, k < w.heap.size → w'.heap[k]? = w.heap[k]?) (h1 : w'.os = w.os) (h2 : w'.tape = w.tape) (h3 : w'.output = w.output)
    (hb : w'.heap[w.heap.size]? = some (.cells arr el fr)) (hfr : ∀ k, k < arr.size → ¬ (fr.1 ≤ k ∧ k < fr.2)) (hr : RRep w lim e xs L) (ha : arr.toList = L ++ rest) (hle : xs.length ≤ cc) (hcc : cc * e.size ≤ arr.size) :
    Sim w0 lim0 rb n (apply st { upd0 o.dst (.dat (.slice e) xs) none with own := [[]], takes := takes }) (a.put o.dst (.slice (some ⟨w.heap.size, 0, none⟩) xs.length cc)) w' (limSet lim w.heap.size (some (xs.length * e.size))) β := by
  have hl : ∀ k, k < w.heap.size → limSet lim w.heap.size (some (xs.length * e.size)) k = lim k := fun k hk => by simp [limSet, show k ≠ w.heap.size by omega]
  have hext : Ext w lim w' (limSet lim w.heap.size (some (xs.length * e.size))) := ext_keep hs hk hl
  have hrep : SRep w' (limSet lim w.heap.size (some (xs.length * e.size))) (CRep w' (limSet lim w.heap.size (some (xs.length * e.size))) e) e.size xs (some ⟨w.heap.size, 0, none⟩) :=
    SRep_block hb ha (hr.mono hext) (fun m hm => by simp [limSet] at hm; omega)
  refine h.grown { upd0 o.dst (.dat (.slice e) xs) none with own := [[]], takes := takes } _ w' _ hd rfl hext (grow_keep h.grow h1 h2 h3 hs (fun k hk' _ => hk k (Nat.lt_of_lt_of_le hk' h.grow.size))) (fun k hk' _ _ => ⟨hk k hk', hl k hk'⟩)
    (fun k hk' => ⟨hrb k hk', hl k (Nat.lt_of_lt_of_le (hrb k hk') h.grow.size)⟩) ⟨[_], ⟨some ⟨w.heap.size, 0, none⟩, cc, rfl, hle, hrep⟩, rfl⟩ (fun p hp => ?_) (fun p hp q hq x y g _ _ _ _ => ?_) rfl
    (.inl ⟨rfl, fun b hb' => hk b (Nat.lt_of_lt_of_le (hrb b hb'.symm) h.grow.size)⟩)
  · have hp : p = [] := by simpa using hp
    subst hp
    refine ⟨e, .slice (some ⟨w.heap.size, 0, none⟩) xs.length cc, rfl, rfl, .inr ⟨w.heap.size, xs.length, cc, arr, el, fr, rfl, h.grow.size, hb, hfr, hle, hcc, by simp [limSet]⟩, fun g hg => ?_⟩
    injection hg with hg; left; rw [← hg]; exact Nat.le_refl _
  · have hp : p = [] := by simpa using hp
    have hq : q = [] := by simpa using hq
    rw [hp, hq]

theorem run_fillS (h : Sim w0 lim0 rb n st a w lim β) {e : Ty} : ∀ (parts : List (Nat × Operand)) (z v : List e.val) (cells : Array Value), RRep w lim e z cells.toList → partsBelow z.length parts = true → fillS st e z parts = some v →
    ∃ cells', Instr.fill (fun i => some (i * e.size, e.size)) cells (parts.map fun p => (p.1, a.eval p.2)) = some cells' ∧ RRep w lim e v cells'.toList ∧ v.length = z.length := by
  intro parts
  induction parts with
  | nil =>
    intro z v cells hc _ hf
    simp only [fillS] at hf; injection hf with hf; subst hf
    exact ⟨cells, rfl, hc, rfl⟩
  | cons px parts ih =>
    intro z v cells hc hb hf
    obtain ⟨i, x⟩ := px
    simp only [fillS] at hf
    cases hv : AV.as e (st.ent x).av with
    | none => rw [hv] at hf; cases hf
    | some y =>
      rw [hv] at hf; simp only [] at hf
      have hb' : i < z.length ∧ partsBelow z.length parts = true := by
        simp only [partsBelow] at hb
        cases hq : Nat.blt i z.length with
        | true => rw [hq] at hb; exact ⟨by simpa [Nat.blt_eq] using hq, hb⟩
        | false => rw [hq] at hb; cases hb
      have hr := (as_rep hv (h.ent x)).cells
      have hm : (i + 1) * e.size ≤ z.length * e.size := Nat.mul_le_mul_right _ hb'.1
      rw [Nat.succ_mul] at hm
      have hlen := hc.1
      obtain ⟨c1, c2, c3, k1, k2, k3⟩ : ∃ c1 c2 c3, cells.toList = c1 ++ (c2 ++ c3) ∧ c1.length = i * e.size ∧ c2.length = e.size := by
        refine ⟨cells.toList.take (i * e.size), (cells.toList.drop (i * e.size)).take e.size, (cells.toList.drop (i * e.size)).drop e.size, ?_, ?_, ?_⟩
        · rw [List.take_append_drop, List.take_append_drop]
        · rw [List.length_take]; omega
        · rw [List.length_take, List.length_drop]; omega
      rw [k1] at hc
      have hset := hc.set (v := y) k2 k3 hr
      obtain ⟨cells', m1, m2, m3⟩ := ih (z.set i y) v (c1 ++ ((a.eval x).cells.toList ++ c3)).toArray (by simpa using hset) (by simpa using hb'.2) hf
      refine ⟨cells', ?_, m2, by simpa using m3⟩
      simp only [List.map_cons]
      rw [fill_step rfl (by have := hr.length; simpa using this) k1 k2 k3]; exact m1

theorem ok_buildSlice (hT : TabOk P tab) (h : Sim w0 lim0 rb n st a w lim β) (hrb : ∀ k, some k = rb → k < w0.heap.size) (hd : ∀ d, o.dst = some d → d < n) {t : TypeId} {len : Nat} {parts : Array (Nat × Operand)} (hop : o.op = .buildSlice t len parts)
    (hc : stBuildSlice tab o t len parts.toList st = some c) (ho : c.out st = some st') : OpOk P w0 lim0 rb n o st' a w := by
  unfold stBuildSlice at hc
  cases hty : tab t with
  | none => rw [hty] at hc; cases hc
  | some ty =>
    cases ty with
    | slice e =>
      rw [hty] at hc; simp only [] at hc
      split at hc
      · rename_i v hlen hbl hfl
        injection hc with hc; subst hc
        obtain ⟨_, rfl⟩ := out_ret ho
        obtain ⟨el, h1, h2⟩ := elemTy hT hty
        obtain ⟨cells', m1, m2, m3⟩ := run_fillS h parts.toList (List.replicate len e.zero) v _ (RRep.made e len) (by simpa using hbl) hfl
        have hl : len * e.size ≤ 65536 := Nat.le_of_ble_eq_true hlen
        have hzc : (wrapV e (zeroCells e)).cells = (zeroCells e).toArray := wrapV_cells (zero_rep w lim e)
        have hbound : ¬ (len * e.size > 2 ^ 24) := by omega
        have hvl : v.length = len := by simpa using m3
        have he : (execOp a.eval o).run P w = .ok (.value (.slice (some ⟨w.heap.size, 0, none⟩) v.length len)) (w.alloc (.cells cells' el)) := by
          have hmade : ∀ z : Array Value, (len * e.size = 0 ∨ z = (zeroCells e).toArray) → (Array.range (len * e.size)).map (z[· % z.size]!) = (Array.range (len * e.size)).map ((zeroCells e).toArray[· % (zeroCells e).toArray.size]!) := by
            intro z hz
            rcases hz with hz | rfl
            · rw [hz]; simp
            · rfl
          have hfill : ∀ z : Array Value, (len * e.size = 0 ∨ z = (zeroCells e).toArray) → Instr.fill (fun i => some (i * e.size, e.size)) ((Array.range (len * e.size)).map (z[· % z.size]!)) (parts.toList.map fun p => (p.1, a.eval p.2)) = some cells' := by
            intro z hz
            rw [hmade z hz]; exact m1
          rw [hvl]
          by_cases hz : len * e.size = 0
          · have := hfill #[] (.inl hz)
            simp only [execOp, hop, Instr.buildSlice, Sem.run_bind, underlying, run_program, h1, Result.andThen_ok, Sem.run_pure, run_sizeOf h2, hbound, if_false, Array.toList_map]
            simp [hz, newRow] at this ⊢
            simp [this]
          · have := hfill (zeroCells e).toArray (.inr rfl)
            simp only [execOp, hop, Instr.buildSlice, Sem.run_bind, underlying, run_program, h1, Result.andThen_ok, Sem.run_pure, run_sizeOf h2, hbound, if_false, Array.toList_map, hz, run_zeroValue h2, hzc, this]
            simp [newRow]
        refine .value he (h.fresh hrb hd (by simp) (fun k hk => alloc_old _ hk) rfl rfl rfl (alloc_new _) (fun k _ hk => by simp at hk) m2 (rest := []) (by simp) (by omega) ?_)
        have := m2.1
        simp at this
        rw [this, hvl]; exact Nat.le_refl _
      · cases hc
    | _ => rw [hty] at hc; cases hc
theorem RRep.ints (k : IntKind) (xs : List Int) : RRep w lim (.int k) xs (xs.map (Value.int k)) := by
  refine ⟨?_, fun i (x : Int) hx => ⟨[.int k x], rfl, fun j v hj => ?_⟩⟩
  · show (xs.map (Value.int k)).length = xs.length * 1
    simp
  · show (xs.map (Value.int k))[i * 1 + j]? = some v
    have hx : xs[i]? = some x := hx
    cases j with
    | zero => simp at hj; subst hj; simp [hx]
    | succ j => simp at hj

theorem ok_conv (hT : TabOk P tab) (h : Sim w0 lim0 rb n st a w lim β) (hd : ∀ d, o.dst = some d → d < n) {s t : TypeId} {x : Operand} (hop : o.op = .convert s t x) (hc : stConv tab o s t x st = some c) (ho : c.out st = some st')
    (hrb : ∀ k, some k = rb → k < w0.heap.size) : OpOk P w0 lim0 rb n o st' a w := by
  unfold stConv at hc
  split at hc
  · rename_i k0 k k1 m hs ht hx
    change Int at m
    injection hc with hc; subst hc
    obtain ⟨_, rfl⟩ := out_ret ho
    have h1 : P.underlying s = some (.int k0) := (hT _ _ hs).desc
    have h2 : P.underlying t = some (.int k) := (hT _ _ ht).desc
    have h3 := eval_int h hx
    refine .value (v := .int k (wrapI k m)) ?_ (h.plain _ _ _ hd mk_int)
    simp [execOp, hop, convert, underlying, h1, h2, h3, Conv.intToInt, wrapI]
  · rename_i xs hs ht hx
    change List Int at xs
    injection hc with hc; subst hc
    obtain ⟨_, rfl⟩ := out_ret ho
    obtain ⟨el, h1, h1'⟩ := elemTy hT hs
    have h1' : P.underlying el = some (.int .u8) := h1'.desc
    have h2 : P.underlying t = some .string := (hT _ _ ht).desc
    obtain ⟨b, cc, hv, hle, hsr⟩ := slice_rep (hx ▸ h.ent x)
    refine .value (v := .string ⟨⟨byteList xs⟩⟩) ?_ (h.plain _ _ _ hd mk_str)
    have hrun : (convert s t (.slice b xs.length cc)).run P w = .ok (.string ⟨⟨byteList xs⟩⟩) w := by
      rcases hsr with hsr | ⟨bb, oo, rfl, hb, hu, hcell⟩
      · subst hsr
        cases b with
        | none => rw [run_convert_bytes_nil w s el h1 h1' _ _ t h2]; rfl
        | some b => simp [convert, underlying, h1, h2, h1', Conv.bytesToString, loadCells]; rfl
      · rw [run_convert_bytes_arg w s el h1 h1' bb oo xs.length cc xs rfl ?_ t h2, strOf_bytes]
        intro i hi
        obtain ⟨cs, hcs, hj⟩ := hcell i _ (List.getElem?_eq_getElem hi)
        have hcs : cs = [.int .u8 xs[i]] := hcs
        subst hcs
        have := hj 0 _ rfl
        simpa [Ty.size, hi] using this
    have hv' : a.eval x = .slice b xs.length cc := hv
    simp [execOp, hop, hv', hrun]
  · rename_i ss hs ht hx
    change List UInt8 at ss
    injection hc with hc; subst hc
    obtain ⟨hb, rfl⟩ := out_ret ho
    obtain ⟨el, h1, h1'⟩ := elemTy hT ht
    have h1' : P.underlying el = some (.int .u8) := h1'.desc
    have h2 : P.underlying s = some .string := (hT _ _ hs).desc
    have h3 := eval_str h hx
    have hge := grownCap_ge w ss.length 0 el
    have hcell : (Lib.bytesCells w el ⟨⟨ss⟩⟩).toList = (intList ss).map (Value.int .u8) ++ (Array.replicate (grownCap w ss.length 0 el - ss.length) (Value.int .u8 0)).toList := by
      simp [Lib.bytesCells, intList]
      rfl
    have hrr : RRep w lim (.int .u8) (intList ss) ((intList ss).map (Value.int .u8)) := RRep.ints .u8 _
    have hlen : (intList ss).length = ss.length := by simp [intList]
    have he : (execOp a.eval o).run P w = .ok (.value (.slice (some ⟨w.heap.size, 0, none⟩) (intList ss).length (grownCap w ss.length 0 el))) (Lib.bytesWorld w el ⟨⟨ss⟩⟩) := by
      have := Lib.run_convert_string_bytes (P := P) w s t el ⟨⟨ss⟩⟩ h2 h1 h1'
      simp only [execOp, hop, Sem.run_bind, h3, this, Result.andThen_ok, Sem.run_pure, hlen]
      rfl
    refine .value he (h.fresh hrb hd (by rw [Lib.bytesWorld_size]; omega) (fun k hk => Lib.bytesWorld_at_old w el _ k hk) rfl rfl rfl (Lib.bytesWorld_at_new w el _) (fun k hk => by simp only; omega) hrr hcell (show (intList ss).length ≤ _ from hlen ▸ hge) ?_)
    simp [Lib.bytesCells, Ty.size]
    rw [show (ByteArray.mk ⟨ss⟩).size = ss.length from rfl]; omega
  · rename_i ss hs ht hx
    change List UInt8 at ss
    injection hc with hc; subst hc
    obtain ⟨_, rfl⟩ := out_ret ho
    have h1 : P.underlying s = some .string := (hT _ _ hs).desc
    have h2 : P.underlying t = some .string := (hT _ _ ht).desc
    have h3 := eval_str h hx
    refine .value (v := .string ⟨⟨ss⟩⟩) ?_ (h.plain _ _ _ hd mk_str)
    simp [execOp, hop, convert, underlying, h1, h2, h3]
  · cases hc


theorem ok_makeSlice (hT : TabOk P tab) (h : Sim w0 lim0 rb n st a w lim β) (hrb : ∀ k, some k = rb → k < w0.heap.size) (hd : ∀ d, o.dst = some d → d < n) {t : TypeId} {x y : Operand} (hop : o.op = .makeSlice t x y)
    (hc : stMakeSlice tab o t x y st = some c) (ho : c.out st = some st') : OpOk P w0 lim0 rb n o st' a w := by
  unfold stMakeSlice at hc
  split at hc
  · rename_i e k l k' m hty hx hy
    change Int at l
    change Int at m
    injection hc with hc; subst hc
    obtain ⟨hchk, rfl⟩ := out_ret ho
    have q1 := andB_iff.1 hchk
    have q2 := andB_iff.1 q1.2
    have g0 : 0 ≤ l := le0_iff.1 q1.1
    have g1 : l ≤ m := leI_iff.1 q2.1
    have g2 : m < big := ltI_iff.1 q2.2
    unfold big at g2
    obtain ⟨el, h1, h2⟩ := elemTy hT hty
    obtain ⟨i, hi1, hi2, hi3, hi4⟩ := h2.info
    have hzc : (wrapV e (zeroCells e)).cells = (zeroCells e).toArray := wrapV_cells (zero_rep w lim e)
    have hb : (i.bytes : Int) * m ≤ 281474976710656 := by
      have e1 : (i.bytes : Int) * m ≤ 4096 * m := Int.mul_le_mul_of_nonneg_right (by omega) (by omega)
      omega
    have hrun := run_make (P := P) w t el i (wrapV e (zeroCells e)) h1 hi1 hi3 k k' l m g0 g1 hb (by omega)
    have hlen : (repL l e.zero).length = l.toNat := by simp [repL]
    have he : (execOp a.eval o).run P w = .ok (.value (.slice (some ⟨w.heap.size, 0, none⟩) (repL l e.zero).length m.toNat)) (w.alloc (.cells (madeCells (zeroCells e).toArray (m.toNat * e.size)) el)) := by
      simp only [execOp, hop, Sem.run_bind, eval_int h hx, eval_int h hy, hrun, Result.andThen_ok, Sem.run_pure, hi2, hzc, hlen]
    have hm := (RRep.made (w := w) (lim := lim) e m.toNat)
    have hmc : (madeCells (zeroCells e).toArray (m.toNat * e.size)).toList = ((madeCells (zeroCells e).toArray (m.toNat * e.size)).toList.take (l.toNat * e.size)) ++ ((madeCells (zeroCells e).toArray (m.toNat * e.size)).toList.drop (l.toNat * e.size)) := (List.take_append_drop _ _).symm
    have hle : l.toNat * e.size ≤ m.toNat * e.size := Nat.mul_le_mul_right _ (by omega)
    have hpre : RRep w lim e (repL l e.zero) ((madeCells (zeroCells e).toArray (m.toNat * e.size)).toList.take (l.toNat * e.size)) := by
      refine ⟨by rw [hlen, List.length_take, Array.length_toList, size_madeCells]; omega, fun j z hj => ?_⟩
      have hjl : j < l.toNat := by have := (List.getElem?_eq_some_iff.1 hj).1; omega
      have hz : z = e.zero := by
        simp only [repL, List.getElem?_replicate, hjl, if_true] at hj
        injection hj with hj; exact hj.symm
      subst hz
      obtain ⟨cs, k1, k2⟩ := hm.2 j e.zero (by rw [List.getElem?_replicate]; exact if_pos (by omega))
      refine ⟨cs, k1, fun q v hv => ?_⟩
      have hq := (List.getElem?_eq_some_iff.1 hv).1
      rw [k1.length] at hq
      have hmm : (j + 1) * e.size ≤ l.toNat * e.size := Nat.mul_le_mul_right _ hjl
      rw [Nat.succ_mul] at hmm
      rw [List.getElem?_take_of_lt (by omega)]
      exact k2 q v hv
    refine .value he (h.fresh hrb hd (by simp) (fun k hk => alloc_old _ hk) rfl rfl rfl (alloc_new _) (fun k _ hk => by simp at hk) hpre hmc (by rw [hlen]; omega) (by rw [size_madeCells]; exact Nat.le_refl _))
  · cases hc

theorem owner_spec (h : Sim w0 lim0 rb n st a w lim β) {x : Operand} {ol : Option Loc} {e : Ty} {xs : List e.val} (ho : st.owner x = some ol) (hx : AV.as (.slice e) (st.ent x).av = some xs) :
    (∃ l, ol = some l ∧ st.own l = true ∧ locV st a w β l = some (a.eval x) ∧ locTy st l = some (.slice e)) ∨ (ol = none ∧ a.eval x = .slice none 0 0) := by
  cases x with
  | const k =>
    simp only [St.owner] at ho; injection ho with ho; subst ho
    right
    refine ⟨rfl, ?_⟩
    rcases (as_av hx).2 k rfl with hn | hn
    · have := h.ent (.const k); rw [hn] at this; exact this
    · simp [slicePaths] at hn
  | tmp t =>
    left
    have hav : ∃ v : List e.val, (st.env t).av = .dat (.slice e) v ∨ (st.env t).av = .nil := by
      rcases (as_av hx).1 t rfl with ⟨v, hv⟩ | hv
      · exact ⟨v, .inl hv⟩
      · exact ⟨[], .inr hv⟩
    obtain ⟨v, hav⟩ := hav
    simp only [St.owner] at ho
    cases hot : st.own (.tmp t []) with
    | true =>
      rw [hot] at ho; simp only [cnd_true] at ho; injection ho with ho; subst ho
      rcases hav with hav | hav
      · refine ⟨_, rfl, hot, ?_, by rw [locTy_tmp, hav]; rfl⟩
        rw [locV_tmp, hav]
        have hev := h.env t
        rw [hav] at hev
        obtain ⟨b, cc, hv, _⟩ := slice_rep hev
        simp only [partAV, hv, flat_slice, offs]
        have : a.eval (.tmp t) = tmpOf a t := rfl
        rw [this, hv]; rfl
      · obtain ⟨e', y', k1, _⟩ := h.own _ hot
        rw [locTy_tmp, hav] at k1; cases k1
    | false =>
      rw [hot] at ho; simp only [cnd_false] at ho
      cases htg : (st.env t).tag with
      | none => rw [htg] at ho; cases ho
      | some kl =>
        obtain ⟨k, l⟩ := kl
        rw [htg] at ho
        cases k with
        | false => cases ho
        | true =>
        simp only [] at ho
        cases hol : st.own l with
        | false => rw [hol] at ho; cases ho
        | true =>
          rw [hol] at ho; simp only [cnd_true] at ho; injection ho with ho; subst ho
          obtain ⟨k1, e', x', k2, k3⟩ := h.tag t l htg hol
          refine ⟨l, rfl, hol, k1, ?_⟩
          rcases hav with hav | hav
          · rw [hav] at k2; injection k2 with k2 _; injection k2 with k2; subst k2; exact k3
          · rw [hav] at k2; cases k2
  | global g => cases ho
  | func f => cases ho

theorem run_first {e : Ty} {ys : List e.val} {news : List Value} {b : Option Addr} {cc : Nat} {w2 : World} (hr : RRep w lim e ys news) (hb : ys = [] ∨ ∃ bb oo, b = some ⟨bb, oo, none⟩ ∧ ∀ k v, news[k]? = some v → w2.cell? ⟨bb, oo + k, none⟩ = some v) :
    (Builtin.firstCells e.size ys.length (.slice b ys.length cc)).run P w2 = .ok news.toArray w2 := by
  rcases hb with hb | ⟨bb, oo, rfl, hc⟩
  · subst hb
    have : news = [] := List.eq_nil_of_length_eq_zero (by have := hr.1; simpa using this)
    subst this
    cases b <;> simp [Builtin.firstCells, loadCells, loadCellsFrom]
  · exact run_firstCells_some w2 e.size ys.length ⟨bb, oo, none⟩ ys.length cc news hr.1 (fun j v hv => by rw [addr_add]; exact hc j v hv)
end
end Go.Den

namespace Go.Den
section
variable {P : Program} {tab : Tab} {w0 : Base} {lim0 : Lim} {rb : Option Nat} {n : Nat}
variable {st st' : St} {a : Act} {w w' : World} {lim lim' : Lim} {β : Mp} {o : Oper} {c : Comp}

theorem run_append_at_new {t ty el : TypeId} {e : Ty} (h1 : P.underlying t = some (.slice el)) (h2 : TyOk P tab el e) {sv : Value} {b : Option Addr} {s sc m cc : Nat} {olds news : List Value} (hsv : sv = .slice b s sc)
    (hold : (Builtin.firstCells e.size s sv).run P w.drew = .ok olds.toArray w.drew) {bx : Option Addr} (hnew : (Builtin.firstCells e.size m (.slice bx m cc)).run P w.drew = .ok news.toArray w.drew)
    (hg : sc < s + m) (hb : s + m < 4294967296) :
    (Builtin.append_ #[t, t] ty #[sv, .slice bx m cc]).run P w = .ok (.slice (some ⟨w.heap.size, 0, none⟩) (s + m) (grownCap w (s + m) sc el))
      (w.drew.alloc (.cells (olds ++ (news ++ (Builtin.zeroCells (zeroCells e).toArray (grownCap w (s + m) sc el - (s + m))).toList)).toArray el)) := by
  subst hsv
  obtain ⟨i, hi1, hi2, hi3, hi4⟩ := h2.info
  have hzc : (wrapV e (zeroCells e)).cells = (zeroCells e).toArray := wrapV_cells (zero_rep w (fun _ => none) e)
  have hn : ¬ (s + m ≤ sc) := by omega
  have h63 : ¬ (9223372036854775807 < ((s : Int) + (m : Int))) := by omega
  have hfit : Builtin.nextslicecap (s + m) sc * i.bytes ≤ 281474976710656 := growslice_fits (by omega) (by
    have e1 : (s + m) * i.bytes ≤ 4294967296 * 4096 := Nat.mul_le_mul (by omega) hi4
    omega)
  have h48 : ¬ (281474976710656 < Builtin.nextslicecap (s + m) sc * i.bytes) := by omega
  rw [← hi2] at hold hnew
  simp [Builtin.append_, run_underlying h1, sizeOf, typeInfo, zeroValue, hi1, hi3, Builtin.lenOf, hn, h63, h48, Question.forced, hold, hnew, newRow, grownCap, hzc]
  congr 2
  apply Array.ext'
  simp

theorem run_append_at_room {t ty el : TypeId} {e : Ty} (h1 : P.underlying t = some (.slice el)) (h2 : TyOk P tab el e) {g s sc m cc : Nat} {news c1 c2 c3 : List Value} {arr : Array Value} {el' : TypeId} {fr : Nat × Nat} {bx : Option Addr}
    (hnew : (Builtin.firstCells e.size m (.slice bx m cc)).run P w = .ok news.toArray w) (hroom : s + m ≤ sc)
    (hb : w.heap[g]? = some (.cells arr el' fr)) (ha : arr.toList = c1 ++ (c2 ++ c3)) (hl : c1.length = s * e.size) (hl2 : c2.length = news.length) (hna : ∀ v ∈ news, notAgg v) (hfr : ∀ k, k < arr.size → ¬ (fr.1 ≤ k ∧ k < fr.2)) :
    ∃ w', (Builtin.append_ #[t, t] ty #[.slice (some ⟨g, 0, none⟩) s sc, .slice bx m cc]).run P w = .ok (.slice (some ⟨g, 0, none⟩) (s + m) sc) w' ∧ Wrote w w' g (.cells (c1 ++ (news ++ c3)).toArray el' fr) := by
  obtain ⟨w', k1, k2⟩ := run_storeCells (P := P) news arr el' fr g 0 (s * e.size) w c1 c2 c3 hb ha (by omega) hl2 hna hfr
  refine ⟨w', ?_, k2⟩
  obtain ⟨i, hi1, hi2, hi3, hi4⟩ := h2.info
  rw [← hi2] at hnew k1
  have hadd : (⟨g, 0, none⟩ : Addr).add (s * i.size) = ⟨g, s * i.size, none⟩ := by rw [addr_add]; simp
  simp [Builtin.append_, run_underlying h1, sizeOf, typeInfo, hi1, Builtin.lenOf, hroom, hnew, hadd, k1]

theorem run_append_nothing {t ty el : TypeId} {e : Ty} (h1 : P.underlying t = some (.slice el)) (h2 : TyOk P tab el e) {cc : Nat} {bx : Option Addr} {news : List Value}
    (hnew : (Builtin.firstCells e.size 0 (.slice bx 0 cc)).run P w = .ok news.toArray w) :
    (Builtin.append_ #[t, t] ty #[.slice none 0 0, .slice bx 0 cc]).run P w = .ok (.slice none 0 0) w := by
  obtain ⟨i, hi1, hi2, hi3, hi4⟩ := h2.info
  rw [← hi2] at hnew
  simp [Builtin.append_, run_underlying h1, sizeOf, typeInfo, hi1, Builtin.lenOf, hnew]

theorem drew_ext : Ext w lim w.drew lim := ext_keep (Nat.le_refl _) (fun _ _ => rfl) (fun _ _ => rfl)

theorem pre_cells {e : Ty} {xs : List e.val} {b : Nat} {arr : Array Value} {el : TypeId} {fr : Nat × Nat} {olds c1 rest : List Value} (g6 : w.heap[b]? = some (.cells arr el fr)) (hl : olds.length = xs.length * e.size)
    (hoc : xs = [] ∨ ∃ bb oo, (some ⟨b, 0, none⟩ : Option Addr) = some ⟨bb, oo, none⟩ ∧ ∀ k v, olds[k]? = some v → w.cell? ⟨bb, oo + k, none⟩ = some v) (k1 : arr.toList = c1 ++ rest) (k2 : c1.length = xs.length * e.size) : olds = c1 := by
  rcases hoc with hoc | ⟨bb, oo, hbb, hcell⟩
  · subst hoc
    have e1 : olds = [] := List.eq_nil_of_length_eq_zero (by simpa using hl)
    have e2 : c1 = [] := List.eq_nil_of_length_eq_zero (by simpa using k2)
    rw [e1, e2]
  · injection hbb with hbb; injection hbb with e1 e2
    subst e1; subst e2
    apply List.ext_getElem?
    intro k
    by_cases hk : k < c1.length
    · have hk' : k < olds.length := by rw [hl, ← k2]; exact hk
      have := hcell k _ (List.getElem?_eq_getElem hk')
      simp only [World.cell?, g6] at this
      simp only [Option.isSome_none, Bool.false_eq_true, if_false, Nat.zero_add] at this
      have e1 : arr[k]? = arr.toList[k]? := by simp
      rw [e1, k1, List.getElem?_append_left hk] at this
      rw [this, List.getElem?_eq_getElem hk']
    · rw [List.getElem?_eq_none (by omega), List.getElem?_eq_none (by omega)]

theorem ok_append (hT : TabOk P tab) (h : Sim w0 lim0 rb n st a w lim β) (hrb : ∀ k, some k = rb → k < w0.heap.size) (hd : ∀ d, o.dst = some d → d < n) {t : TypeId} {x y : Operand} {cl : Call} (hop : o.op = .call cl) (hcal : cl.callee = .builtin .append) (ha : cl.args = #[x, y]) (hat : cl.argTypes = #[t, t])
    (hc : stAppend tab o t x y st = some c) (ho : c.out st = some st') : OpOk P w0 lim0 rb n o st' a w := by
  unfold stAppend at hc
  cases hty : tab t with
  | none => rw [hty] at hc; cases hc
  | some ty =>
    cases ty with
    | slice e =>
      rw [hty] at hc; simp only [] at hc
      split at hc
      · rename_i xs ys ol hx hy hol
        change List e.val at xs
        change List e.val at ys
        injection hc with hc; subst hc
        obtain ⟨hchk, rfl⟩ := out_ret ho
        have hlt : ((xs.length : Int) + ys.length) < big := ltI_iff.1 hchk
        unfold big at hlt
        obtain ⟨el, h1, h2⟩ := elemTy hT hty
        obtain ⟨bx, cx, hvx, hlx, hsx⟩ := slice_rep (st := st) (β := β) (rb := rb) (as_rep hx (h.ent x))
        obtain ⟨by', cy, hvy, hly, hsy⟩ := slice_rep (st := st) (β := β) (rb := rb) (as_rep hy (h.ent y))
        have hvx : a.eval x = .slice bx xs.length cx := hvx
        have hvy : a.eval y = .slice by' ys.length cy := hvy
        have hsx : SRep w lim (CRep w lim e) e.size xs bx := hsx
        have hsy : SRep w lim (CRep w lim e) e.size ys by' := hsy
        -- the new cells
        obtain ⟨news, hrn, hnc⟩ : ∃ news, RRep w lim e ys news ∧ (ys = [] ∨ ∃ bb oo, by' = some ⟨bb, oo, none⟩ ∧ ∀ k v, news[k]? = some v → w.cell? ⟨bb, oo + k, none⟩ = some v) := by
          rcases hsy with hsy | ⟨bb, oo, rfl, hb, hu, hcell⟩
          · subst hsy; exact ⟨[], RRep.nil e, .inl rfl⟩
          · obtain ⟨L, k1, k2⟩ := SRep_cells hcell
            exact ⟨L, k1, .inr ⟨bb, oo, rfl, k2⟩⟩
        obtain ⟨olds, hro, hoc⟩ : ∃ olds, RRep w lim e xs olds ∧ (xs = [] ∨ ∃ bb oo, bx = some ⟨bb, oo, none⟩ ∧ ∀ k v, olds[k]? = some v → w.cell? ⟨bb, oo + k, none⟩ = some v) := by
          rcases hsx with hsx | ⟨bb, oo, rfl, hb, hu, hcell⟩
          · subst hsx; exact ⟨[], RRep.nil e, .inl rfl⟩
          · obtain ⟨L, k1, k2⟩ := SRep_cells hcell
            exact ⟨L, k1, .inr ⟨bb, oo, rfl, k2⟩⟩
        have exec : ∀ {r w2}, (Builtin.append_ #[t, t] o.type #[a.eval x, a.eval y]).run P w = .ok r w2 → (execOp a.eval o).run P w = .ok (.value r) w2 := by
          intro r w2 hr
          have e0 : cl.args.map a.eval = #[a.eval x, a.eval y] := by rw [ha]; simp
          simp only [execOp, hop, resolve, hcal, Sem.run_bind, Sem.run_pure, Result.andThen_ok, invoke, builtin, e0, hat, hr]
        have happ := hro.append hrn
        -- a block of its own
        have grow : cx < xs.length + ys.length → OpOk P w0 lim0 rb n o (apply st { upd0 o.dst (.dat (.slice e) (appL xs ys)) none with own := [[]], takes := ol.toList }) a w := by
          intro hg
          have r1 := run_first (P := P) (cc := cx) (w2 := w.drew) hro hoc
          have r2 := run_first (P := P) (cc := cy) (w2 := w.drew) hrn hnc
          have hrun := run_append_at_new (ty := o.type) h1 h2 (sv := .slice bx xs.length cx) rfl r1 r2 hg (by omega)
          have hlen : (appL xs ys).length = xs.length + ys.length := by simp [appL]
          refine .value (v := .slice (some ⟨w.heap.size, 0, none⟩) (appL xs ys).length (grownCap w (xs.length + ys.length) cx el)) (exec (by rw [hvx, hvy, hrun, hlen])) (h.fresh (w' := w.drew.alloc (.cells (olds ++ (news ++ (Builtin.zeroCells (zeroCells e).toArray (grownCap w (xs.length + ys.length) cx el - (xs.length + ys.length))).toList)).toArray el)) hrb hd (by simp) (fun k hk => ?_) rfl rfl rfl (alloc_new (w := w.drew) _) (fun k _ hk => by simp at hk) (L := olds ++ news) happ
            (rest := (Builtin.zeroCells (zeroCells e).toArray (grownCap w (xs.length + ys.length) cx el - (xs.length + ys.length))).toList) (by simp) (by rw [hlen]; exact grownCap_ge _ _ _ _) ?_)
          · exact alloc_old (w := w.drew) _ hk
          · have hz : (zeroCells e).toArray.size = e.size := by simpa using (zero_rep w lim e).length
            have hge := grownCap_ge w (xs.length + ys.length) cx el
            simp only [List.size_toArray, List.length_append, Array.length_toList, size_zeroCells, hz, hro.1, hrn.1]
            rw [← Nat.add_mul, ← Nat.add_mul]
            exact Nat.mul_le_mul_right _ (by omega)
        rcases owner_spec h hol hx with ⟨l, rfl, ho1, ho2, ho3⟩ | ⟨rfl, hnil⟩
        · obtain ⟨e', v', g1, g2, g3, g4⟩ := h.own l ho1
          rw [ho3] at g1; injection g1 with g1; injection g1 with g1; subst g1
          rw [ho2] at g2; injection g2 with g2; subst g2
          rcases g3 with g3 | ⟨b, m, cap, arr, el', fr, g3, g5, g6, g7, g8, g9, g10⟩
          · -- a nil of its own
            rw [hvx] at g3; injection g3 with q1 q2 q3
            by_cases hz : ys.length = 0
            · have hxs : xs = [] := List.eq_nil_of_length_eq_zero q2
              have hys : ys = [] := List.eq_nil_of_length_eq_zero hz
              have r2 := run_first (P := P) (cc := cy) (w2 := w) hrn hnc
              rw [hz] at r2
              have hrun := run_append_nothing (ty := o.type) h1 h2 r2
              refine .value (exec (by rw [hvx, hvy, q1, q2, q3, hz]; exact hrun)) (h.val { upd0 o.dst (.dat (.slice e) (appL xs ys)) none with own := [[]], takes := [l] } _ hd rfl rfl ?_ (fun _ => .tmp 0 []) (fun p hp => ?_) (fun p hp q hq _ => ?_) (fun l hl => by cases hl) (fun l hl => by cases hl))
              · rw [hxs, hys]; exact ⟨[_], ⟨none, 0, rfl, Nat.le_refl _, .inl rfl⟩, rfl⟩
              · have hp : p = [] := by simpa using hp
                subst hp
                exact ⟨e, .slice none 0 0, rfl, rfl, .inl rfl⟩
              · have hp : p = [] := by simpa using hp
                have hq : q = [] := by simpa using hq
                rw [hp, hq]
            · exact grow (by omega)
          · rw [hvx] at g3; injection g3 with q1 q2 q3
            subst q1; subst q2; subst q3
            by_cases hroom : xs.length + ys.length ≤ cx
            · -- there is room
              have r2 := run_first (P := P) (cc := cy) (w2 := w) hrn hnc
              have hfit : (xs.length + ys.length) * e.size ≤ arr.size := Nat.le_trans (Nat.mul_le_mul_right _ hroom) g9
              rw [Nat.add_mul] at hfit
              have hnl := hrn.1
              have hal : arr.toList.length = arr.size := by simp
              obtain ⟨c1, c2, c3, k1, k2, k3⟩ : ∃ c1 c2 c3, arr.toList = c1 ++ (c2 ++ c3) ∧ c1.length = xs.length * e.size ∧ c2.length = news.length := by
                refine ⟨arr.toList.take (xs.length * e.size), (arr.toList.drop (xs.length * e.size)).take news.length, (arr.toList.drop (xs.length * e.size)).drop news.length, ?_, ?_, ?_⟩
                · rw [List.take_append_drop, List.take_append_drop]
                · rw [List.length_take]; omega
                · rw [List.length_take, List.length_drop]; omega
              obtain ⟨w', m1, m2⟩ := run_append_at_room (ty := o.type) (s := xs.length) h1 h2 r2 hroom g6 k1 k2 k3 hrn.notAgg g7
              have hlen : (appL xs ys).length = xs.length + ys.length := by simp [appL]
              have hlimb : limSet lim b (some ((xs.length + ys.length) * e.size)) b = some ((xs.length + ys.length) * e.size) := by simp [limSet]
              have hext : Ext w lim w' (limSet lim b (some ((xs.length + ys.length) * e.size))) := by
                refine ⟨by rw [m2.size]; exact Nat.le_refl _, fun k oo u hk hu hcell => ?_, fun k q hk hu => ?_⟩
                · by_cases hkb : k = b
                  · subst hkb
                    have := hu _ g10
                    simp only [World.cell?, g6] at hcell
                    simp only [World.cell?, m2.at_]
                    simp only [Option.isSome_none, Bool.false_eq_true, if_false] at hcell ⊢
                    have e1 : arr[oo]? = arr.toList[oo]? := by simp
                    rw [e1, k1, List.getElem?_append_left (by omega)] at hcell
                    simp only [List.getElem?_toArray]
                    rw [List.getElem?_append_left (by omega)]; exact hcell
                  · exact (World.cell?_of_block (m2.other k hkb)).trans hcell
                · by_cases hkb : k = b
                  · subst hkb
                    intro z hz
                    rw [hlimb] at hz; injection hz with hz; subst hz
                    have := hu _ g10
                    rw [Nat.add_mul]; omega
                  · intro z hz
                    simp [limSet, hkb] at hz
                    exact hu z hz
              -- the old elements' cells are the block's first
              have hpre : RRep w lim e xs c1 := by
                have : olds = c1 := pre_cells g6 hro.1 hoc k1 k2
                rw [← this]; exact hro
              have hrr : RRep w' (limSet lim b (some ((xs.length + ys.length) * e.size))) e (appL xs ys) (c1 ++ news) := (hpre.append hrn).mono hext
              have hblt : b < w.heap.size := (Array.getElem?_eq_some_iff.1 g6).1
              have hbrb : some b ≠ rb := fun hh => by have := hrb b hh; omega
              have hsrep : SRep w' (limSet lim b (some ((xs.length + ys.length) * e.size))) (CRep w' (limSet lim b (some ((xs.length + ys.length) * e.size))) e) e.size (appL xs ys) (some ⟨b, 0, none⟩) :=
                SRep_block m2.at_ (rest := c3) (by simp) hrr (fun z hz => by rw [hlimb] at hz; injection hz with hz; subst hz; rw [hlen]; exact Nat.le_refl _)
              refine .value (v := .slice (some ⟨b, 0, none⟩) (appL xs ys).length cx) (lim := limSet lim b (some ((xs.length + ys.length) * e.size))) (β := β) (exec (by rw [hvx, hvy, hlen]; exact m1)) ?_
              refine h.grown { upd0 o.dst (.dat (.slice e) (appL xs ys)) none with own := [[]], takes := [l] } _ w' _ hd rfl hext (grow_keep h.grow m2.os m2.tape m2.output (by rw [m2.size]; exact Nat.le_refl _) (fun k hk _ => m2.other k (by omega)))
                (fun k hk _ hnot => ?_) (fun k hk => ⟨hrb k hk, by simp [limSet, show k ≠ b from fun hh => hbrb (by rw [← hh]; exact hk)]⟩) ⟨[_], ⟨some ⟨b, 0, none⟩, cx, rfl, by rw [hlen]; exact hroom, hsrep⟩, rfl⟩ (fun p hp => ?_) (fun p hp q hq x y g _ _ _ _ => ?_) rfl
                (.inl ⟨rfl, fun k hk => m2.other k (fun hh => hbrb (by rw [← hh]; exact hk.symm))⟩)
              · have hkb : k ≠ b := fun hh => hnot l _ (by simp) ho1 ho2 (by rw [hvx, hh]; rfl)
                exact ⟨m2.other k hkb, by simp [limSet, hkb]⟩
              · have hp : p = [] := by simpa using hp
                subst hp
                refine ⟨e, .slice (some ⟨b, 0, none⟩) (appL xs ys).length cx, rfl, rfl, .inr ⟨b, _, cx, _, el', fr, rfl, g5, m2.at_, fun k hk => g7 k ?_, by rw [hlen]; exact hroom, ?_, by rw [hlimb, hlen]⟩, fun g hg => .inr ⟨l, _, by simp, ho1, ho2, by rw [hvx]; exact hg⟩⟩
                · have e1 : arr.size = arr.toList.length := by simp
                  rw [e1, k1]
                  simp only [List.size_toArray, List.length_append] at hk ⊢
                  omega
                · have e1 : arr.size = arr.toList.length := by simp
                  rw [e1, k1] at g9
                  simp only [List.size_toArray, List.length_append] at g9 ⊢
                  omega
              · have hp : p = [] := by simpa using hp
                have hq : q = [] := by simpa using hq
                rw [hp, hq]
            · exact grow (by omega)
        · rw [hvx] at hnil; injection hnil with q1 q2 q3
          by_cases hz : ys.length = 0
          · have hxs : xs = [] := List.eq_nil_of_length_eq_zero q2
            have hys : ys = [] := List.eq_nil_of_length_eq_zero hz
            have r2 := run_first (P := P) (cc := cy) (w2 := w) hrn hnc
            rw [hz] at r2
            have hrun := run_append_nothing (ty := o.type) h1 h2 r2
            refine .value (exec (by rw [hvx, hvy, q1, q2, q3, hz]; exact hrun)) (h.val { upd0 o.dst (.dat (.slice e) (appL xs ys)) none with own := [[]], takes := [] } _ hd rfl rfl ?_ (fun _ => .tmp 0 []) (fun p hp => ?_) (fun p hp q hq _ => ?_) (fun l hl => by cases hl) (fun l hl => by cases hl))
            · rw [hxs, hys]; exact ⟨[_], ⟨none, 0, rfl, Nat.le_refl _, .inl rfl⟩, rfl⟩
            · have hp : p = [] := by simpa using hp
              subst hp
              exact ⟨e, .slice none 0 0, rfl, rfl, .inl rfl⟩
            · have hp : p = [] := by simpa using hp
              have hq : q = [] := by simpa using hq
              rw [hp, hq]
          · exact grow (by omega)
      · cases hc
    | _ => rw [hty] at hc; cases hc
end
end Go.Den

namespace Go.Den
section
variable {P : Program} {tab : Tab} {w0 : Base} {lim0 : Lim} {rb : Option Nat} {n : Nat}
variable {st st' : St} {a : Act} {w w' : World} {lim lim' : Lim} {β : Mp} {o : Oper} {c : Comp}

theorem cellsV_length : ∀ {t : Ty} {x : t.val}, noSl t = true → (cellsV t x).length = t.size
  | .int _, _, _ => rfl
  | .bool, _, _ => rfl
  | .str, _, _ => rfl
  | .unit, _, _ => rfl
  | .prod a b, x, h => by
    simp only [noSl] at h
    cases ha : noSl a with
    | false => rw [ha] at h; cases h
    | true => rw [ha] at h; simp [cellsV, Ty.size, cellsV_length ha, cellsV_length h]
  | .slice _, _, h => by cases h
theorem CRep_noSl : ∀ {t : Ty} {x : t.val} {cs : List Value}, noSl t = true → (CRep w lim t x cs ↔ cs = cellsV t x)
  | .int _, _, _, _ => Iff.rfl
  | .bool, _, _, _ => Iff.rfl
  | .str, _, _, _ => Iff.rfl
  | .unit, _, _, _ => Iff.rfl
  | .prod a b, x, cs, h => by
    simp only [noSl] at h
    cases ha : noSl a with
    | false => rw [ha] at h; cases h
    | true =>
      rw [ha] at h
      constructor
      · rintro ⟨c1, c2, rfl, h1, h2⟩
        rw [(CRep_noSl ha).1 h1, (CRep_noSl h).1 h2]; rfl
      · intro e
        exact ⟨_, _, e, (CRep_noSl ha).2 rfl, (CRep_noSl h).2 rfl⟩
  | .slice _, _, _, h => by cases h
theorem XRep.length : ∀ {t : Ty} {x : t.val} {cs : List Value} {B : Nat → Prop}, XRep w t x cs B → cs.length = t.size
  | .int _, _, _, _, h => by rw [h.1]; rfl
  | .bool, _, _, _, h => by rw [h.1]; rfl
  | .str, _, _, _, h => by rw [h.1]; rfl
  | .unit, _, _, _, h => by rw [h.1]; rfl
  | .prod a b, _, _, _, h => by
    obtain ⟨c1, c2, B1, B2, rfl, _, _, h4, h5⟩ := h
    simp [Ty.size, XRep.length h4, XRep.length h5]
  | .slice t, _, _, _, h => by
    rcases h with ⟨h, _⟩ | ⟨g, c, arr, e, fr, Bs, h, _⟩ <;> rw [h] <;> rfl
theorem flat_prod {a b : Ty} (h : flatT (.prod a b) = true) : flatT a = true ∧ ((∃ p q, b = .prod p q ∧ flatT b = true) ∨ b = .unit) := by
  simp only [flatT] at h
  cases ha : flatT a with
  | false => rw [ha] at h; cases h
  | true =>
    rw [ha] at h
    refine ⟨rfl, ?_⟩
    cases b with
    | prod p q => exact .inl ⟨p, q, rfl, h⟩
    | unit => exact .inr rfl
    | _ => cases h
theorem XRep_noSl : ∀ {t : Ty} {x : t.val} {cs : List Value} {B : Nat → Prop}, noSl t = true → (XRep w t x cs B ↔ (cs = cellsV t x ∧ ∀ g, ¬ B g))
  | .int _, _, _, _, _ => Iff.rfl
  | .bool, _, _, _, _ => Iff.rfl
  | .str, _, _, _, _ => Iff.rfl
  | .unit, _, _, _, _ => Iff.rfl
  | .prod a b, x, cs, B, h => by
    simp only [noSl] at h
    cases ha : noSl a with
    | false => rw [ha] at h; cases h
    | true =>
      rw [ha] at h
      constructor
      · rintro ⟨c1, c2, B1, B2, rfl, h2, _, h4, h5⟩
        obtain ⟨e1, n1⟩ := (XRep_noSl ha).1 h4
        obtain ⟨e2, n2⟩ := (XRep_noSl h).1 h5
        refine ⟨by rw [e1, e2]; rfl, fun g hg => ?_⟩
        rcases (h2 g).1 hg with hg | hg
        · exact n1 g hg
        · exact n2 g hg
      · rintro ⟨e, hn⟩
        exact ⟨_, _, fun _ => False, fun _ => False, e, fun g => ⟨fun hg => absurd hg (hn g), fun hg => hg.elim (·.elim) (·.elim)⟩, fun _ h => h.elim, (XRep_noSl ha).2 ⟨rfl, fun _ h => h⟩, (XRep_noSl h).2 ⟨rfl, fun _ h => h⟩⟩
  | .slice _, _, _, _, h => by cases h
/-- an array of one's own whose elements bear no slices -/
theorem XRep.mkFlat {t : Ty} (hns : noSl t = true) {xs : List t.val} {g c : Nat} {arr : Array Value} {e : TypeId} {fr : Nat × Nat} {B : Nat → Prop} {m : Nat} (hm : m = xs.length) (h2 : xs.length ≤ c) (h3 : c * t.size ≤ arr.size)
    (h4 : w.heap[g]? = some (.cells arr e fr)) (hf : ∀ o, o < arr.size → ¬ (fr.1 ≤ o ∧ o < fr.2)) (h5 : ∀ h, B h ↔ h = g)
    (h6 : ∀ (i : Nat) (x : t.val), xs[i]? = some x → ∀ j v, (cellsV t x)[j]? = some v → arr[i * t.size + j]? = some v) : XRep w (.slice t) xs [.slice (some ⟨g, 0, none⟩) m c] B := by
  subst hm
  exact .inr ⟨g, c, arr, e, fr, fun _ _ => False, rfl, h2, h3, h4, hf, fun k => ⟨fun hk => .inl ((h5 k).1 hk), fun hk => hk.elim (fun hk => (h5 k).2 hk) (fun ⟨_, hk⟩ => hk.elim)⟩, fun _ _ hk => hk.elim, fun _ _ _ hk => hk.elim,
    fun i x hx => ⟨cellsV t x, (XRep_noSl hns).2 ⟨rfl, fun _ h => h⟩, h6 i x hx⟩⟩
theorem XRep.flat {t : Ty} (hns : noSl t = true) {xs : List t.val} {cs : List Value} {B : Nat → Prop} (h : XRep w (.slice t) xs cs B) : (cs = [.slice none 0 0] ∧ xs.length = 0 ∧ ∀ g, ¬ B g) ∨
    ∃ g c arr e fr, cs = [.slice (some ⟨g, 0, none⟩) xs.length c] ∧ xs.length ≤ c ∧ c * t.size ≤ arr.size ∧ w.heap[g]? = some (.cells arr e fr) ∧ (∀ o, o < arr.size → ¬ (fr.1 ≤ o ∧ o < fr.2)) ∧ (∀ h, B h ↔ h = g) ∧
      ∀ (i : Nat) (x : t.val), xs[i]? = some x → ∀ j v, (cellsV t x)[j]? = some v → arr[i * t.size + j]? = some v := by
  rcases h with h | ⟨g, c, arr, e, fr, Bs, h1, h2, h3, h4, hf, h5, h6, h7, h8⟩
  · exact .inl h
  · have hno : ∀ i k, ¬ Bs i k := fun i k hk => by
      obtain ⟨ds, k1, _⟩ := h8 i _ (List.getElem?_eq_getElem (h6 i k hk).1)
      exact ((XRep_noSl hns).1 k1).2 k hk
    refine .inr ⟨g, c, arr, e, fr, h1, h2, h3, h4, hf, fun k => ⟨fun hk => ((h5 k).1 hk).elim id (fun ⟨i, hi⟩ => absurd hi (hno i k)), fun hk => (h5 k).2 (.inl hk)⟩, fun i x hx j v hv => ?_⟩
    obtain ⟨ds, k1, k2⟩ := h8 i x hx
    rw [((XRep_noSl hns).1 k1).1] at k2
    exact k2 j v hv
/-- a tree as others read it -/
theorem XRep.crep : ∀ {t : Ty} {x : t.val} {cs : List Value} {B : Nat → Prop}, XRep w t x cs B → (∀ g, B g → lim g = none) → CRep w lim t x cs
  | .int _, _, _, _, h, _ => h.1
  | .bool, _, _, _, h, _ => h.1
  | .str, _, _, _, h, _ => h.1
  | .unit, _, _, _, h, _ => h.1
  | .prod a b, _, _, _, h, hl => by
    obtain ⟨c1, c2, B1, B2, h1, h2, _, h4, h5⟩ := h
    exact ⟨c1, c2, h1, XRep.crep h4 (fun g hg => hl g ((h2 g).2 (.inl hg))), XRep.crep h5 (fun g hg => hl g ((h2 g).2 (.inr hg)))⟩
  | .slice t, xs, cs, B, h, hl => by
    rcases h with ⟨h1, h2, _⟩ | ⟨g, c, arr, e, fr, Bs, h1, h2, h3, h4, _, h5, h6, h7, h8⟩
    · exact ⟨none, 0, by rw [h1, h2], by omega, .inl (List.eq_nil_of_length_eq_zero h2)⟩
    · refine ⟨some ⟨g, 0, none⟩, c, h1, h2, .inr ⟨g, 0, rfl, (Array.getElem?_eq_some_iff.1 h4).1, (by intro m hm; rw [hl g ((h5 g).2 (.inl rfl))] at hm; cases hm), fun i x hx => ?_⟩⟩
      obtain ⟨ds, k1, k2⟩ := h8 i x hx
      refine ⟨ds, XRep.crep k1 (fun g' hg' => hl g' ((h5 g').2 (.inr ⟨i, hg'⟩))), fun j v hv => ?_⟩
      have := k2 j v hv
      simp only [World.cell?, h4]
      simpa using this
theorem mem_bump {q : List Nat} {ps : List (List Nat)} (h : q ∈ ps.map bump) (hn : ∀ p ∈ ps, p ≠ []) : ∃ i p, q = (i + 1) :: p ∧ (i :: p) ∈ ps := by
  obtain ⟨p, hp, rfl⟩ := List.mem_map.1 h
  cases p with
  | nil => exact absurd rfl (hn _ hp)
  | cons i p => exact ⟨i, p, rfl, hp⟩
/-- a value whose slices are all the caller's own is a tree -/
theorem XRep.of_crep : ∀ {t : Ty} {x : t.val} {cs : List Value} (base : Nat), CRep w lim t x cs → flatT t = true →
    (∀ p ∈ slicePaths t, ∀ v, cs[offs t p]? = some v → v = .slice none 0 0 ∨ ∃ b m cc arr e fr, v = .slice (some ⟨b, 0, none⟩) m cc ∧ w.heap[b]? = some (.cells arr e fr) ∧ (∀ o, o < arr.size → ¬ (fr.1 ≤ o ∧ o < fr.2)) ∧ m ≤ cc ∧ (∀ e', typeAt t p = some (.slice e') → cc * e'.size ≤ arr.size)) →
    (∀ p ∈ slicePaths t, ∀ q ∈ slicePaths t, ∀ u v g, cs[offs t p]? = some u → cs[offs t q]? = some v → blockOf u = some g → blockOf v = some g → p = q) →
    XRep w t x cs (fun g => ∃ p ∈ slicePaths t, ∃ v, cs[offs t p]? = some v ∧ blockOf v = some g) := by
  intro t
  induction t with
  | int k => intro x cs _ h _ _ _; exact ⟨h, fun g ⟨p, hp, _⟩ => by cases hp⟩
  | bool => intro x cs _ h _ _ _; exact ⟨h, fun g ⟨p, hp, _⟩ => by cases hp⟩
  | str => intro x cs _ h _ _ _; exact ⟨h, fun g ⟨p, hp, _⟩ => by cases hp⟩
  | unit => intro x cs _ h _ _ _; exact ⟨h, fun g ⟨p, hp, _⟩ => by cases hp⟩
  | slice e _ =>
    intro xs cs _ h hf ho _
    obtain ⟨ad, cc, h1, h2, h3⟩ := h
    subst h1
    have h0 := ho [] (by simp [slicePaths]) (.slice ad (List.length (α := e.val) xs) cc) (by simp [offs])
    rcases h0 with h0 | ⟨b, m, c', arr, el, fr, h0, h4, hfr, h5, h6⟩
    · injection h0 with e1 e2 e3
      subst e1; 
      have e2 : List.length (α := e.val) xs = 0 := e2
      have e3 : cc = 0 := e3
      subst e3
      refine .inl ⟨by rw [e2], e2, fun g ⟨p, hp, v, hv, hb⟩ => ?_⟩
      have hp : p = [] := by simpa [slicePaths] using hp
      subst hp
      simp [offs] at hv; subst hv; cases hb
    · injection h0 with e1 e2 e3
      subst e1; subst e3
      have e2 : List.length (α := e.val) xs = m := e2
      refine XRep.mkFlat hf rfl h2 (h6 e rfl) h4 hfr (fun g => ⟨fun ⟨p, hp, v, hv, hb⟩ => ?_, fun hg => ⟨[], by simp [slicePaths], _, by simp [offs]; rfl, by rw [hg]; rfl⟩⟩) (fun i x hx j v hv => ?_)
      · have hp : p = [] := by simpa [slicePaths] using hp
        subst hp
        simp [offs] at hv; subst hv; injection hb with hb; exact hb.symm
      · rcases h3 with h3 | ⟨b', o', q1, _, _, q4⟩
        · rw [h3] at hx; simp at hx
        · injection q1 with q1; injection q1 with q1 q2
          subst q1; subst q2
          obtain ⟨ds, k1, k2⟩ := q4 i x hx
          rw [(CRep_noSl hf).1 k1] at k2
          have := k2 j v hv
          simp only [World.cell?, h4] at this
          simpa using this
  | prod p q ihp ihq =>
    intro x cs base h hf ho hd
    obtain ⟨c1, c2, rfl, h1, h2⟩ := h
    obtain ⟨f1, f2⟩ := flat_prod hf
    have l1 := h1.length
    have hne : ∀ r ∈ slicePaths q, isProd q = true → r ≠ [] := fun r hr hq => (slicePaths_spec hr).2 hq
    have at1 : ∀ r ∈ slicePaths p, ∀ v, (c1 ++ c2)[offs (.prod p q) (0 :: r)]? = some v ↔ c1[offs p r]? = some v := by
      intro r hr v
      obtain ⟨⟨e, he⟩, _⟩ := slicePaths_spec hr
      have := typeAt_lt he
      have hs : (Ty.slice e).size = 1 := rfl
      simp only [offs]
      rw [List.getElem?_append_left (by omega)]
    have at2 : ∀ i r v, (c1 ++ c2)[offs (.prod p q) ((i + 1) :: r)]? = some v ↔ c2[offs q (i :: r)]? = some v := by
      intro i r v
      simp only [offs]
      rw [List.getElem?_append_right (by omega), l1, show p.size + offs q (i :: r) - p.size = offs q (i :: r) by omega]
    have in1 : ∀ r ∈ slicePaths p, (0 :: r) ∈ slicePaths (.prod p q) := fun r hr => by simp only [slicePaths]; exact List.mem_append_left _ (List.mem_map.2 ⟨r, hr, rfl⟩)
    have X1 := ihp base h1 f1 (fun r hr v hv => (ho (0 :: r) (in1 r hr) v ((at1 r hr v).2 hv))) (fun r hr r' hr' u v g hu hv hgu hgv => by
      have := hd _ (in1 r hr) _ (in1 r' hr') u v g ((at1 r hr u).2 hu) ((at1 r' hr' v).2 hv) hgu hgv
      injection this)
    rcases f2 with ⟨q1, q2, hq, f2⟩ | hq
    · subst hq
      have in2 : ∀ i r, (i :: r) ∈ slicePaths (.prod q1 q2) → ((i + 1) :: r) ∈ slicePaths (.prod p (.prod q1 q2)) := fun i r hr => by
        rw [slicePaths]; exact List.mem_append_right _ (List.mem_map.2 ⟨i :: r, hr, rfl⟩)
      have sh : ∀ r ∈ slicePaths (.prod q1 q2), ∃ i s, r = i :: s := fun r hr => by
        cases r with
        | nil => exact absurd rfl (hne [] hr rfl)
        | cons i s => exact ⟨i, s, rfl⟩
      have X2 := ihq base h2 f2 (fun r hr v hv => by
          obtain ⟨i, s, rfl⟩ := sh r hr
          exact ho _ (in2 i s hr) v ((at2 i s v).2 hv)) (fun r hr r' hr' u v g hu hv hgu hgv => by
          obtain ⟨i, s, rfl⟩ := sh r hr
          obtain ⟨i', s', rfl⟩ := sh r' hr'
          have := hd _ (in2 i s hr) _ (in2 i' s' hr') u v g ((at2 i s u).2 hu) ((at2 i' s' v).2 hv) hgu hgv
          injection this with e1 e2
          injection e1 with e1
          rw [e1, e2])
      refine ⟨c1, c2, _, _, rfl, fun g => ⟨fun ⟨r, hr, v, hv, hg⟩ => ?_, fun hg => ?_⟩, fun g ⟨r, hr, v, hv, hg⟩ ⟨r', hr', v', hv', hg'⟩ => ?_, X1, X2⟩
      · rw [slicePaths] at hr
        rcases List.mem_append.1 hr with hr | hr
        · obtain ⟨s, hs, rfl⟩ := List.mem_map.1 hr
          exact .inl ⟨s, hs, v, (at1 s hs v).1 hv, hg⟩
        · obtain ⟨i, s, rfl, hs⟩ := mem_bump hr (fun s hs => hne s hs rfl)
          exact .inr ⟨_, hs, v, (at2 i s v).1 hv, hg⟩
      · rcases hg with ⟨s, hs, v, hv, hg⟩ | ⟨s, hs, v, hv, hg⟩
        · exact ⟨_, in1 s hs, v, (at1 s hs v).2 hv, hg⟩
        · obtain ⟨i, s, rfl⟩ := sh s hs
          exact ⟨_, in2 i s hs, v, (at2 i s v).2 hv, hg⟩
      · obtain ⟨i, s, rfl⟩ := sh r' hr'
        have := hd _ (in1 r hr) _ (in2 i s hr') v v' g ((at1 r hr v).2 hv) ((at2 i s v').2 hv') hg hg'
        injection this with e1 _
        cases e1
    · subst hq
      have hc2 : c2 = [] := h2
      subst hc2
      refine ⟨c1, [], _, fun _ => False, rfl, fun g => ⟨fun ⟨r, hr, v, hv, hg⟩ => ?_, fun hg => ?_⟩, fun _ _ h => h, X1, ⟨rfl, fun _ h => h⟩⟩
      · have hr : r ∈ (slicePaths p).map (0 :: ·) ++ [] := hr
        simp only [List.append_nil] at hr
        obtain ⟨s, hs, rfl⟩ := List.mem_map.1 hr
        exact .inl ⟨s, hs, v, (at1 s hs v).1 hv, hg⟩
      · rcases hg with ⟨s, hs, v, hv, hg⟩ | hg
        · exact ⟨_, in1 s hs, v, (at1 s hs v).2 hv, hg⟩
        · exact hg.elim

/-! ### parts of a tree -/
/-- a part of a tree, and what comes of the tree if another tree stands there -/
def PartOf (w : World) (t : Ty) (cs : List Value) (B : Nat → Prop) (o : Nat) (u : Ty) (y : u.val) (set : u.val → Option t.val) : Prop :=
  ∃ c1 c2 c3, ∃ Bu : Nat → Prop, cs = c1 ++ (c2 ++ c3) ∧ c1.length = o ∧ c2.length = u.size ∧ (∀ g, Bu g → B g) ∧ XRep w u y c2 Bu ∧
    ∀ (w' : World) (z : u.val) (x' : t.val) (cz : List Value) (Bv : Nat → Prop), set z = some x' → (∀ g, B g → ¬ Bu g → w'.heap[g]? = w.heap[g]?) → (∀ g, Bv g → B g → Bu g) → XRep w' u z cz Bv → XRep w' t x' (c1 ++ (cz ++ c3)) (fun g => (B g ∧ ¬ Bu g) ∨ Bv g)
theorem XRep.field' : ∀ {t : Ty} {x : t.val} {cs : List Value} {B : Nat → Prop} {i : Nat} {d : Dat}, XRep w t x cs B → getF t x i = some d →
    PartOf w t cs B (offs t [i]) d.1 d.2 (fun z => setF t x i ⟨d.1, z⟩) := by
  intro t
  induction t with
  | prod p q _ ihq =>
    intro x cs B i d h hf
    obtain ⟨c1, c2, B1, B2, rfl, h2, h3, h4, h5⟩ := h
    have l1 := h4.length
    cases i with
    | zero =>
      simp only [getF] at hf; injection hf with hf; subst hf
      refine ⟨[], c1, c2, B1, rfl, by cases p <;> rfl, l1, fun g hg => (h2 g).2 (.inl hg), h4, fun w' z x' cz Bv hs hk hv hx => ?_⟩
      simp only [setF, cast_self] at hs
      injection hs with hs; subst hs
      refine ⟨cz, c2, Bv, B2, rfl, fun g => ⟨fun hg => ?_, fun hg => ?_⟩, fun g hg hg2 => h3 g (hv g hg ((h2 g).2 (.inr hg2))) hg2, hx, h5.keep fun g hg => hk g ((h2 g).2 (.inr hg)) (fun h' => h3 g h' hg)⟩
      · rcases hg with ⟨hg, hn⟩ | hg
        · exact .inr (((h2 g).1 hg).resolve_left hn)
        · exact .inl hg
      · rcases hg with hg | hg
        · exact .inr hg
        · exact .inl ⟨(h2 g).2 (.inr hg), fun h' => h3 g h' hg⟩
    | succ i =>
      simp only [getF] at hf
      obtain ⟨d1, d2, d3, Bu, k1, k2, kl, k3, k4, k5⟩ := ihq h5 hf
      subst k1
      refine ⟨c1 ++ d1, d2, d3, Bu, by simp, by simp only [offs]; simp [l1, k2], kl, fun g hg => (h2 g).2 (.inr (k3 g hg)), k4, fun w' z x' cz Bv hs hk hv hx => ?_⟩
      simp only [setF] at hs
      cases hsq : setF q x.2 i ⟨d.1, z⟩ with
      | none => rw [hsq] at hs; cases hs
      | some y =>
        rw [hsq] at hs; injection hs with hs; subst hs
        have hz := k5 w' z y cz Bv hsq (fun g hg hn => hk g ((h2 g).2 (.inr hg)) hn) (fun g hg hg2 => hv g hg ((h2 g).2 (.inr hg2))) hx
        refine ⟨c1, d1 ++ (cz ++ d3), B1, _, by simp, fun g => ⟨fun hg => ?_, fun hg => ?_⟩, fun g hg hg2 => ?_, h4.keep fun g hg => hk g ((h2 g).2 (.inl hg)) (fun h' => h3 g hg (k3 g h')), hz⟩
        · rcases hg with ⟨hg, hn⟩ | hg
          · rcases (h2 g).1 hg with hg | hg
            · exact .inl hg
            · exact .inr (.inl ⟨hg, hn⟩)
          · exact .inr (.inr hg)
        · rcases hg with hg | ⟨hg, hn⟩ | hg
          · exact .inl ⟨(h2 g).2 (.inl hg), fun h' => h3 g hg (k3 g h')⟩
          · exact .inl ⟨(h2 g).2 (.inr hg), hn⟩
          · exact .inr hg
        · rcases hg2 with ⟨hg2, _⟩ | hg2
          · exact h3 g hg hg2
          · exact h3 g hg (k3 g (hv g hg2 ((h2 g).2 (.inl hg))))
  | _ => intro x cs B i d h hf; cases hf
theorem XRep.sub' : ∀ {p : List Nat} {t : Ty} {x : t.val} {cs : List Value} {B : Nat → Prop} {y : Dat}, XRep w t x cs B → getP t x p = some y →
    PartOf w t cs B (offs t p) y.1 y.2 (fun z => setP t x p ⟨y.1, z⟩)
  | [], t, x, cs, B, y, h, hp => by
    simp only [getP] at hp; injection hp with hp; subst hp
    refine ⟨[], cs, [], B, by simp, by cases t <;> rfl, h.length, fun _ h => h, h, fun w' z x' cz Bv hs hk hv hx => ?_⟩
    simp only [setP, cast_self] at hs
    injection hs with hs; subst hs
    simp only [List.nil_append, List.append_nil]
    exact hx.congr fun g => ⟨fun hg => hg.elim (fun h => absurd h.1 h.2) id, fun hg => .inr hg⟩
  | i :: p, t, x, cs, B, y, h, hp => by
    simp only [getP] at hp
    cases hf : getF t x i with
    | none => rw [hf] at hp; cases hp
    | some d =>
      rw [hf] at hp; simp only [] at hp
      obtain ⟨c1, c2, c3, B1, k1, k2, kl, k3, k4, k5⟩ := h.field' hf
      obtain ⟨d1, d2, d3, Bu, m1, m2, ml, m3, m4, m5⟩ := k4.sub' hp
      subst k1; subst m1
      refine ⟨c1 ++ d1, d2, d3 ++ c3, Bu, by simp, by rw [(getF_typeAt p hf).2]; simp [k2, m2], ml, fun g hg => k3 g (m3 g hg), m4, fun w' z x' cz Bv hs hk hv hx => ?_⟩
      simp only [setP, hf] at hs
      cases hsp : setP d.1 d.2 p ⟨y.1, z⟩ with
      | none => rw [hsp] at hs; cases hs
      | some y' =>
        rw [hsp] at hs; simp only [] at hs
        have hz := m5 w' z y' cz Bv hsp (fun g hg hn => hk g (k3 g hg) hn) (fun g hg hg2 => hv g hg (k3 g hg2)) hx
        have := k5 w' y' x' _ _ hs (fun g hg hn => hk g hg (fun h' => hn (m3 g h'))) (fun g hg hg2 => ?_) hz
        · simp only [List.append_assoc] at this ⊢
          refine this.congr fun g => ⟨fun hg => ?_, fun hg => ?_⟩
          · rcases hg with ⟨hg, hn⟩ | hg
            · by_cases hb : B1 g
              · exact .inr (.inl ⟨hb, hn⟩)
              · exact .inl ⟨hg, hb⟩
            · exact .inr (.inr hg)
          · rcases hg with ⟨hg, hn⟩ | ⟨hg, hn⟩ | hg
            · exact .inl ⟨hg, fun h' => hn (m3 g h')⟩
            · exact .inl ⟨k3 g hg, hn⟩
            · exact .inr hg
        · rcases hg with ⟨hg, _⟩ | hg
          · exact hg
          · exact m3 g (hv g hg hg2)
theorem XRep.sub {p : List Nat} {t : Ty} {x : t.val} {cs : List Value} {B : Nat → Prop} {y : Dat} (h : XRep w t x cs B) (hp : getP t x p = some y) :
    ∃ Bu : Nat → Prop, (∀ g, Bu g → B g) ∧ XRep w y.1 y.2 ((cs.drop (offs t p)).take y.1.size) Bu ∧
      ∀ (w' : World) (z : y.1.val) (x' : t.val), setP t x p ⟨y.1, z⟩ = some x' → (∀ g, B g → ¬ Bu g → w'.heap[g]? = w.heap[g]?) → XRep w' y.1 z ((cs.drop (offs t p)).take y.1.size) Bu → XRep w' t x' cs B := by
  obtain ⟨c1, c2, c3, Bu, k1, k2, kl, k3, k4, k5⟩ := h.sub' hp
  have e : (cs.drop (offs t p)).take y.1.size = c2 := by rw [k1, ← k2, List.drop_left, ← kl, List.take_left]
  rw [e]
  refine ⟨Bu, k3, k4, fun w' z x' hs hk hx => ?_⟩
  have := k5 w' z x' c2 Bu hs hk (fun _ h _ => h) hx
  rw [← k1] at this
  refine this.congr fun g => ⟨fun hg => ?_, fun hg => hg.elim (·.1) (k3 g)⟩
  by_cases hb : Bu g
  · exact .inr hb
  · exact .inl ⟨hg, hb⟩
/-- a field of a tree -/
theorem XRep.field {t : Ty} {x : t.val} {cs : List Value} {B : Nat → Prop} {i : Nat} {d : Dat} (h : XRep w t x cs B) (hf : getF t x i = some d) :
    ∃ Bu : Nat → Prop, (∀ g, Bu g → B g) ∧ XRep w d.1 d.2 ((cs.drop (offs t [i])).take d.1.size) Bu := by
  obtain ⟨c1, c2, c3, Bu, k1, k2, kl, k3, k4, _⟩ := h.field' hf
  have e : (cs.drop (offs t [i])).take d.1.size = c2 := by rw [k1, ← k2, List.drop_left, ← kl, List.take_left]
  rw [e]
  exact ⟨Bu, k3, k4⟩
/-- an element (or a part of it) of an array of one's own -/
theorem XRep.putEl {e : Ty} {xs : List e.val} {cs : List Value} {B : Nat → Prop} (h : XRep w (.slice e) xs cs B) {k : Nat} {x : e.val} (hk : xs[k]? = some x) {q : List Nat} {y : Dat} (hy : getP e x q = some y) :
    ∃ g c arr el fr c2, ∃ Bu : Nat → Prop, cs = [.slice (some ⟨g, 0, none⟩) xs.length c] ∧ xs.length ≤ c ∧ c * e.size ≤ arr.size ∧ w.heap[g]? = some (.cells arr el fr) ∧ (∀ o, o < arr.size → ¬ (fr.1 ≤ o ∧ o < fr.2)) ∧ B g ∧
      c2.length = y.1.size ∧ (∀ h, Bu h → B h ∧ h ≠ g) ∧ XRep w y.1 y.2 c2 Bu ∧ (∀ j v, c2[j]? = some v → arr[k * e.size + offs e q + j]? = some v) ∧
      ∀ (w' : World) (z : y.1.val) (x' : e.val) (cz : List Value) (Bv : Nat → Prop) (arr' : Array Value), setP e x q ⟨y.1, z⟩ = some x' → (∀ h, B h → h ≠ g → ¬ Bu h → w'.heap[h]? = w.heap[h]?) → w'.heap[g]? = some (.cells arr' el fr) → arr'.size = arr.size →
        (∀ j, (j < k * e.size + offs e q ∨ k * e.size + offs e q + y.1.size ≤ j) → arr'[j]? = arr[j]?) → (∀ j v, cz[j]? = some v → arr'[k * e.size + offs e q + j]? = some v) → (∀ h, Bv h → B h → Bu h) → XRep w' y.1 z cz Bv →
        XRep w' (.slice e) (xs.set k x') cs (fun h => (B h ∧ ¬ Bu h) ∨ Bv h) := by
  have hkl := (List.getElem?_eq_some_iff.1 hk).1
  rcases h with ⟨_, h2, _⟩ | ⟨g, c, arr, el, fr, Bs, h1, h2, h3, h4, hf, h5, h6, h7, h8⟩
  · have h2 : xs.length = 0 := h2
    omega
  · obtain ⟨ds, k1, k2⟩ := h8 k x hk
    obtain ⟨c1, c2, c3, Bu, m1, m2, ml, m3, m4, m5⟩ := k1.sub' hy
    have hdl := k1.length
    have hcl : c1.length + c2.length + c3.length = e.size := by rw [← hdl, m1]; simp; omega
    refine ⟨g, c, arr, el, fr, c2, Bu, h1, h2, h3, h4, hf, (h5 g).2 (.inl rfl), ml, fun b hb => ⟨(h5 b).2 (.inr ⟨k, m3 b hb⟩), (h6 k b (m3 b hb)).2⟩, m4, fun j v hv => ?_, fun w' z x' cz Bv arr' hset hkeep hg hsz hout hin hdis hX => ?_⟩
    · have hj := (List.getElem?_eq_some_iff.1 hv).1
      have := k2 (c1.length + j) v (by rw [m1, List.getElem?_append_right (by omega), show c1.length + j - c1.length = j by omega, List.getElem?_append_left hj]; exact hv)
      rw [m2] at this
      rw [← this]; congr 1; omega
    · have hczl := hX.length
      have hBvg : ¬ Bv g := fun hv => (h6 k g (m3 g (hdis g hv ((h5 g).2 (.inl rfl))))).2 rfl
      have hBvo : ∀ i b, i ≠ k → Bs i b → ¬ Bv b := fun i b hi hb hv => hi (h7 i k b hb (m3 b (hdis b hv ((h5 b).2 (.inr ⟨i, hb⟩)))))
      refine .inr ⟨g, c, arr', el, fr, fun i b => if i = k then (Bs k b ∧ ¬ Bu b) ∨ Bv b else Bs i b, ?_, ?_, by rw [hsz]; exact h3, hg, by rw [hsz]; exact hf, fun b => ⟨fun hb => ?_, fun hb => ?_⟩, fun i b hb => ?_, fun i j b hb hb' => ?_, fun i u hu => ?_⟩
      · rw [h1]; congr 2; exact (List.length_set ..).symm
      · show (xs.set k x').length ≤ c
        rw [List.length_set]; exact h2
      · rcases hb with ⟨hb, hn⟩ | hb
        · rcases (h5 b).1 hb with rfl | ⟨i, hi⟩
          · exact .inl rfl
          · refine .inr ⟨i, ?_⟩
            by_cases e' : i = k
            · subst e'; simp only [if_true]; exact .inl ⟨hi, hn⟩
            · simp only [e', if_false]; exact hi
        · exact .inr ⟨k, by simp only [if_true]; exact .inr hb⟩
      · rcases hb with rfl | ⟨i, hi⟩
        · exact .inl ⟨(h5 _).2 (.inl rfl), fun hb => (h6 k _ (m3 _ hb)).2 rfl⟩
        · by_cases e' : i = k
          · subst e'
            simp only [if_true] at hi
            rcases hi with ⟨hi, hn⟩ | hi
            · exact .inl ⟨(h5 b).2 (.inr ⟨i, hi⟩), hn⟩
            · exact .inr hi
          · simp only [e', if_false] at hi
            exact .inl ⟨(h5 b).2 (.inr ⟨i, hi⟩), fun hb => e' (h7 i k b hi (m3 b hb))⟩
      · show i < (xs.set k x').length ∧ b ≠ g
        rw [List.length_set]
        by_cases e' : i = k
        · subst e'
          simp only [if_true] at hb
          rcases hb with ⟨hb, _⟩ | hb
          · exact h6 i b hb
          · exact ⟨hkl, fun e' => hBvg (by rw [← e']; exact hb)⟩
        · simp only [e', if_false] at hb
          exact h6 i b hb
      · by_cases e1 : i = k <;> by_cases e2 : j = k
        · rw [e1, e2]
        · subst e1
          simp only [if_true] at hb
          simp only [e2, if_false] at hb'
          rcases hb with ⟨hb, _⟩ | hb
          · exact h7 i j b hb hb'
          · exact absurd hb (hBvo j b e2 hb')
        · subst e2
          simp only [if_true] at hb'
          simp only [e1, if_false] at hb
          rcases hb' with ⟨hb', _⟩ | hb'
          · exact h7 i j b hb hb'
          · exact absurd hb' (hBvo i b e1 hb)
        · simp only [e1, if_false] at hb
          simp only [e2, if_false] at hb'
          exact h7 i j b hb hb'
      · have hu : (xs.set k x')[i]? = some u := hu
        rw [List.getElem?_set] at hu
        by_cases e' : i = k
        · subst e'
          simp only [if_true, hkl] at hu
          injection hu with hu; subst hu
          refine ⟨c1 ++ (cz ++ c3), ?_, fun j v hv => ?_⟩
          · simp only [if_true]
            exact m5 w' z x' cz Bv hset (fun b hb hn => hkeep b ((h5 b).2 (.inr ⟨i, hb⟩)) (h6 i b hb).2 hn) (fun b hb hb2 => hdis b hb ((h5 b).2 (.inr ⟨i, hb2⟩))) hX
          · by_cases j1 : j < c1.length
            · rw [List.getElem?_append_left j1] at hv
              rw [hout _ (.inl (by omega))]
              exact k2 j v (by rw [m1, List.getElem?_append_left j1]; exact hv)
            · rw [List.getElem?_append_right (by omega)] at hv
              by_cases j2 : j - c1.length < cz.length
              · rw [List.getElem?_append_left j2] at hv
                have := hin _ v hv
                rw [← this]; congr 1; omega
              · rw [List.getElem?_append_right (by omega)] at hv
                rw [hout _ (.inr (by omega))]
                refine k2 j v ?_
                rw [m1, List.getElem?_append_right (by omega), List.getElem?_append_right (by omega), ← hv]
                congr 1; omega
        · rw [if_neg (fun h => e' h.symm)] at hu
          obtain ⟨ds', n1, n2⟩ := h8 i u hu
          refine ⟨ds', ?_, fun j v hv => ?_⟩
          · simp only [e', if_false]
            exact n1.keep fun b hb => hkeep b ((h5 b).2 (.inr ⟨i, hb⟩)) (h6 i b hb).2 (fun hb2 => e' (h7 i k b hb (m3 b hb2)))
          · have hj := (List.getElem?_eq_some_iff.1 hv).1
            rw [n1.length] at hj
            rw [hout _ ?_]
            · exact n2 j v hv
            · rcases Nat.lt_or_gt_of_ne e' with hlt | hgt
              · have hm : (i + 1) * e.size ≤ k * e.size := Nat.mul_le_mul_right _ hlt
                rw [Nat.succ_mul] at hm
                exact .inl (by omega)
              · have hm : (k + 1) * e.size ≤ i * e.size := Nat.mul_le_mul_right _ hgt
                rw [Nat.succ_mul] at hm
                exact .inr (by omega)
end
end Go.Den

namespace Go.Den
section
variable {P : Program} {tab : Tab} {w0 : Base} {lim0 : Lim} {rb : Option Nat} {n : Nat}
variable {st st' : St} {a : Act} {w w' : World} {lim lim' : Lim} {β β' : Mp} {o : Oper} {c : Comp}

/-- a block that may be written: nobody sees it -/
structure freeB (w0 : Base) (rb : Option Nat) (st : St) (a : Act) (w : World) (lim : Lim) (β : Mp) (k : Nat) : Prop where
  lim0 : lim k = some 0
  base : w0.heap.size ≤ k ∨ w0.X k
  rb : some k ≠ rb
  box : ∀ b d, st.box b = some d → β b ≠ k
  own : ∀ l x, st.own l = true → locV st a w β l = some x → blockOf x ≠ some k
theorem tree_free (h : Sim w0 lim0 rb n st a w lim β) (hrb : ∀ k, some k = rb → k < w0.heap.size) {k : Nat} (hk : isTree st β k) : freeB w0 rb st a w lim β k := by
  refine ⟨(h.xs.lt hk).2.2, (h.xs.lt hk).2.1, fun hr => ?_, fun b d hb e => h.xs.offb hb (by rw [e]; exact hk), fun l x hl hx hg => h.xs.off hl hx hg hk⟩
  rcases hk with ⟨r, d', k1, k2⟩ | ⟨c, t, o, k1, k2⟩
  · exact (h.xs.base r d' _ k1 k2).2.1 hr
  · obtain ⟨_, _, _, _, k3, _⟩ := h.xs.xb c t o k1
    have := hrb k hr
    omega
/-- a step that changes nothing but new memory, and blocks that nobody names -/
theorem Sim.treewC (h : Sim w0 lim0 rb n st a w lim β) (hrb : ∀ k, some k = rb → k < w0.heap.size) (u : Upd) (v : Value) (hd : ∀ d, u.dst = some d → d < n) (hno : u.own = []) (hta : u.takes = []) (hbw : u.bw = none) (hrd : u.rd = none) (htag : u.ent.tag = none)
    (h1 : w'.os = w.os) (h2 : w'.tape = w.tape) (h3 : w'.output = w.output) (hs : w.heap.size ≤ w'.heap.size) (C : Nat → Prop) (hC : ∀ k, C k → freeB w0 rb st a w lim β k)
    (hk : ∀ k, k < w.heap.size → ¬ C k → w'.heap[k]? = w.heap[k]?) (hl : ∀ k, k < w.heap.size → lim' k = lim k) (hβ : β'.b = β.b)
    (hval : ∀ d, u.dst = some d → ERep (apply st u) w' lim' β' rb u.ent.av v)
    (hio : ∀ r d, st.io r = some d → ∃ d', (apply st u).io r = some d' ∧ d'.1 = d.1 ∧ β'.V r = β.V r)
    (hxb : ∀ b t o, st.xb b = some (t, o) → (∃ o', (apply st u).xb b = some (t, o')) ∧ β'.c b = β.c b)
    (hxs : (∀ l, st.own l = true → (apply st u).own l = true → locV (apply st u) (a.put u.dst v) w' β' l = locV st a w β l) → Own w0 rb (apply st u) (a.put u.dst v) w' lim' β') :
    Sim w0 lim0 rb n (apply st u) (a.put u.dst v) w' lim' β' := by
  have hnb : ∀ c d o q, u.bw ≠ some (c, d, o, q) := fun _ _ _ _ e => by rw [hbw] at e; cases e
  have noNew : ∀ l, ¬ newOwn u l := by
    intro l hl
    cases l with
    | tmp t p => have := hl.2; rw [hno] at this; cases this
    | box b p => obtain ⟨d, o, q, he, _⟩ := hl; exact hnb _ _ _ _ he
  have hext : Ext w lim w' lim' := ⟨hs, fun b oo z hb hu hz => by
    by_cases hc : C b
    · have := hu 0 (hC b hc).lim0; omega
    · exact (World.cell?_of_block (hk b hb hc)).trans hz, fun b m hb hu => by unfold under; rw [hl b hb]; exact hu⟩
  have hgrow : w0.grownBy w' rb := ⟨h1.trans h.grow.os, h2.trans h.grow.tape, h3.trans h.grow.output, Nat.le_trans h.grow.size hs, fun k hk' hne hX => by
    have hkk : w'.heap[k]? = w.heap[k]? := hk k (Nat.lt_of_lt_of_le hk' h.grow.size) (fun hc => by
      rcases (hC k hc).base with h4 | h4
      · omega
      · exact hX h4)
    exact hkk.trans (h.grow.block k hk' hne hX)⟩
  refine h.step u v w' lim' β' hd hext hgrow (fun b hb => hl b (Nat.lt_of_lt_of_le hb h.grow.size)) (fun b d _ => by rw [hβ]) hval (fun b d hbd _ => ?_) (fun l x g hst hx hg => ?_)
    (fun c d o q he => absurd he (hnb _ _ _ _)) (fun l hl => absurd hl (noNew l)) (fun l m x y g hl => absurd hl (noNew l)) (fun d l _ ht => by rw [htag] at ht; cases ht) (.inl ⟨hrd, fun d b hd' hb => ?_⟩) hio hxb (fun hst => hxs fun l hl hl' => ?_)
  · obtain ⟨cells, e, k1, _⟩ := h.box b d hbd
    have hlt := (Array.getElem?_eq_some_iff.1 k1).1
    exact ⟨hk _ hlt (fun hc => (hC _ hc).box b d hbd rfl), hl _ hlt⟩
  · have hlt := (h.lt hst.1 hx hg).1
    exact ⟨hk _ hlt (fun hc => (hC _ hc).own l x hst.1 hx hg), hl _ hlt⟩
  · have hlt := hrb b hb.symm
    have hlt' := Nat.lt_of_lt_of_le hlt h.grow.size
    refine ⟨hk _ hlt' (fun hc => ?_), hl _ hlt'⟩
    exact (hC _ hc).rb hb.symm
  · rcases own_apply hl' with hn | hs'
    · exact absurd hn (noNew l)
    · exact hst l hs'
/-- a step that changes nothing but trees and new memory -/
theorem Sim.treew (h : Sim w0 lim0 rb n st a w lim β) (hrb : ∀ k, some k = rb → k < w0.heap.size) (u : Upd) (v : Value) (hd : ∀ d, u.dst = some d → d < n) (hno : u.own = []) (hta : u.takes = []) (hbw : u.bw = none) (hrd : u.rd = none) (htag : u.ent.tag = none)
    (h1 : w'.os = w.os) (h2 : w'.tape = w.tape) (h3 : w'.output = w.output) (hs : w.heap.size ≤ w'.heap.size) (C : Nat → Prop) (hC : ∀ k, C k → isTree st β k)
    (hk : ∀ k, k < w.heap.size → ¬ C k → w'.heap[k]? = w.heap[k]?) (hl : ∀ k, k < w.heap.size → lim' k = lim k) (hβ : β'.b = β.b)
    (hval : ∀ d, u.dst = some d → ERep (apply st u) w' lim' β' rb u.ent.av v)
    (hio : ∀ r d, st.io r = some d → ∃ d', (apply st u).io r = some d' ∧ d'.1 = d.1 ∧ β'.V r = β.V r)
    (hxb : ∀ b t o, st.xb b = some (t, o) → (∃ o', (apply st u).xb b = some (t, o')) ∧ β'.c b = β.c b)
    (hxs : (∀ l, st.own l = true → (apply st u).own l = true → locV (apply st u) (a.put u.dst v) w' β' l = locV st a w β l) → Own w0 rb (apply st u) (a.put u.dst v) w' lim' β') :
    Sim w0 lim0 rb n (apply st u) (a.put u.dst v) w' lim' β' :=
  h.treewC hrb u v hd hno hta hbw hrd htag h1 h2 h3 hs C (fun k hk => tree_free h hrb (hC k hk)) hk hl hβ hval hio hxb hxs
theorem own_none {u : Upd} (hno : u.own = []) (hta : u.takes = []) (hbw : u.bw = none) {l : Loc} (h : (apply st u).own l = true) : st.own l = true := by
  rcases own_apply h with hn | hs
  · cases l with
    | tmp t p => have := hn.2; rw [hno] at this; cases this
    | box b p => obtain ⟨d, o, q, he, _⟩ := hn; rw [hbw] at he; cases he
  · exact hs.1

/-- a new tree -/
theorem Sim.newrootC (h : Sim w0 lim0 rb n st a w lim β) (hrb : ∀ k, some k = rb → k < w0.heap.size) {d : Tmp} (hd : d < n) (hfree : st.io d = none) (hd0 : d ≠ 0) (dat : Dat) (av : AV) (v : Value) (B0 : Nat → Prop)
    (h1 : w'.os = w.os) (h2 : w'.tape = w.tape) (h3 : w'.output = w.output) (hs : w.heap.size ≤ w'.heap.size) (C : Nat → Prop) (hC : ∀ k, C k → freeB w0 rb st a w lim β k ∧ ¬ isTree st β k) (hk : ∀ k, k < w.heap.size → ¬ C k → w'.heap[k]? = w.heap[k]?) (hl : ∀ k, k < w.heap.size → lim' k = lim k)
    (hX : XRep w' dat.1 dat.2 (flatV v) B0) (hB : ∀ g, B0 g → (w.heap.size ≤ g ∨ C g) ∧ lim' g = some 0) (hav : (av = .xf d [] ∧ v = wrapV dat.1 (flatV v)) ∨ (av = .xt d ∧ ∃ vs, v = .tuple vs.toArray ∧ TupSh dat.1 vs)) :
    Sim w0 lim0 rb n (apply st { upd0 (some d) av none with xw := some (d, dat) }) (a.put (some d) v) w' lim' { β with V := fun r => if r = d then v else β.V r, B := fun r => if r = d then B0 else β.B r } := by
  have hne : ∀ r x, st.io r = some x → r ≠ d := fun r x hr e => by rw [e, hfree] at hr; cases hr
  have hio : ∀ r, r ≠ d → (apply st { upd0 (some d) av none with xw := some (d, dat) }).io r = st.io r := fun r hr => by
    have : Nat.beq r d = false := by
      cases hq : Nat.beq r d with
      | true => exact absurd (nbeq hq) hr
      | false => rfl
    simp [apply, upd0, this]
  have hiod : (apply st { upd0 (some d) av none with xw := some (d, dat) }).io d = some dat := by simp [apply, upd0]
  have hxb : (apply st { upd0 (some d) av none with xw := some (d, dat) }).xb = st.xb := by simp [apply, upd0]
  have hbx : (apply st { upd0 (some d) av none with xw := some (d, dat) }).box = st.box := by simp [apply, upd0]
  refine h.treewC hrb { upd0 (some d) av none with xw := some (d, dat) } v (fun d' hd' => by injection hd' with hd'; rw [← hd']; exact hd) rfl rfl rfl rfl rfl h1 h2 h3 hs C (fun k hk' => (hC k hk').1) hk hl rfl (fun d' hd' => ?_)
    (fun r x hr => ⟨x, by rw [hio r (hne r x hr)]; exact hr, rfl, by simp [hne r x hr]⟩) (fun b t o hb => ⟨⟨o, by rw [hxb]; exact hb⟩, rfl⟩) (fun hst => ?_)
  · show ERep _ _ _ _ _ av v
    rcases hav with ⟨rfl, hv⟩ | ⟨rfl, vs, hv, hts⟩
    · refine ⟨dat, hiod, .inr ⟨dat.1, by cases dat.1 <;> rfl, ?_⟩⟩
      have e0 : offs dat.1 [] = 0 := by cases dat.1 <;> rfl
      simp only [if_true, e0, List.drop_zero]
      rw [← hX.length, List.take_length]; exact hv
    · exact ⟨dat, hiod, .inr ⟨by simp, vs, hv, hts⟩⟩
  · have cas : ∀ r x, (apply st { upd0 (some d) av none with xw := some (d, dat) }).io r = some x → (r = d ∧ x = dat) ∨ (r ≠ d ∧ st.io r = some x) := by
      intro r x hr
      by_cases e : r = d
      · subst e; rw [hiod] at hr; injection hr with hr; exact .inl ⟨rfl, hr.symm⟩
      · rw [hio r e] at hr; exact .inr ⟨e, hr⟩
    have old : ∀ r x g, st.io r = some x → β.B r g → g < w.heap.size := fun r x g hr hg => (h.xs.io r x hr).lt g hg
    have ownlt : ∀ l z g, (apply st { upd0 (some d) av none with xw := some (d, dat) }).own l = true → locV (apply st { upd0 (some d) av none with xw := some (d, dat) }) (a.put (some d) v) w' { β with V := fun r => if r = d then v else β.V r, B := fun r => if r = d then B0 else β.B r } l = some z → blockOf z = some g → st.own l = true ∧ locV st a w β l = some z ∧ g < w.heap.size := by
      intro l z g hl hz hg
      have ho := own_none (u := { upd0 (some d) av none with xw := some (d, dat) }) rfl rfl rfl hl
      replace hz := (hst l ho hl).symm.trans hz
      exact ⟨ho, hz, (h.lt ho hz hg).1⟩
    refine ⟨fun r x hr => ?_, fun r x g hr hg => ?_, fun r x g hr hg b d' hb he => ?_, fun r x g hr hg l z hl hz hgz => ?_, fun r x r' x' g hr hr' hg hg' => ?_, fun b t o hb => ?_, fun b t o hb => ?_, fun b c t o t' o' hb hc he => ?_, fun x hx hm => ?_⟩
    · rcases cas r x hr with ⟨rfl, rfl⟩ | ⟨e, hr⟩
      · simp only [if_true]; exact hX
      · have k2 := h.xs.io r x hr
        simp only [e, if_false]
        exact k2.keep fun g hg => hk g (old r x g hr hg) (fun hc => (hC g hc).2 (.inl ⟨r, x, hr, hg⟩))
    · rcases cas r x hr with ⟨rfl, rfl⟩ | ⟨e, hr⟩
      · simp only [if_true] at hg
        obtain ⟨k1, k2⟩ := hB g hg
        rcases k1 with k1 | k1
        · exact ⟨.inl (Nat.le_trans h.grow.size k1), fun e => (by have := hrb g e; have := h.grow.size; omega), k2⟩
        · exact ⟨(hC g k1).1.base, (hC g k1).1.rb, k2⟩
      · simp only [e, if_false] at hg
        obtain ⟨k1, k2, k3⟩ := h.xs.base r x g hr hg
        exact ⟨k1, k2, (hl g (old r x g hr hg)).trans k3⟩
    · rw [hbx] at hb
      rcases cas r x hr with ⟨rfl, rfl⟩ | ⟨e, hr⟩
      · simp only [if_true] at hg
        obtain ⟨cells, e, k1, _⟩ := h.box b d' hb
        have := (Array.getElem?_eq_some_iff.1 k1).1
        have he : β b = g := he
        rcases (hB g hg).1 with hq | hq
        · omega
        · exact (hC g hq).1.box b d' hb he
      · simp only [e, if_false] at hg
        exact h.xs.box r x g hr hg b d' hb he
    · obtain ⟨k1, k2, k3⟩ := ownlt l z g hl hz hgz
      rcases cas r x hr with ⟨rfl, rfl⟩ | ⟨e, hr⟩
      · simp only [if_true] at hg
        rcases (hB g hg).1 with hq | hq
        · omega
        · exact (hC g hq).1.own l z k1 k2 hgz
      · simp only [e, if_false] at hg
        exact h.xs.own r x g hr hg l z k1 k2 hgz
    · rcases cas r x hr with ⟨e1, e2⟩ | ⟨e, hs1⟩ <;> rcases cas r' x' hr' with ⟨e1', e2'⟩ | ⟨e', hs2⟩
      · rw [e1, e1']
      · simp only [e1, if_true] at hg
        simp only [e', if_false] at hg'
        rcases (hB g hg).1 with hq | hq
        · have := old r' x' g hs2 hg'; omega
        · exact absurd (.inl ⟨r', x', hs2, hg'⟩) (hC g hq).2
      · simp only [e1', if_true] at hg'
        simp only [e, if_false] at hg
        rcases (hB g hg').1 with hq | hq
        · have := old r x g hs1 hg; omega
        · exact absurd (.inl ⟨r, x, hs1, hg⟩) (hC g hq).2
      · simp only [e, if_false] at hg
        simp only [e', if_false] at hg'
        exact h.xs.dis r x r' x' g hs1 hs2 hg hg'
    · rw [hxb] at hb
      obtain ⟨cells, e, k1, k2, k3, k4, k5⟩ := h.xs.xb b t o hb
      have hlt := (Array.getElem?_eq_some_iff.1 k1).1
      refine ⟨cells, e, (hk _ hlt (fun hc => (hC _ hc).2 (.inr ⟨b, t, o, hb, rfl⟩))).trans k1, k2, k3, (hl _ hlt).trans k4, fun r q ho => ?_⟩
      obtain ⟨x, m1, m2⟩ := k5 r q ho
      have hr := hne r x m1
      exact ⟨x, by rw [hio r hr]; exact m1, by simp only [hr, if_false]; exact m2⟩
    · rw [hxb] at hb
      obtain ⟨k1, k2, k3⟩ := h.xs.xbox b t o hb
      obtain ⟨cells, e, m1, _⟩ := h.xs.xb b t o hb
      have hlt := (Array.getElem?_eq_some_iff.1 m1).1
      refine ⟨fun c x hc => by rw [hbx] at hc; exact k1 c x hc, fun l z hl hz hg => ?_, fun r x hr hg => ?_⟩
      · obtain ⟨q1, q2, _⟩ := ownlt l z _ hl hz hg
        exact k2 l z q1 q2 hg
      · rcases cas r x hr with ⟨rfl, rfl⟩ | ⟨e', hr⟩
        · simp only [if_true] at hg
          have hlt : β.c b < w.heap.size := hlt
          rcases (hB _ hg).1 with hq | hq
          · have : w.heap.size ≤ β.c b := hq
            omega
          · exact (hC _ hq).2 (.inr ⟨b, t, o, hb, rfl⟩)
        · simp only [e', if_false] at hg
          exact k3 r x hr hg
    · rw [hxb] at hb hc
      exact h.xs.xinj b c t o t' o' hb hc he
    · have e0 : (0 : Tmp) ≠ d := fun e => hd0 e.symm
      rw [hio 0 e0] at hx
      simp only [e0, if_false]
      exact h.xs.fix x hx hm

/-- a new tree -/
theorem Sim.newroot (h : Sim w0 lim0 rb n st a w lim β) (hrb : ∀ k, some k = rb → k < w0.heap.size) {d : Tmp} (hd : d < n) (hfree : st.io d = none) (hd0 : d ≠ 0) (dat : Dat) (av : AV) (v : Value) (B0 : Nat → Prop)
    (h1 : w'.os = w.os) (h2 : w'.tape = w.tape) (h3 : w'.output = w.output) (hs : w.heap.size ≤ w'.heap.size) (hk : ∀ k, k < w.heap.size → w'.heap[k]? = w.heap[k]?) (hl : ∀ k, k < w.heap.size → lim' k = lim k)
    (hX : XRep w' dat.1 dat.2 (flatV v) B0) (hB : ∀ g, B0 g → w.heap.size ≤ g ∧ lim' g = some 0) (hav : (av = .xf d [] ∧ v = wrapV dat.1 (flatV v)) ∨ (av = .xt d ∧ ∃ vs, v = .tuple vs.toArray ∧ TupSh dat.1 vs)) :
    Sim w0 lim0 rb n (apply st { upd0 (some d) av none with xw := some (d, dat) }) (a.put (some d) v) w' lim' { β with V := fun r => if r = d then v else β.V r, B := fun r => if r = d then B0 else β.B r } :=
  h.newrootC hrb hd hfree hd0 dat av v B0 h1 h2 h3 hs (fun _ => False) (fun _ hk => hk.elim) (fun k hk' _ => hk k hk') hl hX (fun g hg => ⟨.inl (hB g hg).1, (hB g hg).2⟩) hav

/-- a tree is written -/
theorem Sim.setroot (h : Sim w0 lim0 rb n st a w lim β) (hrb : ∀ k, some k = rb → k < w0.heap.size) (hd : ∀ d, o.dst = some d → d < n) {r : Tmp} {d d' : Dat} (hr : st.io r = some d) (hty : d'.1 = d.1) (av : AV) (v : Value)
    (h1 : w'.os = w.os) (h2 : w'.tape = w.tape) (h3 : w'.output = w.output) (hs : w.heap.size ≤ w'.heap.size) (hk : ∀ k, k < w.heap.size → ¬ β.B r k → w'.heap[k]? = w.heap[k]?)
    (hl : ∀ k, k < w.heap.size → lim' k = lim k)
    (hX : XRep w' d'.1 d'.2 (flatV (β.V r)) (β.B r)) (hval : ∀ d, o.dst = some d → ERep (apply st { upd0 o.dst av none with xw := some (r, d') }) w' lim' β rb av v) :
    Sim w0 lim0 rb n (apply st { upd0 o.dst av none with xw := some (r, d') }) (a.put o.dst v) w' lim' β := by
  have hio : ∀ k, k ≠ r → (apply st { upd0 o.dst av none with xw := some (r, d') }).io k = st.io k := fun k hk' => by
    have : Nat.beq k r = false := by
      cases hq : Nat.beq k r with
      | true => exact absurd (nbeq hq) hk'
      | false => rfl
    simp [apply, upd0, this]
  have hior : (apply st { upd0 o.dst av none with xw := some (r, d') }).io r = some d' := by simp [apply, upd0]
  have hxb : (apply st { upd0 o.dst av none with xw := some (r, d') }).xb = st.xb := by simp [apply, upd0]
  have hbx : (apply st { upd0 o.dst av none with xw := some (r, d') }).box = st.box := by simp [apply, upd0]
  have hB : ∀ g, β.B r g → g < w.heap.size := fun g hg => (h.xs.io r d hr).lt g hg
  refine h.treew hrb { upd0 o.dst av none with xw := some (r, d') } v hd rfl rfl rfl rfl rfl h1 h2 h3 hs (fun k => β.B r k) (fun k hk' => .inl ⟨r, d, hr, hk'⟩) hk hl rfl hval
    (fun k x hx => ?_) (fun b t o' hb => ⟨⟨o', by rw [hxb]; exact hb⟩, rfl⟩) (fun hst => ?_)
  · by_cases e : k = r
    · subst e; rw [hr] at hx; injection hx with hx; subst hx; exact ⟨d', hior, hty, rfl⟩
    · exact ⟨x, by rw [hio k e]; exact hx, rfl, rfl⟩
  · have cas : ∀ k x, (apply st { upd0 o.dst av none with xw := some (r, d') }).io k = some x → ∃ y, st.io k = some y ∧ x.1 = y.1 ∧ (k = r → x = d') ∧ (k ≠ r → x = y) := by
      intro k x hx
      by_cases e : k = r
      · subst e; rw [hior] at hx; injection hx with hx; subst hx; exact ⟨d, hr, hty, fun _ => rfl, fun h => absurd rfl h⟩
      · rw [hio k e] at hx; exact ⟨x, hx, rfl, fun h => absurd h e, fun _ => rfl⟩
    have old : ∀ k x g, st.io k = some x → β.B k g → g < w.heap.size := fun k x g hx hg => (h.xs.io k x hx).lt g hg
    have ownlt : ∀ l z g, (apply st { upd0 o.dst av none with xw := some (r, d') }).own l = true → locV (apply st { upd0 o.dst av none with xw := some (r, d') }) (a.put o.dst v) w' β l = some z → blockOf z = some g → st.own l = true ∧ locV st a w β l = some z := by
      intro l z g hl hz hg
      have ho := own_none (u := { upd0 o.dst av none with xw := some (r, d') }) rfl rfl rfl hl
      replace hz := (hst l ho hl).symm.trans hz
      exact ⟨ho, hz⟩
    refine ⟨fun k x hx => ?_, fun k x g hx hg => ?_, fun k x g hx hg b q hb he => ?_, fun k x g hx hg l z hl' hz hgz => ?_, fun k x k' x' g hx hx' hg hg' => ?_, fun b t q hb => ?_, fun b t q hb => ?_, fun b c t q t' q' hb hc he => ?_, fun x hx hm => ?_⟩
    · obtain ⟨y, k1, k2, k3, k4⟩ := cas k x hx
      by_cases e : k = r
      · have := k3 e; subst this; subst e
        exact hX
      · have := k4 e; subst this
        have m2 := h.xs.io k x k1
        exact m2.keep fun g hg => hk g (old k x g k1 hg) (fun hgr => e (h.xs.dis k x r d g k1 hr hg hgr))
    · obtain ⟨y, k1, _⟩ := cas k x hx
      obtain ⟨m1, m2, m3⟩ := h.xs.base k y g k1 hg
      exact ⟨m1, m2, (hl g (old k y g k1 hg)).trans m3⟩
    · obtain ⟨y, k1, _⟩ := cas k x hx
      rw [hbx] at hb
      exact h.xs.box k y g k1 hg b q hb he
    · obtain ⟨y, k1, _⟩ := cas k x hx
      obtain ⟨q1, q2⟩ := ownlt l z g hl' hz hgz
      exact h.xs.own k y g k1 hg l z q1 q2 hgz
    · obtain ⟨y, k1, _⟩ := cas k x hx
      obtain ⟨y', k1', _⟩ := cas k' x' hx'
      exact h.xs.dis k y k' y' g k1 k1' hg hg'
    · rw [hxb] at hb
      obtain ⟨cells, e, k1, k2, k3, k4, k5⟩ := h.xs.xb b t q hb
      have hlt := (Array.getElem?_eq_some_iff.1 k1).1
      refine ⟨cells, e, (hk _ hlt (fun hg => (h.xs.xbox b t q hb).2.2 r d hr hg)).trans k1, k2, k3, (hl _ hlt).trans k4, fun k p ho => ?_⟩
      obtain ⟨x, m1, m2⟩ := k5 k p ho
      by_cases e : k = r
      · subst e
        rw [hr] at m1; injection m1 with m1; subst m1
        exact ⟨d', hior, by rw [hty]; exact m2⟩
      · exact ⟨x, by rw [hio k e]; exact m1, m2⟩
    · rw [hxb] at hb
      obtain ⟨k1, k2, k3⟩ := h.xs.xbox b t q hb
      refine ⟨fun c x hc => by rw [hbx] at hc; exact k1 c x hc, fun l z hl' hz hg => ?_, fun k x hx hg => ?_⟩
      · obtain ⟨q1, q2⟩ := ownlt l z _ hl' hz hg
        exact k2 l z q1 q2 hg
      · obtain ⟨y, m1, _⟩ := cas k x hx
        exact k3 k y m1 hg
    · rw [hxb] at hb hc
      exact h.xs.xinj b c t q t' q' hb hc he
    · obtain ⟨y, k1, _⟩ := cas 0 x hx
      exact h.xs.fix y k1 hm

/-- a tree is written, and blocks that were free may be its own then -/
theorem Sim.setrootB (h : Sim w0 lim0 rb n st a w lim β) (hrb : ∀ k, some k = rb → k < w0.heap.size) (hd : ∀ d, o.dst = some d → d < n) {r : Tmp} {d d' : Dat} (hr : st.io r = some d) (hty : d'.1 = d.1) (av : AV) (v : Value) (B' C : Nat → Prop) (hC : ∀ k, C k → freeB w0 rb st a w lim β k ∧ ¬ isTree st β k) (hB' : ∀ k, B' k → β.B r k ∨ C k) (hCl : ∀ k, C k → k < w.heap.size) (hr0 : r ≠ 0)
    (h1 : w'.os = w.os) (h2 : w'.tape = w.tape) (h3 : w'.output = w.output) (hs : w.heap.size ≤ w'.heap.size) (hk : ∀ k, k < w.heap.size → ¬ β.B r k → w'.heap[k]? = w.heap[k]?)
    (hl : ∀ k, k < w.heap.size → lim' k = lim k)
    (hX : XRep w' d'.1 d'.2 (flatV (β.V r)) B') (hval : ∀ d, o.dst = some d → ERep (apply st { upd0 o.dst av none with xw := some (r, d') }) w' lim' { β with B := fun k => if k = r then B' else β.B k } rb av v) :
    Sim w0 lim0 rb n (apply st { upd0 o.dst av none with xw := some (r, d') }) (a.put o.dst v) w' lim' { β with B := fun k => if k = r then B' else β.B k } := by
  have hio : ∀ k, k ≠ r → (apply st { upd0 o.dst av none with xw := some (r, d') }).io k = st.io k := fun k hk' => by
    have : Nat.beq k r = false := by
      cases hq : Nat.beq k r with
      | true => exact absurd (nbeq hq) hk'
      | false => rfl
    simp [apply, upd0, this]
  have hior : (apply st { upd0 o.dst av none with xw := some (r, d') }).io r = some d' := by simp [apply, upd0]
  have hxb : (apply st { upd0 o.dst av none with xw := some (r, d') }).xb = st.xb := by simp [apply, upd0]
  have hbx : (apply st { upd0 o.dst av none with xw := some (r, d') }).box = st.box := by simp [apply, upd0]
  have hB : ∀ g, β.B r g → g < w.heap.size := fun g hg => (h.xs.io r d hr).lt g hg
  refine h.treew hrb { upd0 o.dst av none with xw := some (r, d') } v hd rfl rfl rfl rfl rfl h1 h2 h3 hs (fun k => β.B r k) (fun k hk' => .inl ⟨r, d, hr, hk'⟩) hk hl rfl hval
    (fun k x hx => ?_) (fun b t o' hb => ⟨⟨o', by rw [hxb]; exact hb⟩, rfl⟩) (fun hst => ?_)
  · by_cases e : k = r
    · subst e; rw [hr] at hx; injection hx with hx; subst hx; exact ⟨d', hior, hty, rfl⟩
    · exact ⟨x, by rw [hio k e]; exact hx, rfl, rfl⟩
  · have cas : ∀ k x, (apply st { upd0 o.dst av none with xw := some (r, d') }).io k = some x → ∃ y, st.io k = some y ∧ x.1 = y.1 ∧ (k = r → x = d') ∧ (k ≠ r → x = y) := by
      intro k x hx
      by_cases e : k = r
      · subst e; rw [hior] at hx; injection hx with hx; subst hx; exact ⟨d, hr, hty, fun _ => rfl, fun h => absurd rfl h⟩
      · rw [hio k e] at hx; exact ⟨x, hx, rfl, fun h => absurd h e, fun _ => rfl⟩
    have old : ∀ k x g, st.io k = some x → β.B k g → g < w.heap.size := fun k x g hx hg => (h.xs.io k x hx).lt g hg
    have ownlt : ∀ l z g, (apply st { upd0 o.dst av none with xw := some (r, d') }).own l = true → locV (apply st { upd0 o.dst av none with xw := some (r, d') }) (a.put o.dst v) w' { β with B := fun k => if k = r then B' else β.B k } l = some z → blockOf z = some g → st.own l = true ∧ locV st a w β l = some z := by
      intro l z g hl hz hg
      have ho := own_none (u := { upd0 o.dst av none with xw := some (r, d') }) rfl rfl rfl hl
      replace hz := (hst l ho hl).symm.trans hz
      exact ⟨ho, hz⟩
    refine ⟨fun k x hx => ?_, fun k x g hx hg => ?_, fun k x g hx hg b q hb he => ?_, fun k x g hx hg l z hl' hz hgz => ?_, fun k x k' x' g hx hx' hg hg' => ?_, fun b t q hb => ?_, fun b t q hb => ?_, fun b c t q t' q' hb hc he => ?_, fun x hx hm => ?_⟩
    · obtain ⟨y, k1, k2, k3, k4⟩ := cas k x hx
      by_cases e : k = r
      · have := k3 e; subst this; subst e
        simp only [if_true]
        exact hX
      · have := k4 e; subst this
        have m2 := h.xs.io k x k1
        simp only [e, if_false]
        exact m2.keep fun g hg => hk g (old k x g k1 hg) (fun hgr => e (h.xs.dis k x r d g k1 hr hg hgr))
    · obtain ⟨y, k1, _⟩ := cas k x hx
      by_cases e : k = r
      · subst e
        simp only [if_true] at hg
        rcases hB' g hg with hq | hq
        · obtain ⟨m1, m2, m3⟩ := h.xs.base k y g k1 hq
          exact ⟨m1, m2, (hl g (old k y g k1 hq)).trans m3⟩
        · exact ⟨(hC g hq).1.base, (hC g hq).1.rb, (hl g (hCl g hq)).trans (hC g hq).1.lim0⟩
      · simp only [e, if_false] at hg
        obtain ⟨m1, m2, m3⟩ := h.xs.base k y g k1 hg
        exact ⟨m1, m2, (hl g (old k y g k1 hg)).trans m3⟩
    · obtain ⟨y, k1, _⟩ := cas k x hx
      rw [hbx] at hb
      by_cases e : k = r
      · subst e
        simp only [if_true] at hg
        rcases hB' g hg with hq | hq
        · exact h.xs.box k y g k1 hq b q hb he
        · exact (hC g hq).1.box b q hb he
      · simp only [e, if_false] at hg
        exact h.xs.box k y g k1 hg b q hb he
    · obtain ⟨y, k1, _⟩ := cas k x hx
      obtain ⟨q1, q2⟩ := ownlt l z g hl' hz hgz
      by_cases e : k = r
      · subst e
        simp only [if_true] at hg
        rcases hB' g hg with hq | hq
        · exact h.xs.own k y g k1 hq l z q1 q2 hgz
        · exact (hC g hq).1.own l z q1 q2 hgz
      · simp only [e, if_false] at hg
        exact h.xs.own k y g k1 hg l z q1 q2 hgz
    · obtain ⟨y, k1, _⟩ := cas k x hx
      obtain ⟨y', k1', _⟩ := cas k' x' hx'
      by_cases e : k = r <;> by_cases e' : k' = r
      · rw [e, e']
      · subst e
        simp only [if_true] at hg
        simp only [e', if_false] at hg'
        rcases hB' g hg with hq | hq
        · exact h.xs.dis k y k' y' g k1 k1' hq hg'
        · exact absurd (.inl ⟨k', y', k1', hg'⟩) (hC g hq).2
      · subst e'
        simp only [if_true] at hg'
        simp only [e, if_false] at hg
        rcases hB' g hg' with hq | hq
        · exact h.xs.dis k y k' y' g k1 k1' hg hq
        · exact absurd (.inl ⟨k, y, k1, hg⟩) (hC g hq).2
      · simp only [e, if_false] at hg
        simp only [e', if_false] at hg'
        exact h.xs.dis k y k' y' g k1 k1' hg hg'
    · rw [hxb] at hb
      obtain ⟨cells, e, k1, k2, k3, k4, k5⟩ := h.xs.xb b t q hb
      have hlt := (Array.getElem?_eq_some_iff.1 k1).1
      refine ⟨cells, e, (hk _ hlt (fun hg => (h.xs.xbox b t q hb).2.2 r d hr hg)).trans k1, k2, k3, (hl _ hlt).trans k4, fun k p ho => ?_⟩
      obtain ⟨x, m1, m2⟩ := k5 k p ho
      by_cases e : k = r
      · subst e
        rw [hr] at m1; injection m1 with m1; subst m1
        exact ⟨d', hior, by rw [hty]; exact m2⟩
      · exact ⟨x, by rw [hio k e]; exact m1, m2⟩
    · rw [hxb] at hb
      obtain ⟨k1, k2, k3⟩ := h.xs.xbox b t q hb
      refine ⟨fun c x hc => by rw [hbx] at hc; exact k1 c x hc, fun l z hl' hz hg => ?_, fun k x hx hg => ?_⟩
      · obtain ⟨q1, q2⟩ := ownlt l z _ hl' hz hg
        exact k2 l z q1 q2 hg
      · obtain ⟨y, m1, _⟩ := cas k x hx
        by_cases e : k = r
        · subst e
          simp only [if_true] at hg
          rcases hB' _ hg with hq | hq
          · exact k3 k y m1 hq
          · exact (hC _ hq).2 (.inr ⟨b, t, q, hb, rfl⟩)
        · simp only [e, if_false] at hg
          exact k3 k y m1 hg
    · rw [hxb] at hb hc
      exact h.xs.xinj b c t q t' q' hb hc he
    · obtain ⟨y, k1, _⟩ := cas 0 x hx
      have e0 : (0 : Tmp) ≠ r := fun e => hr0 e.symm
      simp only [e0, if_false]
      exact h.xs.fix y k1 hm

/-- a box for a tree's value is made, or filled -/
theorem Sim.setxb (h : Sim w0 lim0 rb n st a w lim β) (hrb : ∀ k, some k = rb → k < w0.heap.size) (dst : Option Tmp) (hd : ∀ d, dst = some d → d < n) {b : Tmp} {ty : Ty} {ro : Option (Tmp × List Nat)} {g : Nat} (av : AV) (v : Value)
    (hnew : st.xb b = none ∨ (∃ o', st.xb b = some (ty, o')) ∧ β.c b = g) (hfresh : st.xb b = none → w.heap.size ≤ g)
    (h1 : w'.os = w.os) (h2 : w'.tape = w.tape) (h3 : w'.output = w.output) (hs : w.heap.size ≤ w'.heap.size) (hk : ∀ k, k < w.heap.size → k ≠ g → w'.heap[k]? = w.heap[k]?)
    (hl : ∀ k, k < w.heap.size → lim' k = lim k) {cells : Array Value} {e0 : TypeId} (hg : w'.heap[g]? = some (.cells cells e0 (0, 0))) (hsz : cells.size = ty.size) (hlg : lim' g = some 0)
    (hro : ∀ r q, ro = some (r, q) → ∃ d, st.io r = some d ∧ (d.1 = .unit ∨ (typeAt d.1 q = some ty ∧ cells.toList = ((flatV (β.V r)).drop (offs d.1 q)).take ty.size)))
    (hval : ∀ d, dst = some d → ERep (apply st { upd0 dst av none with xbw := some (b, ty, ro) }) w' lim' { β with c := fun k => if k = b then g else β.c k } rb av v) :
    Sim w0 lim0 rb n (apply st { upd0 dst av none with xbw := some (b, ty, ro) }) (a.put dst v) w' lim' { β with c := fun k => if k = b then g else β.c k } := by
  have hio : (apply st { upd0 dst av none with xbw := some (b, ty, ro) }).io = st.io := by simp [apply, upd0]
  have hxo : ∀ k, k ≠ b → (apply st { upd0 dst av none with xbw := some (b, ty, ro) }).xb k = st.xb k := fun k hk' => by
    have : Nat.beq k b = false := by
      cases hq : Nat.beq k b with
      | true => exact absurd (nbeq hq) hk'
      | false => rfl
    simp [apply, upd0, this]
  have hxn : (apply st { upd0 dst av none with xbw := some (b, ty, ro) }).xb b = some (ty, ro) := by simp [apply, upd0]
  have hbx : (apply st { upd0 dst av none with xbw := some (b, ty, ro) }).box = st.box := by simp [apply, upd0]
  have hgt : isTree st β g ∨ w.heap.size ≤ g := by
    rcases hnew with hn | ⟨⟨o', hn⟩, he⟩
    · exact .inr (hfresh hn)
    · exact .inl (.inr ⟨b, ty, o', hn, he.symm⟩)
  have hbase : w0.heap.size ≤ g := by
    rcases hnew with hn | ⟨⟨o', hn⟩, he⟩
    · exact Nat.le_trans h.grow.size (hfresh hn)
    · obtain ⟨_, _, _, _, k3, _⟩ := h.xs.xb b ty o' hn; omega
  have noroot : ∀ r d, st.io r = some d → ¬ β.B r g := by
    intro r d hr hgr
    rcases hnew with hn | ⟨⟨o', hn⟩, he⟩
    · have := (h.xs.io r d hr).lt g hgr; have := hfresh hn; omega
    · exact (h.xs.xbox b ty o' hn).2.2 r d hr (by rw [he]; exact hgr)
  have nobox : ∀ c d, st.box c = some d → β c ≠ g := by
    intro c d hc he
    rcases hgt with ht | ht
    · exact h.xs.offb hc (by rw [he]; exact ht)
    · obtain ⟨cs, e, k1, _⟩ := h.box c d hc
      have := (Array.getElem?_eq_some_iff.1 k1).1
      have he : β c = g := he
      omega
  have noown : ∀ l z, st.own l = true → locV st a w β l = some z → blockOf z ≠ some g := by
    intro l z hl' hz hgz
    rcases hgt with ht | ht
    · exact h.xs.off hl' hz hgz ht
    · have := (h.lt hl' hz hgz).1; omega
  have other : ∀ c t o', c ≠ b → st.xb c = some (t, o') → β.c c ≠ g := by
    intro c t o' hcb hc he
    rcases hnew with hn | ⟨⟨o2, hn⟩, he2⟩
    · obtain ⟨cs, e, k1, _⟩ := h.xs.xb c t o' hc
      have := (Array.getElem?_eq_some_iff.1 k1).1
      have := hfresh hn
      have : β.c c < w.heap.size := by assumption
      omega
    · exact hcb (h.xs.xinj c b t o' ty o2 hc hn (he.trans he2.symm))
  refine h.treew hrb { upd0 dst av none with xbw := some (b, ty, ro) } v hd rfl rfl rfl rfl rfl h1 h2 h3 hs (fun k => k = g ∧ isTree st β g) (fun k hk' => by rw [hk'.1]; exact hk'.2)
    (fun k hk' hn => hk k hk' (fun e => by
      rcases hgt with ht | ht
      · exact hn ⟨e, ht⟩
      · omega)) hl rfl hval (fun r x hr => ⟨x, by rw [hio]; exact hr, rfl, rfl⟩) (fun c t o' hc => ?_) (fun hst => ?_)
  · by_cases e : c = b
    · subst e
      rcases hnew with hn | ⟨⟨o2, hn⟩, he⟩
      · rw [hn] at hc; cases hc
      · rw [hn] at hc; injection hc with hc; injection hc with e1 e2; subst e1
        exact ⟨⟨ro, hxn⟩, by simp [he]⟩
    · exact ⟨⟨o', by rw [hxo c e]; exact hc⟩, by simp [e]⟩
  · have ownlt : ∀ l z g', (apply st { upd0 dst av none with xbw := some (b, ty, ro) }).own l = true → locV (apply st { upd0 dst av none with xbw := some (b, ty, ro) }) (a.put dst v) w' { β with c := fun k => if k = b then g else β.c k } l = some z → blockOf z = some g' → st.own l = true ∧ locV st a w β l = some z := by
      intro l z g' hl' hz hg'
      have ho := own_none (u := { upd0 dst av none with xbw := some (b, ty, ro) }) rfl rfl rfl hl'
      replace hz := (hst l ho hl').symm.trans hz
      exact ⟨ho, hz⟩
    have old : ∀ k x g', st.io k = some x → β.B k g' → g' < w.heap.size := fun k x g' hx hg' => (h.xs.io k x hx).lt g' hg'
    refine ⟨fun k x hx => ?_, fun k x g' hx hg' => ?_, fun k x g' hx hg' c q hb he => ?_, fun k x g' hx hg' l z hl' hz hgz => ?_, fun k x k' x' g' hx hx' hg' hg2 => ?_, fun c t q hb => ?_, fun c t q hb => ?_, fun c c' t q t' q' hb hc he => ?_, fun x hx hm => ?_⟩
    · rw [hio] at hx
      have m2 := h.xs.io k x hx
      exact m2.keep fun g' hg' => hk g' (old k x g' hx hg') (fun e => noroot k x hx (by rw [← e]; exact hg'))
    · rw [hio] at hx
      obtain ⟨m1, m2, m3⟩ := h.xs.base k x g' hx hg'
      exact ⟨m1, m2, (hl g' (old k x g' hx hg')).trans m3⟩
    · rw [hio] at hx; rw [hbx] at hb
      exact h.xs.box k x g' hx hg' c q hb he
    · rw [hio] at hx
      obtain ⟨q1, q2⟩ := ownlt l z g' hl' hz hgz
      exact h.xs.own k x g' hx hg' l z q1 q2 hgz
    · rw [hio] at hx hx'
      exact h.xs.dis k x k' x' g' hx hx' hg' hg2
    · by_cases e : c = b
      · subst e
        rw [hxn] at hb; injection hb with hb; injection hb with e1 e2; subst e1; subst e2
        simp only [if_true]
        refine ⟨cells, e0, hg, hsz, hbase, hlg, fun r p hrp => ?_⟩
        obtain ⟨x, m1, m2⟩ := hro r p hrp
        exact ⟨x, by rw [hio]; exact m1, m2⟩
      · rw [hxo c e] at hb
        simp only [e, if_false]
        obtain ⟨cs, e1, k1, k2, k3, k4, k5⟩ := h.xs.xb c t q hb
        have hlt := (Array.getElem?_eq_some_iff.1 k1).1
        refine ⟨cs, e1, (hk _ hlt (other c t q e hb)).trans k1, k2, k3, (hl _ hlt).trans k4, fun r p hrp => ?_⟩
        obtain ⟨x, m1, m2⟩ := k5 r p hrp
        exact ⟨x, by rw [hio]; exact m1, m2⟩
    · by_cases e : c = b
      · subst e
        simp only [if_true]
        refine ⟨fun k x hx he => ?_, fun l z hl' hz hgz => ?_, fun k x hx hgk => ?_⟩
        · rw [hbx] at hx; exact nobox k x hx he
        · obtain ⟨q1, q2⟩ := ownlt l z _ hl' hz hgz
          exact noown l z q1 q2 hgz
        · rw [hio] at hx; exact noroot k x hx hgk
      · rw [hxo c e] at hb
        simp only [e, if_false]
        obtain ⟨k1, k2, k3⟩ := h.xs.xbox c t q hb
        refine ⟨fun k x hx => ?_, fun l z hl' hz hgz => ?_, fun k x hx => ?_⟩
        · rw [hbx] at hx; exact k1 k x hx
        · obtain ⟨q1, q2⟩ := ownlt l z _ hl' hz hgz
          exact k2 l z q1 q2 hgz
        · rw [hio] at hx; exact k3 k x hx
    · by_cases e : c = b <;> by_cases e' : c' = b
      · rw [e, e']
      · subst e
        rw [hxo c' e'] at hc
        simp only [if_true, e', if_false] at he
        exact absurd he.symm (other c' t' q' e' hc)
      · subst e'
        rw [hxo c e] at hb
        simp only [if_true, e, if_false] at he
        exact absurd he (other c t q e hb)
      · rw [hxo c e] at hb
        rw [hxo c' e'] at hc
        simp only [e, e', if_false] at he
        exact h.xs.xinj c c' t q t' q' hb hc he
    · rw [hio] at hx
      exact h.xs.fix x hx hm
end
end Go.Den

namespace Go.Den

def ArgsRep (w : World) (lim : Lim) (rb : Option Nat) : (t : Ty) → t.val → List Value → Prop
  | .unit, _, [] => True
  | .prod a b, x, v :: vs => ((a ≠ .unit ∧ TRep w lim a x.1 v) ∨ (a = .unit ∧ ∃ g, rb = some g ∧ v = .pointer (some ⟨g, 0, none⟩))) ∧ ArgsRep w lim rb b x.2 vs
  | _, _, _ => False

/-- what a function's call comes to, when its reading gives 'r' -/
def RetOk (w : World) (lim : Lim) (rb : Option Nat) (s : Sig) (r : s.rty.val × s.rdty.val) (e : Ending) (w' : World) : Prop :=
  ∃ v lim', e = .returned v ∧ w.grownBy w' rb ∧ (∀ b, b < w.heap.size → lim' b = lim b) ∧ ERep st00 w' lim' mp0 none (resAV s.rty s.one r.1) v ∧
    (∀ p ∈ resOwn s.one s.own, ∃ e x, typeAV p (resAV s.rty s.one r.1) = some (.slice e) ∧ partAV v p (resAV s.rty s.one r.1) = some x ∧ Tip w' lim' w.heap.size e.size x) ∧
    (∀ p ∈ resOwn s.one s.own, ∀ q ∈ resOwn s.one s.own, ∀ x y g, partAV v p (resAV s.rty s.one r.1) = some x → partAV v q (resAV s.rty s.one r.1) = some y → blockOf x = some g → blockOf y = some g → p = q) ∧
    (s.usesRd = true → ∃ b cells e, rb = some b ∧ w'.heap[b]? = some (.cells cells e (0, 0)) ∧ CRep w' lim' s.rdty r.2 cells.toList)
/-- what a function needs of the reader -/
def RdIn (w : World) (lim : Lim) (rb : Option Nat) (s : Sig) (rd : s.rdty.val) : Prop :=
  (s.usesRd = true → ∃ b cells e, rb = some b ∧ w.heap[b]? = some (.cells cells e (0, 0)) ∧ CRep w lim s.rdty rd cells.toList ∧ lim b = some 0) ∧ (s.usesRd = false → rb = none)

/-- a call that hands out a pointer to a new box -/
def OpenOk (w : World) (lim : Lim) (t : Ty) (x : t.val) (e : Ending) (w' : World) : Prop :=
  ∃ b lim' cells e0, e = .returned (.pointer (some ⟨b, 0, none⟩)) ∧ w.grownBy w' none ∧ (∀ k, k < w.heap.size → lim' k = lim k) ∧ w.heap.size ≤ b ∧
    w'.heap[b]? = some (.cells cells e0 (0, 0)) ∧ CRep w' lim' t x cells.toList ∧ lim' b = some 0
/-- the arguments of a call that writes the arrays of the first one -/
def ArgsMut (w : World) (lim : Lim) : (t : Ty) → t.val → (rdty : Ty) → rdty.val → (Nat → Prop) → List Value → Prop
  | .prod .unit b, x, rdty, rd, B, v :: vs => (∃ cs, v = wrapV rdty cs ∧ XRep w rdty rd cs B) ∧ ArgsRep w lim none b x.2 vs
  | _, _, _, _, _, _ => False
def MutOk (w : World) (s : Sig) (r : s.rty.val × s.rdty.val) (B : Nat → Prop) (vals : List Value) (e : Ending) (w' : World) : Prop :=
  ∃ v, e = .returned v ∧ w'.os = w.os ∧ w'.tape = w.tape ∧ w'.output = w.output ∧ w.heap.size ≤ w'.heap.size ∧ (∀ k, k < w.heap.size → ¬ B k → w'.heap[k]? = w.heap[k]?) ∧
    ERep st00 w' (fun _ => none) mp0 none (resAV s.rty s.one r.1) v ∧ ∃ cs, vals.head? = some (wrapV s.rdty cs) ∧ XRep w' s.rdty r.2 cs B
structure FnOk (P : Program) (f : FuncId) (s : Sig) : Prop where
  enters : ∀ args (w : World), (callFunc f args).run P w = .ok (.enter f args) w
  calls : s.fv = none → s.opens = false → s.muts = false → ∀ (x : s.aty.val) (rd : s.rdty.val) r, s.fn x rd = some r → ∀ (w : World) (lim : Lim) (rb : Option Nat) (vals : List Value), ArgsRep w lim rb s.aty x vals → RdIn w lim rb s rd →
    Calls P f vals.toArray w (RetOk w lim rb s r)
  callsF : ∀ g, s.fv = some g → s.opens = false → s.muts = false → s.usesRd = false → ∀ (x : s.aty.val) (rd : s.rdty.val) r, s.fn x rd = some r → ∀ (w : World) (lim : Lim) (vals : List Value), ArgsRep w lim none s.aty x vals →
    Calls P f (vals ++ [Value.func (.func g) #[] #[]]).toArray w (RetOk w lim none s r)
  opened : s.fv = none → s.opens = true → ∀ (x : s.aty.val) (rd : s.rdty.val) r, s.fn x rd = some r → ∀ (w : World) (lim : Lim) (vals : List Value), ArgsRep w lim none s.aty x vals →
    Calls P f vals.toArray w (OpenOk w lim s.rty r.1)
  mutd : s.fv = none → s.muts = true → ∀ (x : s.aty.val) (rd : s.rdty.val) r, s.fn x rd = some r → ∀ (w : World) (lim : Lim) (vals : List Value) (B : Nat → Prop), ArgsMut w lim s.aty x s.rdty rd B vals → (∀ g, B g → lim g = some 0) →
    Calls P f vals.toArray w (MutOk w s r B vals)
def GamOk (P : Program) (G : Gam) : Prop := ∀ f s, G f = some s → FnOk P f s

theorem resAV_cases (t : Ty) (one : Bool) (x : t.val) : (∃ u y, resAV t one x = .dat u y) ∨ resAV t one x = .tup t x := by
  unfold resAV
  split
  · exact .inl ⟨_, _, rfl⟩
  · exact .inr rfl
theorem ERep_res {st : St} {w : World} {lim : Lim} {β : Mp} {rb : Option Nat} {t : Ty} {one : Bool} {x : t.val} {v : Value} (h : ERep st00 w lim mp0 none (resAV t one x) v) : ERep st w lim β rb (resAV t one x) v := by
  rcases resAV_cases t one x with ⟨u, y, he⟩ | he <;> rw [he] at h ⊢ <;> exact h

section
variable {P : Program} {tab : Tab} {G : Gam} {w0 : Base} {lim0 : Lim} {rb : Option Nat} {n : Nat}
variable {st st' : St} {a : Act} {w w' : World} {lim lim' : Lim} {β : Mp} {o : Oper} {c : Comp}

/-- the block of the reader that is handed on -/
def rvBlock (rb : Option Nat) (β : Mp) : Option AV → Option Nat
  | some (.rdr _) => rb
  | some (.cel b _) => some (β b)
  | _ => none
theorem asArg_rep {rv : Option AV} {t : Ty} {av : AV} {x : t.val} (hx : asArg rv t av = some x) {v : Value} (hv : ERep st w lim β rb av v) : (t ≠ .unit ∧ TRep w lim t x v) ∨ (t = .unit ∧ ∃ g, rvBlock rb β rv = some g ∧ v = .pointer (some ⟨g, 0, none⟩)) := by
  unfold asArg at hx
  split at hx
  · obtain ⟨d, b, h1, h2, h3⟩ := hv
    split at hx
    · exact .inr ⟨rfl, b, h2, by simpa [offs] using h3⟩
    · cases hx
  · obtain ⟨d, h1, h2⟩ := hv
    split at hx
    · rename_i b _ c
      cases hq : Nat.beq b c with
      | false => rw [hq] at hx; cases hx
      | true =>
        have := nbeq hq; subst this
        exact .inr ⟨rfl, β b, rfl, by simpa [offs] using h2⟩
    · cases hx
  · cases hx
  · rename_i h0 h1 h2
    exact .inl ⟨fun e => by first | exact h0 e | exact h1 e | exact h2 e, as_rep hx hv⟩
theorem packArgs_rep {rv : Option AV} : ∀ {t : Ty} {avs : List AV} {x : t.val} {vals : List Value}, packArgs rv t avs = some x → avs.length = vals.length → (∀ (i : Nat) av v, avs[i]? = some av → vals[i]? = some v → ERep st w lim β rb av v) →
    ArgsRep w lim (rvBlock rb β rv) t x vals := by
  intro t
  induction t with
  | prod p q ihp ihq =>
    intro avs x vals hx hl hr
    cases avs with
    | nil => cases hx
    | cons av avs =>
      cases vals with
      | nil => simp at hl
      | cons v vals =>
        simp only [packArgs] at hx
        cases h1 : asArg rv p av with
        | none => rw [h1] at hx; cases hx
        | some y =>
          cases h2 : packArgs rv q avs with
          | none => rw [h1, h2] at hx; cases hx
          | some z =>
            rw [h1, h2] at hx; injection hx with hx; subst hx
            exact ⟨asArg_rep h1 (hr 0 av v rfl rfl), ihq h2 (by simpa using hl) (fun i av' v' hi hj => hr (i + 1) av' v' (by simpa using hi) (by simpa using hj))⟩
  | unit =>
    intro avs x vals hx hl hr
    cases avs with
    | nil => cases vals with
      | nil => trivial
      | cons v vs => simp at hl
    | cons av avs => cases hx
  | int k => intro avs x vals hx; cases avs <;> cases hx
  | bool => intro avs x vals hx; cases avs <;> cases hx
  | str => intro avs x vals hx; cases avs <;> cases hx
  | slice t => intro avs x vals hx; cases avs <;> cases hx

theorem St.ext' {x y : St} (h1 : x.env = y.env) (h2 : x.box = y.box) (h3 : x.own = y.own) (h4 : x.rd = y.rd) (h5 : x.kn = y.kn) (h6 : x.io = y.io) (h7 : x.xb = y.xb) (h8 : x.mkt = y.mkt) : x = y := by
  cases x; cases y; simp only at h1 h2 h3 h4 h5 h6 h7 h8
  subst h1; subst h2; subst h3; subst h4; subst h5; subst h6; subst h7; subst h8; rfl
theorem apply_own {u : Upd} {d : Tmp} (hd : u.dst = some d) (ps : List (List Nat)) (st : St) : apply st { u with own := ps } = { apply st { u with own := [] } with own := fun l => match l with
      | .tmp t p => cnd (Nat.beq t d) (inPaths p ps) ((apply st { u with own := [] }).own (.tmp t p))
      | .box b p => (apply st { u with own := [] }).own (.box b p) } := by
  refine St.ext' rfl rfl ?_ rfl rfl rfl rfl rfl
  funext l
  cases l with
  | tmp t p =>
    simp only [apply, hd]
    have e : isT t (some d) = Nat.beq t d := rfl
    rw [e]
    cases Nat.beq t d <;> rfl
  | box b p => rfl
theorem gain_call (h : Sim w0 lim0 rb n st a w lim β) (hd : ∀ d, o.dst = some d → d < n) {u : Upd} {v : Value} {ps : List (List Nat)} (hu : u.dst = o.dst) (hent : u.ent.tag = none) {b : Tmp} {dd d2 : Dat} (hb : u.bw = some (b, dd, [], [])) (hbx : st.box b = some d2) (hio : (apply st { u with own := [] }).io = st.io) (hxb : (apply st { u with own := [] }).xb = st.xb)
    (hw : ∀ k, k < w.heap.size → k ≠ β b → w'.heap[k]? = w.heap[k]?)
    (hS : Sim w0 lim0 rb n (apply st { u with own := [] }) (a.put o.dst v) w' lim' β)
    (g4 : ∀ p ∈ ps, ∃ e x, typeAV p u.ent.av = some (.slice e) ∧ partAV v p u.ent.av = some x ∧ Tip w' lim' w.heap.size e.size x)
    (g5 : ∀ p ∈ ps, ∀ q ∈ ps, ∀ x y g, partAV v p u.ent.av = some x → partAV v q u.ent.av = some y → blockOf x = some g → blockOf y = some g → p = q) :
    Sim w0 lim0 rb n (apply st { u with own := ps }) (a.put o.dst v) w' lim' β := by
  cases hod : o.dst with
  | none =>
    have hu0 : u.dst = none := hu.trans hod
    have e : apply st { u with own := ps } = apply st { u with own := [] } := by
      refine St.ext' rfl rfl ?_ rfl rfl rfl rfl rfl
      funext l
      cases l with
      | tmp t p => simp only [apply, hu0, isT, cnd_false]
      | box b p => rfl
    rw [e, ← hod]; exact hS
  | some d =>
    have hud : u.dst = some d := hu.trans hod
    rw [apply_own hud]
    have hS' := hS
    rw [hod] at hS'
    have look : ∀ p, locTy (apply st { u with own := [] }) (.tmp d p) = typeAV p u.ent.av ∧ locV (apply st { u with own := [] }) (a.put (some d) v) w' β (.tmp d p) = partAV v p u.ent.av := by
      intro p
      have e := apply_env_dst (st := st) (u := { u with own := [] }) hud
      refine ⟨by rw [locTy_tmp, e], ?_⟩
      rw [locV_tmp, e, tmpOf_put_eq (by rw [h.size]; exact hd d hod)]
    have tipw : ∀ {sz x}, Tip w' lim' w.heap.size sz x → Tip w' lim' w0.heap.size sz x ∧ ∀ g, blockOf x = some g → w.heap.size ≤ g := by
      intro sz x ht
      rcases ht with ht | ⟨b', m, cc, arr, el, fr, q1, q2, q3⟩
      · exact ⟨.inl ht, fun g hg => by rw [ht] at hg; cases hg⟩
      · exact ⟨.inr ⟨b', m, cc, arr, el, fr, q1, Nat.le_trans h.grow.size q2, q3⟩, fun g hg => by rw [q1] at hg; injection hg with hg; rw [← hg]; exact q2⟩
    have boxlt : ∀ c d', (apply st { u with own := [] }).box c = some d' → β c < w.heap.size := by
      intro c d' hc
      by_cases hcb : c = b
      · subst hcb
        obtain ⟨_, _, k1, _⟩ := h.box c d2 hbx
        exact (Array.getElem?_eq_some_iff.1 k1).1
      · have hq : Nat.beq c b = false := by
          cases hq : Nat.beq c b with
          | true => exact absurd (nbeq hq) hcb
          | false => rfl
        have hc0 : st.box c = some d' := by simpa [apply, hb, hq] using hc
        obtain ⟨_, _, k1, _⟩ := h.box c d' hc0
        exact (Array.getElem?_eq_some_iff.1 k1).1
    have ownlt : ∀ m y g, (apply st { u with own := [] }).own m = true → locV (apply st { u with own := [] }) (a.put (some d) v) w' β m = some y → blockOf y = some g → g < w.heap.size := by
      intro m y g hm hy hg
      rcases own_apply hm with hn | hs
      · exfalso
        cases m with
        | tmp t p => cases hn.2
        | box c p =>
          obtain ⟨d', o', q', he, hp⟩ := hn
          have he : u.bw = some (c, d', o', q') := he
          rw [hb] at he; injection he with he; injection he with _ he; injection he with _ he; injection he with he _; rw [← he] at hp; cases hp
      · refine (h.lt hs.1 ?_ hg).1
        rw [← hy]
        cases m with
        | tmp t p =>
          have hne : u.dst ≠ some t := hs.2.2
          have hav : ((apply st { u with own := [] }).env t).av = (st.env t).av := by simp [apply, isT_ne.2 hne]
          have hne' : some d ≠ some t := by rw [← hud]; exact hne
          simp only [locV, hav, tmpOf_put_ne hne']
        | box c p =>
          have hcb : c ≠ b := fun e => by
            subst e
            have := hs.2.2 dd [] [] hb
            cases p <;> cases this
          have hq : Nat.beq c b = false := by
            cases hq : Nat.beq c b with
            | true => exact absurd (nbeq hq) hcb
            | false => rfl
          have hbc : (apply st { u with own := [] }).box c = st.box c := by simp [apply, hb, hq]
          simp only [locV, hbc]
          cases hc : st.box c with
          | none => rfl
          | some x =>
            obtain ⟨_, _, k1, _⟩ := h.box c x hc
            have hlt := (Array.getElem?_eq_some_iff.1 k1).1
            exact (World.cell?_of_block (hw _ hlt (fun e => hcb (h.inj c b x d2 hc hbx e)))).symm
    refine hS'.gain d ps (fun p hp => ?_) (fun p hp q hq x y g hx hy => ?_) (fun t p ht => ?_) (fun p => ?_)
    · obtain ⟨e, x, k1, k2, k3⟩ := g4 p hp
      obtain ⟨k4, k5⟩ := tipw k3
      refine ⟨e, x, (look p).1.trans k1, (look p).2.trans k2, k4, fun g hg => ⟨fun c d' hc he => ?_, fun m y hm hy hgy => ?_, fun ht => ?_⟩⟩
      · have := boxlt c d' hc; have := k5 g hg; omega
      · have := ownlt m y g hm hy hgy; have := k5 g hg; omega
      · have ht' : isTree st β g := by
          rcases ht with ⟨r, x, m1, m2⟩ | ⟨c, ty, oo, m1, m2⟩
          · exact .inl ⟨r, x, by rw [hio] at m1; exact m1, m2⟩
          · exact .inr ⟨c, ty, oo, by rw [hxb] at m1; exact m1, m2⟩
        have := (h.xs.lt ht').1; have := k5 g hg; omega
    · rw [(look p).2] at hx
      rw [(look q).2] at hy
      exact g5 p hp q hq x y g hx hy
    · cases hdt : isT t u.dst with
      | true =>
        have : (apply st { u with own := [] }).env t = u.ent := by simp [apply, hdt]
        rw [this, hent] at ht; cases ht
      | false =>
        have : ((apply st { u with own := [] }).env t).tag = keepTag { u with own := [] } (st.env t).tag := by simp [apply, hdt]
        rw [this] at ht
        cases hq : (st.env t).tag with
        | none => rw [hq] at ht; cases ht
        | some km =>
          obtain ⟨k, m⟩ := km
          rw [hq] at ht
          cases m with
          | tmp t' p' =>
            simp only [keepTag] at ht
            injection ht with ht; injection ht with h1 h2; injection h2 with h2 h3
            subst h2
            have : isT t' u.dst = true := isT_some.2 hud
            rw [this] at h1; cases h1
          | box c p' =>
            simp only [keepTag] at ht
            injection ht with ht; injection ht with h1 h2; cases h2
    · have : isT d u.dst = true := isT_some.2 hud
      simp [apply, this, inPaths]
theorem call_back (h : Sim w0 lim0 rb n st a w lim β) (hrb : ∀ k, some k = rb → k < w0.heap.size) (hd : ∀ d, o.dst = some d → d < n) {f : FuncId} {s : Sig} {vals : Array Value} (exec : (execOp a.eval o).run P w = .ok (.enter f vals) w)
    (rd : s.rdty.val) (r : s.rty.val × s.rdty.val) (u : Upd) (hC : Calls P f vals w (RetOk w lim (if s.usesRd then rb else none) s r)) (hrdin : RdIn w lim (if s.usesRd then rb else none) s rd)
    (hu1 : u.dst = o.dst) (hu2 : u.ent = ⟨resAV s.rty s.one r.1, none⟩) (hu3 : u.own = resOwn s.one s.own) (hu4 : u.takes = []) (hu5 : u.bw = none) (hx1 : u.xw = none) (hx2 : u.xbw = none)
    (hu6 : (u.rd = none ∧ s.usesRd = false) ∨ (s.usesRd = true ∧ ∃ d0, u.rd = some ⟨s.rdty, r.2⟩ ∧ st.rd = some d0 ∧ d0.1 = s.rdty)) (hx3 : u.xk = none := by rfl) : OpOk P w0 lim0 rb n o (apply st u) a w := by
  intro K Q hK
  unfold Oper.wp
  rw [exec]
  refine Calls.mono hC ?_
  intro e w' hret
  obtain ⟨v, lim', rfl, g1, g2, g3, g4, g5, g6⟩ := hret
  have hrbsub : ∀ k, some k ≠ rb → some k ≠ (if s.usesRd then rb else none) := by
    intro k hk; cases s.usesRd <;> simp [hk]
  have hext : Ext w lim w' lim' := by
    refine ⟨g1.size, fun b oo z hb hu hz => ?_, fun b m hb hu => by unfold under; rw [g2 b hb]; exact hu⟩
    by_cases hq : some b = (if s.usesRd then rb else none)
    · exfalso
      cases hus : s.usesRd with
      | false => rw [hus] at hq; cases hq
      | true =>
        obtain ⟨b', cells, e', k1, _, _, k2⟩ := hrdin.1 hus
        rw [← hq] at k1; injection k1 with k1; subst k1
        have := hu 0 k2; omega
    · exact (World.cell?_of_block (g1.block b hb hq)).trans hz
  show K (a.put o.dst v) w'
  rw [← hu1]
  refine hK _ _ lim' β (h.grown u v w' lim' (by rw [hu1]; exact hd) hu5 hext (grow_keep h.grow g1.os g1.tape g1.output g1.size (fun k hk hne => g1.block k (Nat.lt_of_lt_of_le hk h.grow.size) (hrbsub k hne)))
    (fun k hk hne _ => ⟨g1.block k hk (hrbsub k hne), g2 k hk⟩) (fun k hk => ⟨hrb k hk, g2 k (Nat.lt_of_lt_of_le (hrb k hk) h.grow.size)⟩) (by rw [hu2]; exact ERep_res g3) (fun p hp => ?_) (fun p hp q hq => ?_) (by rw [hu2]) ?_ hx1 hx3 hx2)
  · rw [hu3] at hp
    obtain ⟨e, y, m1, m2, m3⟩ := g4 p hp
    refine ⟨e, y, by rw [hu2]; exact m1, by rw [hu2]; exact m2, ?_, fun g hg => .inl ?_⟩
    · rcases m3 with m3 | ⟨b, m, cc, arr, el, fr, q1, q2, q3⟩
      · exact .inl m3
      · exact .inr ⟨b, m, cc, arr, el, fr, q1, Nat.le_trans h.grow.size q2, q3⟩
    · rcases m3 with m3 | ⟨b, m, cc, arr, el, fr, q1, q2, q3⟩
      · rw [m3] at hg; cases hg
      · rw [q1] at hg; injection hg with hg; rw [← hg]; exact q2
  · rw [hu3] at hp hq
    rw [hu2]
    exact g5 p hp q hq
  · rcases hu6 with ⟨q1, q2⟩ | ⟨q1, d0, q2, q3, q4⟩
    · refine .inl ⟨q1, fun b hb => ?_⟩
      exact g1.block b (Nat.lt_of_lt_of_le (hrb b hb.symm) h.grow.size) (by rw [q2]; simp)
    · obtain ⟨b, cells, e', k1, k2, k3⟩ := g6 q1
      rw [q1] at k1
      have k1 : rb = some b := by simpa using k1
      obtain ⟨b', cs', e2, k4, k5, _, _, k6⟩ := h.rd d0 q3
      rw [k1] at k4; injection k4 with k4; subst k4
      refine .inr ⟨⟨s.rdty, r.2⟩, d0, q2, q3, q4.symm, b, cells, e', k1, k5, k2, k3, ?_⟩
      rw [g2 b (Nat.lt_of_lt_of_le k5 h.grow.size)]; exact k6
theorem ok_call (hG : GamOk P G) (h : Sim w0 lim0 rb n st a w lim β) (hrb : ∀ k, some k = rb → k < w0.heap.size) (hd : ∀ d, o.dst = some d → d < n) {f : FuncId} {cl : Call} {cv : Operand} (hop : o.op = .call cl) (hcal : cl.callee = .value cv) (hcv : a.eval cv = .func (.func f) #[] #[])
    (hc : stCall G o f cl.args.toList st = some c) (ho : c.out st = some st') : OpOk P w0 lim0 rb n o st' a w := by
  unfold stCall at hc
  cases hg : G f with
  | none => rw [hg] at hc; cases hc
  | some s =>
    rw [hg] at hc; simp only [] at hc
    have hf := hG f s hg
    cases hmu : s.muts with
    | true => rw [hmu] at hc; cases hc
    | false =>
    rw [hmu] at hc; simp only [cnd_false] at hc
    cases hfv : s.fv with
    | some g => rw [hfv] at hc; cases hc
    | none =>
    rw [hfv] at hc; simp only [isF, cnd_false] at hc
    have hvals : (cl.args.map a.eval) = (cl.args.toList.map a.eval).toArray := by apply Array.ext'; rw [Array.toList_map]
    have exec : (execOp a.eval o).run P w = .ok (.enter f (cl.args.toList.map a.eval).toArray) w := by
      have e1 : ∀ args, (Deferred.ofValue (.func (.func f) #[] #[]) args) = (pure { target := .fn (.func f) #[], args := args } : Sem Deferred) := by
        intro args; simp [Deferred.ofValue]
      simp only [execOp, hop, resolve, hcal, hcv, hvals, e1, Sem.run_bind, Sem.run_pure, Result.andThen_ok, invoke]
      simpa using hf.enters _ w
    have hargs : ∀ rv x, packArgs rv s.aty (cl.args.toList.map fun x => (st.ent x).av) = some x → ArgsRep w lim (rvBlock rb β rv) s.aty x (cl.args.toList.map a.eval) := by
      intro rv x hx
      refine packArgs_rep (st := st) (β := β) hx (by simp) (fun i av v hi hv => ?_)
      simp only [List.getElem?_map] at hi hv
      cases hq : cl.args.toList[i]? with
      | none => rw [hq] at hi; cases hi
      | some y =>
        rw [hq] at hi hv
        injection hi with hi; injection hv with hv
        subst hi; subst hv
        exact h.ent y
    -- what is known behind the call
    have back : s.opens = false → ∀ (x : s.aty.val) (rd : s.rdty.val) (r : s.rty.val × s.rdty.val) (u : Upd), s.fn x rd = some r → ArgsRep w lim (if s.usesRd then rb else none) s.aty x (cl.args.toList.map a.eval) → RdIn w lim (if s.usesRd then rb else none) s rd →
        u.dst = o.dst → u.ent = ⟨resAV s.rty s.one r.1, none⟩ → u.own = resOwn s.one s.own → u.takes = [] → u.bw = none → u.xw = none → u.xbw = none → u.xk = none →
        ((u.rd = none ∧ s.usesRd = false) ∨ (s.usesRd = true ∧ ∃ d0, u.rd = some ⟨s.rdty, r.2⟩ ∧ st.rd = some d0 ∧ d0.1 = s.rdty)) → OpOk P w0 lim0 rb n o (apply st u) a w := by
      intro hopn x rd r u hfn hpk hrdin hu1 hu2 hu3 hu4 hu5 hx1 hx2 hx3 hu6
      exact call_back h hrb hd exec rd r u (hf.calls hfv hopn hmu x rd r hfn w lim _ _ hpk hrdin) hrdin hu1 hu2 hu3 hu4 hu5 hx1 hx2 hu6 hx3
    split at hc
    · rename_i hus hopn
      split at hc
      · -- the function's own reader is handed on
        split at hc
        · rename_i x d hpk hrd
          cases hcast : Ty.cast d.1 s.rdty d.2 with
          | none => rw [hcast] at hc; cases hc
          | some rd =>
            rw [hcast] at hc
            injection hc with hc; subst hc
            simp only [Comp.out] at ho
            cases hfn : s.fn x rd with
            | none => rw [hfn] at ho; cases ho
            | some r =>
              rw [hfn] at ho; injection ho with ho; subst ho
              obtain ⟨hty, hrdv⟩ := cast_some hcast
              obtain ⟨b, cells, e, k1, k2, k3, k4, k5⟩ := h.rd d hrd
              have ha := hargs _ x hpk
              refine back hopn x rd r _ hfn (by rw [hus]; exact ha) ⟨fun _ => ⟨b, cells, e, by rw [hus]; exact k1, k3, ?_, k5⟩, fun hf' => (by rw [hus] at hf'; cases hf')⟩ rfl rfl rfl rfl rfl rfl rfl rfl (.inr ⟨hus, d, rfl, hrd, hty⟩)
              obtain ⟨dt, dv⟩ := d
              simp only at hty hrdv k4
              subst hty; subst hrdv; exact k4
        · cases hc
      · -- a reader that this function opened
        rename_i b hro
        split at hc
        · rename_i x d hpk hbx
          cases hcast : Ty.cast d.1 s.rdty d.2 with
          | none => rw [hcast] at hc; cases hc
          | some rd =>
            rw [hcast] at hc
            injection hc with hc; subst hc
            simp only [Comp.out] at ho
            cases hfn : s.fn x rd with
            | none => rw [hfn] at ho; cases ho
            | some r =>
              rw [hfn] at ho; injection ho with ho; subst ho
              obtain ⟨hty, hrdv⟩ := cast_some hcast
              obtain ⟨dt, dv⟩ := d
              simp only at hty hrdv
              subst hty; subst hrdv
              obtain ⟨cells, e, k1, k2, k3, k4⟩ := h.box b _ hbx
              have ha := hargs _ x hpk
              have hbl : β b < w.heap.size := (Array.getElem?_eq_some_iff.1 k1).1
              intro K Q hK
              unfold Oper.wp
              rw [exec]
              refine Calls.mono (hf.calls hfv hopn hmu x _ r hfn w lim (some (β b)) _ ha ⟨fun _ => ⟨β b, cells, e, rfl, k1, k2, k4⟩, fun hf' => (by rw [hus] at hf'; cases hf')⟩) ?_
              intro e' w' hret
              obtain ⟨v, lim', rfl, g1, g2, g3, g4, g5, g6⟩ := hret
              obtain ⟨b', cells', e2, m1, m2, m3⟩ := g6 hus
              injection m1 with m1; subst m1
              have hext : Ext w lim w' lim' := by
                refine ⟨g1.size, fun c oo z hb hu hz => ?_, fun c m hb hu => by unfold under; rw [g2 c hb]; exact hu⟩
                by_cases hq : c = β b
                · exfalso
                  subst hq
                  have := hu 0 k4; omega
                · exact (World.cell?_of_block (g1.block c hb (fun e => hq (by injection e)))).trans hz
              have hgrow : w0.grownBy w' rb := grow_keep h.grow g1.os g1.tape g1.output g1.size (fun k hk _ => g1.block k (Nat.lt_of_lt_of_le hk h.grow.size) (fun e => by injection e with e; subst e; exact absurd k3 (Nat.not_le_of_lt hk)))
              show K (a.put o.dst v) w'
              have hS := (h.boxw { upd0 o.dst (resAV s.rty s.one r.1) none with bw := some (b, ⟨s.rdty, r.2⟩, [], []) } v w' lim' β b ⟨s.rdty, r.2⟩ [] [] hd rfl rfl rfl rfl hext hgrow
                (fun k hk hne => ⟨g1.block k hk (fun e => by injection e with e; exact hne _ hbx e), g2 k hk⟩) (fun _ _ _ => rfl) (fun hn => by rw [hbx] at hn; cases hn) hrb cells' e2 m2 m3 (by rw [g2 _ hbl]; exact k4)
                (fun d0 hd0 => by rw [hbx] at hd0; injection hd0 with hd0; subst hd0; exact ⟨rfl, fun p e' _ hp => by cases p <;> cases hp⟩) (fun _ _ => ERep_res g3) (fun p => .tmp 0 p) (fun p hp => by cases hp) (fun p hp => by cases hp))
              refine hK _ _ lim' β (gain_call h hd (u := { upd0 o.dst (resAV s.rty s.one r.1) none with bw := some (b, ⟨s.rdty, r.2⟩, [], []) }) (ps := resOwn s.one s.own) rfl rfl rfl hbx rfl rfl (fun k hk hne => g1.block k hk (fun e => hne (by injection e))) hS g4 g5)
        · cases hc
      · cases hc
    · rename_i hus hopn
      split at hc
      · rename_i x rd hpk hcast
        injection hc with hc; subst hc
        simp only [Comp.out] at ho
        cases hfn : s.fn x rd with
        | none => rw [hfn] at ho; cases ho
        | some r =>
          rw [hfn] at ho; injection ho with ho; subst ho
          have ha := hargs _ x hpk
          exact back hopn x rd r _ hfn (by rw [hus]; exact ha) ⟨fun hf' => (by rw [hus] at hf'; cases hf'), fun _ => (by rw [hus]; rfl)⟩ rfl rfl rfl rfl rfl rfl rfl rfl (.inl ⟨rfl, hus⟩)
      · cases hc
    · rename_i hus hopn
      split at hc
      · rename_i x rd d hpk hcast hdst
        split at hc
        · rename_i hbx
          injection hc with hc; subst hc
          simp only [Comp.out] at ho
          cases hfn : s.fn x rd with
          | none => rw [hfn] at ho; cases ho
          | some r =>
            rw [hfn] at ho; injection ho with ho; subst ho
            have ha := hargs _ x hpk
            intro K Q hK
            unfold Oper.wp
            rw [exec]
            refine Calls.mono (hf.opened hfv hopn x rd r hfn w lim _ ha) ?_
            intro e' w' hret
            obtain ⟨b, lim', cells, e0, rfl, g1, g2, g3, g4, g5, g6⟩ := hret
            have hext : Ext w lim w' lim' :=
              ⟨g1.size, fun c oo z hb hu hz => (World.cell?_of_block (g1.block c hb (fun e => by cases e))).trans hz, fun c m hb hu => by unfold under; rw [g2 c hb]; exact hu⟩
            have hgrow : w0.grownBy w' rb := grow_keep h.grow g1.os g1.tape g1.output g1.size (fun k hk _ => g1.block k (Nat.lt_of_lt_of_le hk h.grow.size) (fun e => by cases e))
            show K (a.put o.dst (.pointer (some ⟨b, 0, none⟩))) w'
            rw [hdst]
            have hold : ∀ c dd, st.box c = some dd → c ≠ d := fun c dd hc e => by rw [e, hbx] at hc; cases hc
            refine hK _ _ lim' { β with b := fun t => if t = d then b else β t } (h.boxw { upd0 (some d) (.cel d []) none with bw := some (d, ⟨s.rty, r.1⟩, [], []) } _ w' lim' { β with b := fun t => if t = d then b else β t } d ⟨s.rty, r.1⟩ [] []
              (fun d' hd' => hd d' (by rw [hdst]; exact hd')) rfl rfl rfl rfl hext hgrow
              (fun k hk _ => ⟨g1.block k hk (fun e => by cases e), g2 k hk⟩) (fun c dd hc => by simp [hold c dd hc]) (fun _ => by simpa using g3) hrb cells e0 (by simpa using g4) g5 (by simpa using g6)
              (fun d0 hd0 => by rw [hbx] at hd0; cases hd0) (fun _ _ => ⟨⟨s.rty, r.1⟩, ?_, ?_⟩) (fun p => .tmp 0 p) (fun p hp => by cases hp) (fun p hp => by cases hp))
            · simp [apply]
            · have : offs s.rty [] = 0 := by cases s.rty <;> rfl
              simp [this]
        · cases hc
      · cases hc
    · cases hc

theorem stripF_spec {g : FuncId} : ∀ {xs : List Operand} {vs : List AV}, stripF g (xs.map fun x => (st.ent x).av) = some vs → ∃ ys y, xs = ys ++ [y] ∧ vs = ys.map (fun x => (st.ent x).av) ∧ (st.ent y).av = .fn g
  | [], _, h => by cases h
  | [x], vs, h => by
    simp only [List.map, stripF] at h
    split at h
    · rename_i k hk
      cases hq : Nat.beq g k with
      | false => rw [hq] at h; cases h
      | true =>
        rw [hq] at h; injection h with h; subst h
        exact ⟨[], x, rfl, rfl, by rw [hk, nbeq hq]⟩
    · cases h
  | x :: y :: xs, vs, h => by
    have h : (match stripF g ((y :: xs).map fun x => (st.ent x).av) with
      | some r => some ((st.ent x).av :: r)
      | none => none) = some vs := h
    cases hq : stripF g ((y :: xs).map fun x => (st.ent x).av) with
    | none => rw [hq] at h; cases h
    | some r =>
      rw [hq] at h; injection h with h; subst h
      obtain ⟨ys, z, k1, k2, k3⟩ := stripF_spec hq
      exact ⟨x :: ys, z, by rw [k1]; rfl, by rw [k2]; rfl, k3⟩
theorem ok_callF (hG : GamOk P G) (h : Sim w0 lim0 rb n st a w lim β) (hrb : ∀ k, some k = rb → k < w0.heap.size) (hd : ∀ d, o.dst = some d → d < n) {f : FuncId} {cl : Call} (hop : o.op = .call cl) (hcal : cl.callee = .value (.func f))
    (hc : stCallF G o f cl.args.toList st = some c) (ho : c.out st = some st') : OpOk P w0 lim0 rb n o st' a w := by
  unfold stCallF at hc
  cases hg : G f with
  | none => rw [hg] at hc; cases hc
  | some s =>
    rw [hg] at hc; simp only [] at hc
    have hf := hG f s hg
    have hvals : (cl.args.map a.eval) = (cl.args.toList.map a.eval).toArray := by apply Array.ext'; rw [Array.toList_map]
    have exec : (execOp a.eval o).run P w = .ok (.enter f (cl.args.toList.map a.eval).toArray) w := by
      have e1 : ∀ args, (Deferred.ofValue (.func (.func f) #[] #[]) args) = (pure { target := .fn (.func f) #[], args := args } : Sem Deferred) := by
        intro args; simp [Deferred.ofValue]
      simp only [execOp, hop, resolve, hcal, Act.eval, hvals, e1, Sem.run_bind, Sem.run_pure, Result.andThen_ok, invoke]
      simpa using hf.enters _ w
    split at hc
    · rename_i g hfv hmu hus hopn
      split at hc
      · rename_i vs hst
        split at hc
        · rename_i x rd hpk hcast
          injection hc with hc; subst hc
          simp only [Comp.out] at ho
          cases hfn : s.fn x rd with
          | none => rw [hfn] at ho; cases ho
          | some r =>
            rw [hfn] at ho; injection ho with ho; subst ho
            obtain ⟨ys, y, k1, k2, k3⟩ := stripF_spec hst
            have hy := h.ent y
            rw [k3] at hy
            have hy : a.eval y = .func (.func g) #[] #[] := hy
            have hargs : ArgsRep w lim none s.aty x (ys.map a.eval) := by
              rw [k2] at hpk
              have := packArgs_rep (rb := rb) (st := st) (β := β) (w := w) (lim := lim) (vals := ys.map a.eval) hpk (by simp) (fun i av v hi hv => by
                simp only [List.getElem?_map] at hi hv
                cases hq : ys[i]? with
                | none => rw [hq] at hi; cases hi
                | some z =>
                  rw [hq] at hi hv
                  injection hi with hi; injection hv with hv
                  subst hi; subst hv
                  exact h.ent z)
              exact this
            have hC := hf.callsF g hfv hopn hmu hus x rd r hfn w lim _ hargs
            have e2 : (cl.args.toList.map a.eval) = ys.map a.eval ++ [Value.func (.func g) #[] #[]] := by rw [k1, List.map_append]; simp [hy]
            rw [← e2] at hC
            exact call_back h hrb hd exec rd r _ (by rw [hus]; exact hC) ⟨fun hf' => (by rw [hus] at hf'; cases hf'), fun _ => (by rw [hus]; rfl)⟩ rfl rfl rfl rfl rfl rfl rfl (.inl ⟨rfl, hus⟩)
        · cases hc
      · cases hc
    · cases hc

end
end Go.Den

namespace Go.Den
section
variable {P : Program} {tab : Tab} {G : Gam} {w0 : Base} {lim0 : Lim} {rb : Option Nat} {n : Nat}
variable {st st' : St} {a : Act} {w w' : World} {lim lim' : Lim} {β : Mp} {o : Oper} {c : Comp}

theorem flat_getF : ∀ {t : Ty} {x : t.val} {i : Nat} {d : Dat}, flatT t = true → getF t x i = some d → flatT d.1 = true := by
  intro t
  induction t with
  | prod p q _ ihq =>
    intro x i d hf h
    obtain ⟨f1, f2⟩ := flat_prod hf
    cases i with
    | zero => simp only [getF] at h; injection h with h; subst h; exact f1
    | succ i =>
      simp only [getF] at h
      rcases f2 with ⟨_, _, _, f2⟩ | rfl
      · exact ihq f2 h
      · cases h
  | _ => intro x i d hf h; cases h
theorem flat_getP : ∀ {p : List Nat} {t : Ty} {x : t.val} {y : Dat}, flatT t = true → getP t x p = some y → flatT y.1 = true
  | [], t, x, y, hf, h => by simp only [getP] at h; injection h with h; subst h; exact hf
  | i :: p, t, x, y, hf, h => by
    simp only [getP] at h
    cases hg : getF t x i with
    | none => rw [hg] at h; cases h
    | some d => rw [hg] at h; exact flat_getP (flat_getF hf hg) h
theorem atX_some {r : Tmp} {p : List Nat} {y : Dat} (h : st.atX r p = some y) : ∃ d, st.io r = some d ∧ getP d.1 d.2 p = some y := by
  unfold St.atX at h
  cases hr : st.io r with
  | none => rw [hr] at h; cases h
  | some d =>
    rw [hr] at h; simp only [] at h
    cases hu : isU d.1 with
    | true => rw [hu] at h; cases h
    | false => rw [hu] at h; exact ⟨d, rfl, h⟩
theorem atX_live {r : Tmp} {p : List Nat} {y : Dat} (h : st.atX r p = some y) {d : Dat} (hd : st.io r = some d) : d.1 ≠ .unit := by
  unfold St.atX at h
  rw [hd] at h; simp only [] at h
  intro e
  have hu : isU d.1 = true := by rw [e]; rfl
  rw [hu] at h; cases h
/-- the value at a place of a tree -/
theorem Sim.atX (h : Sim w0 lim0 rb n st a w lim β) {r : Tmp} {p : List Nat} {y : Dat} (hy : st.atX r p = some y) :
    ∃ d Bu, st.io r = some d ∧ getP d.1 d.2 p = some y ∧ typeAt d.1 p = some y.1 ∧ (∀ g, Bu g → β.B r g) ∧ XRep w y.1 y.2 (((flatV (β.V r)).drop (offs d.1 p)).take y.1.size) Bu ∧
      ∀ (w' : World) (z : y.1.val) (x' : d.1.val), setP d.1 d.2 p ⟨y.1, z⟩ = some x' → (∀ g, β.B r g → ¬ Bu g → w'.heap[g]? = w.heap[g]?) → XRep w' y.1 z (((flatV (β.V r)).drop (offs d.1 p)).take y.1.size) Bu → XRep w' d.1 x' (flatV (β.V r)) (β.B r) := by
  obtain ⟨d, h1, h2⟩ := atX_some hy
  have hX := h.xs.io r d h1
  obtain ⟨Bu, k1, k2, k3⟩ := hX.sub h2
  exact ⟨d, Bu, h1, h2, typeAt_getP h2, k1, k2, k3⟩
theorem xf_val (h : Sim w0 lim0 rb n st a w lim β) {x : Operand} {r : Tmp} {p : List Nat} {y : Dat} (hx : (st.ent x).av = .xf r p) (hy : st.atX r p = some y) :
    ∃ d, st.io r = some d ∧ a.eval x = wrapV y.1 (((flatV (β.V r)).drop (offs d.1 p)).take y.1.size) := by
  obtain ⟨d, Bu, h1, h2, h3, _⟩ := h.atX hy
  have := h.ent x
  rw [hx] at this
  obtain ⟨d', k1, k2⟩ := this
  rw [h1] at k1; injection k1 with k1; subst k1
  obtain ⟨u, k2, k3⟩ := k2.resolve_left (atX_live hy h1)
  rw [h3] at k2; injection k2 with k2; subst k2
  exact ⟨d, h1, k3⟩
/-- a slice at a place of a tree: its cell -/
theorem Sim.sliceX (h : Sim w0 lim0 rb n st a w lim β) {r : Tmp} {p : List Nat} {e : Ty} {xs : List e.val} (hy : st.atX r p = some ⟨.slice e, xs⟩) :
    ∃ d, st.io r = some d ∧ getP d.1 d.2 p = some ⟨.slice e, xs⟩ ∧ typeAt d.1 p = some (.slice e) ∧
      ((xs.length = 0 ∧ (flatV (β.V r))[offs d.1 p]? = some (.slice none 0 0)) ∨ ∃ g c arr el fr, (flatV (β.V r))[offs d.1 p]? = some (.slice (some ⟨g, 0, none⟩) xs.length c) ∧ xs.length ≤ c ∧ c * e.size ≤ arr.size ∧ w.heap[g]? = some (.cells arr el fr) ∧
        (∀ o, o < arr.size → ¬ (fr.1 ≤ o ∧ o < fr.2)) ∧ β.B r g) := by
  obtain ⟨d, Bu, h1, h2, h3, h6, h7, h8⟩ := h.atX hy
  refine ⟨d, h1, h2, h3, ?_⟩
  have hcell : ∀ v, (((flatV (β.V r)).drop (offs d.1 p)).take (Ty.slice e).size) = [v] → (flatV (β.V r))[offs d.1 p]? = some v := by
    intro v hv
    have e1 : ((flatV (β.V r)).drop (offs d.1 p))[0]? = some v := by
      have hs : (Ty.slice e).size = 1 := rfl
      rw [hs] at hv
      cases hq : (flatV (β.V r)).drop (offs d.1 p) with
      | nil => rw [hq] at hv; cases hv
      | cons z zs => rw [hq] at hv; simp at hv; rw [hv]; rfl
    simpa using e1
  rcases h7 with ⟨k1, k2, k3⟩ | ⟨g, c, arr, el, fr, Bs, k1, k2, k3, k4, kf, k5, _⟩
  · exact .inl ⟨k2, hcell _ k1⟩
  · exact .inr ⟨g, c, arr, el, fr, hcell _ k1, k2, k3, k4, kf, h6 g ((k5 g).2 (.inl rfl))⟩
theorem zero_xrep (w : World) : ∀ t : Ty, XRep w t t.zero (zeroCells t) (fun _ => False)
  | .int _ => ⟨rfl, fun _ h => h⟩
  | .bool => ⟨rfl, fun _ h => h⟩
  | .str => ⟨rfl, fun _ h => h⟩
  | .unit => ⟨rfl, fun _ h => h⟩
  | .prod a b => ⟨_, _, fun _ => False, fun _ => False, rfl, fun _ => ⟨fun h => h.elim, fun h => h.elim id id⟩, fun _ h => h.elim, zero_xrep w a, zero_xrep w b⟩
  | .slice _ => .inl ⟨rfl, rfl, fun _ h => h⟩

theorem free_some {d : Tmp} {x : Option Tmp} (h : freeD st x = some d) : x = some d ∧ st.io d = none ∧ st.box d = none ∧ st.xb d = none ∧ d ≠ 0 := by
  unfold freeD at h
  cases x with
  | none => cases h
  | some d' =>
    simp only [] at h
    split at h
    · rename_i q1 q2 q3 q4
      injection h with h; subst h
      exact ⟨rfl, q1, q2, q3, fun e => by rw [e] at q4; cases q4⟩
    · cases h
theorem ok_makeX (hT : TabOk P tab) (h : Sim w0 lim0 rb n st a w lim β) (hrb : ∀ k, some k = rb → k < w0.heap.size) (hd : ∀ d, o.dst = some d → d < n) {t : TypeId} {x y : Operand} (hop : o.op = .makeSlice t x y)
    (hc : stMakeX tab o t x y st = some c) (ho : c.out st = some st') : OpOk P w0 lim0 rb n o st' a w := by
  unfold stMakeX at hc
  split at hc
  · rename_i e k l k' m d hty hx hy hfree
    change Int at l
    change Int at m
    injection hc with hc; subst hc
    obtain ⟨hchk, rfl⟩ := out_ret ho
    have q1 := andB_iff.1 hchk
    have q2 := andB_iff.1 q1.2
    have g0 : 0 ≤ l := le0_iff.1 q1.1
    have g1 : l ≤ m := leI_iff.1 q2.1
    have g2 : m < big := ltI_iff.1 q2.2
    unfold big at g2
    obtain ⟨el, h1, h2⟩ := elemTy hT hty
    obtain ⟨i, hi1, hi2, hi3, hi4⟩ := h2.info
    have hzc : (wrapV e (zeroCells e)).cells = (zeroCells e).toArray := wrapV_cells (zero_rep w lim e)
    have hb : (i.bytes : Int) * m ≤ 281474976710656 := by
      have e1 : (i.bytes : Int) * m ≤ 4096 * m := Int.mul_le_mul_of_nonneg_right (by omega) (by omega)
      omega
    have hrun := run_make (P := P) w t el i (wrapV e (zeroCells e)) h1 hi1 hi3 k k' l m g0 g1 hb (by omega)
    have hlen : (repL l e.zero).length = l.toNat := by simp [repL]
    have he : (execOp a.eval o).run P w = .ok (.value (.slice (some ⟨w.heap.size, 0, none⟩) (repL l e.zero).length m.toNat)) (w.alloc (.cells (madeCells (zeroCells e).toArray (m.toNat * e.size)) el)) := by
      simp only [execOp, hop, Sem.run_bind, eval_int h hx, eval_int h hy, hrun, Result.andThen_ok, Sem.run_pure, hi2, hzc, hlen]
    obtain ⟨hdst, hfd, _, _, hd0⟩ := free_some hfree
    have hnew := h.newroot hrb (hd d hdst) hfd hd0 ⟨.slice e, repL l e.zero⟩ (.xf d []) (.slice (some ⟨w.heap.size, 0, none⟩) (repL l e.zero).length m.toNat) (fun g => g = w.heap.size)
      (w' := w.alloc (.cells (madeCells (zeroCells e).toArray (m.toNat * e.size)) el)) (lim' := limSet lim w.heap.size (some 0)) rfl rfl rfl (by simp) (fun k hk => alloc_old _ hk) (fun k hk => by simp [limSet, show k ≠ w.heap.size by omega])
      (.inr ⟨w.heap.size, m.toNat, _, el, (0, 0), fun _ _ => False, rfl, by show (repL l e.zero).length ≤ m.toNat; rw [hlen]; omega, by rw [size_madeCells]; exact Nat.le_refl _, alloc_new _, fun _ _ hk => by simp at hk, fun _ => ⟨fun h => .inl h, fun h => h.elim id (fun ⟨_, h⟩ => h.elim)⟩, fun _ _ h => h.elim, fun _ _ _ h => h.elim, fun j z hj => ?_⟩)
      (fun g hg => ⟨by rw [hg]; exact Nat.le_refl _, by simp [limSet, hg]⟩) (.inl ⟨rfl, rfl⟩)
    · have := OpOk.value (o := o) (lim := limSet lim w.heap.size (some 0)) he (by rw [hdst]; exact hnew)
      exact this
    · have hj : (repL l e.zero)[j]? = some z := hj
      have hjl : j < l.toNat := by have := (List.getElem?_eq_some_iff.1 hj).1; omega
      have hz : z = e.zero := by
        simp only [repL, List.getElem?_replicate, hjl, if_true] at hj
        injection hj with hj; exact hj.symm
      subst hz
      refine ⟨zeroCells e, zero_xrep _ e, fun q v hv => ?_⟩
      have := made_at w e m.toNat (i := j) (by omega) hv
      rw [← Array.getElem?_toList]; exact this
  · cases hc
theorem ok_allocX (hT : TabOk P tab) (h : Sim w0 lim0 rb n st a w lim β) (hrb : ∀ k, some k = rb → k < w0.heap.size) (hd : ∀ d, o.dst = some d → d < n) {el : TypeId} (hop : o.op = .alloc el) (hc : stAllocX tab o el st = some c) (ho : c.out st = some st') : OpOk P w0 lim0 rb n o st' a w := by
  unfold stAllocX at hc
  split at hc
  · rename_i ty d hty hfree
    injection hc with hc; subst hc
    obtain ⟨_, rfl⟩ := out_ret ho
    obtain ⟨hdst, _, _, hx, _⟩ := free_some hfree
    have hcl : (wrapV ty (zeroCells ty)).cells = (zeroCells ty).toArray := wrapV_cells (zero_rep w lim ty)
    have he : (execOp a.eval o).run P w = .ok (.value (.pointer (some ⟨w.heap.size, 0, none⟩))) (w.alloc (.cells (zeroCells ty).toArray el)) := by
      simp [execOp, hop, Instr.alloc, run_zeroValue (hT _ _ hty), newVar, newRow, hcl]
    have hl := (zero_rep w lim ty).length
    refine .value (lim := limSet lim w.heap.size (some 0)) (β := { β with c := fun k => if k = d then w.heap.size else β.c k }) he ?_
    rw [hdst]
    exact h.setxb hrb (some d) (fun d' hd' => by injection hd' with hd'; rw [← hd']; exact hd d hdst) (.cx d []) _ (.inl hx) (fun _ => Nat.le_refl _) rfl rfl rfl (by simp) (fun k hk _ => alloc_old _ hk) (fun k hk => by simp [limSet, show k ≠ w.heap.size by omega])
      (alloc_new _) (by simpa using hl) (by simp [limSet]) (fun r q hrq => by cases hrq) (fun d' hd' => ⟨ty, none, by simp [apply], by
        have : offs ty [] = 0 := by cases ty <;> rfl
        simp [this]⟩)
  · cases hc
theorem ok_boxX (h : Sim w0 lim0 rb n st a w lim β) (hrb : ∀ k, some k = rb → k < w0.heap.size) (hd : ∀ d, o.dst = some d → d < n) {el : TypeId} {x : Operand} {r : Tmp} {p : List Nat} (hop : o.op = .box el x) (hxe : (st.ent x).av = .xf r p)
    (hc : stBoxX tab o el r p st = some c) (ho : c.out st = some st') : OpOk P w0 lim0 rb n o st' a w := by
  unfold stBoxX at hc
  split at hc
  · rename_i ty d y hty hfree hy
    cases hb : Ty.beq y.1 ty with
    | false => rw [hb] at hc; cases hc
    | true =>
      rw [hb] at hc
      injection hc with hc; subst hc
      obtain ⟨_, rfl⟩ := out_ret ho
      have hb := Ty.of_beq hb
      subst hb
      obtain ⟨hdst, _, _, hx, _⟩ := free_some hfree
      obtain ⟨dd, hio, hv⟩ := xf_val h hxe hy
      obtain ⟨d2, Bu, m1, m2, m3, m6, m7, m8⟩ := h.atX hy
      rw [hio] at m1; injection m1 with m1; subst m1
      have hcr : CRep w (fun _ => none) y.1 y.2 (((flatV (β.V r)).drop (offs dd.1 p)).take y.1.size) := m7.crep (fun _ _ => rfl)
      have hcl : (a.eval x).cells = (((flatV (β.V r)).drop (offs dd.1 p)).take y.1.size).toArray := by rw [hv]; exact wrapV_cells hcr
      have he : (execOp a.eval o).run P w = .ok (.value (.pointer (some ⟨w.heap.size, 0, none⟩))) (w.alloc (.cells (a.eval x).cells el)) := by
        simp [execOp, hop, Instr.box, newVar, newRow]
      refine .value (lim := limSet lim w.heap.size (some 0)) (β := { β with c := fun k => if k = d then w.heap.size else β.c k }) he ?_
      rw [hdst]
      exact h.setxb hrb (some d) (fun d' hd' => by injection hd' with hd'; rw [← hd']; exact hd d hdst) (.cx d []) _ (.inl hx) (fun _ => Nat.le_refl _) rfl rfl rfl (by simp) (fun k hk _ => alloc_old _ hk) (fun k hk => by simp [limSet, show k ≠ w.heap.size by omega])
        (alloc_new _) (by rw [hcl]; simpa using hcr.length) (by simp [limSet]) (fun r' q hrq => by
          injection hrq with hrq; injection hrq with e1 e2; subst e1; subst e2
          exact ⟨dd, hio, .inr ⟨m3, by rw [hcl]⟩⟩) (fun d' hd' => ⟨y.1, some (r, p), by simp [apply], by
          have : offs y.1 [] = 0 := by cases y.1 <;> rfl
          simp [this]⟩)
  · cases hc
theorem ok_putX (hT : TabOk P tab) (h : Sim w0 lim0 rb n st a w lim β) (hrb : ∀ k, some k = rb → k < w0.heap.size) (hd : ∀ d, o.dst = some d → d < n) {t : TypeId} {x v : Operand} {b r : Tmp} {q : List Nat} (hop : o.op = .store t x v)
    (hxe : (st.ent x).av = .cx b []) (hve : (st.ent v).av = .xf r q) (hc : stPutX tab o t b r q st = some c) (ho : c.out st = some st') : OpOk P w0 lim0 rb n o st' a w := by
  unfold stPutX at hc
  split at hc
  · rename_i ty y hxb hy
    cases hty : tyIs (tab t) ty with
    | false => rw [hty] at hc; cases hc
    | true =>
    cases hb : Ty.beq y.1 ty with
    | false => rw [hty, hb] at hc; cases hc
    | true =>
      rw [hty, hb] at hc
      injection hc with hc; subst hc
      obtain ⟨_, rfl⟩ := out_ret ho
      have hb := Ty.of_beq hb
      subst hb
      obtain ⟨dd, hio, hv⟩ := xf_val h hve hy
      obtain ⟨d2, Bu, m1, m2, m3, m6, m7, m8⟩ := h.atX hy
      rw [hio] at m1; injection m1 with m1; subst m1
      have hcr : CRep w (fun _ => none) y.1 y.2 (((flatV (β.V r)).drop (offs dd.1 q)).take y.1.size) := m7.crep (fun _ _ => rfl)
      have hcl : (a.eval v).cells = (((flatV (β.V r)).drop (offs dd.1 q)).take y.1.size).toArray := by rw [hv]; exact wrapV_cells hcr
      obtain ⟨cells, e, k1, k2, k3, k4, _⟩ := h.xs.xb b y.1 none hxb
      have hx := h.ent x
      rw [hxe] at hx
      obtain ⟨t', o', j1, j2⟩ := hx
      rw [hxb] at j1; injection j1 with j1; injection j1 with j1 _; subst j1
      have ho0 : offs y.1 [] = 0 := by cases y.1 <;> rfl
      rw [ho0] at j2
      have hlen := hcr.length
      have hsz : (a.eval v).cells.size = y.1.size := by rw [hcl]; simpa using hlen
      obtain ⟨w', r1, r5⟩ := run_storeCells (P := P) (a.eval v).cells.toList cells e (0, 0) (β.c b) 0 0 w [] cells.toList [] k1 (by simp) rfl (by simpa using (k2.trans hsz.symm)) (fun u hu => by rw [hcl] at hu; exact hcr.cells u (by simpa using hu)) (fun k _ hk => by omega)
      have he : (execOp a.eval o).run P w = .ok .skip w' := by
        simp only [execOp, hop, Instr.storeAt, Instr.sureAddr, j2, Sem.run_bind, Sem.run_pure, Result.andThen_ok, storeVar, run_sizeOf (hT _ _ (tyIs_some hty)), hsz, ne_eq, not_true_eq_false, if_false]
        simp only [r1, Result.andThen_ok]
      have hlt := (Array.getElem?_eq_some_iff.1 k1).1
      have hwa := r5.at_
      simp only [List.nil_append, List.append_nil] at hwa
      refine .skip (lim := lim) (β := { β with c := fun k => if k = b then β.c b else β.c k }) he ?_
      exact h.setxb hrb o.dst hd .skp undef (.inr ⟨⟨none, hxb⟩, rfl⟩) (fun hn => by rw [hxb] at hn; cases hn) r5.os r5.tape r5.output (by rw [r5.size]; exact Nat.le_refl _) (fun k _ hne => r5.other k hne) (fun _ _ => rfl)
        hwa (by simpa using hsz) k4 (fun r' q' hrq => by
          injection hrq with hrq; injection hrq with e1 e2; subst e1; subst e2
          exact ⟨dd, hio, .inr ⟨m3, by rw [hcl]⟩⟩) (fun _ _ => rfl)
  · cases hc
theorem xb_rep (h : Sim w0 lim0 rb n st a w lim β) {x : Operand} {b r : Tmp} {p q : List Nat} {ty : Ty} {z y : Dat} (hxe : (st.ent x).av = .cx b p) (hxb : st.xb b = some (ty, some (r, q))) (hz : st.atX r q = some z) (hb : z.1 = ty) (hy : getP z.1 z.2 p = some y) :
    a.eval x = .pointer (some ⟨β.c b, offs z.1 p, none⟩) ∧ ∃ d cells e, st.io r = some d ∧ w.heap[β.c b]? = some (.cells cells e (0, 0)) ∧ CRep w (fun _ => none) z.1 z.2 cells.toList ∧ typeAt d.1 (q ++ p) = some y.1 ∧
      (cells.toList.drop (offs z.1 p)).take y.1.size = ((flatV (β.V r)).drop (offs d.1 (q ++ p))).take y.1.size := by
  subst hb
  have hx := h.ent x
  rw [hxe] at hx
  obtain ⟨t', o', j1, j2⟩ := hx
  rw [hxb] at j1; injection j1 with j1; injection j1 with j1 _; subst j1
  refine ⟨j2, ?_⟩
  obtain ⟨d, Bu, m1, m2, m3, m6, m7, m8⟩ := h.atX hz
  obtain ⟨cells, e, k1, k2, k3, k4, k5⟩ := h.xs.xb b _ _ hxb
  obtain ⟨d', n1, n2⟩ := k5 r q rfl
  rw [m1] at n1; injection n1 with n1; subst n1
  obtain ⟨n2, n3⟩ := n2.resolve_left (atX_live hz m1)
  obtain ⟨g1, g2⟩ := getP_app m2 p (typeAt_getP hy)
  refine ⟨d, cells, e, m1, k1, by rw [n3]; exact m7.crep (fun _ _ => rfl), g1, ?_⟩
  have hlt := typeAt_lt (typeAt_getP hy)
  rw [n3, g2, ← List.drop_drop, List.drop_take, List.take_take, Nat.min_eq_left (by omega)]
theorem ok_loadX (hT : TabOk P tab) (h : Sim w0 lim0 rb n st a w lim β) (hd : ∀ d, o.dst = some d → d < n) {t : TypeId} {x : Operand} {b : Tmp} {p : List Nat} (hop : o.op = .load t x) (hxe : (st.ent x).av = .cx b p)
    (hc : stLoadX tab o t b p st = some c) (ho : c.out st = some st') : OpOk P w0 lim0 rb n o st' a w := by
  unfold stLoadX at hc
  split at hc
  · rename_i ty r q hxb
    cases hz : st.atX r q with
    | none => rw [hz] at hc; cases hc
    | some z =>
      rw [hz] at hc; simp only [] at hc
      cases hb : Ty.beq z.1 ty with
      | false => rw [hb] at hc; cases hc
      | true =>
        cases hy : getP z.1 z.2 p with
        | none => rw [hb, hy] at hc; cases hc
        | some y =>
          rw [hb, hy] at hc; simp only [] at hc
          cases hty : tyIs (tab t) y.1 with
          | false => rw [hty] at hc; cases hc
          | true =>
            rw [hty] at hc; simp only [cnd_true] at hc
            obtain ⟨he, d, cells, e, m1, m3, m4, m5, m6⟩ := xb_rep h hxe hxb hz (Ty.of_beq hb) hy
            obtain ⟨c1, c2, c3, q1, q2, q3, _⟩ := m4.part hy
            have hm : ∀ j u, c2[j]? = some u → w.cell? ⟨β.c b, offs z.1 p + j, none⟩ = some u := by
              intro j u hu
              simp only [World.cell?, m3]
              rw [← q2]
              simp only [Option.isSome_none, Bool.false_eq_true, if_false]
              rw [← Array.getElem?_toList, q1, List.getElem?_append_right (by omega)]
              rw [show c1.length + j - c1.length = j by omega, List.getElem?_append_left (List.getElem?_eq_some_iff.1 hu).1]
              exact hu
            have hrun : (execOp a.eval o).run P w = .ok (.value (wrapV y.1 c2)) w := by
              simp [execOp, hop, Instr.loadAt, Instr.sureAddr, he, run_loadVar (hT _ _ (tyIs_some hty)) q3 hm]
            have hc2 : (cells.toList.drop (offs z.1 p)).take y.1.size = c2 := by
              rw [q1, ← q2, List.drop_left, ← q3.length, List.take_left]
            cases hns : noSl y.1 with
            | true =>
              rw [hns] at hc
              injection hc with hc; subst hc
              obtain ⟨_, rfl⟩ := out_ret ho
              exact .value hrun (h.plain _ _ _ hd ⟨c2, (CRep_noSl hns).2 ((CRep_noSl hns).1 q3), rfl⟩)
            | false =>
              rw [hns] at hc
              injection hc with hc; subst hc
              obtain ⟨_, rfl⟩ := out_ret ho
              exact .value hrun (h.plain _ _ _ hd ⟨d, m1, .inr ⟨y.1, m5, by rw [← m6, hc2]⟩⟩)
  · cases hc
theorem ok_fieldAddrC (hT : TabOk P tab) (h : Sim w0 lim0 rb n st a w lim β) (hd : ∀ d, o.dst = some d → d < n) {s : TypeId} {x : Operand} {f : Nat} {b : Tmp} {p : List Nat} (hop : o.op = .fieldAddr s x f) (hxe : (st.ent x).av = .cx b p)
    (hc : stFieldAddrC tab o s b p f st = some c) (ho : c.out st = some st') : OpOk P w0 lim0 rb n o st' a w := by
  unfold stFieldAddrC at hc
  split at hc
  · rename_i ty r q hxb
    cases hz : st.atX r q with
    | none => rw [hz] at hc; cases hc
    | some z =>
      rw [hz] at hc; simp only [] at hc
      cases hb : Ty.beq z.1 ty with
      | false => rw [hb] at hc; cases hc
      | true =>
        cases hy : getP z.1 z.2 p with
        | none => rw [hb, hy] at hc; cases hc
        | some y =>
          rw [hb, hy] at hc; simp only [] at hc
          cases hty : tyIs (tab s) y.1 with
          | false => rw [hty] at hc; cases hc
          | true =>
            cases hf : getF y.1 y.2 f with
            | none => rw [hty, hf] at hc; cases hc
            | some u =>
              rw [hty, hf] at hc
              injection hc with hc; subst hc
              obtain ⟨_, rfl⟩ := out_ret ho
              obtain ⟨he, _⟩ := xb_rep h hxe hxb hz (Ty.of_beq hb) hy
              refine .value (by simp [execOp, hop, he, run_fieldAt hT (tyIs_some hty) hf] <;> rfl) (h.plain _ _ _ hd ⟨ty, _, hxb, ?_⟩)
              have := Ty.of_beq hb
              subst this
              rw [(getP_snoc hy hf).2]
  · cases hc
theorem xp_rep (h : Sim w0 lim0 rb n st a w lim β) {x : Operand} {r : Tmp} {p q : List Nat} {k : Int} {e : Ty} {xs : List e.val} (hxe : (st.ent x).av = .xp r p k q) (hy : st.atX r p = some ⟨.slice e, xs⟩) :
    ∃ g m cc d, st.io r = some d ∧ 0 ≤ k ∧ (flatV (β.V r))[offs d.1 p]? = some (.slice (some ⟨g, 0, none⟩) m cc) ∧ a.eval x = .pointer (some ⟨g, k.toNat * e.size + offs e q, none⟩) := by
  have hx := h.ent x
  rw [hxe] at hx
  obtain ⟨d, k1, k2⟩ := hx
  obtain ⟨e', g, m, cc, k2, k3, k4, k5⟩ := k2.resolve_left (atX_live hy k1)
  obtain ⟨d', _, m1, _, m3, _⟩ := h.atX hy
  rw [k1] at m1; injection m1 with m1; subst m1
  rw [k2] at m3; injection m3 with m3; injection m3 with m3; subst m3
  exact ⟨g, m, cc, d, k1, k3, k4, k5⟩
theorem ok_fieldAddrX (hT : TabOk P tab) (h : Sim w0 lim0 rb n st a w lim β) (hd : ∀ d, o.dst = some d → d < n) {s : TypeId} {x : Operand} {f : Nat} {r : Tmp} {p q : List Nat} {k : Int} (hop : o.op = .fieldAddr s x f) (hxe : (st.ent x).av = .xp r p k q)
    (hc : stFieldAddrX tab o s r p k q f st = some c) (ho : c.out st = some st') : OpOk P w0 lim0 rb n o st' a w := by
  unfold stFieldAddrX at hc
  split at hc
  · rename_i e xs hat
    change List e.val at xs
    cases hy : getP e (atL (α := e.val) xs k e.zero) q with
    | none => rw [hy] at hc; cases hc
    | some y =>
      rw [hy] at hc; simp only [] at hc
      cases hty : tyIs (tab s) y.1 with
      | false => rw [hty] at hc; cases hc
      | true =>
        cases hf : getF y.1 y.2 f with
        | none => rw [hty, hf] at hc; cases hc
        | some u =>
          rw [hty, hf] at hc
          injection hc with hc; subst hc
          obtain ⟨_, rfl⟩ := out_ret ho
          obtain ⟨g, m, cc, d, k1, k2, k3, k4⟩ := xp_rep h hxe hat
          obtain ⟨d', _, m1, _, m3, _⟩ := h.atX hat
          rw [k1] at m1; injection m1 with m1; subst m1
          refine .value (by simp [execOp, hop, k4, run_fieldAt hT (tyIs_some hty) hf] <;> rfl) (h.plain _ _ _ hd ⟨d, k1, .inr ⟨e, g, m, cc, m3, k2, k3, ?_⟩⟩)
          rw [(getP_snoc hy hf).2, Nat.add_assoc]
  · cases hc
theorem ok_indexAddrX (hT : TabOk P tab) (h : Sim w0 lim0 rb n st a w lim β) (hd : ∀ d, o.dst = some d → d < n) {t : TypeId} {x i : Operand} {r : Tmp} {p : List Nat} (hop : o.op = .indexAddr t x i) (hxe : (st.ent x).av = .xf r p)
    (hc : stIndexAddrX tab o t r p i st = some c) (ho : c.out st = some st') : OpOk P w0 lim0 rb n o st' a w := by
  unfold stIndexAddrX at hc
  split at hc
  · rename_i e xs k m hat hi
    change List e.val at xs
    change Int at m
    cases hty : tyIs (tab t) (.slice e) with
    | false => rw [hty] at hc; cases hc
    | true =>
      rw [hty] at hc
      injection hc with hc; subst hc
      obtain ⟨hr, rfl⟩ := out_ret ho
      have hr := inRange hr
      have hm := eval_int h hi
      obtain ⟨d, hio, hv⟩ := xf_val h hxe hat
      obtain ⟨d', m1, m2, m3, m5⟩ := h.sliceX hat
      rw [hio] at m1; injection m1 with m1; subst m1
      obtain ⟨el, h1, h2⟩ := elemTy hT (tyIs_some hty)
      rcases m5 with ⟨m5, _⟩ | ⟨g, cc, arr, el', fr, m5, _⟩
      · exfalso; have : xs.length = 0 := m5; omega
      · have hv' : a.eval x = .slice (some ⟨g, 0, none⟩) xs.length cc := by
          rw [hv]
          have hlt := (List.getElem?_eq_some_iff.1 m5).1
          have : ((flatV (β.V r)).drop (offs d.1 p)).take (Ty.slice e).size = [.slice (some ⟨g, 0, none⟩) xs.length cc] := by
            have hs : (Ty.slice e).size = 1 := rfl
            have hv2 := (List.getElem?_eq_some_iff.1 m5).2
            rw [hs, List.drop_eq_getElem_cons hlt, hv2]; rfl
          rw [this]; rfl
        refine .value (v := .pointer (some ⟨g, m.toNat * e.size, none⟩)) ?_ (h.plain _ _ _ hd ⟨d, hio, .inr ⟨e, g, _, cc, m3, hr.1, m5, ?_⟩⟩)
        · simp [execOp, hop, hv', hm, Instr.indexAt, asIntOf, underlying, h1, run_sizeOf h2, hr.1, hr.2, addr_add]
        · have : offs e [] = 0 := by cases e <;> rfl
          rw [this]; rfl
  · cases hc
theorem ok_lenX (hT : TabOk P tab) (h : Sim w0 lim0 rb n st a w lim β) (hd : ∀ d, o.dst = some d → d < n) {t : TypeId} {x : Operand} {cl : Call} {r : Tmp} {p : List Nat} (hop : o.op = .call cl) (hcal : cl.callee = .builtin .len) (ha : cl.args = #[x]) (hat : cl.argTypes = #[t]) (hxe : (st.ent x).av = .xf r p)
    (hc : stLenX tab o t r p st = some c) (ho : c.out st = some st') : OpOk P w0 lim0 rb n o st' a w := by
  unfold stLenX at hc
  split at hc
  · rename_i e xs hy
    change List e.val at xs
    cases hty : tyIs (tab t) (.slice e) with
    | false => rw [hty] at hc; cases hc
    | true =>
      rw [hty] at hc
      injection hc with hc; subst hc
      obtain ⟨_, rfl⟩ := out_ret ho
      obtain ⟨el, h1, h2⟩ := elemTy hT (tyIs_some hty)
      obtain ⟨d, hio, hv⟩ := xf_val h hxe hy
      obtain ⟨d2, Bu, m1, m2, m3, m6, m7, m8⟩ := h.atX hy
      rw [hio] at m1; injection m1 with m1; subst m1
      have : ∃ ad cc, a.eval x = .slice ad xs.length cc := by
        rw [hv]
        rcases m7 with ⟨k1, k2, _⟩ | ⟨g, cc, arr, e', fr, Bs, k1, _⟩
        · have k2 : xs.length = 0 := k2
          rw [k1, k2]; exact ⟨_, _, rfl⟩
        · rw [k1]; exact ⟨_, _, rfl⟩
      obtain ⟨ad, cc, hv⟩ := this
      refine .value (v := .int .i64 (lenL xs)) ?_ (h.plain _ _ _ hd mk_int)
      simp [execOp, hop, resolve, hcal, ha, hat, invoke, builtin, Builtin.len_, underlying, h1, hv, goInt, lenL]
  · cases hc
end
end Go.Den

namespace Go.Den
section
variable {P : Program} {tab : Tab} {G : Gam} {w0 : Base} {lim0 : Lim} {rb : Option Nat} {n : Nat}
variable {st st' : St} {a : Act} {w w' : World} {lim lim' : Lim} {β : Mp} {o : Oper} {c : Comp}

theorem noSl_getF : ∀ {t : Ty} {x : t.val} {i : Nat} {d : Dat}, noSl t = true → getF t x i = some d → noSl d.1 = true := by
  intro t
  induction t with
  | prod p q _ ihq =>
    intro x i d hf h
    simp only [noSl] at hf
    cases hp : noSl p with
    | false => rw [hp] at hf; cases hf
    | true =>
      rw [hp] at hf
      cases i with
      | zero => simp only [getF] at h; injection h with h; subst h; exact hp
      | succ i => simp only [getF] at h; exact ihq hf h
  | _ => intro x i d hf h; cases h
theorem noSl_getP : ∀ {p : List Nat} {t : Ty} {x : t.val} {y : Dat}, noSl t = true → getP t x p = some y → noSl y.1 = true
  | [], t, x, y, hf, h => by simp only [getP] at h; injection h with h; subst h; exact hf
  | i :: p, t, x, y, hf, h => by
    simp only [getP] at h
    cases hg : getF t x i with
    | none => rw [hg] at h; cases h
    | some d => rw [hg] at h; exact noSl_getP (noSl_getF hf hg) h
theorem setL_get {α : Type} {xs : List α} {k : Int} {x' : α} (h0 : 0 ≤ k) (h1 : k < xs.length) (i : Nat) : (setL xs k x')[i]? = if i = k.toNat then some x' else xs[i]? := by
  simp only [setL, List.getElem?_set]
  by_cases e : i = k.toNat
  · subst e
    have : k.toNat < xs.length := by omega
    simp [this]
  · rw [if_neg (fun h => e h.symm), if_neg e]

/-- a value is stored into an element of a tree -/
theorem store_core (hT : TabOk P tab) (h : Sim w0 lim0 rb n st a w lim β) {t : TypeId} {x v : Operand} {r : Tmp} {p q : List Nat} {k : Int} (hop : o.op = .store t x v) (hxe : (st.ent x).av = .xp r p k q)
    {e : Ty} {xs : List e.val} {d : Dat} (hio : st.io r = some d) (hat : st.atX r p = some ⟨.slice e, xs⟩) (hr : 0 ≤ k ∧ k < xs.length) {y : Dat} (hy : getP e (atL xs k e.zero) q = some y) (hty : tyIs (tab t) y.1 = true)
    (hlen : (a.eval v).cells.size = y.1.size) (hna : ∀ u ∈ (a.eval v).cells.toList, notAgg u) :
    ∃ w' g ob, ∃ Bu : Nat → Prop, (execOp a.eval o).run P w = .ok .skip w' ∧ Wrote w w' g ob ∧ β.B r g ∧ (∀ b, Bu b → β.B r b ∧ b ≠ g) ∧ (noSl y.1 = true → ∀ b, ¬ Bu b) ∧
      ∀ (z : y.1.val) (x' : e.val) (d' : d.1.val) (Bv : Nat → Prop), setP e (atL xs k e.zero) q ⟨y.1, z⟩ = some x' → setP d.1 d.2 p ⟨.slice e, setL xs k x'⟩ = some d' → (∀ b, Bv b → β.B r b → Bu b) → XRep w' y.1 z (a.eval v).cells.toList Bv →
        XRep w' d.1 d' (flatV (β.V r)) (fun b => (β.B r b ∧ ¬ Bu b) ∨ Bv b) := by
  obtain ⟨g0, m0, cc0, dd, k1, k2, k3, k4⟩ := xp_rep h hxe hat
  rw [hio] at k1; injection k1 with k1; subst k1
  obtain ⟨d2, h1, h2⟩ := atX_some hat
  rw [hio] at h1; injection h1 with h1; subst h1
  obtain ⟨b1, b2, b3, B1, j1, j2, jl, j3, j4, j5⟩ := (h.xs.io r d hio).sub' h2
  have hkl : k.toNat < xs.length := by omega
  have hget : atL xs k e.zero = xs[k.toNat] := by simp [atL, hkl]
  rw [hget] at hy ⊢
  have hel : xs[k.toNat]? = some xs[k.toNat] := List.getElem?_eq_getElem hkl
  obtain ⟨g, c, arr, el, fr, c2, Bu, q1, q2, q3, q4, qf, q5, q6, q7, q8, q9, q10⟩ := XRep.putEl (xs := xs) j4 hel hy
  have hs1 : (Ty.slice e).size = 1 := rfl
  have hg : g0 = g := by
    have hb2 : b2 = [.slice (some ⟨g, 0, none⟩) xs.length c] := q1
    rw [j1, ← j2, List.getElem?_append_right (by omega), Nat.sub_self, hb2] at k3
    simp at k3
    exact k3.1.symm
  subst hg
  have hyl := getP_size hy
  have hbound : (k.toNat + 1) * e.size ≤ arr.size := Nat.le_trans (Nat.mul_le_mul_right _ (by omega)) q3
  rw [Nat.succ_mul] at hbound
  have hal : arr.toList.length = arr.size := by simp
  have hsplit : arr.toList = arr.toList.take (k.toNat * e.size + offs e q) ++ (c2 ++ arr.toList.drop (k.toNat * e.size + offs e q + y.1.size)) := by
    apply List.ext_getElem?
    intro j
    by_cases hj1 : j < k.toNat * e.size + offs e q
    · rw [List.getElem?_append_left (by rw [List.length_take]; omega), List.getElem?_take_of_lt hj1]
    · rw [List.getElem?_append_right (by rw [List.length_take]; omega)]
      have hlt : (arr.toList.take (k.toNat * e.size + offs e q)).length = k.toNat * e.size + offs e q := by rw [List.length_take]; omega
      rw [hlt]
      by_cases hj2 : j < k.toNat * e.size + offs e q + y.1.size
      · rw [List.getElem?_append_left (by omega)]
        obtain ⟨i, rfl⟩ : ∃ i, j = k.toNat * e.size + offs e q + i := ⟨j - (k.toNat * e.size + offs e q), by omega⟩
        have := q9 i _ (List.getElem?_eq_getElem (by omega))
        rw [Array.getElem?_toList, this, show k.toNat * e.size + offs e q + i - (k.toNat * e.size + offs e q) = i by omega, List.getElem?_eq_getElem (by omega)]
      · rw [List.getElem?_append_right (by omega), List.getElem?_drop]
        congr 1; omega
  have hlt0 : (arr.toList.take (k.toNat * e.size + offs e q)).length = k.toNat * e.size + offs e q + 0 := by
    rw [List.length_take]; omega
  have hvl : (a.eval v).cells.toList.length = y.1.size := by simpa using hlen
  obtain ⟨w', r1, r5⟩ := run_storeCells (P := P) (a.eval v).cells.toList arr el fr g0 0 (k.toNat * e.size + offs e q) w _ c2 _ q4 hsplit hlt0 (by rw [q6, hvl]) hna qf
  have he : (execOp a.eval o).run P w = .ok .skip w' := by
    simp only [execOp, hop, Instr.storeAt, Instr.sureAddr, k4, Sem.run_bind, Sem.run_pure, Result.andThen_ok, storeVar, run_sizeOf (hT _ _ (tyIs_some hty)), hlen, ne_eq, not_true_eq_false, if_false]
    simp only [r1, Result.andThen_ok]
  have hsz2 : ((arr.toList.take (k.toNat * e.size + offs e q) ++ ((a.eval v).cells.toList ++ arr.toList.drop (k.toNat * e.size + offs e q + y.1.size))).toArray).size = arr.size := by
    have h2 := congrArg List.length hsplit
    simp only [List.length_append, List.size_toArray] at h2 ⊢
    omega
  refine ⟨w', g0, _, Bu, he, r5, j3 _ q5, fun b hb => ⟨j3 b (q7 b hb).1, (q7 b hb).2⟩, fun hns b hb => ((XRep_noSl hns).1 q8).2 b hb, fun z x' d' Bv hs1 hs2 hdis hXv => ?_⟩
  have hsl : setL xs k x' = xs.set k.toNat x' := rfl
  have hX1 := q10 w' z x' (a.eval v).cells.toList Bv _ hs1 (fun b hb hne _ => r5.other b hne) r5.at_ hsz2 (fun j hj => ?_) (fun j u hu => ?_) (fun b hb hb2 => hdis b hb (j3 b hb2)) hXv
  · have := j5 w' (xs.set k.toNat x') d' b2 _ hs2 (fun b hb hn => r5.other b (fun e' => hn (by rw [e']; exact q5))) (fun b hb hb2 => ?_) hX1
    · rw [← j1] at this
      refine this.congr fun b => ⟨fun hb => ?_, fun hb => ?_⟩
      · rcases hb with ⟨hb, hn⟩ | hb
        · by_cases hb1 : B1 b
          · exact .inr (.inl ⟨hb1, hn⟩)
          · exact .inl ⟨hb, hb1⟩
        · exact .inr (.inr hb)
      · rcases hb with ⟨hb, hn⟩ | ⟨hb, hn⟩ | hb
        · exact .inl ⟨hb, fun hb1 => hn (q7 b hb1).1⟩
        · exact .inl ⟨j3 b hb, hn⟩
        · exact .inr hb
    · rcases hb with ⟨hb, _⟩ | hb
      · exact hb
      · exact (q7 b (hdis b hb hb2)).1
  · have hlt : (arr.toList.take (k.toNat * e.size + offs e q)).length = k.toNat * e.size + offs e q := by rw [List.length_take]; omega
    rw [List.getElem?_toArray, ← Array.getElem?_toList]
    rcases hj with hj | hj
    · rw [List.getElem?_append_left (by omega), List.getElem?_take_of_lt hj]
    · rw [List.getElem?_append_right (by omega), List.getElem?_append_right (by omega), List.getElem?_drop]
      congr 1; omega
  · have hlt : (arr.toList.take (k.toNat * e.size + offs e q)).length = k.toNat * e.size + offs e q := by rw [List.length_take]; omega
    have hj := (List.getElem?_eq_some_iff.1 hu).1
    rw [List.getElem?_toArray, List.getElem?_append_right (by omega), List.getElem?_append_left (by omega), ← hu]
    congr 1; omega
theorem ok_storeX (hT : TabOk P tab) (h : Sim w0 lim0 rb n st a w lim β) (hrb : ∀ k, some k = rb → k < w0.heap.size) (hd : ∀ d, o.dst = some d → d < n) {t : TypeId} {x v : Operand} {r : Tmp} {p q : List Nat} {k : Int} (hop : o.op = .store t x v) (hxe : (st.ent x).av = .xp r p k q)
    (hc : stStoreX tab o t r p k q v st = some c) (ho : c.out st = some st') : OpOk P w0 lim0 rb n o st' a w := by
  unfold stStoreX at hc
  split at hc
  · rename_i d e xs hio hat
    change List e.val at xs
    cases hy : getP e (atL (α := e.val) xs k e.zero) q with
    | none => rw [hy] at hc; cases hc
    | some y =>
      rw [hy] at hc; simp only [] at hc
      cases hty : tyIs (tab t) y.1 with
      | false => rw [hty] at hc; cases hc
      | true =>
      cases hns : noSl y.1 with
      | false => rw [hty, hns] at hc; cases hc
      | true =>
      cases hz : AV.as y.1 (st.ent v).av with
      | none => rw [hty, hns, hz] at hc; cases hc
      | some z =>
        rw [hty, hns, hz] at hc; simp only [] at hc
        cases hs1 : setP e (atL (α := e.val) xs k e.zero) q ⟨y.1, z⟩ with
        | none => rw [hs1] at hc; cases hc
        | some x' =>
          rw [hs1] at hc; simp only [] at hc
          cases hs2 : setP d.1 d.2 p ⟨.slice e, setL (α := e.val) xs k x'⟩ with
          | none => rw [hs2] at hc; cases hc
          | some d' =>
            rw [hs2] at hc
            injection hc with hc; subst hc
            obtain ⟨hr, rfl⟩ := out_ret ho
            have hr := inRange hr
            have hv := (as_rep hz (h.ent v)).cells
            have hvl := hv.length
            obtain ⟨w', g, ob, Bu, he, r5, c1, c2, c3, c4⟩ := store_core hT h hop hxe hio hat hr hy hty (by simpa using hvl) (fun u hu => hv.cells u hu)
            have hX := c4 z x' d' (fun _ => False) hs1 hs2 (fun _ hb => hb.elim) ((XRep_noSl hns).2 ⟨(CRep_noSl hns).1 hv, fun _ hb => hb⟩)
            refine .skip (lim := lim) he (h.setroot (d' := ⟨d.1, d'⟩) hrb hd hio rfl .skp undef r5.os r5.tape r5.output (by rw [r5.size]; exact Nat.le_refl _) (fun j _ hn => r5.other j (fun e => hn (by rw [e]; exact c1))) (fun _ _ => rfl)
              (hX.congr fun b => ⟨fun hb => .inl ⟨hb, c3 hns b⟩, fun hb => hb.elim (·.1) (·.elim)⟩) (fun _ _ => rfl))
  · cases hc

theorem TupSh.part : ∀ {t : Ty} {vs : List Value} {x : t.val} {i : Nat} {d : Dat}, TupSh t vs → getF t x i = some d → ∃ v, vs[i]? = some v ∧ v = wrapV d.1 (((vs.flatMap fun v => v.cells.toList).drop (offs t [i])).take d.1.size) := by
  intro t
  induction t with
  | prod p q _ ihq =>
    intro vs x i d h hf
    obtain ⟨v, vs', cs, rfl, h1, h2, h3, h4⟩ := h
    cases i with
    | zero =>
      simp only [getF] at hf; injection hf with hf; subst hf
      refine ⟨v, rfl, ?_⟩
      have : offs (.prod p q) [0] = 0 := by cases p <;> rfl
      rw [this]
      simp only [List.flatMap_cons, List.drop_zero]
      rw [h3, ← h1, List.take_left]; exact h2
    | succ i =>
      simp only [getF] at hf
      obtain ⟨u, k1, k2⟩ := ihq h4 hf
      refine ⟨u, by simpa using k1, ?_⟩
      simp only [List.flatMap_cons, offs]
      rw [h3, ← h1, ← List.drop_drop, List.drop_left]; exact k2
  | _ => intro vs x i d h hf; cases hf
theorem ok_extractX (h : Sim w0 lim0 rb n st a w lim β) (hd : ∀ d, o.dst = some d → d < n) {x : Operand} {i : Nat} {r : Tmp} (hop : o.op = .extract x i) (hxe : (st.ent x).av = .xt r) (hc : stExtractX o r i st = some c) (ho : c.out st = some st') : OpOk P w0 lim0 rb n o st' a w := by
  unfold stExtractX at hc
  have hx := h.ent x
  rw [hxe] at hx
  obtain ⟨d, hx2, hxx⟩ := hx
  rw [hx2] at hc; simp only [] at hc
  cases hf : getF d.1 d.2 i with
  | none => rw [hf] at hc; cases hc
  | some y =>
    obtain ⟨hx1, vs, hx3, hx4⟩ := hxx.resolve_left (fun e => by
      obtain ⟨dt, dv⟩ := d
      simp only at e hf
      subst e; cases hf)
    rw [hf] at hc; simp only [] at hc
    obtain ⟨u, k1, k2⟩ := hx4.part hf
    have hfl : flatV (β.V r) = vs.flatMap fun v => v.cells.toList := by rw [← hx1, hx3]; simp [flatV]
    rw [← hfl] at k2
    have he : (execOp a.eval o).run P w = .ok (.value u) w := by
      simp [execOp, hop, hx3, Instr.extract, k1]
    have hp : getP d.1 d.2 [i] = some y := by simp [getP, hf]
    have hX := h.xs.io r d hx2
    obtain ⟨Bu, m1, m2⟩ := hX.field hf
    cases hns : noSl y.1 with
    | true =>
      rw [hns] at hc
      injection hc with hc; subst hc
      obtain ⟨_, rfl⟩ := out_ret ho
      have hcr := m2.crep (lim := fun _ => none) (fun _ _ => rfl)
      exact .value he (h.plain _ _ _ hd ⟨_, (CRep_noSl hns).2 ((CRep_noSl hns).1 hcr), k2⟩)
    | false =>
      rw [hns] at hc
      injection hc with hc; subst hc
      obtain ⟨_, rfl⟩ := out_ret ho
      exact .value he (h.plain _ _ _ hd ⟨d, hx2, .inr ⟨y.1, typeAt_getP hp, k2⟩⟩)
end
end Go.Den

namespace Go.Den
section
variable {P : Program} {tab : Tab} {G : Gam} {w0 : Base} {lim0 : Lim} {rb : Option Nat} {n : Nat}
variable {st st' : St} {a : Act} {w w' : World} {lim lim' : Lim} {β : Mp} {o : Oper} {c : Comp}

open Classical in
/-- while a call runs, what stands in trees may be seen -/
noncomputable def limX (st : St) (β : Mp) (lim : Lim) : Lim := fun g => if isTree st β g then none else lim g
theorem ext_limX : Ext w lim w (limX st β lim) :=
  ⟨Nat.le_refl _, fun _ _ _ _ _ h => h, fun b m _ hu k hk => by
    unfold limX at hk
    split at hk
    · cases hk
    · exact hu k hk⟩
theorem argX_rep (h : Sim w0 lim0 rb n st a w lim β) (x : Operand) : ERep st w (limX st β lim) β rb (argX st (st.ent x).av) (a.eval x) := by
  have hm : ∀ {av : AV}, ERep st w lim β rb av (a.eval x) → ERep st w (limX st β lim) β rb av (a.eval x) := fun hv =>
    hv.mono ext_limX (fun b d hb => ⟨rfl, d, hb, rfl⟩) (fun d hd => ⟨d, hd, rfl⟩) (fun r d hr => ⟨d, hr, rfl, rfl⟩) (fun b t o hb => ⟨⟨o, hb⟩, rfl⟩)
  have hx := h.ent x
  cases hav : (st.ent x).av with
  | xf r p =>
    simp only [argX]
    cases hy : st.atX r p with
    | none => trivial
    | some y =>
      obtain ⟨d, hio, hv⟩ := xf_val h hav hy
      obtain ⟨d2, Bu, m1, m2, m3, m6, m7, m8⟩ := h.atX hy
      rw [hio] at m1; injection m1 with m1; subst m1
      exact ⟨_, m7.crep (fun g hg => by unfold limX; rw [if_pos (.inl ⟨r, d, hio, m6 g hg⟩)]), hv⟩
  | _ => rw [hav] at hx; exact hm hx

theorem CRep.relim {l1 l2 : Lim} : ∀ {t : Ty} {x : t.val} {cs : List Value}, CRep w l1 t x cs → flatT t = true →
    (∀ p ∈ slicePaths t, ∀ v, cs[offs t p]? = some v → ∀ g, blockOf v = some g → l2 g = l1 g) → CRep w l2 t x cs := by
  intro t
  induction t with
  | int k => intro x cs h _ _; exact h
  | bool => intro x cs h _ _; exact h
  | str => intro x cs h _ _; exact h
  | unit => intro x cs h _ _; exact h
  | slice e _ =>
    intro xs cs h hf hl
    obtain ⟨ad, cc, h1, h2, h3⟩ := h
    subst h1
    refine ⟨ad, cc, rfl, h2, ?_⟩
    rcases h3 with h3 | ⟨b, oo, q1, q2, q3, q4⟩
    · exact .inl h3
    · subst q1
      have := hl [] (by simp [slicePaths]) _ (by simp [offs]; rfl) b rfl
      refine .inr ⟨b, oo, rfl, q2, fun m hm => q3 m (by rw [← this]; exact hm), fun i x hx => ?_⟩
      obtain ⟨ds, k1, k2⟩ := q4 i x hx
      exact ⟨ds, (CRep_noSl hf).2 ((CRep_noSl hf).1 k1), k2⟩
  | prod p q ihp ihq =>
    intro x cs h hf hl
    obtain ⟨c1, c2, rfl, h1, h2⟩ := h
    obtain ⟨f1, f2⟩ := flat_prod hf
    have l1' := h1.length
    refine ⟨c1, c2, rfl, ihp h1 f1 (fun r hr v hv g hg => ?_), ?_⟩
    · refine hl (0 :: r) (by simp only [slicePaths]; exact List.mem_append_left _ (List.mem_map.2 ⟨r, hr, rfl⟩)) v ?_ g hg
      simp only [offs]
      rw [List.getElem?_append_left (List.getElem?_eq_some_iff.1 hv).1]; exact hv
    · rcases f2 with ⟨q1, q2, rfl, f2⟩ | rfl
      · refine ihq h2 f2 (fun r hr v hv g hg => ?_)
        cases r with
        | nil => exact absurd rfl ((slicePaths_spec hr).2 rfl)
        | cons i r =>
          refine hl ((i + 1) :: r) (by rw [slicePaths]; exact List.mem_append_right _ (List.mem_map.2 ⟨i :: r, hr, rfl⟩)) v ?_ g hg
          simp only [offs]
          rw [List.getElem?_append_right (by omega), l1', show p.size + offs (.prod q1 q2) (i :: r) - p.size = offs (.prod q1 q2) (i :: r) by omega]; exact hv
      · exact h2
theorem tup_iff : ∀ {t : Ty} {x : t.val} {vs : List Value}, TupRep w lim t x vs ↔ (TupSh t vs ∧ CRep w lim t x (vs.flatMap fun v => v.cells.toList)) := by
  intro t
  induction t with
  | unit => intro x vs; constructor
            · intro h; have h : vs = [] := h; subst h; exact ⟨rfl, rfl⟩
            · intro h; exact h.1
  | prod p q _ ihq =>
    intro x vs
    constructor
    · rintro ⟨v, vs', rfl, ⟨cs, h1, h2⟩, h3⟩
      obtain ⟨k1, k2⟩ := ihq.1 h3
      have hcl : v.cells.toList = cs := by rw [h2, wrapV_cells h1]
      refine ⟨⟨v, vs', cs, rfl, h1.length, h2, hcl, k1⟩, cs, _, ?_, h1, k2⟩
      simp only [List.flatMap_cons]; rw [hcl]
    · rintro ⟨⟨v, vs', cs, rfl, h1, h2, h3, h4⟩, c1, c2, k1, k2, k3⟩
      simp only [List.flatMap_cons] at k1
      rw [h3] at k1
      obtain ⟨e1, e2⟩ := List.append_inj k1 (by rw [h1, k2.length])
      subst e1; subst e2
      exact ⟨v, vs', rfl, ⟨cs, k2, h2⟩, ihq.2 ⟨h4, k3⟩⟩
  | int k => intro x vs; exact ⟨fun h => h.elim, fun h => h.1.elim⟩
  | bool => intro x vs; exact ⟨fun h => h.elim, fun h => h.1.elim⟩
  | str => intro x vs; exact ⟨fun h => h.elim, fun h => h.1.elim⟩
  | slice e => intro x vs; exact ⟨fun h => h.elim, fun h => h.1.elim⟩
theorem allIn_spec : ∀ {ps qs : List (List Nat)}, allIn ps qs = true → ∀ p ∈ ps, p ∈ qs
  | [], _, _, p, hp => by cases hp
  | r :: ps, qs, h, p, hp => by
    simp only [allIn] at h
    cases hr : inPaths r qs with
    | false => rw [hr] at h; cases h
    | true =>
      rw [hr] at h
      rcases List.mem_cons.1 hp with rfl | hp
      · exact inPaths_iff.1 hr
      · exact allIn_spec h p hp

/-- a result of which nobody else sees anything -/
theorem ret_closed {s : Sig} {r : s.rty.val × s.rdty.val} {e : Ending} {l1 : Lim} (hcl : closedS s = true) (h : RetOk w l1 none s r e w') : ∃ v lim', e = .returned v ∧ w.grownBy w' none ∧ (∀ b, b < w.heap.size → lim' b = l1 b) ∧
    ERep st00 w' lim' mp0 none (resAV s.rty s.one r.1) v ∧ flatT (rootOf s.one s.rty r.1).1 = true ∧ CRep w' lim' (rootOf s.one s.rty r.1).1 (rootOf s.one s.rty r.1).2 (flatV v) ∧
    (∀ p ∈ slicePaths (rootOf s.one s.rty r.1).1, ∃ e' x, typeAt (rootOf s.one s.rty r.1).1 p = some (.slice e') ∧ (flatV v)[offs (rootOf s.one s.rty r.1).1 p]? = some x ∧ Tip w' lim' w.heap.size e'.size x) ∧
    (∀ p ∈ slicePaths (rootOf s.one s.rty r.1).1, ∀ q ∈ slicePaths (rootOf s.one s.rty r.1).1, ∀ u z g, (flatV v)[offs (rootOf s.one s.rty r.1).1 p]? = some u → (flatV v)[offs (rootOf s.one s.rty r.1).1 q]? = some z → blockOf u = some g → blockOf z = some g → p = q) ∧
    ((∀ d, rootAV s.one s.rty d = .xf d []) ∧ v = wrapV (rootOf s.one s.rty r.1).1 (flatV v) ∧ resAV s.rty s.one r.1 = .dat (rootOf s.one s.rty r.1).1 (rootOf s.one s.rty r.1).2 ∨
      (∀ d, rootAV s.one s.rty d = .xt d) ∧ (∃ vs, v = .tuple vs.toArray ∧ TupSh (rootOf s.one s.rty r.1).1 vs) ∧ resAV s.rty s.one r.1 = .tup (rootOf s.one s.rty r.1).1 (rootOf s.one s.rty r.1).2) ∧
    (∀ p ∈ resOwn s.one s.own, ∃ e' x, typeAV p (resAV s.rty s.one r.1) = some (.slice e') ∧ partAV v p (resAV s.rty s.one r.1) = some x ∧ Tip w' lim' w.heap.size e'.size x) ∧
    (∀ p ∈ resOwn s.one s.own, ∀ q ∈ resOwn s.one s.own, ∀ x y g, partAV v p (resAV s.rty s.one r.1) = some x → partAV v q (resAV s.rty s.one r.1) = some y → blockOf x = some g → blockOf y = some g → p = q) := by
  obtain ⟨v, lim', rfl, g1, g2, g3, g4, g5, _⟩ := h
  refine ⟨v, lim', rfl, g1, g2, g3, ?_⟩
  unfold closedS at hcl
  cases hfl : flatT s.rty with
  | false => rw [hfl] at hcl; cases hcl
  | true =>
  rw [hfl] at hcl; simp only [cnd_true] at hcl
  cases hal : allIn (slicePaths s.rty) s.own with
  | false => rw [hal] at hcl; cases hcl
  | true =>
  rw [hal] at hcl; simp only [cnd_true] at hcl
  obtain ⟨aty, rdty, usesRd, rty, one, own, opens, muts, fv, fn⟩ := s
  simp only at r g3 g4 g5 hcl hfl hal ⊢
  cases one with
  | true =>
    cases rty with
    | prod p q =>
      cases q with
      | unit =>
        obtain ⟨f1, _⟩ := flat_prod hfl
        have g3' : TRep w' lim' p r.1.1 v := g3
        have hc := g3'.cells
        have hfv := flat_TRep g3'
        have inown : ∀ m ∈ slicePaths p, m ∈ resOwn true own := by
          intro m hm
          have := allIn_spec hal (0 :: m) (by simp only [slicePaths]; exact List.mem_append_left _ (List.mem_map.2 ⟨m, hm, rfl⟩))
          exact List.mem_map.2 ⟨_, this, rfl⟩
        refine ⟨f1, by rw [hfv]; exact hc, fun m hm => g4 m (inown m hm), fun m hm m' hm' u z g => g5 m (inown m hm) m' (inown m' hm') u z g, .inl ⟨fun _ => rfl, ?_, rfl⟩, g4, g5⟩
        obtain ⟨cs, k1, k2⟩ := g3'
        rw [hfv, k2, wrapV_cells k1]
        rfl
      | _ => cases hcl
    | _ => cases hcl
  | false =>
    have hav : resAV rty false r.1 = .tup rty r.1 := by unfold resAV; rfl
    have hro : rootOf false rty r.1 = ⟨rty, r.1⟩ := by unfold rootOf; rfl
    have hra : ∀ d, rootAV false rty d = .xt d := fun d => by unfold rootAV; rfl
    rw [hav] at g3 g4 g5 ⊢
    rw [hro]
    obtain ⟨vs, hv, ht⟩ := g3
    obtain ⟨k1, k2⟩ := tup_iff.1 ht
    have hfv : flatV v = vs.flatMap fun v => v.cells.toList := by rw [hv]; simp [flatV]
    have inown : ∀ m ∈ slicePaths rty, m ∈ resOwn false own := fun m hm => allIn_spec hal m hm
    exact ⟨hfl, by rw [hfv]; exact k2, fun m hm => g4 m (inown m hm), fun m hm m' hm' u z g => g5 m (inown m hm) m' (inown m' hm') u z g, .inr ⟨hra, ⟨vs, hv, k1⟩, rfl⟩, g4, g5⟩

theorem setF_ok : ∀ {t : Ty} {x : t.val} {i : Nat} {d : Dat} (z : d.1.val), getF t x i = some d → ∃ x', setF t x i ⟨d.1, z⟩ = some x' := by
  intro t
  induction t with
  | prod p q _ ihq =>
    intro x i d z h
    cases i with
    | zero => simp only [getF] at h; injection h with h; subst h; exact ⟨(z, x.2), by simp only [setF, cast_self]; rfl⟩
    | succ i =>
      simp only [getF] at h
      obtain ⟨y, hy⟩ := ihq z h
      exact ⟨(x.1, y), by simp only [setF, hy]; rfl⟩
  | _ => intro x i d z h; cases h
theorem setP_ok : ∀ {p : List Nat} {t : Ty} {x : t.val} {y : Dat} (z : y.1.val), getP t x p = some y → ∃ x', setP t x p ⟨y.1, z⟩ = some x'
  | [], t, x, y, z, h => by simp only [getP] at h; injection h with h; subst h; exact ⟨z, by simp [setP, cast_self]⟩
  | i :: p, t, x, y, z, h => by
    simp only [getP] at h
    cases hg : getF t x i with
    | none => rw [hg] at h; cases h
    | some d =>
      rw [hg] at h
      obtain ⟨x1, h1⟩ := setP_ok z h
      obtain ⟨x2, h2⟩ := setF_ok x1 hg
      exact ⟨x2, by simp [setP, hg, h1, h2]⟩
theorem res_noSl {t : Ty} {one : Bool} {x : t.val} {v : Value} {l1 l2 : Lim} (hn : noSl t = true) (h : ERep st00 w l1 mp0 none (resAV t one x) v) : ERep st00 w l2 mp0 none (resAV t one x) v := by
  have key : ERep st00 w l1 mp0 none (.tup t x) v → ERep st00 w l2 mp0 none (.tup t x) v := by
    rintro ⟨vs, hv, ht⟩
    obtain ⟨k1, k2⟩ := tup_iff.1 ht
    exact ⟨vs, hv, tup_iff.2 ⟨k1, (CRep_noSl hn).2 ((CRep_noSl hn).1 k2)⟩⟩
  unfold resAV at h ⊢
  split at h
  · rename_i a x
    have ha : noSl a = true := by
      simp only [noSl] at hn
      cases hq : noSl a with
      | true => rfl
      | false => rw [hq] at hn; cases hn
    obtain ⟨cs, k1, k2⟩ := h
    exact ⟨cs, (CRep_noSl ha).2 ((CRep_noSl ha).1 k1), k2⟩
  · exact key h

theorem ok_callX (hG : GamOk P G) (h : Sim w0 lim0 rb n st a w lim β) (hrb : ∀ k, some k = rb → k < w0.heap.size) (hd : ∀ d, o.dst = some d → d < n) {f : FuncId} {cl : Call} (hop : o.op = .call cl) (hcal : cl.callee = .value (.func f))
    (hc : stCallX G o f cl.args.toList st = some c) (ho : c.out st = some st') : OpOk P w0 lim0 rb n o st' a w := by
  unfold stCallX at hc
  cases hg : G f with
  | none => rw [hg] at hc; cases hc
  | some s =>
    rw [hg] at hc; simp only [] at hc
    have hf := hG f s hg
    have hvals : (cl.args.map a.eval) = (cl.args.toList.map a.eval).toArray := by apply Array.ext'; rw [Array.toList_map]
    have exec : (execOp a.eval o).run P w = .ok (.enter f (cl.args.toList.map a.eval).toArray) w := by
      have e1 : ∀ args, (Deferred.ofValue (.func (.func f) #[] #[]) args) = (pure { target := .fn (.func f) #[], args := args } : Sem Deferred) := by
        intro args; simp [Deferred.ofValue]
      simp only [execOp, hop, resolve, hcal, Act.eval, hvals, e1, Sem.run_bind, Sem.run_pure, Result.andThen_ok, invoke]
      simpa using hf.enters _ w
    cases hfv : s.fv with
    | some g => rw [hfv] at hc; cases hc
    | none =>
    rw [hfv] at hc; simp only [isF, cnd_false] at hc
    split at hc
    · -- a call that reads
      rename_i hu hopn hmu
      split at hc
      · rename_i x rd hpk hcast hcl
        have ha : ArgsRep w (limX st β lim) none s.aty x (cl.args.toList.map a.eval) := by
          refine packArgs_rep (st := st) (β := β) (rb := rb) hpk (by simp) (fun i av v hi hv => ?_)
          simp only [List.getElem?_map] at hi hv
          cases hq : cl.args.toList[i]? with
          | none => rw [hq] at hi; cases hi
          | some y =>
            rw [hq] at hi hv
            injection hi with hi; injection hv with hv
            subst hi; subst hv
            exact argX_rep h y
        have hrdin : RdIn w (limX st β lim) none s rd := ⟨fun h' => (by rw [hu] at h'; cases h'), fun _ => rfl⟩
        cases hmk : mkD st o.dst with
        | true =>
          rw [hmk] at hc; simp only [cnd_true] at hc
          cases hfr : freeD st o.dst with
          | none => rw [hfr] at hc; cases hc
          | some d =>
            rw [hfr] at hc; simp only [] at hc
            injection hc with hc; subst hc
            simp only [Comp.out] at ho
            cases hfn : s.fn x rd with
            | none => rw [hfn] at ho; cases ho
            | some r =>
              rw [hfn] at ho; injection ho with ho; subst ho
              obtain ⟨hdst, hfio, _, _, hd0⟩ := free_some hfr
              intro K Q hK
              unfold Oper.wp
              rw [exec]
              refine Calls.mono (hf.calls hfv hopn hmu x rd r hfn w (limX st β lim) none _ ha hrdin) ?_
              intro e w' hret
              obtain ⟨v, lim2, rfl, g1, g2, g3, g4, g5, g6, g7, g8, _, _⟩ := ret_closed hcl hret
              show K (a.put o.dst v) w'
              rw [hdst]
              have hX := XRep.of_crep w.heap.size g5 g4 (fun p hp u hu' => by
                obtain ⟨e', z, k1, k2, k3⟩ := g6 p hp
                rw [hu'] at k2; injection k2 with k2; subst k2
                rcases k3 with k3 | ⟨b, m, cc, arr, el, fr, k3, k4, k5, k6, k7, k8, k9⟩
                · exact .inl k3
                · refine .inr ⟨b, m, cc, arr, el, fr, k3, k5, k6, k7, fun e2 he2 => ?_⟩
                  rw [k1] at he2; injection he2 with he2; injection he2 with he2; subst he2; exact k8) g7
              refine hK _ _ (fun g => if g < w.heap.size then lim g else some 0) _ (h.newroot hrb (hd d hdst) hfio hd0 (rootOf s.one s.rty r.1) (rootAV s.one s.rty d) v _ g1.os g1.tape g1.output g1.size (fun k hk => g1.block k hk (by simp)) (fun k hk => by simp [hk]) hX (fun g hg' => ?_) ?_)
              · obtain ⟨p, hp, u, hu', hbu⟩ := hg'
                obtain ⟨e', z, k1, k2, k3⟩ := g6 p hp
                rw [hu'] at k2; injection k2 with k2; subst k2
                rcases k3 with k3 | ⟨b, m, cc, arr, el, fr, k3, k4, _⟩
                · rw [k3] at hbu; cases hbu
                · rw [k3] at hbu; injection hbu with hbu
                  have hbu : b = g := hbu
                  subst hbu
                  exact ⟨k4, if_neg (by omega)⟩
              · rcases g8 with ⟨q1, q2, _⟩ | ⟨q1, q2, _⟩
                · exact .inl ⟨q1 d, q2⟩
                · exact .inr ⟨q1 d, q2⟩
        | false =>
          rw [hmk] at hc; simp only [cnd_false] at hc
          injection hc with hc; subst hc
          simp only [Comp.out] at ho
          cases hfn : s.fn x rd with
          | none => rw [hfn] at ho; cases ho
          | some r =>
            rw [hfn] at ho; injection ho with ho; subst ho
            intro K Q hK
            unfold Oper.wp
            rw [exec]
            refine Calls.mono (hf.calls hfv hopn hmu x rd r hfn w (limX st β lim) none _ ha hrdin) ?_
            intro e w' hret
            obtain ⟨v, lim2, rfl, g1, g2, g3, g4, g5, g6, g7, g8, g9, g10⟩ := ret_closed hcl hret
            show K (a.put o.dst v) w'
            let l3 : Lim := fun g => if g < w.heap.size then lim g else lim2 g
            have hl3 : ∀ k, k < w.heap.size → l3 k = lim k := fun k hk => by simp [l3, hk]
            have hl3' : ∀ k, w.heap.size ≤ k → l3 k = lim2 k := fun k hk => by simp [l3, show ¬ k < w.heap.size by omega]
            have hblk : ∀ k, k < w.heap.size → w'.heap[k]? = w.heap[k]? := fun k hk => g1.block k hk (by simp)
            have htip : ∀ {sz : Nat} {z : Value}, Tip w' lim2 w.heap.size sz z → Tip w' l3 w0.heap.size sz z := by
              intro sz z hz
              rcases hz with hz | ⟨b, m, cc, arr, el, fr, k3, k4, k5, k6, k7, k8, k9⟩
              · exact .inl hz
              · exact .inr ⟨b, m, cc, arr, el, fr, k3, Nat.le_trans h.grow.size k4, k5, k6, k7, k8, (hl3' b k4).trans k9⟩
            have hre : CRep w' l3 (rootOf s.one s.rty r.1).1 (rootOf s.one s.rty r.1).2 (flatV v) := by
              refine CRep.relim g5 g4 (fun p hp u hu' g hgu => ?_)
              obtain ⟨e', z, k1, k2, k3⟩ := g6 p hp
              rw [hu'] at k2; injection k2 with k2; subst k2
              rcases k3 with k3 | ⟨b, m, cc, arr, el, fr, k3, k4, _⟩
              · rw [k3] at hgu; cases hgu
              · rw [k3] at hgu; injection hgu with hgu
                have hgu : b = g := hgu
                subst hgu; exact hl3' b k4
            refine hK _ _ l3 β (h.grown { upd0 o.dst (resAV s.rty s.one r.1) none with own := resOwn s.one s.own } v w' l3 hd rfl (ext_keep g1.size hblk hl3) (grow_keep h.grow g1.os g1.tape g1.output g1.size (fun k hk _ => hblk k (Nat.lt_of_lt_of_le hk h.grow.size)))
              (fun k hk _ _ => ⟨hblk k hk, hl3 k hk⟩) (fun k hk => ⟨hrb k hk, hl3 k (Nat.lt_of_lt_of_le (hrb k hk) h.grow.size)⟩) (ERep_res ?_) (fun p hp => ?_) (fun p hp q hq => g10 p hp q hq) rfl (.inl ⟨rfl, fun b hb => hblk b (Nat.lt_of_lt_of_le (hrb b hb.symm) h.grow.size)⟩))
            · rcases g8 with ⟨_, q2, q3⟩ | ⟨_, ⟨vs, q2, q3⟩, q4⟩
              · rw [q3]; exact ⟨_, hre, q2⟩
              · rw [q4]
                have hfv : flatV v = vs.flatMap fun v => v.cells.toList := by rw [q2]; simp [flatV]
                exact ⟨vs, q2, tup_iff.2 ⟨q3, by rw [← hfv]; exact hre⟩⟩
            · obtain ⟨e', z, k1, k2, k3⟩ := g9 p hp
              refine ⟨e', z, k1, k2, htip k3, fun g hgz => .inl ?_⟩
              rcases k3 with k3 | ⟨b, m, cc, arr, el, fr, k3, k4, _⟩
              · rw [k3] at hgz; cases hgz
              · rw [k3] at hgz; injection hgz with hgz
                have hgz : b = g := hgz
                rw [← hgz]; exact k4
      · cases hc
    · -- a call that writes
      rename_i hu hopn hmu
      obtain ⟨aty, rdty, usesRd, rty, one, own, opens, muts, fv, fn⟩ := s
      simp only at hu hopn hmu hc hf
      split at hc
      · rename_i x0 xs hargs
        split at hc
        · rename_i r p hxe
          split at hc
          · rename_i d y hio hat
            split at hc
            · rename_i _ b _ _ rd hcast
              split at hc
              · rename_i x hpk hns
                injection hc with hc; subst hc
                simp only [Comp.out] at ho
                cases hfn : fn ((), x) rd with
                | none => rw [hfn] at ho; cases ho
                | some z =>
                  rw [hfn] at ho; injection ho with ho; subst ho
                  obtain ⟨e1, e2⟩ := cast_some hcast
                  obtain ⟨yt, yv⟩ := y
                  simp only at e1 e2
                  subst e1; subst e2
                  obtain ⟨dd, hio', hv⟩ := xf_val h hxe hat
                  rw [hio] at hio'; injection hio' with hio'; subst hio'
                  obtain ⟨d2, Bu, m1, m2, m3, m6, m7, m8⟩ := h.atX hat
                  rw [hio] at m1; injection m1 with m1; subst m1
                  have hx0 : a.eval x0 = wrapV yt (((flatV (β.V r)).drop (offs d.1 p)).take yt.size) := hv
                  have hav : cl.args.toList.map a.eval = a.eval x0 :: xs.map a.eval := by rw [hargs]; rfl
                  have ha : ArgsRep w lim none b x (xs.map a.eval) := by
                    refine packArgs_rep (st := st) (β := β) (rb := rb) hpk (by simp) (fun i av v hi hv' => ?_)
                    simp only [List.getElem?_map] at hi hv'
                    cases hq : xs[i]? with
                    | none => rw [hq] at hi; cases hi
                    | some y =>
                      rw [hq] at hi hv'
                      injection hi with hi; injection hv' with hv'
                      subst hi; subst hv'
                      exact h.ent y
                  intro K Q hK
                  unfold Oper.wp
                  rw [exec]
                  refine Calls.mono (hf.mutd hfv hmu ((), x) rd z hfn w lim _ Bu (by rw [hav]; exact ⟨⟨_, hx0, m7⟩, ha⟩) (fun g hg' => (h.xs.base r d g hio (m6 g hg')).2.2)) ?_
                  intro e w' hret
                  obtain ⟨v, rfl, g1, g2, g3, g4, g5, g6, cs, g7, g8⟩ := hret
                  rw [hav] at g7
                  simp only [List.head?_cons] at g7
                  injection g7 with g7
                  have hcs : cs = ((flatV (β.V r)).drop (offs d.1 p)).take yt.size := by
                    have k1 := wrapV_cells (g8.crep (lim := fun _ => none) (fun _ _ => rfl))
                    have k2 := wrapV_cells (m7.crep (lim := fun _ => none) (fun _ _ => rfl))
                    rw [hx0] at g7
                    rw [g7, k1] at k2
                    have := congrArg Array.toList k2
                    simpa using this
                  rw [hcs] at g8
                  obtain ⟨x', hset⟩ := setP_ok (y := ⟨yt, rd⟩) z.2 m2
                  have hsd : setDat d p ⟨yt, z.2⟩ = ⟨d.1, x'⟩ := by
                    unfold setDat
                    have : setP d.1 d.2 p ⟨yt, z.2⟩ = some x' := hset
                    rw [this]
                  show K (a.put o.dst v) w'
                  have hst := h.setroot (o := o) (d' := ⟨d.1, x'⟩) (w' := w') (lim' := lim) hrb hd hio rfl (resAV rty one z.1) v g1 g2 g3 g4 (fun k hk hn => g5 k hk (fun hb => hn (m6 k hb))) (fun _ _ => rfl)
                    (m8 w' z.2 x' hset (fun g hg' hn => g5 g ((h.xs.io r d hio).lt g hg') hn) g8) (fun _ _ => ERep_res (res_noSl hns g6))
                  rw [← hsd] at hst
                  exact hK _ _ lim β hst
              · cases hc
            · cases hc
          · cases hc
        · cases hc
      · cases hc
    · cases hc
end
end Go.Den

namespace Go.Den
section
variable {P : Program} {tab : Tab} {G : Gam} {w0 : Base} {lim0 : Lim} {rb : Option Nat} {n : Nat}
variable {st st' : St} {a : Act} {w w' : World} {lim lim' : Lim} {β : Mp} {o : Oper} {c : Comp}

theorem ok_convX (hT : TabOk P tab) (h : Sim w0 lim0 rb n st a w lim β) (hd : ∀ d, o.dst = some d → d < n) {s t : TypeId} {x : Operand} {r : Tmp} {p : List Nat} (hop : o.op = .convert s t x) (hxe : (st.ent x).av = .xf r p)
    (hc : stConvX tab o s t r p st = some c) (ho : c.out st = some st') : OpOk P w0 lim0 rb n o st' a w := by
  unfold stConvX at hc
  split at hc
  · rename_i xs hs ht hy
    change List Int at xs
    injection hc with hc; subst hc
    obtain ⟨_, rfl⟩ := out_ret ho
    obtain ⟨el, h1, h1'⟩ := elemTy hT hs
    have h1' : P.underlying el = some (.int .u8) := h1'.desc
    have h2 : P.underlying t = some .string := (hT _ _ ht).desc
    have hax := argX_rep h x
    rw [hxe] at hax
    simp only [argX, hy] at hax
    obtain ⟨b, cc, hv, hle, hsr⟩ := slice_rep hax
    refine .value (v := .string ⟨⟨byteList xs⟩⟩) ?_ (h.plain _ _ _ hd mk_str)
    have hrun : (convert s t (.slice b xs.length cc)).run P w = .ok (.string ⟨⟨byteList xs⟩⟩) w := by
      rcases hsr with hsr | ⟨bb, oo, rfl, hb, hu, hcell⟩
      · subst hsr
        cases b with
        | none => rw [run_convert_bytes_nil w s el h1 h1' _ _ t h2]; rfl
        | some b => simp [convert, underlying, h1, h2, h1', Conv.bytesToString, loadCells]; rfl
      · rw [run_convert_bytes_arg w s el h1 h1' bb oo xs.length cc xs rfl ?_ t h2, strOf_bytes]
        intro i hi
        obtain ⟨cs, hcs, hj⟩ := hcell i _ (List.getElem?_eq_getElem hi)
        have hcs : cs = [.int .u8 xs[i]] := hcs
        subst hcs
        have := hj 0 _ rfl
        simpa [Ty.size, hi] using this
    have hv' : a.eval x = .slice b xs.length cc := hv
    simp [execOp, hop, hv', hrun]
  · cases hc

theorem apply_drop {d : Tmp} {av : AV} {xw : Option (Tmp × Dat)} (ls : List Loc) (st : St) :
    apply (apply st { upd0 none .any none with takes := ls }) { upd0 (some d) av none with xw := xw } = apply st { upd0 (some d) av none with takes := ls, xw := xw } := by
  refine St.ext' ?_ rfl ?_ rfl rfl rfl rfl rfl
  · funext t
    simp only [apply, upd0]
    congr 1
    cases hq : (st.env t).tag with
    | none => rfl
    | some km => obtain ⟨k, m⟩ := km; cases m <;> rfl
  · funext l
    cases l with
    | tmp t p => rfl
    | box b p => rfl

/-- what is appended to nothing: a tree -/
theorem ok_appendX (hT : TabOk P tab) (h : Sim w0 lim0 rb n st a w lim β) (hrb : ∀ k, some k = rb → k < w0.heap.size) (hd : ∀ d, o.dst = some d → d < n) {t : TypeId} {x y : Operand} {cl : Call} (hop : o.op = .call cl) (hcal : cl.callee = .builtin .append) (ha : cl.args = #[x, y]) (hat : cl.argTypes = #[t, t])
    (hc : stAppendX tab o t x y st = some c) (ho : c.out st = some st') : OpOk P w0 lim0 rb n o st' a w := by
  unfold stAppendX at hc
  cases hty : tab t with
  | none => rw [hty] at hc; cases hc
  | some ty =>
    cases ty with
    | slice e =>
      rw [hty] at hc; simp only [] at hc
      split at hc
      · rename_i xs ys ol hx hy hol
        change List e.val at xs
        change List e.val at ys
        split at hc
        · rename_i d hfree hns
          injection hc with hc; subst hc
          obtain ⟨hchk, rfl⟩ := out_ret ho
          have q1 := andB_iff.1 hchk
          have hz0 : (xs.length : Int) = 0 := of_decide_eq_true q1.1
          have hlt : (ys.length : Int) < big := ltI_iff.1 q1.2
          unfold big at hlt
          have hxl : xs.length = 0 := by omega
          have hxs : xs = [] := List.eq_nil_of_length_eq_zero hxl
          obtain ⟨hdst, hfd, _, _, hd0⟩ := free_some hfree
          obtain ⟨el, h1, h2⟩ := elemTy hT hty
          obtain ⟨bx, cx, hvx, hlx, hsx⟩ := slice_rep (st := st) (β := β) (rb := rb) (as_rep hx (h.ent x))
          obtain ⟨by', cy, hvy, hly, hsy⟩ := slice_rep (st := st) (β := β) (rb := rb) (as_rep hy (argX_rep h y))
          have hvx : a.eval x = .slice bx xs.length cx := hvx
          have hvy : a.eval y = .slice by' ys.length cy := hvy
          rw [hxl] at hvx
          have hsy : SRep w (limX st β lim) (CRep w (limX st β lim) e) e.size ys by' := hsy
          obtain ⟨news, hrn, hnc⟩ : ∃ news, RRep w (limX st β lim) e ys news ∧ (ys = [] ∨ ∃ bb oo, by' = some ⟨bb, oo, none⟩ ∧ ∀ k v, news[k]? = some v → w.cell? ⟨bb, oo + k, none⟩ = some v) := by
            rcases hsy with hsy | ⟨bb, oo, rfl, hb, hu, hcell⟩
            · subst hsy; exact ⟨[], RRep.nil e, .inl rfl⟩
            · obtain ⟨L, k1, k2⟩ := SRep_cells hcell
              exact ⟨L, k1, .inr ⟨bb, oo, rfl, k2⟩⟩
          have hcellV : ∀ (i : Nat) (z : e.val), ys[i]? = some z → ∀ j v, (cellsV e z)[j]? = some v → news[i * e.size + j]? = some v := fun i z hz j v hv => by
            obtain ⟨cs, k1, k2⟩ := hrn.2 i z hz
            rw [(CRep_noSl hns).1 k1] at k2
            exact k2 j v hv
          have exec : ∀ {r w2}, (Builtin.append_ #[t, t] o.type #[a.eval x, a.eval y]).run P w = .ok r w2 → (execOp a.eval o).run P w = .ok (.value r) w2 := by
            intro r w2 hr
            have e0 : cl.args.map a.eval = #[a.eval x, a.eval y] := by rw [ha]; simp
            simp only [execOp, hop, resolve, hcal, Sem.run_bind, Sem.run_pure, Result.andThen_ok, invoke, builtin, e0, hat, hr]
          -- first the place is given up
          have h0 : Sim w0 lim0 rb n (apply st { upd0 none .any none with takes := ol.toList }) a w lim β :=
            h.val { upd0 none .any none with takes := ol.toList } undef (fun d hd => by cases hd) rfl rfl trivial (fun _ => .tmp 0 []) (fun p hp => by cases hp) (fun p hp => by cases hp) (fun l hl => by cases hl) (fun l hl => by cases hl)
          have hio0 : (apply st { upd0 none .any none with takes := ol.toList }).io = st.io := rfl
          have fin : ∀ (v : Value) (w2 : World) (l2 : Lim) (B0 C : Nat → Prop), (execOp a.eval o).run P w = .ok (.value v) w2 → w2.os = w.os → w2.tape = w.tape → w2.output = w.output → w.heap.size ≤ w2.heap.size →
              (∀ k, C k → freeB w0 rb (apply st { upd0 none .any none with takes := ol.toList }) a w lim β k ∧ ¬ isTree (apply st { upd0 none .any none with takes := ol.toList }) β k) →
              (∀ k, k < w.heap.size → ¬ C k → w2.heap[k]? = w.heap[k]?) → (∀ k, k < w.heap.size → l2 k = lim k) → XRep w2 (.slice e) ys (flatV v) B0 → (∀ g, B0 g → (w.heap.size ≤ g ∨ C g) ∧ l2 g = some 0) → v = wrapV (.slice e) (flatV v) →
              OpOk P w0 lim0 rb n o (apply st { upd0 (some d) (.xf d []) none with takes := ol.toList, xw := some (d, ⟨.slice e, ys⟩) }) a w := by
            intro v w2 l2 B0 C he m1 m2 m3 m4 hC hk hl hX hB hv
            have := h0.newrootC hrb (hd d hdst) (by rw [hio0]; exact hfd) hd0 ⟨.slice e, ys⟩ (.xf d []) v B0 m1 m2 m3 m4 C hC hk hl hX hB (.inl ⟨rfl, hv⟩)
            rw [apply_drop] at this
            exact OpOk.value (o := o) he (by rw [hdst]; exact this)
          -- a block of its own
          have grow : cx < ys.length → OpOk P w0 lim0 rb n o (apply st { upd0 (some d) (.xf d []) none with takes := ol.toList, xw := some (d, ⟨.slice e, ys⟩) }) a w := by
            intro hg
            have r1 : (Builtin.firstCells e.size 0 (.slice bx 0 cx)).run P w.drew = .ok ([] : List Value).toArray w.drew := by
              have := run_first (P := P) (cc := cx) (w2 := w.drew) (RRep.nil (w := w) (lim := lim) e) (b := bx) (.inl rfl)
              simpa using this
            have r2 := run_first (P := P) (cc := cy) (w2 := w.drew) hrn hnc
            have hrun := run_append_at_new (ty := o.type) h1 h2 (sv := .slice bx 0 cx) rfl r1 r2 (by omega) (by omega)
            simp only [Nat.zero_add] at hrun
            have hge := grownCap_ge w ys.length cx el
            have hz : (zeroCells e).toArray.size = e.size := by simpa using (zero_rep w lim e).length
            refine fin (.slice (some ⟨w.heap.size, 0, none⟩) ys.length (grownCap w ys.length cx el)) (w.drew.alloc (.cells ([] ++ (news ++ (Builtin.zeroCells (zeroCells e).toArray (grownCap w ys.length cx el - ys.length)).toList)).toArray el)) (limSet lim w.heap.size (some 0)) (fun g => g = w.heap.size) (fun _ => False) (exec (by rw [hvx, hvy, hrun])) rfl rfl rfl (by simp) (fun _ hk => hk.elim)
              (fun k hk _ => alloc_old (w := w.drew) _ hk) (fun k hk => by simp [limSet, show k ≠ w.heap.size by omega]) (XRep.mkFlat hns rfl hge ?_ (alloc_new (w := w.drew) _) (fun _ _ hk => by simp at hk) (fun _ => Iff.rfl) (fun j z hj q v hv => ?_))
              (fun g hg => ⟨.inl (by rw [hg]; exact Nat.le_refl _), by simp [limSet, hg]⟩) rfl
            · simp only [List.nil_append, List.size_toArray, List.length_append, Array.length_toList, size_zeroCells, hz, hrn.1]
              rw [← Nat.add_mul]
              exact Nat.mul_le_mul_right _ (by omega)
            · have := hcellV j z hj q v hv
              have hlt := (List.getElem?_eq_some_iff.1 this).1
              simp only [List.nil_append, List.getElem?_toArray]
              rw [List.getElem?_append_left hlt]; exact this
          have nothing : a.eval x = .slice none 0 0 → ys.length = 0 → OpOk P w0 lim0 rb n o (apply st { upd0 (some d) (.xf d []) none with takes := ol.toList, xw := some (d, ⟨.slice e, ys⟩) }) a w := by
            intro hnil hz
            have r2 := run_first (P := P) (cc := cy) (w2 := w) hrn hnc
            rw [hz] at r2
            have hrun := run_append_nothing (ty := o.type) h1 h2 r2
            exact fin (.slice none 0 0) w lim (fun _ => False) (fun _ => False) (exec (by rw [hnil, hvy, hz]; exact hrun)) rfl rfl rfl (Nat.le_refl _) (fun _ hk => hk.elim) (fun _ _ _ => rfl) (fun _ _ => rfl) (.inl ⟨rfl, hz, fun _ hg => hg⟩) (fun _ hg => hg.elim) rfl
          rcases owner_spec h hol hx with ⟨l, rfl, ho1, ho2, ho3⟩ | ⟨rfl, hnil⟩
          · obtain ⟨e', v', g1, g2, g3, g4⟩ := h.own l ho1
            rw [ho3] at g1; injection g1 with g1; injection g1 with g1; subst g1
            rw [ho2] at g2; injection g2 with g2; subst g2
            rcases g3 with g3 | ⟨b, m, cap, arr, el', fr, g3, g5, g6, g7, g8, g9, g10⟩
            · by_cases hz : ys.length = 0
              · exact nothing g3 hz
              · rw [hvx] at g3; injection g3 with k1 k2 k3
                exact grow (by omega)
            · rw [hvx] at g3; injection g3 with k1 k2 k3
              subst k1; subst k2; subst k3
              by_cases hroom : ys.length ≤ cx
              · -- there is room
                have r2 := run_first (P := P) (cc := cy) (w2 := w) hrn hnc
                have hfit : ys.length * e.size ≤ arr.size := Nat.le_trans (Nat.mul_le_mul_right _ hroom) g9
                have hnl := hrn.1
                have hal : arr.toList.length = arr.size := by simp
                obtain ⟨c2, c3, k1, k3⟩ : ∃ c2 c3, arr.toList = [] ++ (c2 ++ c3) ∧ c2.length = news.length := by
                  refine ⟨arr.toList.take news.length, arr.toList.drop news.length, ?_, ?_⟩
                  · rw [List.nil_append, List.take_append_drop]
                  · rw [List.length_take]; omega
                obtain ⟨w', m1, m2⟩ := run_append_at_room (ty := o.type) (s := 0) (sc := cx) (m := ys.length) h1 h2 r2 (by omega) g6 k1 (by simp) k3 hrn.notAgg g7
                simp only [Nat.zero_add] at m1
                have hblt : b < w.heap.size := (Array.getElem?_eq_some_iff.1 g6).1
                have hbrb : some b ≠ rb := fun hh => by have := hrb b hh; omega
                have hbv : blockOf (a.eval x) = some b := by rw [hvx]; rfl
                have hl0 : lim b = some 0 := by rw [g10]; simp
                refine fin (.slice (some ⟨b, 0, none⟩) ys.length cx) w' lim (fun g => g = b) (fun g => g = b) (exec (by rw [hvx, hvy]; exact m1)) m2.os m2.tape m2.output (by rw [m2.size]; exact Nat.le_refl _) (fun k hk => ?_) (fun k _ hk => m2.other k hk) (fun _ _ => rfl)
                  (XRep.mkFlat hns rfl hroom ?_ m2.at_ (fun k hk => g7 k ?_) (fun _ => Iff.rfl) (fun j z hj q v hv => ?_)) (fun g hg => ⟨.inr hg, by rw [hg]; exact hl0⟩) rfl
                · subst hk
                  refine ⟨⟨hl0, .inl g5, hbrb, fun c d' hc he => g4 k hbv c d' hc he, fun m z hm hz hg => ?_⟩, fun ht => ?_⟩
                  · have hm' : m ≠ l ∧ st.own m = true := by
                      rcases own_apply hm with hn | hs
                      · cases m with
                        | tmp t p => cases hn.1
                        | box c p => obtain ⟨_, _, _, he, _⟩ := hn; cases he
                      · exact ⟨fun e => hs.2.1 (by rw [e]; simp), hs.1⟩
                    have hz' : locV st a w β m = some z := by
                      rw [← hz]; cases m <;> rfl
                    exact hm'.1 (h.sep m l z _ k hm'.2 ho1 hz' ho2 hg hbv)
                  · exact h.xs.off ho1 ho2 hbv ht
                · have e1 : arr.size = arr.toList.length := by simp
                  rw [e1, k1] at g9
                  simp only [List.nil_append, List.size_toArray, List.length_append] at g9 ⊢
                  omega
                · have e1 : arr.size = arr.toList.length := by simp
                  rw [e1, k1]
                  simp only [List.nil_append, List.size_toArray, List.length_append] at hk ⊢
                  omega
                · have := hcellV j z hj q v hv
                  have hlt := (List.getElem?_eq_some_iff.1 this).1
                  simp only [List.nil_append, List.getElem?_toArray]
                  rw [List.getElem?_append_left hlt]; exact this
              · exact grow (by omega)
          · by_cases hz : ys.length = 0
            · exact nothing hnil hz
            · rw [hvx] at hnil; injection hnil with k1 k2 k3
              exact grow (by omega)
        · cases hc
      · cases hc
    | _ => rw [hty] at hc; cases hc
end
end Go.Den

namespace Go.Den
section
variable {P : Program} {tab : Tab} {w0 : Base} {lim0 : Lim} {rb : Option Nat} {n : Nat}
variable {st : St} {a : Act} {w : World} {lim : Lim} {β : Mp}

/-- the state without a tree -/
def buryS (st : St) (r : Tmp) : St := { st with io := fun k => cnd (Nat.beq k r) (some ⟨.unit, ()⟩) (st.io k) }
def buryM (β : Mp) (r : Tmp) : Mp := { β with V := fun k => if k = r then .agg #[] else β.V k, B := fun k => if k = r then (fun _ => False) else β.B k }
theorem bury_io {r : Tmp} : (buryS st r).io r = some ⟨.unit, ()⟩ := by simp [buryS]
theorem bury_ne {r k : Tmp} (h : k ≠ r) : (buryS st r).io k = st.io k := by
  have : Nat.beq k r = false := by
    cases hq : Nat.beq k r with
    | true => exact absurd (nbeq hq) h
    | false => rfl
  simp [buryS, this]
theorem Sim.bury (h : Sim w0 lim0 rb n st a w lim β) {r : Tmp} {d : Dat} (hr : st.io r = some d) (h0 : r ≠ 0) : Sim w0 lim0 rb n (buryS st r) a w lim (buryM β r) := by
  have lv : ∀ l, locV (buryS st r) a w (buryM β r) l = locV st a w β l := fun l => by cases l <;> rfl
  have lt : ∀ l, locTy (buryS st r) l = locTy st l := fun l => by cases l <;> rfl
  have Vne : ∀ k, k ≠ r → (buryM β r).V k = β.V k ∧ (buryM β r).B k = β.B k := fun k hk => by simp [buryM, hk]
  have Br : ∀ g, ¬ (buryM β r).B r g := fun g hg => by simp [buryM] at hg
  have cas : ∀ k x, (buryS st r).io k = some x → (k = r ∧ x = ⟨.unit, ()⟩) ∨ (k ≠ r ∧ st.io k = some x) := fun k x hk => by
    by_cases e : k = r
    · subst e; rw [bury_io] at hk; injection hk with hk; exact .inl ⟨rfl, hk.symm⟩
    · rw [bury_ne e] at hk; exact .inr ⟨e, hk⟩
  have old : ∀ k x g, (buryS st r).io k = some x → (buryM β r).B k g → k ≠ r ∧ st.io k = some x ∧ β.B k g := fun k x g hk hg => by
    rcases cas k x hk with ⟨rfl, _⟩ | ⟨e, hk⟩
    · exact absurd hg (Br g)
    · rw [(Vne k e).2] at hg; exact ⟨e, hk, hg⟩
  refine ⟨h.size, h.defers, h.grow, h.limOld, fun t => ?_, h.box, h.inj, fun l hl => ?_, fun l l' v v' g h1 h2 h3 h4 => ?_, fun t l h1 h2 => ?_, h.rd, ?_⟩
  · have ht := h.env t
    show ERep (buryS st r) w lim (buryM β r) rb (st.env t).av (tmpOf a t)
    cases hav : (st.env t).av with
    | xf k p =>
      rw [hav] at ht
      obtain ⟨x, k1, k2⟩ := ht
      by_cases e : k = r
      · subst e; exact ⟨_, bury_io, .inl rfl⟩
      · refine ⟨x, by rw [bury_ne e]; exact k1, ?_⟩
        rw [(Vne k e).1]; exact k2
    | xp k p m q =>
      rw [hav] at ht
      obtain ⟨x, k1, k2⟩ := ht
      by_cases e : k = r
      · subst e; exact ⟨_, bury_io, .inl rfl⟩
      · refine ⟨x, by rw [bury_ne e]; exact k1, ?_⟩
        rw [(Vne k e).1]; exact k2
    | xt k =>
      rw [hav] at ht
      obtain ⟨x, k1, k2⟩ := ht
      by_cases e : k = r
      · subst e; exact ⟨_, bury_io, .inl rfl⟩
      · refine ⟨x, by rw [bury_ne e]; exact k1, ?_⟩
        rw [(Vne k e).1]; exact k2
    | _ => rw [hav] at ht; exact ht
  · rw [lt, lv]; exact h.own l hl
  · rw [lv] at h3 h4; exact h.sep l l' v v' g h1 h2 h3 h4
  · rw [lt, lv]; exact h.tag t l h1 h2
  · refine ⟨fun k x hk => ?_, fun k x g hk hg => ?_, fun k x g hk hg b d' hb => ?_, fun k x g hk hg l v hl hv => ?_, fun k x k' x' g hk hk' hg hg' => ?_, fun b t o hb => ?_, fun b t o hb => ?_, h.xs.xinj, fun x hx hm => ?_⟩
    · rcases cas k x hk with ⟨rfl, rfl⟩ | ⟨e, hk⟩
      · exact ⟨by simp [buryM]; rfl, Br⟩
      · rw [(Vne k e).1, (Vne k e).2]; exact h.xs.io k x hk
    · obtain ⟨e, hk, hg⟩ := old k x g hk hg
      exact h.xs.base k x g hk hg
    · obtain ⟨e, hk, hg⟩ := old k x g hk hg
      exact h.xs.box k x g hk hg b d' hb
    · obtain ⟨e, hk, hg⟩ := old k x g hk hg
      rw [lv] at hv
      exact h.xs.own k x g hk hg l v hl hv
    · obtain ⟨e, hk, hg⟩ := old k x g hk hg
      obtain ⟨e', hk', hg'⟩ := old k' x' g hk' hg'
      exact h.xs.dis k x k' x' g hk hk' hg hg'
    · obtain ⟨cells, e, k1, k2, k3, k4, k5⟩ := h.xs.xb b t o hb
      refine ⟨cells, e, k1, k2, k3, k4, fun k q ho => ?_⟩
      obtain ⟨x, m1, m2⟩ := k5 k q ho
      by_cases e' : k = r
      · subst e'; exact ⟨_, bury_io, .inl rfl⟩
      · refine ⟨x, by rw [bury_ne e']; exact m1, ?_⟩
        rw [(Vne k e').1]; exact m2
    · obtain ⟨k1, k2, k3⟩ := h.xs.xbox b t o hb
      refine ⟨k1, fun l v hl hv => ?_, fun k x hk hg => ?_⟩
      · rw [lv] at hv; exact k2 l v hl hv
      · obtain ⟨e, hk, hg⟩ := old k x _ hk hg
        exact k3 k x hk hg
    · rcases cas 0 x hx with ⟨e, _⟩ | ⟨e, hx⟩
      · exact absurd e.symm h0
      · rw [(Vne 0 e).1, (Vne 0 e).2]; exact h.xs.fix x hx hm
/-- what the tree held is free -/
theorem bury_free (h : Sim w0 lim0 rb n st a w lim β) {r : Tmp} {d : Dat} (hr : st.io r = some d) {g : Nat} (hg : β.B r g) : freeB w0 rb (buryS st r) a w lim (buryM β r) g ∧ ¬ isTree (buryS st r) (buryM β r) g := by
  obtain ⟨b1, b2, b3⟩ := h.xs.base r d g hr hg
  refine ⟨⟨b3, b1, b2, fun b d' hb => h.xs.box r d g hr hg b d' hb, fun l v hl hv => ?_⟩, fun ht => ?_⟩
  · have hv : locV st a w β l = some v := by cases l <;> exact hv
    exact h.xs.own r d g hr hg l v hl hv
  · rcases ht with ⟨k, x, k1, k2⟩ | ⟨b, t, o, k1, k2⟩
    · by_cases e : k = r
      · subst e; simp [buryM] at k2
      · rw [bury_ne e] at k1
        have k2 : β.B k g := by simpa [buryM, e] using k2
        exact e (h.xs.dis k x r d g k1 hr k2 hg)
    · have k2 : g = β.c b := k2
      exact (h.xs.xbox b t o k1).2.2 r d hr (by rw [← k2]; exact hg)
/-- a tree given away, and a new one: first the one, then the other -/
theorem apply_bury {d : Option Tmp} {av : AV} {x : Tmp × Dat} (r : Tmp) (st : St) :
    apply (buryS st r) { upd0 d av none with xw := some x } = apply st { upd0 d av none with xw := some x, xk := some r } := by
  obtain ⟨c, d'⟩ := x
  exact St.ext' rfl rfl rfl rfl rfl rfl rfl rfl
/-- a name that was free stays free -/
theorem bury_free_io {r d : Tmp} (h : st.io d = none) (hr : st.io r ≠ none) : (buryS st r).io d = none := by
  have e : d ≠ r := fun e => hr (by rw [← e]; exact h)
  rw [bury_ne e]; exact h
/-- a tree is given away for a new one, which may stand in its blocks -/
theorem Sim.moveC {w' : World} {lim' : Lim} (h : Sim w0 lim0 rb n st a w lim β) (hrb : ∀ k, some k = rb → k < w0.heap.size) {r d : Tmp} {dr : Dat} (hr : st.io r = some dr) (h0 : r ≠ 0) (hd : d < n) (hfree : st.io d = none) (hd0 : d ≠ 0) (dat : Dat) (av : AV) (v : Value) (B0 : Nat → Prop)
    (h1 : w'.os = w.os) (h2 : w'.tape = w.tape) (h3 : w'.output = w.output) (hs : w.heap.size ≤ w'.heap.size) (hk : ∀ k, k < w.heap.size → ¬ β.B r k → w'.heap[k]? = w.heap[k]?) (hl : ∀ k, k < w.heap.size → lim' k = lim k)
    (hX : XRep w' dat.1 dat.2 (flatV v) B0) (hB : ∀ g, B0 g → (w.heap.size ≤ g ∨ β.B r g) ∧ lim' g = some 0) (hav : (av = .xf d [] ∧ v = wrapV dat.1 (flatV v)) ∨ (av = .xt d ∧ ∃ vs, v = .tuple vs.toArray ∧ TupSh dat.1 vs)) :
    ∃ β', Sim w0 lim0 rb n (apply st { upd0 (some d) av none with xw := some (d, dat), xk := some r }) (a.put (some d) v) w' lim' β' := by
  have hb := h.bury hr h0
  have := hb.newrootC hrb hd (bury_free_io hfree (by rw [hr]; simp)) hd0 dat av v B0 h1 h2 h3 hs (fun k => β.B r k) (fun k hk' => bury_free h hr hk') hk hl hX hB hav
  rw [apply_bury] at this
  exact ⟨_, this⟩
end
end Go.Den

namespace Go.Den
section
variable {P : Program} {tab : Tab} {w0 : Base} {lim0 : Lim} {rb : Option Nat} {n : Nat}
variable {st st' : St} {a : Act} {w : World} {lim : Lim} {β : Mp} {o : Oper} {c : Comp}

theorem ok_sliceX (hT : TabOk P tab) (h : Sim w0 lim0 rb n st a w lim β) (hrb : ∀ k, some k = rb → k < w0.heap.size) (hd : ∀ d, o.dst = some d → d < n) {t : TypeId} {x : Operand} {lo hi mx : Option Operand} (hop : o.op = .slice t x lo hi mx) (hc : stSliceX tab o t x lo hi mx st = some c) (ho : c.out st = some st') : OpOk P w0 lim0 rb n o st' a w := by
  unfold stSliceX at hc
  split at hc
  · rename_i r hx
    split at hc
    · rename_i e xs k hh d hio hhi hfree
      change List e.val at xs
      split at hc
      · rename_i hr0 hty hns
        injection hc with hc; subst hc
        obtain ⟨hchk, rfl⟩ := out_ret ho
        have hcut : cutL xs (avOpt st none) (avOpt st hi) = some (andB (le0 hh) (leI hh (lenL xs)), takeL xs hh) := by rw [hhi]; rfl
        have hr0' : r ≠ 0 := fun e0 => by subst e0; cases hr0
        obtain ⟨l, m, k0, k1, k2, hys, k3, k4, _⟩ := cut_spec hcut hchk
        have hl0 : l = 0 := by
          rcases k3 with ⟨_, k3⟩ | ⟨_, k3⟩
          · cases k3
          · exact k3
        subst hl0
        obtain ⟨el, h1, h2⟩ := elemTy hT (tyIs_some hty)
        obtain ⟨hdst, hfd, _, _, hd0⟩ := free_some hfree
        obtain ⟨dx, q1, q2⟩ : ERep st w lim β rb (.xf r []) (a.eval x) := hx ▸ h.ent x
        rw [hio] at q1; injection q1 with q1; subst q1
        have hX := h.xs.io r _ hio
        have hB := fun g hg => h.xs.base r _ g hio hg
        have hv : ∃ b cc, flatV (β.V r) = [.slice b xs.length cc] ∧ xs.length ≤ cc ∧ XRep w (.slice e) (xs.take m.toNat) [.slice b (m.toNat) cc] (β.B r) := by
          rcases XRep.flat hns hX with ⟨e1, e2, e3⟩ | ⟨g, cc, arr, el', fr, e1, e2, e3, e4, e5, e6, e7⟩
          · have e2 : xs.length = 0 := e2
            have hm : m.toNat = 0 := by omega
            refine ⟨none, 0, by rw [e1, e2], by omega, .inl ⟨by rw [hm], ?_, e3⟩⟩
            show (xs.take m.toNat).length = 0
            simp [hm]
          · refine ⟨_, cc, e1, e2, XRep.mkFlat hns ?_ ?_ e3 e4 e5 e6 (fun i z hz => ?_)⟩
            · have : (xs.take m.toNat).length = m.toNat := by simp; omega
              exact this.symm
            · have : (xs.take m.toNat).length = m.toNat := by simp; omega
              show (xs.take m.toNat).length ≤ cc
              have e2 : xs.length ≤ cc := e2
              omega
            · have hz : (xs.take m.toNat)[i]? = some z := hz
              rw [List.getElem?_take] at hz
              split at hz
              · exact e7 i z hz
              · cases hz
        obtain ⟨b, cc, hV, hle, hXr⟩ := hv
        have hev : a.eval x = .slice b xs.length cc := by
          rcases q2 with q2 | ⟨u, q3, q4⟩
          · cases q2
          · have : u = .slice e := by simpa [typeAt] using q3.symm
            subst this
            rw [hV] at q4
            simpa [offs, Ty.size, wrapV] using q4
        have hm : ∀ y, hi = some y → ∃ k', (Option.some y).map a.eval = some (.int k' m) := fun y hy => by
          subst hy
          rcases k4 with ⟨k', k4⟩ | ⟨k4, _⟩
          · simp only [avOpt] at k4; injection k4 with k4
            exact ⟨k', by simp only [Option.map_some, eval_int h k4]⟩
          · simp [avOpt] at k4
        have hhi' : ∃ k', hi.map a.eval = some (.int k' m) := by
          cases hi with
          | none => simp [avOpt] at hhi
          | some y => exact hm y rfl
        have hu := run_cut_slice (w := w) (b := b) (lo := none) h1 h2 k0 k1 k2 hle (.inr ⟨rfl, rfl⟩) (.inl hhi')
        have hb : (if cc = (0 : Int).toNat then b else b.map (·.add ((0 : Int).toNat * e.size))) = b := by
          split
          · rfl
          · cases b with
            | none => rfl
            | some ad => cases ad; simp [Addr.add]
        rw [hb] at hu
        have hm2 : takeL xs hh = xs.take m.toNat := by rw [hys]; simp
        have he : (execOp a.eval o).run P w = .ok (.value (.slice b m.toNat cc)) w := by
          simp only [execOp, hop, Instr.sliceAt, Sem.run_bind, underlying, run_program, h1, Result.andThen_ok, Sem.run_pure, Option.map_none, hev]
          simp only [hu, Result.andThen_ok]
          simp
        obtain ⟨β', hsim⟩ := h.moveC hrb hio hr0' (hd d hdst) hfd hd0 ⟨.slice e, xs.take m.toNat⟩ (.xf d []) (.slice b m.toNat cc) (β.B r) rfl rfl rfl (Nat.le_refl _) (fun _ _ _ => rfl) (fun _ _ => rfl) hXr (fun g hg => ⟨.inr hg, (hB g hg).2.2⟩) (.inl ⟨rfl, rfl⟩)
        refine OpOk.value (o := o) (lim := lim) (β := β') he ?_
        rw [hdst, hm2]
        exact hsim
      · cases hc
    · cases hc
  · cases hc
end
end Go.Den

namespace Go.Den
section
variable {P : Program} {tab : Tab} {w0 : Base} {lim0 : Lim} {rb : Option Nat} {n : Nat}
variable {st st' : St} {a : Act} {w : World} {lim : Lim} {β : Mp} {o : Oper} {c : Comp}

theorem SRep_list {l : Lim} {e : Ty} {ys : List e.val} {b : Option Addr} (h : SRep w l (CRep w l e) e.size ys b) : ∃ news, RRep w l e ys news ∧ (ys = [] ∨ ∃ bb oo, b = some ⟨bb, oo, none⟩ ∧ ∀ k v, news[k]? = some v → w.cell? ⟨bb, oo + k, none⟩ = some v) := by
  rcases h with hsy | ⟨bb, oo, rfl, hb, hu, hcell⟩
  · subst hsy; exact ⟨[], RRep.nil e, .inl rfl⟩
  · obtain ⟨L, k1, k2⟩ := SRep_cells hcell
    exact ⟨L, k1, .inr ⟨bb, oo, rfl, k2⟩⟩
theorem RRep.cells {l : Lim} {e : Ty} {ys : List e.val} {news : List Value} (hns : noSl e = true) (hrn : RRep w l e ys news) : ∀ (i : Nat) (z : e.val), ys[i]? = some z → ∀ j v, (cellsV e z)[j]? = some v → news[i * e.size + j]? = some v := fun i z hz j v hv => by
  obtain ⟨cs, k1, k2⟩ := hrn.2 i z hz
  rw [(CRep_noSl hns).1 k1] at k2
  exact k2 j v hv
theorem cells_app {e : Ty} (hns : noSl e = true) {xs ys : List e.val} {olds news rest : List Value} (ho : olds.length = xs.length * e.size)
    (h1 : ∀ (i : Nat) (z : e.val), xs[i]? = some z → ∀ j v, (cellsV e z)[j]? = some v → olds[i * e.size + j]? = some v) (h2 : ∀ (i : Nat) (z : e.val), ys[i]? = some z → ∀ j v, (cellsV e z)[j]? = some v → news[i * e.size + j]? = some v) :
    ∀ (i : Nat) (z : e.val), (xs ++ ys)[i]? = some z → ∀ j v, (cellsV e z)[j]? = some v → (olds ++ (news ++ rest)).toArray[i * e.size + j]? = some v := fun i z hz j v hv => by
  simp only [List.getElem?_toArray]
  by_cases hi : i < xs.length
  · rw [List.getElem?_append_left hi] at hz
    have := h1 i z hz j v hv
    rw [List.getElem?_append_left (List.getElem?_eq_some_iff.1 this).1]; exact this
  · rw [List.getElem?_append_right (by omega)] at hz
    have := h2 _ z hz j v hv
    have e1 : i * e.size + j = olds.length + ((i - xs.length) * e.size + j) := by
      rw [ho, ← Nat.add_assoc, ← Nat.add_mul]; congr 2; omega
    rw [e1, List.getElem?_append_right (by omega), Nat.add_sub_cancel_left, List.getElem?_append_left (List.getElem?_eq_some_iff.1 this).1]; exact this
theorem ok_appendT (hT : TabOk P tab) (h : Sim w0 lim0 rb n st a w lim β) (hrb : ∀ k, some k = rb → k < w0.heap.size) (hd : ∀ d, o.dst = some d → d < n) {t : TypeId} {x y : Operand} {cl : Call} (hop : o.op = .call cl) (hcal : cl.callee = .builtin .append) (ha : cl.args = #[x, y]) (hat : cl.argTypes = #[t, t])
    (hc : stAppendT tab o t x y st = some c) (ho : c.out st = some st') : OpOk P w0 lim0 rb n o st' a w := by
  unfold stAppendT at hc
  split at hc
  · rename_i r hx
    split at hc
    · rename_i e xs hio
      change List e.val at xs
      split at hc
      · rename_i ys d hy hfree
        change List e.val at ys
        split at hc
        · rename_i hr0 hty hns
          injection hc with hc; subst hc
          obtain ⟨hchk, rfl⟩ := out_ret ho
          have hr0' : r ≠ 0 := fun e0 => by subst e0; cases hr0
          have hlt : (xs.length : Int) + (ys.length : Int) < big := ltI_iff.1 hchk
          unfold big at hlt
          obtain ⟨hdst, hfd, _, _, hd0⟩ := free_some hfree
          obtain ⟨el, h1, h2⟩ := elemTy hT (tyIs_some hty)
          have hax : argX st (st.ent x).av = .dat (.slice e) xs := by rw [hx]; simp [argX, St.atX, hio, isU, getP]
          obtain ⟨bx, cx, hvx, hlx, hsx⟩ := slice_rep (st := st) (β := β) (rb := rb) (hax ▸ argX_rep h x)
          obtain ⟨by', cy, hvy, hly, hsy⟩ := slice_rep (st := st) (β := β) (rb := rb) (as_rep hy (argX_rep h y))
          have hvx : a.eval x = .slice bx xs.length cx := hvx
          have hvy : a.eval y = .slice by' ys.length cy := hvy
          obtain ⟨olds, hro, hoc⟩ := SRep_list hsx
          obtain ⟨news, hrn, hnc⟩ := SRep_list hsy
          have hoV := RRep.cells hns hro
          have hnV := RRep.cells hns hrn
          have exec : ∀ {r w2}, (Builtin.append_ #[t, t] o.type #[a.eval x, a.eval y]).run P w = .ok r w2 → (execOp a.eval o).run P w = .ok (.value r) w2 := by
            intro r w2 hr
            have e0 : cl.args.map a.eval = #[a.eval x, a.eval y] := by rw [ha]; simp
            simp only [execOp, hop, resolve, hcal, Sem.run_bind, Sem.run_pure, Result.andThen_ok, invoke, builtin, e0, hat, hr]
          have fin : ∀ (v : Value) (w2 : World) (l2 : Lim) (B0 : Nat → Prop), (execOp a.eval o).run P w = .ok (.value v) w2 → w2.os = w.os → w2.tape = w.tape → w2.output = w.output → w.heap.size ≤ w2.heap.size →
              (∀ k, k < w.heap.size → ¬ β.B r k → w2.heap[k]? = w.heap[k]?) → (∀ k, k < w.heap.size → l2 k = lim k) → XRep w2 (.slice e) (xs ++ ys) (flatV v) B0 → (∀ g, B0 g → (w.heap.size ≤ g ∨ β.B r g) ∧ l2 g = some 0) → v = wrapV (.slice e) (flatV v) →
              OpOk P w0 lim0 rb n o (apply st { upd0 (some d) (.xf d []) none with xw := some (d, ⟨.slice e, appL xs ys⟩), xk := some r }) a w := by
            intro v w2 l2 B0 he m1 m2 m3 m4 hk hl hX hB hv
            obtain ⟨β', hsim⟩ := h.moveC hrb hio hr0' (hd d hdst) hfd hd0 ⟨.slice e, xs ++ ys⟩ (.xf d []) v B0 m1 m2 m3 m4 hk hl hX hB (.inl ⟨rfl, hv⟩)
            exact OpOk.value (o := o) (lim := l2) (β := β') he (by rw [hdst]; exact hsim)
          have hll : (xs ++ ys).length = xs.length + ys.length := by simp
          have hz : (zeroCells e).toArray.size = e.size := by simpa using (zero_rep w lim e).length
          have grow : cx < xs.length + ys.length → OpOk P w0 lim0 rb n o (apply st { upd0 (some d) (.xf d []) none with xw := some (d, ⟨.slice e, appL xs ys⟩), xk := some r }) a w := by
            intro hg
            have r1 := run_first (P := P) (cc := cx) (w2 := w.drew) hro hoc
            have r2 := run_first (P := P) (cc := cy) (w2 := w.drew) hrn hnc
            have hrun := run_append_at_new (ty := o.type) h1 h2 (sv := .slice bx xs.length cx) rfl r1 r2 (by omega) (by omega)
            have hge := grownCap_ge w (xs.length + ys.length) cx el
            refine fin (.slice (some ⟨w.heap.size, 0, none⟩) (xs.length + ys.length) (grownCap w (xs.length + ys.length) cx el)) (w.drew.alloc (.cells (olds ++ (news ++ (Builtin.zeroCells (zeroCells e).toArray (grownCap w (xs.length + ys.length) cx el - (xs.length + ys.length))).toList)).toArray el)) (limSet lim w.heap.size (some 0)) (fun g => g = w.heap.size) (exec (by rw [hvx, hvy, hrun])) rfl rfl rfl (by simp)
              (fun k hk _ => alloc_old (w := w.drew) _ hk) (fun k hk => by simp [limSet, show k ≠ w.heap.size by omega]) (XRep.mkFlat hns hll.symm (by rw [hll]; exact hge) ?_ (alloc_new (w := w.drew) _) (fun _ _ hk => by simp at hk) (fun _ => Iff.rfl) (cells_app hns hro.1 hoV hnV))
              (fun g hg => ⟨.inl (by rw [hg]; exact Nat.le_refl _), by simp [limSet, hg]⟩) rfl
            simp only [List.size_toArray, List.length_append, Array.length_toList, size_zeroCells, hz, hrn.1, hro.1]
            rw [← Nat.add_mul, ← Nat.add_mul]
            exact Nat.mul_le_mul_right _ (by omega)
          obtain ⟨dx, q1, q2⟩ : ERep st w lim β rb (.xf r []) (a.eval x) := hx ▸ h.ent x
          rw [hio] at q1; injection q1 with q1; subst q1
          have hev : a.eval x = wrapV (.slice e) ((flatV (β.V r)).take 1) := by
            rcases q2 with q2 | ⟨u, q3, q4⟩
            · cases q2
            · have : u = .slice e := by simpa [typeAt] using q3.symm
              subst this
              simpa [offs, Ty.size] using q4
          have hX := h.xs.io r _ hio
          rcases XRep.flat hns hX with ⟨e1, e2, e3⟩ | ⟨g, cc, arr, el', fr, e1, e2, e3, e4, e5, e6, e7⟩
          · have e2 : xs.length = 0 := e2
            have hev : a.eval x = .slice none 0 0 := by rw [hev, e1]; rfl
            have hev2 := hev
            rw [hvx] at hev2; injection hev2 with _ _ k3
            by_cases hz0 : ys.length = 0
            · have r2 := run_first (P := P) (cc := cy) (w2 := w) hrn hnc
              rw [hz0] at r2
              have hrun := run_append_nothing (ty := o.type) h1 h2 r2
              exact fin (.slice none 0 0) w lim (fun _ => False) (exec (by rw [hev, hvy, hz0]; exact hrun)) rfl rfl rfl (Nat.le_refl _) (fun _ _ _ => rfl) (fun _ _ => rfl) (.inl ⟨rfl, by show (xs ++ ys).length = 0; omega, fun _ hg => hg⟩) (fun _ hg => hg.elim) rfl
            · exact grow (by omega)
          · have hev : a.eval x = .slice (some ⟨g, 0, none⟩) xs.length cc := by rw [hev, e1]; rfl
            rw [hvx] at hev; injection hev with k1 _ k3
            subst k1; subst k3
            have e3 : cx * e.size ≤ arr.size := e3
            by_cases hroom : xs.length + ys.length ≤ cx
            · have r2 := run_first (P := P) (cc := cy) (w2 := w) hrn hnc
              have hfit : (xs.length + ys.length) * e.size ≤ arr.size := Nat.le_trans (Nat.mul_le_mul_right _ hroom) e3
              rw [Nat.add_mul] at hfit
              have hnl := hrn.1
              have hal : arr.toList.length = arr.size := by simp
              obtain ⟨c1, c2, c3, k1, k2, k3, k4⟩ : ∃ c1 c2 c3, arr.toList = c1 ++ (c2 ++ c3) ∧ c1.length = xs.length * e.size ∧ c2.length = news.length ∧ c1 = arr.toList.take (xs.length * e.size) := by
                refine ⟨arr.toList.take (xs.length * e.size), (arr.toList.drop (xs.length * e.size)).take news.length, (arr.toList.drop (xs.length * e.size)).drop news.length, ?_, ?_, ?_, rfl⟩
                · rw [List.take_append_drop, List.take_append_drop]
                · rw [List.length_take]; omega
                · rw [List.length_take, List.length_drop]; omega
              obtain ⟨w', m1, m2⟩ := run_append_at_room (ty := o.type) (s := xs.length) (sc := cx) (m := ys.length) h1 h2 r2 hroom e4 k1 k2 k3 hrn.notAgg (fun k hk => e5 k hk)
              have hc1 : ∀ (i : Nat) (z : e.val), xs[i]? = some z → ∀ j v, (cellsV e z)[j]? = some v → c1[i * e.size + j]? = some v := fun i z hz j v hv => by
                have m := e7 i z hz j v hv
                have hj : j < e.size := by
                  rw [← cellsV_length (x := z) hns]; exact (List.getElem?_eq_some_iff.1 hv).1
                have hi : i < xs.length := (List.getElem?_eq_some_iff.1 hz).1
                have : (i + 1) * e.size ≤ xs.length * e.size := Nat.mul_le_mul_right _ hi
                rw [Nat.add_mul] at this
                rw [k4, List.getElem?_take, if_pos (by omega)]
                simpa using m
              have hsz : (c1 ++ (news ++ c3)).toArray.size = arr.size := by
                have e1 : arr.size = arr.toList.length := by simp
                rw [e1, k1]
                simp only [List.size_toArray, List.length_append]; omega
              refine fin (.slice (some ⟨g, 0, none⟩) (xs.length + ys.length) cx) w' lim (fun h => h = g) (exec (by rw [hvx, hvy]; exact m1)) m2.os m2.tape m2.output (by rw [m2.size]; exact Nat.le_refl _) (fun k _ hk => m2.other k (fun e0 => hk ((e6 k).2 e0))) (fun _ _ => rfl)
                (XRep.mkFlat hns hll.symm (by rw [hll]; exact hroom) (by rw [hsz]; exact e3) m2.at_ (fun k hk => e5 k (by rw [← hsz]; exact hk)) (fun _ => Iff.rfl) (cells_app hns k2 hc1 hnV)) (fun g' hg => ⟨.inr ((e6 g').2 hg), (h.xs.base r _ g' hio ((e6 g').2 hg)).2.2⟩) rfl
            · exact grow (by omega)
        · cases hc
      · cases hc
    · cases hc
  · cases hc
end
end Go.Den

namespace Go.Den
section
variable {P : Program} {tab : Tab} {w0 : Base} {lim0 : Lim} {rb : Option Nat} {n : Nat}
variable {st st' : St} {a : Act} {w : World} {lim : Lim} {β : Mp} {o : Oper} {c : Comp}

theorem ok_graftX (hT : TabOk P tab) (h : Sim w0 lim0 rb n st a w lim β) (hrb : ∀ k, some k = rb → k < w0.heap.size) (hd : ∀ d, o.dst = some d → d < n) {t : TypeId} {x v : Operand} {r r2 : Tmp} {p q : List Nat} {k : Int} (hop : o.op = .store t x v) (hxe : (st.ent x).av = .xp r p k q) (hve : (st.ent v).av = .xf r2 [])
    (hc : stGraftX tab o t r p k q r2 st = some c) (ho : c.out st = some st') : OpOk P w0 lim0 rb n o st' a w := by
  unfold stGraftX at hc
  split at hc
  · rename_i d e xs z hio hat hat2
    change List e.val at xs
    cases hy : getP e (atL (α := e.val) xs k e.zero) q with
    | none => rw [hy] at hc; cases hc
    | some y =>
      rw [hy] at hc; simp only [] at hc
      cases hty : tyIs (tab t) y.1 with
      | false => rw [hty] at hc; cases hc
      | true =>
      cases hne : cnd (Nat.beq r 0) true (cnd (Nat.beq r2 0) true (Nat.beq r r2)) with
      | true => rw [hty, hne] at hc; cases hc
      | false =>
      cases hz : Ty.cast z.1 y.1 z.2 with
      | none => rw [hty, hne, hz] at hc; cases hc
      | some z' =>
        rw [hty, hne, hz] at hc; simp only [] at hc
        cases hs1 : setP e (atL (α := e.val) xs k e.zero) q ⟨y.1, z'⟩ with
        | none => rw [hs1] at hc; cases hc
        | some x' =>
          rw [hs1] at hc; simp only [] at hc
          cases hs2 : setP d.1 d.2 p ⟨.slice e, setL (α := e.val) xs k x'⟩ with
          | none => rw [hs2] at hc; cases hc
          | some d' =>
            rw [hs2] at hc
            injection hc with hc; subst hc
            obtain ⟨hr, rfl⟩ := out_ret ho
            have hr := inRange hr
            have hr0 : r ≠ 0 := fun e0 => by rw [e0] at hne; cases hne
            have hr20 : r2 ≠ 0 := fun e0 => by rw [e0] at hne; cases hq : Nat.beq r 0 <;> rw [hq] at hne <;> cases hne
            have hrr : r ≠ r2 := fun e0 => by
              subst e0
              have : Nat.beq r 0 = false := by cases hq : Nat.beq r 0 with
                | false => rfl
                | true => exact absurd (nbeq hq) hr0
              rw [this, Nat.beq_refl] at hne; cases hne
            obtain ⟨d2, h2io, h2p⟩ := atX_some hat2
            have hzd : d2 = z := by
              simp only [getP] at h2p; injection h2p
            subst hzd
            obtain ⟨e1, e2⟩ := cast_some hz
            obtain ⟨yt, yv⟩ := y
            obtain ⟨zt, zv⟩ := d2
            simp only at e1 e2 hs1 hs2 hty
            subst e1
            have e2 : z' = zv := e2
            subst e2
            have X2 := h.xs.io r2 _ h2io
            obtain ⟨d3, h3io, hv⟩ := xf_val h hve hat2
            rw [h2io] at h3io; injection h3io with h3io; subst h3io
            have ho0 : offs zt [] = 0 := by cases zt <;> rfl
            have hl2 := X2.length
            simp only at hl2
            have hv : a.eval v = wrapV zt (flatV (β.V r2)) := by
              rw [hv]; simp only [ho0, List.drop_zero]; rw [← hl2, List.take_length]
            have hcr := X2.crep (lim := fun _ => none) (fun _ _ => rfl)
            have hcl : (a.eval v).cells = (flatV (β.V r2)).toArray := by rw [hv]; exact wrapV_cells hcr
            obtain ⟨w', g, ob, Bu, he, r5, c1, c2, c3, c4⟩ := store_core hT h hop hxe hio hat hr hy hty (by rw [hcl]; simpa using hl2) (fun u hu => hcr.cells u (by rw [hcl] at hu; simpa using hu))
            have hglt := (h.xs.io r d hio).lt g c1
            have hX2 : XRep w' zt z' (flatV (β.V r2)) (β.B r2) := X2.keep fun b hb => r5.other b (fun e0 => hrr (h.xs.dis r d r2 _ b hio h2io (by rw [e0]; exact c1) hb))
            have hX := c4 z' x' d' (β.B r2) hs1 hs2 (fun b hb hb2 => absurd (h.xs.dis r d r2 _ b hio h2io hb2 hb) hrr) (by rw [hcl]; exact hX2)
            have eV : (buryM β r2).V r = β.V r := by simp [buryM, hrr]
            have eB : (buryM β r2).B r = β.B r := by simp [buryM, hrr]
            have hb := h.bury h2io hr20
            have hsim := hb.setrootB (o := o) (d := d) (d' := ⟨d.1, d'⟩) (w' := w') (lim' := lim) hrb hd (by rw [bury_ne hrr]; exact hio) rfl .skp undef (fun b => (β.B r b ∧ ¬ Bu b) ∨ β.B r2 b) (β.B r2) (fun b hb => bury_free h h2io hb)
              (fun b hb => hb.elim (fun hb => .inl (by rw [eB]; exact hb.1)) .inr) (fun b hb => X2.lt b hb) hr0 r5.os r5.tape r5.output (by rw [r5.size]; exact Nat.le_refl _)
              (fun j _ hn => r5.other j (fun e0 => hn (by rw [eB, e0]; exact c1))) (fun _ _ => rfl) (by rw [eV]; exact hX) (fun _ _ => rfl)
            rw [apply_bury] at hsim
            exact .skip (lim := lim) he hsim
  · cases hc
end
end Go.Den

namespace Go.Den
section
variable {P : Program} {tab : Tab} {G : Gam} {w0 : Base} {lim0 : Lim} {rb : Option Nat} {n : Nat}
variable {st st' : St} {a : Act} {w w' : World} {lim lim' : Lim} {β : Mp} {o : Oper} {c : Comp}
theorem ok_assignM (h : Sim w0 lim0 rb n st a w lim β) (hd : ∀ d, o.dst = some d → d < n) {x : Operand} (he : (execOp a.eval o).run P w = .ok (.value (a.eval x)) w) (ho : (stAssignM o x st c).out st = some st') (hc : c.out st = some st' → OpOk P w0 lim0 rb n o st' a w) : OpOk P w0 lim0 rb n o st' a w := by
  unfold stAssignM at ho
  split at ho
  · rename_i e v l hav hw
    obtain ⟨_, rfl⟩ := out_ret ho
    have hx := h.ent x
    rw [hav] at hx
    have has : AV.as (.slice e) (st.ent x).av = some v := by rw [hav]; exact cast_self _ _
    rcases owner_spec h hw has with ⟨l', e1, k1, k2, k3⟩ | ⟨e1, _⟩
    · injection e1 with e1; subst e1
      refine .value he (h.val { upd0 o.dst (.dat (.slice e) v) none with own := [[]], takes := [l] } _ hd rfl rfl hx (fun _ => l) (fun p hp => ?_) (fun p hp q hq _ => ?_) (fun l hl => by cases hl) (fun l hl => by cases hl))
      · simp at hp; subst hp
        obtain ⟨b, cc, hv, _⟩ := slice_rep hx
        refine ⟨e, a.eval x, rfl, ?_, .inr ⟨by simp, k1, k2, k3⟩⟩
        simp only [upd0, partAV, hv, flat_slice, offs]; rfl
      · simp at hp hq; subst hp; subst hq; rfl
    · cases e1
  · rename_i t v hav
    obtain ⟨_, rfl⟩ := out_ret ho
    have hx := h.ent x
    rw [hav] at hx
    refine .value he (h.val { upd0 o.dst (.tup t v) none with own := st.owned x (slicePaths t), takes := takesOf x (st.owned x (slicePaths t)) } _ hd rfl rfl hx (srcOf x) (fun p hp => ?_) (fun p _ q _ hpq => srcOf_inj _ hpq) (fun l hl => by cases hl) (fun l hl => by cases hl))
    obtain ⟨h1, h2⟩ := owned_mem hp
    cases x with
    | tmp s =>
      obtain ⟨e, y, k1, k2, _⟩ := h.own _ h2
      have k1' := k1
      have k2' := k2
      have hav' : (st.env s).av = .tup t v := hav
      rw [locTy_tmp, hav'] at k1'
      rw [locV_tmp, hav'] at k2'
      exact ⟨e, y, k1', k2', .inr ⟨mem_takesOf (fun k hk => by cases hk) h2 hp, h2, k2, k1⟩⟩
    | const kk => simp only [St.ent] at hav; unfold constAV at hav; split at hav <;> cases hav
    | global g => cases h2
    | func f => cases h2
  · exact hc ho
theorem arr1 {α : Type} {x : Array α} {y : α} (h : x.toList = [y]) : x = #[y] := by apply Array.ext'; simpa using h
theorem arr2 {α : Type} {x : Array α} {y z : α} (h : x.toList = [y, z]) : x = #[y, z] := by apply Array.ext'; simpa using h

/-- ONE OPERATION: what the machine does is what the reading says. -/
theorem step_ok (hT : TabOk P tab) (hG : GamOk P G) (h : Sim w0 lim0 rb n st a w lim β) (hrb : ∀ k, some k = rb → k < w0.heap.size) (hd : ∀ d, o.dst = some d → d < n) (hc : stepC tab G o st = some c) (ho : c.out st = some st') : OpOk P w0 lim0 rb n o st' a w := by
  unfold stepC at hc
  cases hop : o.op with
  | move x =>
    rw [hop] at hc; injection hc with hc; subst hc
    cases hm : mkD st o.dst with
    | true => rw [hm] at ho; exact ok_assignM h hd (by simp [execOp, hop]) ho fun ho => ok_move h hd hop ho
    | false => rw [hm] at ho; exact ok_move h hd hop ho
  | assign x =>
    rw [hop] at hc; injection hc with hc; subst hc
    cases hm : mkD st o.dst with
    | true => rw [hm] at ho; exact ok_assignM h hd (by simp [execOp, hop]) ho fun ho => ok_assign h hd hop ho
    | false => rw [hm] at ho; exact ok_assign h hd hop ho
  | pick x y z => rw [hop] at hc; exact ok_pick h hd hop hc ho
  | alloc e =>
    rw [hop] at hc; simp only [] at hc
    cases hm : mkD st o.dst with
    | true => rw [hm] at hc; exact ok_allocX hT h hrb hd hop hc ho
    | false => rw [hm] at hc; exact ok_alloc hT h hrb hd hop hc ho
  | box e x =>
    rw [hop] at hc; simp only [] at hc
    split at hc
    · rename_i r p hx; exact ok_boxX h hrb hd hop hx hc ho
    · exact ok_box h hrb hd hop hc ho
  | build t ps => rw [hop] at hc; exact ok_build hT h hd hop hc ho
  | buildSlice t k ps => rw [hop] at hc; exact ok_buildSlice hT h hrb hd hop hc ho
  | load t x =>
    rw [hop] at hc; simp only [] at hc
    split at hc
    · rename_i b p hx; exact ok_loadX hT h hd hop hx hc ho
    · exact ok_load hT h hd hop hc ho
  | store t x v =>
    rw [hop] at hc; simp only [] at hc
    split at hc
    · rename_i r p k q r2 hx hv; exact ok_graftX hT h hrb hd hop hx hv hc ho
    · rename_i r p k q hx _; exact ok_storeX hT h hrb hd hop hx hc ho
    · rename_i b r q hx hv; exact ok_putX hT h hrb hd hop hx hv hc ho
    · exact ok_store hT h hrb hd hop hc ho
  | nilCheck x => rw [hop] at hc; exact ok_nilCheck h hd hop hc ho
  | binOp op xt x y yt => rw [hop] at hc; exact ok_bin hT h hd hop hc ho
  | unOp op t x => rw [hop] at hc; exact ok_un h hd hop hc ho
  | convert s t x =>
    rw [hop] at hc; simp only [] at hc
    split at hc
    · rename_i r p hx; exact ok_convX hT h hd hop hx hc ho
    · exact ok_conv hT h hd hop hc ho hrb
  | makeSlice t x y =>
    rw [hop] at hc; simp only [] at hc
    cases hm : mkD st o.dst with
    | true => rw [hm] at hc; exact ok_makeX hT h hrb hd hop hc ho
    | false => rw [hm] at hc; exact ok_makeSlice hT h hrb hd hop hc ho
  | slice t x lo hi mx =>
    rw [hop] at hc
    simp only [] at hc
    split at hc
    · exact ok_sliceX hT h hrb hd hop hc ho
    · exact ok_slice hT h hd hop hc ho
  | fieldAddr s x f =>
    rw [hop] at hc; simp only [] at hc
    split at hc
    · rename_i r p k q hx; exact ok_fieldAddrX hT h hd hop hx hc ho
    · rename_i b p hx; exact ok_fieldAddrC hT h hd hop hx hc ho
    · exact ok_fieldAddr hT h hd hop hc ho
  | field s x f => rw [hop] at hc; exact ok_field hT h hd hop hc ho
  | indexAddr t x i =>
    rw [hop] at hc; simp only [] at hc
    split at hc
    · rename_i r p hx; exact ok_indexAddrX hT h hd hop hx hc ho
    · exact ok_indexAddr hT h hd hop hc ho
  | index t x i => rw [hop] at hc; exact ok_index hT h hd hop hc ho
  | extract x i =>
    rw [hop] at hc; simp only [] at hc
    split at hc
    · rename_i r hx; exact ok_extractX h hd hop hx hc ho
    · exact ok_extract h hd hop hc ho
  | call cl =>
    rw [hop] at hc
    simp only [] at hc
    split at hc
    · rename_i f hcal
      cases hF : hasF G f with
      | true => rw [hF] at hc; exact ok_callF hG h hrb hd hop hcal hc ho
      | false =>
      rw [hF] at hc; simp only [cnd_false] at hc
      cases hm : cnd (anyX st cl.args.toList) true (cnd (mkD st o.dst) true (isMut G f)) with
      | true => rw [hm] at hc; exact ok_callX hG h hrb hd hop hcal hc ho
      | false => rw [hm] at hc; exact ok_call hG h hrb hd hop hcal rfl hc ho
    · rename_i t hcal
      split at hc
      · rename_i f hav
        have ht := h.env t
        rw [hav] at ht
        exact ok_call hG h hrb hd hop hcal ht hc ho
      · cases hc
    · rename_i hcal
      split at hc
      · rename_i x t hx ht
        split at hc
        · rename_i r p hxe; exact ok_lenX hT h hd hop hcal (arr1 hx) (arr1 ht) hxe hc ho
        · exact ok_len hT h hd hop hcal (arr1 hx) (arr1 ht) hc ho
      · cases hc
    · rename_i hcal
      split at hc
      · rename_i x y t t' hx ht
        cases hq : Nat.beq t t' with
        | false => rw [hq] at hc; cases hc
        | true =>
          rw [hq] at hc
          have := nbeq hq; subst this
          simp only [cnd_true] at hc
          split at hc
          · exact ok_appendT hT h hrb hd hop hcal (arr2 hx) (arr2 ht) hc ho
          · cases hm : mkD st o.dst with
            | true => rw [hm] at hc; exact ok_appendX hT h hrb hd hop hcal (arr2 hx) (arr2 ht) hc ho
            | false => rw [hm] at hc; exact ok_append hT h hrb hd hop hcal (arr2 hx) (arr2 ht) hc ho
      · cases hc
    · rename_i hcal
      split at hc
      · rename_i x y hx
        exact ok_minmax (mx := false) h hd hop hcal (arr2 hx) hc ho
      · cases hc
    · rename_i hcal
      split at hc
      · rename_i x y hx
        exact ok_minmax (mx := true) h hd hop hcal (arr2 hx) hc ho
      · cases hc
    · cases hc
  | _ => rw [hop] at hc; cases hc
end
end Go.Den

namespace Go.Den
section
variable {P : Program} {tab : Tab} {G : Gam} {w0 : Base} {lim0 : Lim} {rb : Option Nat} {n : Nat}
variable {st st' : St} {a : Act} {w w' : World} {lim lim' : Lim} {β : Mp} {o : Oper} {c : Comp}

theorem setAV_self {t : Tmp} {v : AV} (h : (st.env t).av = v) : setAV st t v = st := by
  obtain ⟨env, box, own, rd⟩ := st
  unfold setAV
  simp only at h ⊢
  congr 1
  funext u
  cases hq : Nat.beq u t with
  | true =>
    have := nbeq hq; subst this
    rw [cnd_true, ← h]
  | false => rfl

theorem guardT_spec {ops : Array Oper} {g : Nat} {t : Tmp} (h : guardT ops.toList g = some t) : (ops[g]?).bind (·.dst) = some t := by
  unfold guardT at h
  have e1 : ops.toList[g]? = ops[g]? := by simp
  rw [e1] at h
  cases hq : ops[g]? with
  | none => rw [hq] at h; cases h
  | some o => rw [hq] at h; exact h
theorem yielded_bool {ops : Array Oper} {g : Nat} {t : Tmp} {b : Bool} (hg : guardT ops.toList g = some t) (hv : tmpOf a t = .bool b) : yielded ops a.tmps g = some b := by
  unfold yielded
  rw [guardT_spec hg]
  simp only [Option.bind_some]
  unfold tmpOf at hv
  rw [Array.getD_eq_getD_getElem?] at hv
  cases hq : a.tmps[t]? with
  | none => rw [hq] at hv; cases hv
  | some v => rw [hq] at hv; simp only [Option.getD_some] at hv; rw [hv]
theorem yielded_skip {ops : Array Oper} {g : Nat} {t : Tmp} (hg : guardT ops.toList g = some t) (hv : tmpOf a t = undef) : yielded ops a.tmps g = none := by
  unfold yielded
  rw [guardT_spec hg]
  simp only [Option.bind_some]
  unfold tmpOf at hv
  rw [Array.getD_eq_getD_getElem?] at hv
  cases hq : a.tmps[t]? with
  | none => rfl
  | some v => rw [hq] at hv; simp only [Option.getD_some] at hv; rw [hv]; rfl

def eqW (b want : Bool) : Bool := b == want
/-- what one operation's reading is, its guard included: the change, and what it looks at -/
def oneU (tab : Tab) (G : Gam) (ops : List Oper) (o : Oper) (st : St) : Option (Upd × List Res) :=
  let go (rs : List Res) : Option (Upd × List Res) := match stepC tab G o st with
    | some (.ret c u) => cond (chkB c) (some (u, rs)) none
    | some (.call _ _ F u) => F.map fun r => (u r, rs)
    | none => none
  match o.guard with
  | none => go (reads st o)
  | some (g, want) => match guardT ops g with
    | none => none
    | some t => match (st.env t).av with
      | .dat .bool b => cond (eqW b want) (go (.tmp t :: reads st o)) (some (skipU o, [.tmp t]))
      | .skp => some (skipU o, [.tmp t])
      | _ => none
def runT (tab : Tab) (G : Gam) (ops : List Oper) : List Oper → St → Option (St × List FP)
  | [], st => some (st, [])
  | o :: rest, st => match oneU tab G ops o st with
    | some (u, rs) => (runT tab G ops rest (apply st u)).map fun x => (x.1, ⟨tagRes u ++ rs, u.writes⟩ :: x.2)
    | none => none

/-- alike but for what is known while the code is read -/
def Alike (st st' : St) : Prop := ∃ f, st = { st' with kn := f }
theorem Alike.refl (st : St) : Alike st st := ⟨st.kn, rfl⟩
theorem Alike.apply {st st' : St} (h : Alike st st') (u : Upd) (t : Option Tmp) (b : Bool) : Alike (setKn (Den.apply st u) t b) (Den.apply st' u) := by
  obtain ⟨f, rfl⟩ := h
  exact ⟨_, rfl⟩
theorem Alike.setKn {st st' : St} (h : Alike st st') (t : Option Tmp) (b : Bool) : Alike (Den.setKn st t b) st' := by
  obtain ⟨f, rfl⟩ := h
  exact ⟨_, rfl⟩
theorem Alike.setAV {st st' : St} (h : Alike st st') {t : Tmp} {v : AV} (hv : (st'.env t).av = v) : Alike (Den.setAV st t v) st' := by
  obtain ⟨f, rfl⟩ := h
  have := setAV_self hv
  refine ⟨f, ?_⟩
  have e : Den.setAV { st' with kn := f } t v = { Den.setAV st' t v with kn := f } := rfl
  rw [e, this]
theorem Alike.env {st st' : St} (h : Alike st st') : st.env = st'.env := by obtain ⟨f, rfl⟩ := h; rfl
theorem Alike.step {st st' : St} (h : Alike st st') : stepC tab G o st = stepC tab G o st' := by
  obtain ⟨f, rfl⟩ := h
  have e1 : ∀ x, ({ st' with kn := f } : St).ent x = st'.ent x := fun x => by cases x <;> rfl
  have e2 : ∀ x p, ({ st' with kn := f } : St).ownOp x p = st'.ownOp x p := fun x p => by cases x <;> rfl
  have e3 : ∀ x ps, ({ st' with kn := f } : St).owned x ps = st'.owned x ps := fun x ps => by
    induction ps with
    | nil => rfl
    | cons p ps ih => simp only [St.owned, e2, ih]
  have e4 : ∀ x, ({ st' with kn := f } : St).owner x = st'.owner x := fun x => by cases x <;> rfl
  have e5 : ∀ (ps : List (Nat × Operand)) t z, fillP { st' with kn := f } t z ps = fillP st' t z ps := fun ps => by
    induction ps with
    | nil => intros; rfl
    | cons q ps ih => obtain ⟨i, x⟩ := q; intro t z; simp only [fillP, e1, ih]
  have e6 : ∀ (ps : List (Nat × Operand)) e z, fillS { st' with kn := f } e z ps = fillS st' e z ps := fun ps => by
    induction ps with
    | nil => intros; rfl
    | cons q ps ih => obtain ⟨i, x⟩ := q; intro e z; simp only [fillS, e1, ih]
  have e7 : ∀ (ps : List (Nat × Operand)) (qs : List (List Nat)), ({ st' with kn := f } : St).builtOwn ps qs = st'.builtOwn ps qs := fun ps qs => by
    induction qs with
    | nil => rfl
    | cons q qs ih =>
      cases q with
      | nil => simp only [St.builtOwn]; exact ih
      | cons i p => simp only [St.builtOwn, e2, ih]
  have e8 : ∀ x, avOpt ({ st' with kn := f } : St) x = avOpt st' x := fun x => by cases x <;> simp only [avOpt, e1]
  have em : ∀ x, mkD ({ st' with kn := f } : St) x = mkD st' x := fun x => by cases x <;> rfl
  have ef : ∀ x, freeD ({ st' with kn := f } : St) x = freeD st' x := fun x => by cases x <;> rfl
  have eo : ∀ b p qs, ({ st' with kn := f } : St).ownedB b p qs = st'.ownedB b p qs := fun b p qs => by
    induction qs with
    | nil => rfl
    | cons q qs ih => simp only [St.ownedB, ih]
  have ea : ∀ r p, ({ st' with kn := f } : St).atX r p = st'.atX r p := fun _ _ => rfl
  have ex : ∀ av, argX ({ st' with kn := f } : St) av = argX st' av := fun av => by cases av <;> rfl
  have ey : ∀ l, anyX ({ st' with kn := f } : St) l = anyX st' l := fun l => by
    induction l with
    | nil => rfl
    | cons x l ih => simp only [anyX, e1, ih]
  unfold stepC
  cases o.op with
  | move x => simp only [stAssignM, stMove, e1, e3, e4, em]
  | assign x => simp only [stAssignM, stAssign, e1, e3, e4, em]
  | pick x y z => simp only [stPick, e1]
  | alloc e => simp only [stAlloc, stAllocX, em, ef]
  | box e x => simp only [stBox, stBoxX, e1, e3, ef, ea]
  | build t ps => simp only [stBuild, e5, e7]
  | buildSlice t k ps => simp only [stBuildSlice, e6]
  | load t x => simp only [stLoad, stLoadX, e1, ea, em, eo]
  | store t x v => simp only [stStore, stStoreX, stGraftX, stPutX, e1, e3, ea]
  | nilCheck x => simp only [e1]
  | binOp op xt x y yt => simp only [stBin, e1]
  | unOp op t x => simp only [stUn, e1]
  | convert s t x => simp only [stConv, stConvX, ea, e1]
  | makeSlice t x y => simp only [stMakeSlice, stMakeX, e1, em, ef]
  | slice t x lo hi mx => simp only [stSlice, stSliceX, e1, e3, e8, ef]
  | fieldAddr s x f => simp only [stFieldAddr, stFieldAddrX, stFieldAddrC, e1, ea]
  | field s x f => simp only [stField, e1]
  | indexAddr t x i => simp only [stIndexAddr, stIndexAddrX, e1, ea]
  | index t x i => simp only [stIndex, e1]
  | extract x i => simp only [stExtract, stExtractX, e1, e3, em]
  | call cl => simp only [stCall, stCallF, stCallX, stLen, stLenX, stAppend, stAppendX, stAppendT, e3, ex, ef, em, stMinMax, e1, e4, em, ef, ea, ex, ey]
  | _ => rfl
theorem Alike.reads {st st' : St} (h : Alike st st') : Den.reads st o = Den.reads st' o := by
  obtain ⟨f, rfl⟩ := h
  have : ∀ l, readsL { st' with kn := f } l = readsL st' l := fun l => by
    induction l with
    | nil => rfl
    | cons x l ih => simp only [readsL, ih]; cases x <;> rfl
  have e : exNo { st' with kn := f } o.dst o.op = exNo st' o.dst o.op := by
    cases o.op with
    | extract x i => cases x <;> cases o.dst <;> rfl
    | _ => rfl
  have e2 : mvNo { st' with kn := f } o.op = mvNo st' o.op := by
    cases o.op with
    | move x => cases x <;> rfl
    | _ => rfl
  have e3 : ∀ t, readsM { st' with kn := f } t = readsM st' t := fun _ => rfl
  unfold Den.reads
  rw [this, e, e2]
  simp only [e3]

theorem opsK_runT {R : Type} {ops : List Oper} : ∀ {rest : List Oper} {i : Nat} {st st2 : St} {k : St → Option R} {r : R}, Alike st st2 → opsK tab G ops rest i st k = some r → ∃ st' fs st3, runT tab G ops rest st2 = some (st', fs) ∧ Alike st3 st' ∧ k st3 = some r := by
  intro rest
  induction rest with
  | nil => intro i st st2 k r hA h; exact ⟨st2, [], st, rfl, hA, h⟩
  | cons o rest ih =>
    intro i st st2 k r hA h
    have go : ∀ {st : St} {c : Comp} {rs : List Res} {t : Option Tmp} {b : Bool}, Alike st st2 → c.runK st (fun st' => opsK tab G ops rest (Nat.succ i) (setKn st' t b) k) = some r →
        ∃ u, (match c with | .ret c u => cond (chkB c) (some (u, rs)) none | .call _ _ F u => F.map fun r => (u r, rs)) = some (u, rs) ∧ ∃ st' fs st3, runT tab G ops rest (apply st2 u) = some (st', fs) ∧ Alike st3 st' ∧ k st3 = some r := by
      intro st c rs t b hA hc
      cases c with
      | ret c u =>
        cases c with
        | none => exact ⟨u, rfl, ih (hA.apply u t b) hc⟩
        | some c =>
          cases c with
          | false => cases hc
          | true => exact ⟨u, rfl, ih (hA.apply u t b) hc⟩
      | call rt rdt F u =>
        cases F with
        | none => cases hc
        | some x => exact ⟨u x, rfl, ih (hA.apply (u x) t b) hc⟩
    simp only [opsK] at h
    simp only [runT, oneU]
    cases hg : o.guard with
    | none =>
      rw [hg] at h; simp only [] at h ⊢
      rw [hA.step] at h
      cases hc : stepC tab G o st2 with
      | none => rw [hc] at h; cases h
      | some c =>
        rw [hc] at h
        obtain ⟨u, h1, st', fs, st3, h2, h3, h4⟩ := go (rs := reads st2 o) hA h
        refine ⟨st', ⟨tagRes u ++ reads st2 o, u.writes⟩ :: fs, st3, ?_, h3, h4⟩
        cases c <;> simp only [] at h1 ⊢ <;> rw [h1] <;> simp [h2]
    | some gw =>
      obtain ⟨g, want⟩ := gw
      rw [hg] at h; simp only [] at h ⊢
      cases hgt : guardT ops g with
      | none => rw [hgt] at h; cases h
      | some t =>
        rw [hgt] at h; simp only [] at h ⊢
        have skip : ∀ {st : St}, Alike st st2 → opsK tab G ops rest (Nat.succ i) (setKn (apply st (skipU o)) o.dst false) k = some r → ∃ st' fs st3, (match (some (skipU o, [Res.tmp t]) : Option (Upd × List Res)) with
            | some (u, rs) => (runT tab G ops rest (apply st2 u)).map fun x => (x.1, (⟨tagRes u ++ rs, u.writes⟩ : FP) :: x.2)
            | none => none) = some (st', fs) ∧ Alike st3 st' ∧ k st3 = some r := by
          intro st hA hk
          obtain ⟨st', fs, st3, h2, h3, h4⟩ := ih (hA.apply (skipU o) o.dst false) hk
          exact ⟨st', ⟨[.tmp t], (skipU o).writes⟩ :: fs, st3, by simp [h2, show tagRes (skipU o) = [] from rfl], h3, h4⟩
        have step : ∀ {st : St}, Alike st st2 → (match stepC tab G o st with
            | some c => c.runK st fun st' => opsK tab G ops rest (Nat.succ i) (setKn st' o.dst (knOf o st)) k
            | none => none) = some r → ∃ st' fs st3, (match (match stepC tab G o st2 with
              | some (.ret c u) => cond (chkB c) (some (u, Res.tmp t :: reads st2 o)) none
              | some (.call _ _ F u) => F.map fun r => (u r, Res.tmp t :: reads st2 o)
              | none => none : Option (Upd × List Res)) with
            | some (u, rs) => (runT tab G ops rest (apply st2 u)).map fun x => (x.1, (⟨tagRes u ++ rs, u.writes⟩ : FP) :: x.2)
            | none => none) = some (st', fs) ∧ Alike st3 st' ∧ k st3 = some r := by
          intro st hA hk
          rw [hA.step] at hk
          cases hc : stepC tab G o st2 with
          | none => rw [hc] at hk; cases hk
          | some c =>
            rw [hc] at hk
            obtain ⟨u, h1, st', fs, st3, h2, h3, h4⟩ := go (rs := Res.tmp t :: reads st2 o) hA hk
            refine ⟨st', ⟨tagRes u ++ Res.tmp t :: reads st2 o, u.writes⟩ :: fs, st3, ?_, h3, h4⟩
            cases c <;> simp only [] at h1 ⊢ <;> rw [h1] <;> simp [h2]
        rw [hA.env] at h
        cases hav : (st2.env t).av with
        | dat ty b =>
          rw [hav] at h
          cases ty <;> try (simp only [] at h; cases h; done)
          simp only [] at h ⊢
          have hset := hA.setAV hav
          cases b with
          | true =>
            cases hkn : st.kn t with
            | true =>
              rw [hkn] at h
              have h : cnd want _ _ = some r := h
              cases want with
              | true => exact step hA h
              | false => exact skip hA h
            | false =>
              rw [hkn] at h
              have h : cnd want _ _ = some r := h
              cases want with
              | true => exact step (hset.setKn _ _) h
              | false => exact skip (hset.setKn _ _) h
          | false =>
            cases hkn : st.kn t with
            | true =>
              rw [hkn] at h
              have h : cnd want _ _ = some r := h
              cases want with
              | true => exact skip hA h
              | false => exact step hA h
            | false =>
              rw [hkn] at h
              have h : cnd want _ _ = some r := h
              cases want with
              | true => exact skip (hset.setKn _ _) h
              | false => exact step (hset.setKn _ _) h
        | skp => rw [hav] at h; exact skip hA h
        | _ => rw [hav] at h; simp only [] at h; cases h
theorem drawK_runT {R : Type} {ops : List Oper} : ∀ {rest : List Oper} {i : Nat} {st st2 : St} {acc : List FP} {k : St → List FP → Option R} {r : R}, Alike st st2 → drawK tab G ops rest i st acc k = some r → ∃ st' fs st3, runT tab G ops rest st2 = some (st', fs) ∧ Alike st3 st' ∧ k st3 (acc ++ fs) = some r := by
  intro rest
  induction rest with
  | nil => intro i st st2 acc k r hA h; exact ⟨st2, [], st, rfl, hA, by simpa [drawK] using h⟩
  | cons o rest ih =>
    intro i st st2 acc k r hA h
    have go : ∀ {st : St} {c : Comp} {rs : List Res} {t : Option Tmp} {b : Bool}, Alike st st2 → c.runT st rs (fun st' f => drawK tab G ops rest (Nat.succ i) (setKn st' t b) (acc ++ [f]) k) = some r →
        ∃ u, (match c with | .ret c u => cond (chkB c) (some (u, rs)) none | .call _ _ F u => F.map fun r => (u r, rs)) = some (u, rs) ∧ ∃ st' fs st3, runT tab G ops rest (apply st2 u) = some (st', fs) ∧ Alike st3 st' ∧ k st3 ((acc ++ [⟨tagRes u ++ rs, u.writes⟩]) ++ fs) = some r := by
      intro st c rs t b hA hc
      cases c with
      | ret c u =>
        cases c with
        | none => exact ⟨u, rfl, ih (hA.apply u t b) hc⟩
        | some c =>
          cases c with
          | false => cases hc
          | true => exact ⟨u, rfl, ih (hA.apply u t b) hc⟩
      | call rt rdt F u =>
        cases F with
        | none => cases hc
        | some x => exact ⟨u x, rfl, ih (hA.apply (u x) t b) hc⟩
    simp only [drawK] at h
    simp only [runT, oneU]
    cases hg : o.guard with
    | none =>
      rw [hg] at h; simp only [] at h ⊢
      rw [hA.step, hA.reads] at h
      cases hc : stepC tab G o st2 with
      | none => rw [hc] at h; cases h
      | some c =>
        rw [hc] at h
        obtain ⟨u, h1, st', fs, st3, h2, h3, h4⟩ := go (rs := reads st2 o) hA h
        refine ⟨st', ⟨tagRes u ++ reads st2 o, u.writes⟩ :: fs, st3, ?_, h3, by simpa using h4⟩
        cases c <;> simp only [] at h1 ⊢ <;> rw [h1] <;> simp [h2]
    | some gw =>
      obtain ⟨g, want⟩ := gw
      rw [hg] at h; simp only [] at h ⊢
      cases hgt : guardT ops g with
      | none => rw [hgt] at h; cases h
      | some t =>
        rw [hgt] at h; simp only [] at h ⊢
        have skip : ∀ {st : St}, Alike st st2 → drawK tab G ops rest (Nat.succ i) (setKn (apply st (skipU o)) o.dst false) (acc ++ [⟨[.tmp t], (skipU o).writes⟩]) k = some r → ∃ st' fs st3, (match (some (skipU o, [Res.tmp t]) : Option (Upd × List Res)) with
            | some (u, rs) => (runT tab G ops rest (apply st2 u)).map fun x => (x.1, (⟨tagRes u ++ rs, u.writes⟩ : FP) :: x.2)
            | none => none) = some (st', fs) ∧ Alike st3 st' ∧ k st3 (acc ++ fs) = some r := by
          intro st hA hk
          obtain ⟨st', fs, st3, h2, h3, h4⟩ := ih (hA.apply (skipU o) o.dst false) hk
          exact ⟨st', ⟨[.tmp t], (skipU o).writes⟩ :: fs, st3, by simp [h2, show tagRes (skipU o) = [] from rfl], h3, by simpa using h4⟩
        have step : ∀ {st : St}, Alike st st2 → (match stepC tab G o st with
            | some c => c.runT st (.tmp t :: reads st o) fun st' f => drawK tab G ops rest (Nat.succ i) (setKn st' o.dst (knOf o st)) (acc ++ [f]) k
            | none => none) = some r → ∃ st' fs st3, (match (match stepC tab G o st2 with
              | some (.ret c u) => cond (chkB c) (some (u, Res.tmp t :: reads st2 o)) none
              | some (.call _ _ F u) => F.map fun r => (u r, Res.tmp t :: reads st2 o)
              | none => none : Option (Upd × List Res)) with
            | some (u, rs) => (runT tab G ops rest (apply st2 u)).map fun x => (x.1, (⟨tagRes u ++ rs, u.writes⟩ : FP) :: x.2)
            | none => none) = some (st', fs) ∧ Alike st3 st' ∧ k st3 (acc ++ fs) = some r := by
          intro st hA hk
          rw [hA.step, hA.reads] at hk
          cases hc : stepC tab G o st2 with
          | none => rw [hc] at hk; cases hk
          | some c =>
            rw [hc] at hk
            obtain ⟨u, h1, st', fs, st3, h2, h3, h4⟩ := go (rs := Res.tmp t :: reads st2 o) hA hk
            refine ⟨st', ⟨tagRes u ++ Res.tmp t :: reads st2 o, u.writes⟩ :: fs, st3, ?_, h3, by simpa using h4⟩
            cases c <;> simp only [] at h1 ⊢ <;> rw [h1] <;> simp [h2]
        rw [hA.env] at h
        cases hav : (st2.env t).av with
        | dat ty b =>
          rw [hav] at h
          cases ty <;> try (simp only [] at h; cases h; done)
          simp only [] at h ⊢
          have hset := hA.setAV hav
          cases b with
          | true =>
            cases hkn : st.kn t with
            | true =>
              rw [hkn] at h
              have h : cnd want _ _ = some r := h
              cases want with
              | true => exact step hA h
              | false => exact skip hA h
            | false =>
              rw [hkn] at h
              have h : cnd want _ _ = some r := h
              cases want with
              | true => exact step (hset.setKn _ _) h
              | false => exact skip (hset.setKn _ _) h
          | false =>
            cases hkn : st.kn t with
            | true =>
              rw [hkn] at h
              have h : cnd want _ _ = some r := h
              cases want with
              | true => exact skip hA h
              | false => exact step hA h
            | false =>
              rw [hkn] at h
              have h : cnd want _ _ = some r := h
              cases want with
              | true => exact skip (hset.setKn _ _) h
              | false => exact step (hset.setKn _ _) h
        | skp => rw [hav] at h; exact skip hA h
        | _ => rw [hav] at h; simp only [] at h; cases h

theorem one_sound (hT : TabOk P tab) (hG : GamOk P G) {ops : Array Oper} (h : Sim w0 lim0 rb n st a w lim β) (hrb : ∀ k, some k = rb → k < w0.heap.size) (hd : ∀ d, o.dst = some d → d < n) {u : Upd} {rs : List Res} (hu : oneU tab G ops.toList o st = some (u, rs))
    (K : Act → World → Prop) (Q : Exit → Act → World → Prop) (hK : ∀ a' w' lim' β', Sim w0 lim0 rb n (apply st u) a' w' lim' β' → K a' w') :
    if Region.wanted o (yielded ops a.tmps) = true then o.wp P a w K Q else K (a.put o.dst undef) w := by
  have go : ∀ {rs' : List Res}, (match stepC tab G o st with
      | some (.ret c u) => cond (chkB c) (some (u, rs')) none
      | some (.call _ _ F u) => F.map fun r => (u r, rs')
      | none => none : Option (Upd × List Res)) = some (u, rs) → o.wp P a w K Q := by
    intro rs' hgo
    cases hc : stepC tab G o st with
    | none => rw [hc] at hgo; cases hgo
    | some c =>
      rw [hc] at hgo
      have hout : c.out st = some (apply st u) := by
        cases c with
        | ret c u' =>
          simp only [Comp.out]
          cases hck : chkB c with
          | false => simp only [hck] at hgo; cases hgo
          | true => simp only [hck] at hgo; injection hgo with hgo; injection hgo with hgo _; subst hgo; rfl
        | call rt rdt F u' =>
          cases F with
          | none => cases hgo
          | some r => injection hgo with hgo; injection hgo with hgo _; subst hgo; rfl
      exact step_ok hT hG h hrb hd hc hout K Q hK
  have skip : (some (skipU o, rs) : Option (Upd × List Res)) = some (u, rs) → K (a.put o.dst undef) w := by
    intro hs
    injection hs with hs; injection hs with hs _; subst hs
    exact hK _ _ _ _ (h.plain _ _ _ hd rfl)
  unfold oneU at hu
  cases hg : o.guard with
  | none =>
    rw [hg] at hu
    rw [if_pos (by simp [Region.wanted, hg])]
    exact go hu
  | some gw =>
    obtain ⟨g, want⟩ := gw
    rw [hg] at hu; simp only [] at hu
    cases hgt : guardT ops.toList g with
    | none => rw [hgt] at hu; cases hu
    | some t =>
      rw [hgt] at hu; simp only [] at hu
      have ht := h.env t
      cases hav : (st.env t).av with
      | dat ty b =>
        rw [hav] at hu ht
        cases ty <;> try (simp only [] at hu; cases hu; done)
        simp only [] at hu
        have hv := bool_rep ht
        have hy := yielded_bool (ops := ops) hgt hv
        have hwt : Region.wanted o (yielded ops a.tmps) = eqW b want := by
          unfold Region.wanted eqW
          rw [hg]
          show (yielded ops a.tmps g == some want) = _
          rw [hy]
          exact Option.some_beq_some
        cases hq : eqW b want with
        | true =>
          rw [hq] at hu hwt
          rw [if_pos hwt]
          exact go hu
        | false =>
          rw [hq] at hu hwt
          rw [if_neg (by rw [hwt]; simp)]
          injection hu with hu; injection hu with h1 h2; subst h1; subst h2
          exact skip rfl
      | skp =>
        rw [hav] at hu ht
        have hy := yielded_skip (ops := ops) hgt ht
        rw [if_neg (by simp [Region.wanted, hg, hy])]
        injection hu with hu; injection hu with h1 h2; subst h1; subst h2
        exact skip rfl
      | _ => rw [hav] at hu; simp only [] at hu; cases hu

theorem opsDst_mem {m : Nat} : ∀ {os : List Oper}, opsDst m os = true → ∀ o ∈ os, ∀ d, o.dst = some d → d < m
  | [], _, o, ho, _, _ => by cases ho
  | x :: os, h, o, ho, d, hd => by
    simp only [opsDst] at h
    have h2 : opsDst m os = true ∧ ∀ d, x.dst = some d → d < m := by
      cases hx : x.dst with
      | none => rw [hx] at h; exact ⟨h, fun d hd => by cases hd⟩
      | some e =>
        rw [hx] at h; simp only [] at h
        cases hb : Nat.blt e m with
        | false => rw [hb] at h; cases h
        | true => rw [hb] at h; exact ⟨h, fun d hd => by injection hd with hd; subst hd; simpa [Nat.blt_eq] using hb⟩
    rcases List.mem_cons.1 ho with rfl | ho
    · exact h2.2 d hd
    · exact opsDst_mem h2.1 o ho d hd

theorem run_sound (hT : TabOk P tab) (hG : GamOk P G) {ops : Array Oper} {Q : Exit → Act → World → Prop} (hrb : ∀ k, some k = rb → k < w0.heap.size) : ∀ {rest : List Oper} {st : St} {a : Act} {w : World} {lim : Lim} {β : Mp} {fs : List FP},
    runT tab G ops.toList rest st = some (st', fs) → (∀ o ∈ rest, ∀ d, o.dst = some d → d < n) → Sim w0 lim0 rb n st a w lim β → (∀ a' w' lim' β', Sim w0 lim0 rb n st' a' w' lim' β' → Q .normal a' w') → wpList P ops Q rest a w := by
  intro rest
  induction rest with
  | nil =>
    intro st a w lim β fs hr _ h hQ
    injection hr with hr; injection hr with h1 _; subst h1
    exact hQ _ _ _ _ h
  | cons o rest ih =>
    intro st a w lim β fs hr hd h hQ
    simp only [runT] at hr
    cases hu : oneU tab G ops.toList o st with
    | none => rw [hu] at hr; cases hr
    | some ur =>
      obtain ⟨u, rs⟩ := ur
      rw [hu] at hr; simp only [] at hr
      cases hrest : runT tab G ops.toList rest (apply st u) with
      | none => rw [hrest] at hr; cases hr
      | some sf =>
        obtain ⟨s', fs'⟩ := sf
        rw [hrest] at hr
        injection hr with hr; injection hr with h1 _; subst h1
        have := one_sound (ops := ops) hT hG h hrb (hd o (by simp)) hu (wpList P ops Q rest) Q (fun a' w' lim' β' hs => ih hrest (fun o' ho' => hd o' (by simp [ho'])) hs hQ)
        unfold wpList
        split
        · rename_i hw; rw [if_pos hw] at this; exact .inl this
        · rename_i hw; rw [if_neg hw] at this; exact this
end
end Go.Den
