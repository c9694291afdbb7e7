/- append, and calls. -/
import Derived.Test.YtbfndjfjkkfaeaaXDenP
set_option linter.unusedVariables false
set_option linter.unusedSimpArgs false
namespace Go.Den
section
variable {P : Program} {tab : Tab} {w0 : Base} {lim0 : Lim} {rb : Option Nat} {n : Nat}
variable {st st' : St} {a : Act} {w w' : World} {lim lim' : Lim} {β : Mp} {o : Oper} {c : Comp}

theorem run_append_at_new {t ty el : TypeId} {e : Ty} (h1 : P.underlying t = some (.slice el)) (h2 : TyOk P tab el e) {sv : Value} {b : Option Addr} {s sc m cc : Nat} {olds news : List Value} (hsv : sv = .slice b s sc)
    (hold : (Builtin.firstCells e.size s sv).run P w.drew = .ok olds.toArray w.drew) {bx : Option Addr} (hnew : (Builtin.firstCells e.size m (.slice bx m cc)).run P w.drew = .ok news.toArray w.drew)
    (hg : sc < s + m) (hb : s + m < 4294967296) :
    (Builtin.append_ #[t, t] ty #[sv, .slice bx m cc]).run P w = .ok (.slice (some ⟨w.heap.size, 0, none⟩) (s + m) (grownCap w (s + m) sc el))
      (w.drew.alloc (.cells (olds ++ (news ++ (Builtin.zeroCells (zeroCells e).toArray (grownCap w (s + m) sc el - (s + m))).toList)).toArray el)) := by
  subst hsv
  obtain ⟨i, hi1, hi2, hi3, hi4⟩ := h2.info
  have hzc : (wrapV e (zeroCells e)).cells = (zeroCells e).toArray := wrapV_cells (zero_rep w (fun _ => none) e)
  have hn : ¬ (s + m ≤ sc) := by omega
  have h63 : ¬ (9223372036854775807 < ((s : Int) + (m : Int))) := by omega
  have hfit : Builtin.nextslicecap (s + m) sc * i.bytes ≤ 281474976710656 := growslice_fits (by omega) (by
    have e1 : (s + m) * i.bytes ≤ 4294967296 * 4096 := Nat.mul_le_mul (by omega) hi4
    omega)
  have h48 : ¬ (281474976710656 < Builtin.nextslicecap (s + m) sc * i.bytes) := by omega
  rw [← hi2] at hold hnew
  simp [Builtin.append_, run_underlying h1, sizeOf, typeInfo, zeroValue, hi1, hi3, Builtin.lenOf, hn, h63, h48, Question.forced, hold, hnew, newRow, grownCap, hzc]
  congr 2
  apply Array.ext'
  simp

theorem run_append_at_room {t ty el : TypeId} {e : Ty} (h1 : P.underlying t = some (.slice el)) (h2 : TyOk P tab el e) {g s sc m cc : Nat} {news c1 c2 c3 : List Value} {arr : Array Value} {el' : TypeId} {fr : Nat × Nat} {bx : Option Addr}
    (hnew : (Builtin.firstCells e.size m (.slice bx m cc)).run P w = .ok news.toArray w) (hroom : s + m ≤ sc)
    (hb : w.heap[g]? = some (.cells arr el' fr)) (ha : arr.toList = c1 ++ (c2 ++ c3)) (hl : c1.length = s * e.size) (hl2 : c2.length = news.length) (hna : ∀ v ∈ news, notAgg v) (hfr : ∀ k, k < arr.size → ¬ (fr.1 ≤ k ∧ k < fr.2)) :
    ∃ w', (Builtin.append_ #[t, t] ty #[.slice (some ⟨g, 0, none⟩) s sc, .slice bx m cc]).run P w = .ok (.slice (some ⟨g, 0, none⟩) (s + m) sc) w' ∧ Wrote w w' g (.cells (c1 ++ (news ++ c3)).toArray el' fr) := by
  obtain ⟨w', k1, k2⟩ := run_storeCells (P := P) news arr el' fr g 0 (s * e.size) w c1 c2 c3 hb ha (by omega) hl2 hna hfr
  refine ⟨w', ?_, k2⟩
  obtain ⟨i, hi1, hi2, hi3, hi4⟩ := h2.info
  rw [← hi2] at hnew k1
  have hadd : (⟨g, 0, none⟩ : Addr).add (s * i.size) = ⟨g, s * i.size, none⟩ := by rw [addr_add]; simp
  simp [Builtin.append_, run_underlying h1, sizeOf, typeInfo, hi1, Builtin.lenOf, hroom, hnew, hadd, k1]

theorem run_append_nothing {t ty el : TypeId} {e : Ty} (h1 : P.underlying t = some (.slice el)) (h2 : TyOk P tab el e) {cc : Nat} {bx : Option Addr} {news : List Value}
    (hnew : (Builtin.firstCells e.size 0 (.slice bx 0 cc)).run P w = .ok news.toArray w) :
    (Builtin.append_ #[t, t] ty #[.slice none 0 0, .slice bx 0 cc]).run P w = .ok (.slice none 0 0) w := by
  obtain ⟨i, hi1, hi2, hi3, hi4⟩ := h2.info
  rw [← hi2] at hnew
  simp [Builtin.append_, run_underlying h1, sizeOf, typeInfo, hi1, Builtin.lenOf, hnew]

theorem drew_ext : Ext w lim w.drew lim := ext_keep (Nat.le_refl _) (fun _ _ => rfl) (fun _ _ => rfl)

theorem pre_cells {e : Ty} {xs : List e.val} {b : Nat} {arr : Array Value} {el : TypeId} {fr : Nat × Nat} {olds c1 rest : List Value} (g6 : w.heap[b]? = some (.cells arr el fr)) (hl : olds.length = xs.length * e.size)
    (hoc : xs = [] ∨ ∃ bb oo, (some ⟨b, 0, none⟩ : Option Addr) = some ⟨bb, oo, none⟩ ∧ ∀ k v, olds[k]? = some v → w.cell? ⟨bb, oo + k, none⟩ = some v) (k1 : arr.toList = c1 ++ rest) (k2 : c1.length = xs.length * e.size) : olds = c1 := by
  rcases hoc with hoc | ⟨bb, oo, hbb, hcell⟩
  · subst hoc
    have e1 : olds = [] := List.eq_nil_of_length_eq_zero (by simpa using hl)
    have e2 : c1 = [] := List.eq_nil_of_length_eq_zero (by simpa using k2)
    rw [e1, e2]
  · injection hbb with hbb; injection hbb with e1 e2
    subst e1; subst e2
    apply List.ext_getElem?
    intro k
    by_cases hk : k < c1.length
    · have hk' : k < olds.length := by rw [hl, ← k2]; exact hk
      have := hcell k _ (List.getElem?_eq_getElem hk')
      simp only [World.cell?, g6] at this
      simp only [Option.isSome_none, Bool.false_eq_true, if_false, Nat.zero_add] at this
      have e1 : arr[k]? = arr.toList[k]? := by simp
      rw [e1, k1, List.getElem?_append_left hk] at this
      rw [this, List.getElem?_eq_getElem hk']
    · rw [List.getElem?_eq_none (by omega), List.getElem?_eq_none (by omega)]

theorem ok_append (hT : TabOk P tab) (h : Sim w0 lim0 rb n st a w lim β) (hrb : ∀ k, some k = rb → k < w0.heap.size) (hd : ∀ d, o.dst = some d → d < n) {t : TypeId} {x y : Operand} {cl : Call} (hop : o.op = .call cl) (hcal : cl.callee = .builtin .append) (ha : cl.args = #[x, y]) (hat : cl.argTypes = #[t, t])
    (hc : stAppend tab o t x y st = some c) (ho : c.out st = some st') : OpOk P w0 lim0 rb n o st' a w := by
  unfold stAppend at hc
  cases hty : tab t with
  | none => rw [hty] at hc; cases hc
  | some ty =>
    cases ty with
    | slice e =>
      rw [hty] at hc; simp only [] at hc
      split at hc
      · rename_i xs ys ol hx hy hol
        change List e.val at xs
        change List e.val at ys
        injection hc with hc; subst hc
        obtain ⟨hchk, rfl⟩ := out_ret ho
        have hlt : ((xs.length : Int) + ys.length) < big := ltI_iff.1 hchk
        unfold big at hlt
        obtain ⟨el, h1, h2⟩ := elemTy hT hty
        obtain ⟨bx, cx, hvx, hlx, hsx⟩ := slice_rep (st := st) (β := β) (rb := rb) (as_rep hx (h.ent x))
        obtain ⟨by', cy, hvy, hly, hsy⟩ := slice_rep (st := st) (β := β) (rb := rb) (as_rep hy (h.ent y))
        have hvx : a.eval x = .slice bx xs.length cx := hvx
        have hvy : a.eval y = .slice by' ys.length cy := hvy
        have hsx : SRep w lim (CRep w lim e) e.size xs bx := hsx
        have hsy : SRep w lim (CRep w lim e) e.size ys by' := hsy
        -- the new cells
        obtain ⟨news, hrn, hnc⟩ : ∃ news, RRep w lim e ys news ∧ (ys = [] ∨ ∃ bb oo, by' = some ⟨bb, oo, none⟩ ∧ ∀ k v, news[k]? = some v → w.cell? ⟨bb, oo + k, none⟩ = some v) := by
          rcases hsy with hsy | ⟨bb, oo, rfl, hb, hu, hcell⟩
          · subst hsy; exact ⟨[], RRep.nil e, .inl rfl⟩
          · obtain ⟨L, k1, k2⟩ := SRep_cells hcell
            exact ⟨L, k1, .inr ⟨bb, oo, rfl, k2⟩⟩
        obtain ⟨olds, hro, hoc⟩ : ∃ olds, RRep w lim e xs olds ∧ (xs = [] ∨ ∃ bb oo, bx = some ⟨bb, oo, none⟩ ∧ ∀ k v, olds[k]? = some v → w.cell? ⟨bb, oo + k, none⟩ = some v) := by
          rcases hsx with hsx | ⟨bb, oo, rfl, hb, hu, hcell⟩
          · subst hsx; exact ⟨[], RRep.nil e, .inl rfl⟩
          · obtain ⟨L, k1, k2⟩ := SRep_cells hcell
            exact ⟨L, k1, .inr ⟨bb, oo, rfl, k2⟩⟩
        have exec : ∀ {r w2}, (Builtin.append_ #[t, t] o.type #[a.eval x, a.eval y]).run P w = .ok r w2 → (execOp a.eval o).run P w = .ok (.value r) w2 := by
          intro r w2 hr
          have e0 : cl.args.map a.eval = #[a.eval x, a.eval y] := by rw [ha]; simp
          simp only [execOp, hop, resolve, hcal, Sem.run_bind, Sem.run_pure, Result.andThen_ok, invoke, builtin, e0, hat, hr]
        have happ := hro.append hrn
        -- a block of its own
        have grow : cx < xs.length + ys.length → OpOk P w0 lim0 rb n o (apply st { upd0 o.dst (.dat (.slice e) (appL xs ys)) none with own := [[]], takes := ol.toList }) a w := by
          intro hg
          have r1 := run_first (P := P) (cc := cx) (w2 := w.drew) hro hoc
          have r2 := run_first (P := P) (cc := cy) (w2 := w.drew) hrn hnc
          have hrun := run_append_at_new (ty := o.type) h1 h2 (sv := .slice bx xs.length cx) rfl r1 r2 hg (by omega)
          have hlen : (appL xs ys).length = xs.length + ys.length := by simp [appL]
          refine .value (v := .slice (some ⟨w.heap.size, 0, none⟩) (appL xs ys).length (grownCap w (xs.length + ys.length) cx el)) (exec (by rw [hvx, hvy, hrun, hlen])) (h.fresh (w' := w.drew.alloc (.cells (olds ++ (news ++ (Builtin.zeroCells (zeroCells e).toArray (grownCap w (xs.length + ys.length) cx el - (xs.length + ys.length))).toList)).toArray el)) hrb hd (by simp) (fun k hk => ?_) rfl rfl rfl (alloc_new (w := w.drew) _) (fun k _ hk => by simp at hk) (L := olds ++ news) happ
            (rest := (Builtin.zeroCells (zeroCells e).toArray (grownCap w (xs.length + ys.length) cx el - (xs.length + ys.length))).toList) (by simp) (by rw [hlen]; exact grownCap_ge _ _ _ _) ?_)
          · exact alloc_old (w := w.drew) _ hk
          · have hz : (zeroCells e).toArray.size = e.size := by simpa using (zero_rep w lim e).length
            have hge := grownCap_ge w (xs.length + ys.length) cx el
            simp only [List.size_toArray, List.length_append, Array.length_toList, size_zeroCells, hz, hro.1, hrn.1]
            rw [← Nat.add_mul, ← Nat.add_mul]
            exact Nat.mul_le_mul_right _ (by omega)
        rcases owner_spec h hol hx with ⟨l, rfl, ho1, ho2, ho3⟩ | ⟨rfl, hnil⟩
        · obtain ⟨e', v', g1, g2, g3, g4⟩ := h.own l ho1
          rw [ho3] at g1; injection g1 with g1; injection g1 with g1; subst g1
          rw [ho2] at g2; injection g2 with g2; subst g2
          rcases g3 with g3 | ⟨b, m, cap, arr, el', fr, g3, g5, g6, g7, g8, g9, g10⟩
          · -- a nil of its own
            rw [hvx] at g3; injection g3 with q1 q2 q3
            by_cases hz : ys.length = 0
            · have hxs : xs = [] := List.eq_nil_of_length_eq_zero q2
              have hys : ys = [] := List.eq_nil_of_length_eq_zero hz
              have r2 := run_first (P := P) (cc := cy) (w2 := w) hrn hnc
              rw [hz] at r2
              have hrun := run_append_nothing (ty := o.type) h1 h2 r2
              refine .value (exec (by rw [hvx, hvy, q1, q2, q3, hz]; exact hrun)) (h.val { upd0 o.dst (.dat (.slice e) (appL xs ys)) none with own := [[]], takes := [l] } _ hd rfl rfl ?_ (fun _ => .tmp 0 []) (fun p hp => ?_) (fun p hp q hq _ => ?_) (fun l hl => by cases hl) (fun l hl => by cases hl))
              · rw [hxs, hys]; exact ⟨[_], ⟨none, 0, rfl, Nat.le_refl _, .inl rfl⟩, rfl⟩
              · have hp : p = [] := by simpa using hp
                subst hp
                exact ⟨e, .slice none 0 0, rfl, rfl, .inl rfl⟩
              · have hp : p = [] := by simpa using hp
                have hq : q = [] := by simpa using hq
                rw [hp, hq]
            · exact grow (by omega)
          · rw [hvx] at g3; injection g3 with q1 q2 q3
            subst q1; subst q2; subst q3
            by_cases hroom : xs.length + ys.length ≤ cx
            · -- there is room
              have r2 := run_first (P := P) (cc := cy) (w2 := w) hrn hnc
              have hfit : (xs.length + ys.length) * e.size ≤ arr.size := Nat.le_trans (Nat.mul_le_mul_right _ hroom) g9
              rw [Nat.add_mul] at hfit
              have hnl := hrn.1
              have hal : arr.toList.length = arr.size := by simp
              obtain ⟨c1, c2, c3, k1, k2, k3⟩ : ∃ c1 c2 c3, arr.toList = c1 ++ (c2 ++ c3) ∧ c1.length = xs.length * e.size ∧ c2.length = news.length := by
                refine ⟨arr.toList.take (xs.length * e.size), (arr.toList.drop (xs.length * e.size)).take news.length, (arr.toList.drop (xs.length * e.size)).drop news.length, ?_, ?_, ?_⟩
                · rw [List.take_append_drop, List.take_append_drop]
                · rw [List.length_take]; omega
                · rw [List.length_take, List.length_drop]; omega
              obtain ⟨w', m1, m2⟩ := run_append_at_room (ty := o.type) (s := xs.length) h1 h2 r2 hroom g6 k1 k2 k3 hrn.notAgg g7
              have hlen : (appL xs ys).length = xs.length + ys.length := by simp [appL]
              have hlimb : limSet lim b (some ((xs.length + ys.length) * e.size)) b = some ((xs.length + ys.length) * e.size) := by simp [limSet]
              have hext : Ext w lim w' (limSet lim b (some ((xs.length + ys.length) * e.size))) := by
                refine ⟨by rw [m2.size]; exact Nat.le_refl _, fun k oo u hk hu hcell => ?_, fun k q hk hu => ?_⟩
                · by_cases hkb : k = b
                  · subst hkb
                    have := hu _ g10
                    simp only [World.cell?, g6] at hcell
                    simp only [World.cell?, m2.at_]
                    simp only [Option.isSome_none, Bool.false_eq_true, if_false] at hcell ⊢
                    have e1 : arr[oo]? = arr.toList[oo]? := by simp
                    rw [e1, k1, List.getElem?_append_left (by omega)] at hcell
                    simp only [List.getElem?_toArray]
                    rw [List.getElem?_append_left (by omega)]; exact hcell
                  · exact (World.cell?_of_block (m2.other k hkb)).trans hcell
                · by_cases hkb : k = b
                  · subst hkb
                    intro z hz
                    rw [hlimb] at hz; injection hz with hz; subst hz
                    have := hu _ g10
                    rw [Nat.add_mul]; omega
                  · intro z hz
                    simp [limSet, hkb] at hz
                    exact hu z hz
              -- the old elements' cells are the block's first
              have hpre : RRep w lim e xs c1 := by
                have : olds = c1 := pre_cells g6 hro.1 hoc k1 k2
                rw [← this]; exact hro
              have hrr : RRep w' (limSet lim b (some ((xs.length + ys.length) * e.size))) e (appL xs ys) (c1 ++ news) := (hpre.append hrn).mono hext
              have hblt : b < w.heap.size := (Array.getElem?_eq_some_iff.1 g6).1
              have hbrb : some b ≠ rb := fun hh => by have := hrb b hh; omega
              have hsrep : SRep w' (limSet lim b (some ((xs.length + ys.length) * e.size))) (CRep w' (limSet lim b (some ((xs.length + ys.length) * e.size))) e) e.size (appL xs ys) (some ⟨b, 0, none⟩) :=
                SRep_block m2.at_ (rest := c3) (by simp) hrr (fun z hz => by rw [hlimb] at hz; injection hz with hz; subst hz; rw [hlen]; exact Nat.le_refl _)
              refine .value (v := .slice (some ⟨b, 0, none⟩) (appL xs ys).length cx) (lim := limSet lim b (some ((xs.length + ys.length) * e.size))) (β := β) (exec (by rw [hvx, hvy, hlen]; exact m1)) ?_
              refine h.grown { upd0 o.dst (.dat (.slice e) (appL xs ys)) none with own := [[]], takes := [l] } _ w' _ hd rfl hext (grow_keep h.grow m2.os m2.tape m2.output (by rw [m2.size]; exact Nat.le_refl _) (fun k hk _ => m2.other k (by omega)))
                (fun k hk _ hnot => ?_) (fun k hk => ⟨hrb k hk, by simp [limSet, show k ≠ b from fun hh => hbrb (by rw [← hh]; exact hk)]⟩) ⟨[_], ⟨some ⟨b, 0, none⟩, cx, rfl, by rw [hlen]; exact hroom, hsrep⟩, rfl⟩ (fun p hp => ?_) (fun p hp q hq x y g _ _ _ _ => ?_) rfl
                (.inl ⟨rfl, fun k hk => m2.other k (fun hh => hbrb (by rw [← hh]; exact hk.symm))⟩)
              · have hkb : k ≠ b := fun hh => hnot l _ (by simp) ho1 ho2 (by rw [hvx, hh]; rfl)
                exact ⟨m2.other k hkb, by simp [limSet, hkb]⟩
              · have hp : p = [] := by simpa using hp
                subst hp
                refine ⟨e, .slice (some ⟨b, 0, none⟩) (appL xs ys).length cx, rfl, rfl, .inr ⟨b, _, cx, _, el', fr, rfl, g5, m2.at_, fun k hk => g7 k ?_, by rw [hlen]; exact hroom, ?_, by rw [hlimb, hlen]⟩, fun g hg => .inr ⟨l, _, by simp, ho1, ho2, by rw [hvx]; exact hg⟩⟩
                · have e1 : arr.size = arr.toList.length := by simp
                  rw [e1, k1]
                  simp only [List.size_toArray, List.length_append] at hk ⊢
                  omega
                · have e1 : arr.size = arr.toList.length := by simp
                  rw [e1, k1] at g9
                  simp only [List.size_toArray, List.length_append] at g9 ⊢
                  omega
              · have hp : p = [] := by simpa using hp
                have hq : q = [] := by simpa using hq
                rw [hp, hq]
            · exact grow (by omega)
        · rw [hvx] at hnil; injection hnil with q1 q2 q3
          by_cases hz : ys.length = 0
          · have hxs : xs = [] := List.eq_nil_of_length_eq_zero q2
            have hys : ys = [] := List.eq_nil_of_length_eq_zero hz
            have r2 := run_first (P := P) (cc := cy) (w2 := w) hrn hnc
            rw [hz] at r2
            have hrun := run_append_nothing (ty := o.type) h1 h2 r2
            refine .value (exec (by rw [hvx, hvy, q1, q2, q3, hz]; exact hrun)) (h.val { upd0 o.dst (.dat (.slice e) (appL xs ys)) none with own := [[]], takes := [] } _ hd rfl rfl ?_ (fun _ => .tmp 0 []) (fun p hp => ?_) (fun p hp q hq _ => ?_) (fun l hl => by cases hl) (fun l hl => by cases hl))
            · rw [hxs, hys]; exact ⟨[_], ⟨none, 0, rfl, Nat.le_refl _, .inl rfl⟩, rfl⟩
            · have hp : p = [] := by simpa using hp
              subst hp
              exact ⟨e, .slice none 0 0, rfl, rfl, .inl rfl⟩
            · have hp : p = [] := by simpa using hp
              have hq : q = [] := by simpa using hq
              rw [hp, hq]
          · exact grow (by omega)
      · cases hc
    | _ => rw [hty] at hc; cases hc
end
end Go.Den
