/- The operations without memory of their own, fourth part: fields, elements, cuts. -/
import Derived.Test.YtbfndjfjkkfaeaaXDenJ
set_option linter.unusedVariables false
set_option linter.unusedSimpArgs false
namespace Go.Den
section
variable {P : Program} {tab : Tab} {w0 : Base} {lim0 : Lim} {rb : Option Nat} {n : Nat}
variable {st st' : St} {a : Act} {w : World} {lim : Lim} {β : Mp} {o : Oper} {c : Comp}

theorem run_part {t : TypeId} {ty : Ty} (h : TyOk P tab t ty) {x : ty.val} {cs c1 c2 c3 : List Value} {off : Nat} (hc : CRep w lim ty x c2) (he : cs = c1 ++ (c2 ++ c3)) (hl : c1.length = off) :
    (part t cs.toArray off).run P w = .ok (wrapV ty c2) w := by
  unfold part
  simp only [Sem.run_bind, run_isAgg h, Result.andThen_ok]
  cases hp : isProd ty with
  | true =>
    simp only [if_true, Sem.run_bind, run_sizeOf h, Result.andThen_ok, Sem.run_pure]
    have : cs.toArray.extract off (off + ty.size) = c2.toArray := by
      apply Array.ext'
      rw [← hl, ← hc.length]
      simp [he]
    rw [this]
    cases ty <;> first | rfl | cases hp
  | false =>
    obtain ⟨v, hv⟩ : ∃ v, c2 = [v] := by
      have := hc.length
      cases ty <;> first | exact List.length_eq_one_iff.1 this | cases hp
    have : cs.toArray[off]? = some v := by
      rw [← hl, he, hv]; simp
    simp only [Bool.false_eq_true, if_false, this, Sem.run_pure, hv]
    cases ty <;> first | rfl | cases hp

theorem ok_field (hT : TabOk P tab) (h : Sim w0 lim0 rb n st a w lim β) (hd : ∀ d, o.dst = some d → d < n) {s : TypeId} {x : Operand} {f : Nat} (hop : o.op = .field s x f) (hc : stField tab o s x f st = some c) (ho : c.out st = some st') : OpOk P w0 lim0 rb n o st' a w := by
  unfold stField at hc
  have hx := h.ent x
  cases hx' : (st.ent x).av with
  | dat u y =>
    rw [hx'] at hc hx
    simp only [] at hc
    cases hty : tyIs (tab s) u with
    | false => rw [hty] at hc; cases hc
    | true =>
      cases hf : getF u y f with
      | none => rw [hty, hf] at hc; cases hc
      | some z =>
        rw [hty, hf] at hc
        injection hc with hc; subst hc
        obtain ⟨_, rfl⟩ := out_ret ho
        obtain ⟨fs, h1, g, h2, h3, h4, h5⟩ := struct_of hT (tyIs_some hty) hf
        obtain ⟨cs, hr, he⟩ := hx
        obtain ⟨c1, c2, c3, k1, k2, k3, _⟩ := hr.field hf
        have hag : a.eval x = .agg cs.toArray := by rw [he]; cases u <;> first | rfl | simp [getF] at hf
        refine .value (v := wrapV z.1 c2) ?_ (h.plain _ _ _ hd ⟨c2, k3, rfl⟩)
        have hpart : (part g.type cs.toArray g.offset).run P w = .ok (wrapV z.1 c2) w := run_part h4 k3 k1 (by rw [h3]; exact k2)
        simp [execOp, hop, hag, Instr.field, underlying, h1, h2, asAgg, hpart]
  | _ => rw [hx'] at hc; cases hc

theorem inRange {i : Int} {m : Nat} (h : andB (le0 i) (ltI i (m : Int)) = true) : 0 ≤ i ∧ i < m := by
  unfold andB le0 ltI at h
  simpa using h

theorem elemTy (hT : TabOk P tab) {t : TypeId} {e : Ty} (h : tab t = some (.slice e)) : ∃ el, P.underlying t = some (.slice el) ∧ TyOk P tab el e := by
  obtain ⟨el, h1, h2⟩ := (hT _ _ h).desc
  exact ⟨el, h1, hT _ _ h2⟩

theorem ok_indexAddr (hT : TabOk P tab) (h : Sim w0 lim0 rb n st a w lim β) (hd : ∀ d, o.dst = some d → d < n) {t : TypeId} {x i : Operand} (hop : o.op = .indexAddr t x i) (hc : stIndexAddr tab o t x i st = some c) (ho : c.out st = some st') : OpOk P w0 lim0 rb n o st' a w := by
  unfold stIndexAddr at hc
  split at hc
  · rename_i e xs k m hx hi
    change List e.val at xs
    change Int at m
    cases hty : tyIs (tab t) (.slice e) with
    | false => rw [hty] at hc; cases hc
    | true =>
      rw [hty] at hc
      injection hc with hc; subst hc
      obtain ⟨hr, rfl⟩ := out_ret ho
      have hr := inRange hr
      have hm := eval_int h hi
      obtain ⟨b, cc, hv, hle, hs⟩ := slice_rep (hx ▸ h.ent x)
      obtain ⟨el, h1, h2⟩ := elemTy hT (tyIs_some hty)
      rcases hs with hs | ⟨bb, oo, rfl, hb, hu, hcell⟩
      · rw [hs] at hr; simp at hr; omega
      · have hlt : m.toNat < xs.length := by omega
        have hget : atL xs m e.zero = xs[m.toNat] := by simp [atL, hlt]
        obtain ⟨cs, hcr, hcc⟩ := hcell m.toNat _ (List.getElem?_eq_getElem hlt)
        refine .value (v := .pointer (some ⟨bb, oo + m.toNat * e.size, none⟩)) ?_ (h.plain _ _ _ hd ⟨bb, oo + m.toNat * e.size, cs, rfl, hb, ?_, under_le hu ?_, fun j u hj => hcc j u hj⟩)
        · simp [execOp, hop, hv, hm, Instr.indexAt, asIntOf, underlying, h1, run_sizeOf h2, hr.1, hr.2, addr_add]
        · rw [hget]; exact hcr
        · have : (m.toNat + 1) * e.size ≤ xs.length * e.size := Nat.mul_le_mul_right _ hlt
          rw [Nat.succ_mul] at this
          omega
  · cases hc
end
end Go.Den
