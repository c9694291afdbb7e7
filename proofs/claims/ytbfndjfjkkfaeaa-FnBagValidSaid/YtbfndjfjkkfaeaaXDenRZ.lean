/- One operation whichever. -/
import Derived.Test.YtbfndjfjkkfaeaaXDenRW
set_option linter.unusedVariables false
set_option linter.unusedSimpArgs false
namespace Go.Den
section
variable {P : Program} {tab : Tab} {G : Gam} {w0 : Base} {lim0 : Lim} {rb : Option Nat} {n : Nat}
variable {st st' : St} {a : Act} {w w' : World} {lim lim' : Lim} {β : Mp} {o : Oper} {c : Comp}
theorem ok_assignM (h : Sim w0 lim0 rb n st a w lim β) (hd : ∀ d, o.dst = some d → d < n) {x : Operand} (he : (execOp a.eval o).run P w = .ok (.value (a.eval x)) w) (ho : (stAssignM o x st c).out st = some st') (hc : c.out st = some st' → OpOk P w0 lim0 rb n o st' a w) : OpOk P w0 lim0 rb n o st' a w := by
  unfold stAssignM at ho
  split at ho
  · rename_i e v l hav hw
    obtain ⟨_, rfl⟩ := out_ret ho
    have hx := h.ent x
    rw [hav] at hx
    have has : AV.as (.slice e) (st.ent x).av = some v := by rw [hav]; exact cast_self _ _
    rcases owner_spec h hw has with ⟨l', e1, k1, k2, k3⟩ | ⟨e1, _⟩
    · injection e1 with e1; subst e1
      refine .value he (h.val { upd0 o.dst (.dat (.slice e) v) none with own := [[]], takes := [l] } _ hd rfl rfl hx (fun _ => l) (fun p hp => ?_) (fun p hp q hq _ => ?_) (fun l hl => by cases hl) (fun l hl => by cases hl))
      · simp at hp; subst hp
        obtain ⟨b, cc, hv, _⟩ := slice_rep hx
        refine ⟨e, a.eval x, rfl, ?_, .inr ⟨by simp, k1, k2, k3⟩⟩
        simp only [upd0, partAV, hv, flat_slice, offs]; rfl
      · simp at hp hq; subst hp; subst hq; rfl
    · cases e1
  · rename_i t v hav
    obtain ⟨_, rfl⟩ := out_ret ho
    have hx := h.ent x
    rw [hav] at hx
    refine .value he (h.val { upd0 o.dst (.tup t v) none with own := st.owned x (slicePaths t), takes := takesOf x (st.owned x (slicePaths t)) } _ hd rfl rfl hx (srcOf x) (fun p hp => ?_) (fun p _ q _ hpq => srcOf_inj _ hpq) (fun l hl => by cases hl) (fun l hl => by cases hl))
    obtain ⟨h1, h2⟩ := owned_mem hp
    cases x with
    | tmp s =>
      obtain ⟨e, y, k1, k2, _⟩ := h.own _ h2
      have k1' := k1
      have k2' := k2
      have hav' : (st.env s).av = .tup t v := hav
      rw [locTy_tmp, hav'] at k1'
      rw [locV_tmp, hav'] at k2'
      exact ⟨e, y, k1', k2', .inr ⟨mem_takesOf (fun k hk => by cases hk) h2 hp, h2, k2, k1⟩⟩
    | const kk => simp only [St.ent] at hav; unfold constAV at hav; split at hav <;> cases hav
    | global g => cases h2
    | func f => cases h2
  · exact hc ho
theorem arr1 {α : Type} {x : Array α} {y : α} (h : x.toList = [y]) : x = #[y] := by apply Array.ext'; simpa using h
theorem arr2 {α : Type} {x : Array α} {y z : α} (h : x.toList = [y, z]) : x = #[y, z] := by apply Array.ext'; simpa using h

/-- ONE OPERATION: what the machine does is what the reading says. -/
theorem step_ok (hT : TabOk P tab) (hG : GamOk P G) (h : Sim w0 lim0 rb n st a w lim β) (hrb : ∀ k, some k = rb → k < w0.heap.size) (hd : ∀ d, o.dst = some d → d < n) (hc : stepC tab G o st = some c) (ho : c.out st = some st') : OpOk P w0 lim0 rb n o st' a w := by
  unfold stepC at hc
  cases hop : o.op with
  | move x =>
    rw [hop] at hc; injection hc with hc; subst hc
    cases hm : mkD st o.dst with
    | true => rw [hm] at ho; exact ok_assignM h hd (by simp [execOp, hop]) ho fun ho => ok_move h hd hop ho
    | false => rw [hm] at ho; exact ok_move h hd hop ho
  | assign x =>
    rw [hop] at hc; injection hc with hc; subst hc
    cases hm : mkD st o.dst with
    | true => rw [hm] at ho; exact ok_assignM h hd (by simp [execOp, hop]) ho fun ho => ok_assign h hd hop ho
    | false => rw [hm] at ho; exact ok_assign h hd hop ho
  | pick x y z => rw [hop] at hc; exact ok_pick h hd hop hc ho
  | alloc e =>
    rw [hop] at hc; simp only [] at hc
    cases hm : mkD st o.dst with
    | true => rw [hm] at hc; exact ok_allocX hT h hrb hd hop hc ho
    | false => rw [hm] at hc; exact ok_alloc hT h hrb hd hop hc ho
  | box e x =>
    rw [hop] at hc; simp only [] at hc
    split at hc
    · rename_i r p hx; exact ok_boxX h hrb hd hop hx hc ho
    · exact ok_box h hrb hd hop hc ho
  | build t ps => rw [hop] at hc; exact ok_build hT h hd hop hc ho
  | buildSlice t k ps => rw [hop] at hc; exact ok_buildSlice hT h hrb hd hop hc ho
  | load t x =>
    rw [hop] at hc; simp only [] at hc
    split at hc
    · rename_i b p hx; exact ok_loadX hT h hd hop hx hc ho
    · exact ok_load hT h hd hop hc ho
  | store t x v =>
    rw [hop] at hc; simp only [] at hc
    split at hc
    · rename_i r p k q hx; exact ok_storeX hT h hrb hd hop hx hc ho
    · rename_i b r q hx hv; exact ok_putX hT h hrb hd hop hx hv hc ho
    · exact ok_store hT h hrb hd hop hc ho
  | nilCheck x => rw [hop] at hc; exact ok_nilCheck h hd hop hc ho
  | binOp op xt x y yt => rw [hop] at hc; exact ok_bin hT h hd hop hc ho
  | unOp op t x => rw [hop] at hc; exact ok_un h hd hop hc ho
  | convert s t x => rw [hop] at hc; exact ok_conv hT h hd hop hc ho hrb
  | makeSlice t x y =>
    rw [hop] at hc; simp only [] at hc
    cases hm : mkD st o.dst with
    | true => rw [hm] at hc; exact ok_makeX hT h hrb hd hop hc ho
    | false => rw [hm] at hc; exact ok_makeSlice hT h hrb hd hop hc ho
  | slice t x lo hi mx => rw [hop] at hc; exact ok_slice hT h hd hop hc ho
  | fieldAddr s x f =>
    rw [hop] at hc; simp only [] at hc
    split at hc
    · rename_i r p k q hx; exact ok_fieldAddrX hT h hd hop hx hc ho
    · rename_i b p hx; exact ok_fieldAddrC hT h hd hop hx hc ho
    · exact ok_fieldAddr hT h hd hop hc ho
  | field s x f => rw [hop] at hc; exact ok_field hT h hd hop hc ho
  | indexAddr t x i =>
    rw [hop] at hc; simp only [] at hc
    split at hc
    · rename_i r p hx; exact ok_indexAddrX hT h hd hop hx hc ho
    · exact ok_indexAddr hT h hd hop hc ho
  | index t x i => rw [hop] at hc; exact ok_index hT h hd hop hc ho
  | extract x i =>
    rw [hop] at hc; simp only [] at hc
    split at hc
    · rename_i r hx; exact ok_extractX h hd hop hx hc ho
    · exact ok_extract h hd hop hc ho
  | call cl =>
    rw [hop] at hc
    simp only [] at hc
    split at hc
    · rename_i f hcal
      cases hm : cnd (anyX st cl.args.toList) true (cnd (mkD st o.dst) true (isMut G f)) with
      | true => rw [hm] at hc; exact ok_callX hG h hrb hd hop hcal hc ho
      | false => rw [hm] at hc; exact ok_call hG h hrb hd hop hcal hc ho
    · rename_i hcal
      split at hc
      · rename_i x t hx ht
        split at hc
        · rename_i r p hxe; exact ok_lenX hT h hd hop hcal (arr1 hx) (arr1 ht) hxe hc ho
        · exact ok_len hT h hd hop hcal (arr1 hx) (arr1 ht) hc ho
      · cases hc
    · rename_i hcal
      split at hc
      · rename_i x y t t' hx ht
        cases hq : Nat.beq t t' with
        | false => rw [hq] at hc; cases hc
        | true =>
          rw [hq] at hc
          have := nbeq hq; subst this
          exact ok_append hT h hrb hd hop hcal (arr2 hx) (arr2 ht) hc ho
      · cases hc
    · rename_i hcal
      split at hc
      · rename_i x y hx
        exact ok_minmax (mx := false) h hd hop hcal (arr2 hx) hc ho
      · cases hc
    · rename_i hcal
      split at hc
      · rename_i x y hx
        exact ok_minmax (mx := true) h hd hop hcal (arr2 hx) hc ho
      · cases hc
    · cases hc
  | _ => rw [hop] at hc; cases hc
end
end Go.Den
