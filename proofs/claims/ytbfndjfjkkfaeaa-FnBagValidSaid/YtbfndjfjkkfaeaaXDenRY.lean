/- Trees of one's own: writes, parts of results, calls. -/
import Derived.Test.YtbfndjfjkkfaeaaXDenRX
set_option linter.unusedVariables false
set_option linter.unusedSimpArgs false
namespace Go.Den
section
variable {P : Program} {tab : Tab} {G : Gam} {w0 : Base} {lim0 : Lim} {rb : Option Nat} {n : Nat}
variable {st st' : St} {a : Act} {w w' : World} {lim lim' : Lim} {β : Mp} {o : Oper} {c : Comp}

theorem noSl_getF : ∀ {t : Ty} {x : t.val} {i : Nat} {d : Dat}, noSl t = true → getF t x i = some d → noSl d.1 = true := by
  intro t
  induction t with
  | prod p q _ ihq =>
    intro x i d hf h
    simp only [noSl] at hf
    cases hp : noSl p with
    | false => rw [hp] at hf; cases hf
    | true =>
      rw [hp] at hf
      cases i with
      | zero => simp only [getF] at h; injection h with h; subst h; exact hp
      | succ i => simp only [getF] at h; exact ihq hf h
  | _ => intro x i d hf h; cases h
theorem noSl_getP : ∀ {p : List Nat} {t : Ty} {x : t.val} {y : Dat}, noSl t = true → getP t x p = some y → noSl y.1 = true
  | [], t, x, y, hf, h => by simp only [getP] at h; injection h with h; subst h; exact hf
  | i :: p, t, x, y, hf, h => by
    simp only [getP] at h
    cases hg : getF t x i with
    | none => rw [hg] at h; cases h
    | some d => rw [hg] at h; exact noSl_getP (noSl_getF hf hg) h
theorem setL_get {α : Type} {xs : List α} {k : Int} {x' : α} (h0 : 0 ≤ k) (h1 : k < xs.length) (i : Nat) : (setL xs k x')[i]? = if i = k.toNat then some x' else xs[i]? := by
  simp only [setL, List.getElem?_set]
  by_cases e : i = k.toNat
  · subst e
    have : k.toNat < xs.length := by omega
    simp [this]
  · rw [if_neg (fun h => e h.symm), if_neg e]

theorem ok_storeX (hT : TabOk P tab) (h : Sim w0 lim0 rb n st a w lim β) (hrb : ∀ k, some k = rb → k < w0.heap.size) (hd : ∀ d, o.dst = some d → d < n) {t : TypeId} {x v : Operand} {r : Tmp} {p q : List Nat} {k : Int} (hop : o.op = .store t x v) (hxe : (st.ent x).av = .xp r p k q)
    (hc : stStoreX tab o t r p k q v st = some c) (ho : c.out st = some st') : OpOk P w0 lim0 rb n o st' a w := by
  unfold stStoreX at hc
  split at hc
  · rename_i d e xs hio hat
    change List e.val at xs
    cases hy : getP e (atL (α := e.val) xs k e.zero) q with
    | none => rw [hy] at hc; cases hc
    | some y =>
      rw [hy] at hc; simp only [] at hc
      cases hty : tyIs (tab t) y.1 with
      | false => rw [hty] at hc; cases hc
      | true =>
      cases hns : noSl e with
      | false => rw [hty, hns] at hc; cases hc
      | true =>
      cases hz : AV.as y.1 (st.ent v).av with
      | none => rw [hty, hns, hz] at hc; cases hc
      | some z =>
        rw [hty, hns, hz] at hc; simp only [] at hc
        cases hs1 : setP e (atL (α := e.val) xs k e.zero) q ⟨y.1, z⟩ with
        | none => rw [hs1] at hc; cases hc
        | some x' =>
          rw [hs1] at hc; simp only [] at hc
          cases hs2 : setP d.1 d.2 p ⟨.slice e, setL (α := e.val) xs k x'⟩ with
          | none => rw [hs2] at hc; cases hc
          | some d' =>
            rw [hs2] at hc
            injection hc with hc; subst hc
            obtain ⟨hr, rfl⟩ := out_ret ho
            have hr := inRange hr
            obtain ⟨g, m, cc, dd, k1, k2, k3, k4⟩ := xp_rep h hxe hat
            rw [hio] at k1; injection k1 with k1; subst k1
            obtain ⟨dd, m1, m2, m3, _, m5⟩ := h.sliceX hat
            rw [hio] at m1; injection m1 with m1; subst m1
            rcases m5 with ⟨m5, _⟩ | ⟨g', c', arr, el, fr, j1, j2, j3, j4, jf, j5, j6, j7⟩
            · exfalso; have : xs.length = 0 := m5; omega
            · rw [k3] at j1; injection j1 with j1; injection j1 with e1 e2 e3
              injection e1 with e1; injection e1 with e1 _
              subst e1
              have hkl : k.toNat < xs.length := by omega
              have hget : atL xs k e.zero = xs[k.toNat] := by simp [atL, hkl]
              have hnsy := noSl_getP hns hy
              -- the element's cells
              have hel : CRep w lim e (atL xs k e.zero) (cellsV e (atL xs k e.zero)) := (CRep_noSl hns).2 rfl
              obtain ⟨c1, c2, c3, q1, q2, q3, q4⟩ := hel.part hy
              have hv := (as_rep hz (h.ent v)).cells
              have hnew : cellsV e x' = c1 ++ ((a.eval v).cells.toList ++ c3) := ((CRep_noSl hns).1 (q4 z _ x' hv hs1)).symm
              have hcl := cellsV_length (x := atL xs k e.zero) hns
              have hsz : (a.eval v).cells.size = y.1.size := by have := hv.length; simpa using this
              -- where it lies
              have hbound : (k.toNat + 1) * e.size ≤ arr.size := Nat.le_trans (Nat.mul_le_mul_right _ (by omega)) j3
              rw [Nat.succ_mul] at hbound
              have hseg : ∀ j, j < e.size → arr.toList[k.toNat * e.size + j]? = (cellsV e (atL xs k e.zero))[j]? := by
                intro j hj
                have hjl : j < (cellsV e (atL xs k e.zero)).length := by omega
                have := j6 k.toNat _ (by rw [List.getElem?_eq_getElem hkl, ← hget]) j _ (List.getElem?_eq_getElem hjl)
                rw [Array.getElem?_toList, this, List.getElem?_eq_getElem hjl]
              have hl1 : c1.length + c2.length + c3.length = e.size := by rw [← hcl, q1]; simp; omega
              have hsplit : arr.toList = arr.toList.take (k.toNat * e.size + offs e q) ++ (c2 ++ arr.toList.drop (k.toNat * e.size + offs e q + y.1.size)) := by
                apply List.ext_getElem?
                intro j
                have hal : arr.toList.length = arr.size := by simp
                have hc2l := q3.length
                by_cases hj1 : j < k.toNat * e.size + offs e q
                · rw [List.getElem?_append_left (by rw [List.length_take]; omega), List.getElem?_take_of_lt hj1]
                · rw [List.getElem?_append_right (by rw [List.length_take]; omega)]
                  have hlt : (arr.toList.take (k.toNat * e.size + offs e q)).length = k.toNat * e.size + offs e q := by rw [List.length_take]; omega
                  rw [hlt]
                  by_cases hj2 : j < k.toNat * e.size + offs e q + y.1.size
                  · rw [List.getElem?_append_left (by omega)]
                    obtain ⟨i, rfl⟩ : ∃ i, j = k.toNat * e.size + i := ⟨j - k.toNat * e.size, by omega⟩
                    rw [hseg i (by omega), q1, List.getElem?_append_right (by omega), List.getElem?_append_left (by omega)]
                    congr 1; omega
                  · rw [List.getElem?_append_right (by omega), List.getElem?_drop]
                    congr 1; omega
              have hlt0 : (arr.toList.take (k.toNat * e.size + offs e q)).length = k.toNat * e.size + offs e q + 0 := by
                rw [List.length_take]
                have : arr.toList.length = arr.size := by simp
                omega
              obtain ⟨w', r1, r5⟩ := run_storeCells (P := P) (a.eval v).cells.toList arr el fr g 0 (k.toNat * e.size + offs e q) w _ c2 _ j4 hsplit hlt0 (by rw [q3.length, hv.length]) (fun u hu => hv.cells u hu) jf
              have he : (execOp a.eval o).run P w = .ok .skip w' := by
                simp only [execOp, hop, Instr.storeAt, Instr.sureAddr, k4, Sem.run_bind, Sem.run_pure, Result.andThen_ok, storeVar, run_sizeOf (hT _ _ (tyIs_some hty)), hsz, ne_eq, not_true_eq_false, if_false]
                simp only [r1, Result.andThen_ok]
              have hglt := (Array.getElem?_eq_some_iff.1 j4).1
              have hvl := hv.length
              have hc2l := q3.length
              refine .skip (lim := lim) he (h.setroot (d' := ⟨d.1, d'⟩) hrb hd hio rfl .skp undef r5.os r5.tape r5.output (by rw [r5.size]; exact Nat.le_refl _) (fun j _ hn => r5.other j (fun e => hn (by rw [e]; exact j5))) (fun _ _ => rfl)
                (j7 w' (setL xs k x') d' _ (by simp [setL]) hs2 (fun j _ hne => r5.other j hne) r5.at_ ?_ (fun i u hu j val hval => ?_)) (fun _ _ => rfl))
              · have h1 : arr.size = arr.toList.length := by simp
                have h2 := congrArg List.length hsplit
                simp only [List.length_append, List.size_toArray] at h2 ⊢
                omega
              · rw [setL_get hr.1 hr.2] at hu
                have hal : arr.toList.length = arr.size := by simp
                have hjl := (List.getElem?_eq_some_iff.1 hval).1
                rw [cellsV_length hns] at hjl
                have hlt : (arr.toList.take (k.toNat * e.size + offs e q)).length = k.toNat * e.size + offs e q := by rw [List.length_take]; omega
                simp only [List.getElem?_toArray]
                by_cases hik : i = k.toNat
                · subst hik
                  simp only [if_true] at hu
                  injection hu with hu; subst hu
                  rw [hnew] at hval
                  by_cases hj1 : j < offs e q
                  · rw [List.getElem?_append_left (by omega), List.getElem?_take_of_lt (by omega), hseg j hjl, q1]
                    rw [List.getElem?_append_left (by omega)] at hval ⊢; exact hval
                  · rw [List.getElem?_append_right (by omega), hlt]
                    rw [List.getElem?_append_right (by omega)] at hval
                    by_cases hj2 : j < offs e q + y.1.size
                    · rw [List.getElem?_append_left (by omega)] at hval ⊢
                      rw [← hval]; congr 1; omega
                    · rw [List.getElem?_append_right (by omega)] at hval ⊢
                      rw [List.getElem?_drop]
                      have := hseg j hjl
                      rw [show k.toNat * e.size + offs e q + y.1.size + (k.toNat * e.size + j - (k.toNat * e.size + offs e q) - (a.eval v).cells.toList.length) = k.toNat * e.size + j by omega, this, q1,
                        List.getElem?_append_right (by omega), List.getElem?_append_right (by omega), ← hval]
                      congr 1; omega
                · rw [if_neg hik] at hu
                  have hold := j6 i u hu j val hval
                  rw [← Array.getElem?_toList] at hold
                  rcases Nat.lt_or_gt_of_ne hik with hlt2 | hgt
                  · have hm : (i + 1) * e.size ≤ k.toNat * e.size := Nat.mul_le_mul_right _ hlt2
                    rw [Nat.succ_mul] at hm
                    rw [List.getElem?_append_left (by omega), List.getElem?_take_of_lt (by omega)]; exact hold
                  · have hm : (k.toNat + 1) * e.size ≤ i * e.size := Nat.mul_le_mul_right _ hgt
                    rw [Nat.succ_mul] at hm
                    rw [List.getElem?_append_right (by omega), hlt, List.getElem?_append_right (by omega), List.getElem?_drop]
                    rw [← hold]; congr 1; omega
  · cases hc

theorem TupSh.part : ∀ {t : Ty} {vs : List Value} {x : t.val} {i : Nat} {d : Dat}, TupSh t vs → getF t x i = some d → ∃ v, vs[i]? = some v ∧ v = wrapV d.1 (((vs.flatMap fun v => v.cells.toList).drop (offs t [i])).take d.1.size) := by
  intro t
  induction t with
  | prod p q _ ihq =>
    intro vs x i d h hf
    obtain ⟨v, vs', cs, rfl, h1, h2, h3, h4⟩ := h
    cases i with
    | zero =>
      simp only [getF] at hf; injection hf with hf; subst hf
      refine ⟨v, rfl, ?_⟩
      have : offs (.prod p q) [0] = 0 := by cases p <;> rfl
      rw [this]
      simp only [List.flatMap_cons, List.drop_zero]
      rw [h3, ← h1, List.take_left]; exact h2
    | succ i =>
      simp only [getF] at hf
      obtain ⟨u, k1, k2⟩ := ihq h4 hf
      refine ⟨u, by simpa using k1, ?_⟩
      simp only [List.flatMap_cons, offs]
      rw [h3, ← h1, ← List.drop_drop, List.drop_left]; exact k2
  | _ => intro vs x i d h hf; cases hf
theorem ok_extractX (h : Sim w0 lim0 rb n st a w lim β) (hd : ∀ d, o.dst = some d → d < n) {x : Operand} {i : Nat} {r : Tmp} (hop : o.op = .extract x i) (hxe : (st.ent x).av = .xt r) (hc : stExtractX o r i st = some c) (ho : c.out st = some st') : OpOk P w0 lim0 rb n o st' a w := by
  unfold stExtractX at hc
  have hx := h.ent x
  rw [hxe] at hx
  obtain ⟨hx1, d, vs, hx2, hx3, hx4⟩ := hx
  rw [hx2] at hc; simp only [] at hc
  cases hf : getF d.1 d.2 i with
  | none => rw [hf] at hc; cases hc
  | some y =>
    rw [hf] at hc; simp only [] at hc
    obtain ⟨u, k1, k2⟩ := hx4.part hf
    have hfl : flatV (β.V r) = vs.flatMap fun v => v.cells.toList := by rw [← hx1, hx3]; simp [flatV]
    rw [← hfl] at k2
    have he : (execOp a.eval o).run P w = .ok (.value u) w := by
      simp [execOp, hop, hx3, Instr.extract, k1]
    have hp : getP d.1 d.2 [i] = some y := by simp [getP, hf]
    obtain ⟨hfl2, hX⟩ := h.xs.io r d hx2
    obtain ⟨Bu, m1, m2, _⟩ := hX.field hf
    cases hns : noSl y.1 with
    | true =>
      rw [hns] at hc
      injection hc with hc; subst hc
      obtain ⟨_, rfl⟩ := out_ret ho
      have hcr := m2.crep (lim := fun _ => none) (flat_getF hfl2 hf) (fun _ _ => rfl)
      exact .value he (h.plain _ _ _ hd ⟨_, (CRep_noSl hns).2 ((CRep_noSl hns).1 hcr), k2⟩)
    | false =>
      rw [hns] at hc
      injection hc with hc; subst hc
      obtain ⟨_, rfl⟩ := out_ret ho
      exact .value he (h.plain _ _ _ hd ⟨d, y.1, hx2, typeAt_getP hp, k2⟩)
end
end Go.Den
