/- The operations without memory of their own, second part. -/
import Derived.Test.YtbfndjfjkkfaeaaXDenH
set_option linter.unusedVariables false
set_option linter.unusedSimpArgs false
namespace Go.Den
section
variable {P : Program} {tab : Tab} {w0 : Base} {lim0 : Lim} {rb : Option Nat} {n : Nat}
variable {st st' : St} {a : Act} {w : World} {lim : Lim} {β : Mp} {o : Oper} {c : Comp}

/-- a value is put with what its operand owned of its slices -/
theorem Sim.passed (h : Sim w0 lim0 rb n st a w lim β) (hd : ∀ d, o.dst = some d → d < n) (x : Operand) {t : Ty} {v : t.val}
    (hav : ∀ u, x = .tmp u → (∃ v, (st.env u).av = .dat t v) ∨ (st.env u).av = .nil) (hcn : ∀ k, x = .const k → (st.ent x).av = .nil ∨ slicePaths t = []) (hr : TRep w lim t v (a.eval x)) :
    Sim w0 lim0 rb n (apply st { upd0 o.dst (.dat t v) none with own := st.owned x (slicePaths t), takes := takesOf x (st.owned x (slicePaths t)) }) (a.put o.dst (a.eval x)) w lim β := by
  refine h.val { upd0 o.dst (.dat t v) none with own := st.owned x (slicePaths t), takes := takesOf x (st.owned x (slicePaths t)) } _ hd rfl rfl hr (srcOf x) (fun p hp => ?_) (fun p _ q _ hpq => srcOf_inj _ hpq) (fun l hl => by cases hl) (fun l hl => by cases hl)
  obtain ⟨h1, h2⟩ := owned_mem hp
  obtain ⟨e, y, k1, k2, k3⟩ := handed h hav hcn hr h1 h2
  refine ⟨e, y, k1, by simp only [upd0, partAV]; rw [flat_TRep hr]; exact k2, ?_⟩
  rcases k3 with k3 | ⟨k3, k4⟩
  · exact .inl k3
  · exact .inr ⟨mem_takesOf k3 h2 hp, k4⟩

theorem ok_assign (h : Sim w0 lim0 rb n st a w lim β) (hd : ∀ d, o.dst = some d → d < n) {x : Operand} (hop : o.op = .assign x) (ho : (stAssign tab o x st).out st = some st') : OpOk P w0 lim0 rb n o st' a w := by
  have he : (execOp a.eval o).run P w = .ok (.value (a.eval x)) w := by simp [execOp, hop]
  unfold stAssign at ho
  cases hco : coerce (tab o.type) (st.ent x).av with
  | dat t v =>
    rw [hco] at ho
    obtain ⟨_, rfl⟩ := out_ret ho
    refine .value he (h.passed hd x (fun u hu => ?_) (fun k hk => by subst hk; exact const_own hco) (coerce_rep h _ hco))
    subst hu
    have hx := h.ent (.tmp u)
    cases hk : (st.ent (.tmp u)).av with
    | dat ty y => rw [hk] at hco; simp only [coerce] at hco; injection hco with h1 h2; subst h1; exact .inl ⟨y, hk⟩
    | nil => exact .inr hk
    | _ => rw [hk] at hco; simp only [coerce] at hco; cases hco
  | _ =>
    rw [hco] at ho
    obtain ⟨_, rfl⟩ := out_ret ho
    exact .value he (h.plain _ _ _ hd (coerce_rep h _ hco))

theorem ok_pick (h : Sim w0 lim0 rb n st a w lim β) (hd : ∀ d, o.dst = some d → d < n) {x y z : Operand} (hop : o.op = .pick x y z) (hc : stPick o x y z st = some c) (ho : c.out st = some st') : OpOk P w0 lim0 rb n o st' a w := by
  unfold stPick at hc
  have hx := h.ent x
  cases hx' : (st.ent x).av with
  | dat t b =>
    rw [hx'] at hc hx
    cases t <;> try (simp only [] at hc; cases hc)
    have hb := bool_rep hx
    have he : (execOp a.eval o).run P w = .ok (.value (if (show Bool from b) = true then a.eval y else a.eval z)) w := by simp [execOp, hop, hb, asBool]; rfl
    have hy := h.ent y
    have hz := h.ent z
    have fin : ∀ av, ERep st w lim β rb av (if (show Bool from b) = true then a.eval y else a.eval z) → some (Comp.ret none (upd0 o.dst av none)) = some c → OpOk P w0 lim0 rb n o st' a w := by
      intro av hav hcc
      injection hcc with hcc; subst hcc
      obtain ⟨_, rfl⟩ := out_ret ho
      exact .value he (h.plain _ _ _ hd hav)
    have two : ERep st w lim β rb (cnd b (st.ent y).av (st.ent z).av) (if (show Bool from b) = true then a.eval y else a.eval z) := by
      cases b with
      | true => exact hy
      | false => exact hz
    cases hy' : (st.ent y).av with
    | dat t v =>
      cases hz' : (st.ent z).av with
      | dat u w2 =>
        simp only [hy', hz'] at hc
        cases hcast : Ty.cast u t w2 with
        | none => rw [hcast] at hc; cases hc
        | some w3 =>
          rw [hcast] at hc
          refine fin _ ?_ hc
          obtain ⟨e, hw3⟩ := cast_some hcast
          subst e; subst hw3
          rw [hy'] at hy; rw [hz'] at hz
          cases b with
          | true => exact hy
          | false => exact hz
      | _ => simp only [hy', hz'] at hc two; exact fin _ two hc
    | _ => simp only [hy'] at hc two; exact fin _ two hc
  | _ => rw [hx'] at hc; cases hc

theorem ok_nilCheck (h : Sim w0 lim0 rb n st a w lim β) (hd : ∀ d, o.dst = some d → d < n) {x : Operand} (hop : o.op = .nilCheck x)
    (hc : (match (st.ent x).av with
      | .cel b p => some (.ret none (upd0 o.dst (.cel b p) none))
      | .rdr p => some (.ret none (upd0 o.dst (.rdr p) none))
      | _ => none) = some c) (ho : c.out st = some st') : OpOk P w0 lim0 rb n o st' a w := by
  have hx := h.ent x
  cases hx' : (st.ent x).av with
  | cel b p =>
    rw [hx'] at hc hx
    injection hc with hc; subst hc
    obtain ⟨_, rfl⟩ := out_ret ho
    obtain ⟨d, h1, h2⟩ := hx
    exact .value (v := a.eval x) (by simp [execOp, hop, h2]) (h.plain _ _ _ hd ⟨d, h1, h2⟩)
  | rdr p =>
    rw [hx'] at hc hx
    injection hc with hc; subst hc
    obtain ⟨_, rfl⟩ := out_ret ho
    obtain ⟨d, b, h1, h2, h3⟩ := hx
    exact .value (v := a.eval x) (by simp [execOp, hop, h3]) (h.plain _ _ _ hd ⟨d, b, h1, h2, h3⟩)
  | _ => rw [hx'] at hc; cases hc

theorem getP_app : ∀ {p : List Nat} {t : Ty} {x : t.val} {y : Dat}, getP t x p = some y → ∀ (q : List Nat) {u : Ty}, typeAt y.1 q = some u → typeAt t (p ++ q) = some u ∧ offs t (p ++ q) = offs t p + offs y.1 q
  | [], t, x, y, h, q, u, hq => by
    simp [getP] at h; subst h
    exact ⟨by simpa using hq, by simp [offs]⟩
  | i :: p, t, x, y, h, q, u, hq => by
    simp only [getP] at h
    cases hf : getF t x i with
    | none => rw [hf] at h; cases h
    | some d =>
      rw [hf] at h
      obtain ⟨h1, h2⟩ := getP_app h q hq
      simp only [List.cons_append]
      refine ⟨by rw [(getF_typeAt (p ++ q) hf).1]; exact h1, ?_⟩
      rw [(getF_typeAt (p ++ q) hf).2, (getF_typeAt p hf).2, h2]; omega

theorem ownedB_mem {b : Tmp} {p q : List Nat} : ∀ {ps : List (List Nat)}, q ∈ st.ownedB b p ps → q ∈ ps ∧ st.own (.box b (p ++ q)) = true
  | [], h => by simp [St.ownedB] at h
  | r :: rs, h => by
    simp only [St.ownedB] at h
    cases hq : st.own (.box b (p ++ r)) with
    | true =>
      rw [hq] at h; simp at h
      rcases h with rfl | h
      · exact ⟨by simp, hq⟩
      · obtain ⟨h1, h2⟩ := ownedB_mem h; exact ⟨by simp [h1], h2⟩
    | false =>
      rw [hq] at h
      obtain ⟨h1, h2⟩ := ownedB_mem h; exact ⟨by simp [h1], h2⟩
theorem ok_load (hT : TabOk P tab) (h : Sim w0 lim0 rb n st a w lim β) (hd : ∀ d, o.dst = some d → d < n) {t : TypeId} {x : Operand} (hop : o.op = .load t x) (hc : stLoad tab o t x st = some c) (ho : c.out st = some st') : OpOk P w0 lim0 rb n o st' a w := by
  unfold stLoad at hc
  have hx := h.ent x
  -- a box's part, or the reader's
  have part : ∀ {g : Nat} {cells : Array Value} {e : TypeId} {d : Dat} {p : List Nat} {y : Dat}, w.heap[g]? = some (.cells cells e (0, 0)) → CRep w lim d.1 d.2 cells.toList → getP d.1 d.2 p = some y →
      ∃ cs, CRep w lim y.1 y.2 cs ∧ ∀ j u, cs[j]? = some u → w.cell? ⟨g, offs d.1 p + j, none⟩ = some u := by
    intro g cells e d p y hg hr hp
    obtain ⟨c1, c2, c3, h1, h2, h3, _⟩ := hr.part hp
    refine ⟨c2, h3, fun j u hu => ?_⟩
    simp only [World.cell?, hg]
    have : cells[offs d.1 p + j]? = cells.toList[offs d.1 p + j]? := by simp
    rw [← h2]
    simp only [Option.isSome_none, Bool.false_eq_true, if_false]
    rw [← Array.getElem?_toList, h1, List.getElem?_append_right (by omega)]
    rw [show c1.length + j - c1.length = j by omega, List.getElem?_append_left (List.getElem?_eq_some_iff.1 hu).1]
    exact hu
  have run : ∀ {g oo : Nat} {y : Dat} {cs : List Value}, a.eval x = .pointer (some ⟨g, oo, none⟩) → tab t = some y.1 → CRep w lim y.1 y.2 cs → (∀ j u, cs[j]? = some u → w.cell? ⟨g, oo + j, none⟩ = some u) →
      (execOp a.eval o).run P w = .ok (.value (wrapV y.1 cs)) w := by
    intro g oo y cs he ht hr hm
    simp [execOp, hop, Instr.loadAt, Instr.sureAddr, he, run_loadVar (hT _ _ ht) hr hm]
  cases hx' : (st.ent x).av with
  | cel b p =>
    rw [hx'] at hc hx
    obtain ⟨d, h1, h2⟩ := hx
    simp only [h1] at hc
    cases hp : getP d.1 d.2 p with
    | none => rw [hp] at hc; cases hc
    | some y =>
      rw [hp] at hc; simp only [] at hc
      cases hty : tyIs (tab t) y.1 with
      | false => rw [hty] at hc; cases hc
      | true =>
        rw [hty] at hc
        cases hmk : mkD st o.dst with
        | true =>
          rw [hmk] at hc
          injection hc with hc; subst hc
          obtain ⟨_, rfl⟩ := out_ret ho
          obtain ⟨cells, e, k1, k2, _⟩ := h.box b d h1
          obtain ⟨cs, k3, k4⟩ := part k1 k2 hp
          refine .value (run h2 (tyIs_some hty) k3 k4) (h.val { upd0 o.dst (.dat y.1 y.2) none with own := st.ownedB b p (slicePaths y.1), takes := (st.ownedB b p (slicePaths y.1)).map fun q => .box b (p ++ q) } _ hd rfl rfl ⟨cs, k3, rfl⟩
            (fun q => .box b (p ++ q)) (fun q hq => ?_) (fun q _ q' _ hqq => ?_) (fun l hl => by cases hl) (fun l hl => by cases hl))
          · obtain ⟨m1, m2⟩ := ownedB_mem hq
            obtain ⟨⟨e', he'⟩, _⟩ := slicePaths_spec m1
            obtain ⟨t1, t2⟩ := getP_app hp q he'
            have hT' : TRep w lim y.1 y.2 (wrapV y.1 cs) := ⟨cs, k3, rfl⟩
            obtain ⟨bb, mm, kk, hk⟩ := k3.sliceAt he'
            refine ⟨e', _, he', by simp only [upd0, partAV]; rw [flat_TRep hT', wrapV_cells k3]; simpa using hk, .inr ⟨List.mem_map.2 ⟨q, hq, rfl⟩, m2, ?_, ?_⟩⟩
            · simp only [locV, h1, t2, Nat.add_assoc]; exact k4 _ _ hk
            · simp only [locTy, h1]; exact t1
          · injection hqq with _ hqq; exact List.append_cancel_left hqq
        | false =>
        rw [hmk] at hc
        injection hc with hc; subst hc
        obtain ⟨_, rfl⟩ := out_ret ho
        obtain ⟨cells, e, k1, k2, _⟩ := h.box b d h1
        obtain ⟨cs, k3, k4⟩ := part k1 k2 hp
        refine .value (run h2 (tyIs_some hty) k3 k4) (h.tagged _ _ _ _ hd ⟨cs, k3, rfl⟩ fun l hl hol => ?_)
        cases hob : st.own (.box b p) with
        | false => rw [hob] at hl; cases hl
        | true =>
          rw [hob] at hl; injection hl with hl; injection hl with _ hl; subst hl
          obtain ⟨e', v', m1, m2, _⟩ := h.own _ hob
          have m1' : typeAt d.1 p = some (.slice e') := by simpa only [locTy, h1] using m1
          rw [typeAt_getP hp] at m1'; injection m1' with m1'
          obtain ⟨ty, yv⟩ := y
          simp only at m1'; subst m1'
          obtain ⟨aa, cc, hcs, _⟩ := k3
          subst hcs
          refine ⟨?_, e', yv, rfl, m1⟩
          simp only [locV, h1, wrapV]
          simpa using k4 0 _ rfl
  | ref u y =>
    rw [hx'] at hc hx
    simp only [] at hc
    obtain ⟨b, oo, cs, h1, h2, h3, h4, h5⟩ := hx
    cases hty : tyIs (tab t) u with
    | false => rw [hty] at hc; cases hc
    | true =>
      rw [hty] at hc
      injection hc with hc; subst hc
      obtain ⟨_, rfl⟩ := out_ret ho
      exact .value (run (y := ⟨u, y⟩) h1 (tyIs_some hty) h3 h5) (h.plain _ _ _ hd ⟨cs, h3, rfl⟩)
  | rdr p =>
    rw [hx'] at hc hx
    obtain ⟨d, b, h1, h2, h3⟩ := hx
    simp only [h1] at hc
    cases hp : getP d.1 d.2 p with
    | none => rw [hp] at hc; cases hc
    | some y =>
      rw [hp] at hc; simp only [] at hc
      cases hty : tyIs (tab t) y.1 with
      | false => rw [hty] at hc; cases hc
      | true =>
        rw [hty] at hc
        injection hc with hc; subst hc
        obtain ⟨_, rfl⟩ := out_ret ho
        obtain ⟨b', cells, e, k0, _, k1, k2, _⟩ := h.rd d h1
        rw [h2] at k0; injection k0 with k0; subst k0
        obtain ⟨cs, k3, k4⟩ := part k1 k2 hp
        exact .value (run h3 (tyIs_some hty) k3 k4) (h.plain _ _ _ hd ⟨cs, k3, rfl⟩)
  | _ => rw [hx'] at hc; cases hc
end
end Go.Den
