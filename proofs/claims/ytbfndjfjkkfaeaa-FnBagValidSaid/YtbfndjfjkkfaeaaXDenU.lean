/- Operations that do not touch each other change places; regions whose order is drawn. -/
import Derived.Test.YtbfndjfjkkfaeaaXDenT
set_option linter.unusedVariables false
set_option linter.unusedSimpArgs false
namespace Go.Den
section
variable {P : Program} {tab : Tab} {G : Gam}
variable {st st' : St} {o : Oper}

theorem keepTag_comm (u1 u2 : Upd) (x : Option (Bool × Loc)) : keepTag u1 (keepTag u2 x) = keepTag u2 (keepTag u1 x) := by
  cases x with
  | none => rfl
  | some kl =>
    obtain ⟨k, l⟩ := kl
    cases l with
    | tmp t p =>
      simp only [keepTag]
      cases isT t u1.dst <;> cases isT t u2.dst <;> rfl
    | box b p =>
      simp only [keepTag]
      cases u1.bw with
      | none => rfl
      | some x1 =>
        cases u2.bw with
        | none => rfl
        | some x2 =>
          obtain ⟨c1, _⟩ := x1
          obtain ⟨c2, _⟩ := x2
          simp only []
          cases Nat.beq b c1 <;> cases Nat.beq b c2 <;> rfl
theorem tagRes_off {u u' : Upd} (h : ∀ r ∈ tagRes u, r ∉ u'.writes) : keepTag u' u.ent.tag = u.ent.tag := by
  unfold tagRes at h
  cases hq : u.ent.tag with
  | none => rfl
  | some kl =>
    obtain ⟨k, l⟩ := kl
    rw [hq] at h
    exact keepTag_off (h _ (by simp))
theorem isT_true {t : Tmp} {d : Option Tmp} (h : isT t d = true) : d = some t := by
  cases d with
  | none => cases h
  | some e => have := nbeq h; subst this; rfl

/-- TWO CHANGES THAT DO NOT TOUCH EACH OTHER -/
theorem apply_comm {u1 u2 : Upd} (hw : ∀ r ∈ u1.writes, r ∉ u2.writes) (h1 : ∀ r ∈ tagRes u1, r ∉ u2.writes) (h2 : ∀ r ∈ tagRes u2, r ∉ u1.writes) : apply (apply st u1) u2 = apply (apply st u2) u1 := by
  have hw' : ∀ r ∈ u2.writes, r ∉ u1.writes := fun r hr hq => hw r hq hr
  have henv : (apply (apply st u1) u2).env = (apply (apply st u2) u1).env := by
    funext t
    have e1 := tagRes_off h1
    have e2 := tagRes_off h2
    cases hq1 : isT t u1.dst with
    | true =>
      have hd := isT_true hq1
      have hn : isT t u2.dst = false := isT_ne.2 fun e => hw _ (mem_dst hd).1 (mem_dst e).1
      simp only [apply, hq1, hn, cnd_true, cnd_false, e1]
    | false =>
      cases hq2 : isT t u2.dst with
      | true => simp only [apply, hq1, hq2, cnd_true, cnd_false, e2]
      | false => simp only [apply, hq1, hq2, cnd_false, keepTag_comm u1 u2]
  have hrd : (apply (apply st u1) u2).rd = (apply (apply st u2) u1).rd := by
    simp only [apply]
    cases hq1 : u1.rd with
    | none => rfl
    | some d1 =>
      cases hq2 : u2.rd with
      | none => rfl
      | some d2 => exact absurd (mem_rd hq2) (hw _ (mem_rd hq1))
  have hbox : (apply (apply st u1) u2).box = (apply (apply st u2) u1).box := by
    funext b
    by_cases hb1 : Res.box b ∈ u1.writes
    · have hb2 := hw _ hb1
      rw [box_off hb2]
      simp only [apply]
      cases hq1 : u1.bw with
      | none =>
        simp only []
        cases hq2 : u2.bw with
        | none => rfl
        | some x2 =>
          obtain ⟨c, d, o', q⟩ := x2
          have : Nat.beq b c = false := by
            cases hq : Nat.beq b c with
            | true => exact absurd (mem_bw (by rw [nbeq hq]; exact hq2)) hb2
            | false => rfl
          simp [this]
      | some x1 =>
        obtain ⟨c1, d1, o1, q1⟩ := x1
        simp only []
        cases hq2 : u2.bw with
        | none => rfl
        | some x2 =>
          obtain ⟨c, d, o', q⟩ := x2
          have : Nat.beq b c = false := by
            cases hq : Nat.beq b c with
            | true => exact absurd (mem_bw (by rw [nbeq hq]; exact hq2)) hb2
            | false => rfl
          simp [this]
    · rw [box_off hb1]
      simp only [apply]
      cases hq2 : u2.bw with
      | none => exact box_off hb1
      | some x2 =>
        obtain ⟨c, d, o', q⟩ := x2
        simp only []
        have : _ = st.box b := box_off (st := st) hb1
        simp only [apply] at this
        rw [this]
  have hown : (apply (apply st u1) u2).own = (apply (apply st u2) u1).own := by
    funext l
    by_cases hb1 : l.res ∈ u1.writes
    · have hb2 := hw _ hb1
      rw [own_off hb2]
      have e2 := own_off (st := st) hb2
      have : ∀ {s s' : St}, s.own l = s'.own l → (apply s u1).own l = (apply s' u1).own l := by
        intro s s' he
        cases l with
        | tmp t p => simp only [apply, he]
        | box b p =>
          simp only [apply]
          cases u1.bw with
          | none => simp only [he]
          | some x => simp only [he]
      exact (this e2).symm
    · rw [own_off hb1]
      have e1 := own_off (st := st) hb1
      have : ∀ {s s' : St}, s.own l = s'.own l → (apply s u2).own l = (apply s' u2).own l := by
        intro s s' he
        cases l with
        | tmp t p => simp only [apply, he]
        | box b p =>
          simp only [apply]
          cases u2.bw with
          | none => simp only [he]
          | some x => simp only [he]
      exact this e1
  have hio : (apply (apply st u1) u2).io = (apply (apply st u2) u1).io := by
    have cong : ∀ (u : Upd) (b : Tmp) {s s' : St}, s.io b = s'.io b → (apply s u).io b = (apply s' u).io b := by
      intro u b s s' he
      simp only [apply]
      cases u.xw with
      | none => exact he
      | some x => simp only [he]
    funext b
    by_cases hb1 : Res.box b ∈ u1.writes
    · have hb2 := hw _ hb1
      rw [io_off hb2]
      exact (cong u1 b (io_off hb2)).symm
    · rw [io_off hb1]
      exact cong u2 b (io_off hb1)
  have hxb : (apply (apply st u1) u2).xb = (apply (apply st u2) u1).xb := by
    have cong : ∀ (u : Upd) (b : Tmp) {s s' : St}, s.xb b = s'.xb b → (apply s u).xb b = (apply s' u).xb b := by
      intro u b s s' he
      simp only [apply]
      cases u.xbw with
      | none => exact he
      | some x => simp only [he]
    funext b
    by_cases hb1 : Res.box b ∈ u1.writes
    · have hb2 := hw _ hb1
      rw [xb_off hb2]
      exact (cong u1 b (xb_off hb2)).symm
    · rw [xb_off hb1]
      exact cong u2 b (xb_off hb1)
  have ext : ∀ {s s' : St}, s.env = s'.env → s.box = s'.box → s.own = s'.own → s.rd = s'.rd → s.kn = s'.kn → s.io = s'.io → s.xb = s'.xb → s.mkt = s'.mkt → s = s' := by
    intro s s' a b c d e f g k
    cases s; cases s'
    simp only at a b c d e f g k
    subst a; subst b; subst c; subst d; subst e; subst f; subst g; subst k; rfl
  exact ext henv hbox hown hrd rfl hio hxb rfl

/-- what an operand looks at, seen from before -/
theorem readsX_on {u : Upd} {x : Operand} (h : ∀ r ∈ readsX st x, r ∉ u.writes) : readsX (apply st u) x = readsX st x := by
  cases x with
  | tmp t =>
    have he : (apply st u).env t = st.env t := (look_off (x := .tmp t) h).ent
    have hx : xbRes (apply st u) (st.env t).av = xbRes st (st.env t).av := by
      cases hav : (st.env t).av with
      | cx b p =>
        have : Res.box b ∉ u.writes := h _ (by simp [readsX, hav, avRes])
        simp only [xbRes, xb_off this]
      | _ => rfl
    simp only [readsX, he, hx]
  | _ => rfl
theorem readsL_on {u : Upd} : ∀ {l : List Operand}, (∀ r ∈ readsL st l, r ∉ u.writes) → readsL (apply st u) l = readsL st l
  | [], _ => rfl
  | x :: l, h => by
    simp only [readsL] at h ⊢
    rw [readsX_on fun r hr => h r (by simp [hr]), readsL_on fun r hr => h r (by simp [hr])]
theorem reads_on {u : Upd} (h : ∀ r ∈ reads st o, r ∉ u.writes) : reads (apply st u) o = reads st o := by
  have e : exNo (apply st u) o.op = exNo st o.op := exNo_eq fun t i hp => by rw [apply_av (h _ (exNo_reads hp))]
  have e2 : mvNo (apply st u) o.op = mvNo st o.op := mvNo_eq fun t hp => by rw [apply_av (h _ (mvNo_reads hp))]
  have e3 : ∀ t, mvNo st o.op = some t → Res.tmp t ∉ u.writes := fun t hq => by
    obtain ⟨q, hp, _⟩ := mvNo_some hq
    exact h _ (mvNo_reads hp)
  unfold reads at h ⊢
  rw [e, e2]
  cases hq : exNo st o.op with
  | some t => rfl
  | none =>
    rw [hq] at h
    simp only [] at h ⊢
    cases hm : mvNo st o.op with
    | some t => simp only []; rw [readsM_off (e3 t hm)]
    | none =>
      rw [hm] at h
      simp only [] at h ⊢
      rw [readsL_on fun r hr => h r (by simp [hr])]
theorem step_on {u : Upd} (h : ∀ r ∈ reads st o, r ∉ u.writes) : stepC tab G o (apply st u) = stepC tab G o st := step_same h

theorem one_on {ops : List Oper} {u' u : Upd} {rs : List Res} (h : oneU tab G ops o st = some (u, rs)) (hr : ∀ r ∈ rs, r ∉ u'.writes) : oneU tab G ops o (apply st u') = some (u, rs) := by
  have rsOf : ∀ {st : St} {rs' : List Res}, (match stepC tab G o st with
      | some (.ret c u) => cond (chkB c) (some (u, rs')) none
      | some (.call _ _ F u) => F.map fun r => (u r, rs')
      | none => none : Option (Upd × List Res)) = some (u, rs) → rs' = rs := by
    intro st rs' hgo
    cases hc : stepC tab G o st with
    | none => rw [hc] at hgo; cases hgo
    | some c =>
      rw [hc] at hgo
      cases c with
      | ret c u2 =>
        cases hck : chkB c with
        | false => simp only [hck] at hgo; cases hgo
        | true => simp only [hck] at hgo; injection hgo with hgo; injection hgo
      | call rt rdt F u2 =>
        cases F with
        | none => cases hgo
        | some r => injection hgo with hgo; injection hgo
  unfold oneU at h ⊢
  cases hg : o.guard with
  | none =>
    rw [hg] at h
    simp only [] at h ⊢
    have := rsOf h
    subst this
    rw [reads_on hr, step_on (tab := tab) (G := G) hr]; exact h
  | some gw =>
    obtain ⟨g, want⟩ := gw
    rw [hg] at h
    simp only [] at h ⊢
    cases hgt : guardT ops g with
    | none => rw [hgt] at h; cases h
    | some t =>
      rw [hgt] at h
      simp only [] at h ⊢
      have hav : Res.tmp t ∈ rs → ((apply st u').env t).av = (st.env t).av := fun hm => by rw [apply_av (hr _ hm)]
      cases hq : (st.env t).av with
      | dat ty b =>
        rw [hq] at h
        cases ty <;> try (simp only [] at h; cases h; done)
        simp only [] at h
        cases hw : eqW b want with
        | true =>
          rw [hw] at h
          have h : (match stepC tab G o st with
            | some (.ret c u) => cond (chkB c) (some (u, Res.tmp t :: reads st o)) none
            | some (.call _ _ F u) => F.map fun r => (u r, Res.tmp t :: reads st o)
            | none => none : Option (Upd × List Res)) = some (u, rs) := h
          have := rsOf h
          subst this
          have hr' : ∀ r ∈ reads st o, r ∉ u'.writes := fun r hm => hr r (by simp [hm])
          have ha := hav (by simp)
          rw [ha, hq]
          simp only [hw]
          rw [reads_on hr', step_on (tab := tab) (G := G) hr']; exact h
        | false =>
          rw [hw] at h
          have h : some (skipU o, [Res.tmp t]) = some (u, rs) := h
          have hrs : rs = [Res.tmp t] := by injection h with h; injection h with _ h; exact h.symm
          have ha := hav (by rw [hrs]; simp)
          rw [ha, hq]
          simp only [hw]; exact h
      | skp =>
        rw [hq] at h
        have h : some (skipU o, [Res.tmp t]) = some (u, rs) := h
        have hrs : rs = [Res.tmp t] := by injection h with h; injection h with _ h; exact h.symm
        have ha := hav (by rw [hrs]; simp)
        rw [ha, hq]; exact h
      | _ => rw [hq] at h; simp only [] at h; cases h

/-! ### a run, its operations listed with what they change -/
structure Item where
  i : Nat
  o : Oper
  u : Upd
  rs : List Res
def Item.fp (x : Item) : FP := ⟨tagRes x.u ++ x.rs, x.u.writes⟩
def RunI (tab : Tab) (G : Gam) (ops : List Oper) : List Item → St → St → Prop
  | [], st, st' => st = st'
  | x :: xs, st, st' => oneU tab G ops x.o st = some (x.u, x.rs) ∧ RunI tab G ops xs (apply st x.u) st'

theorem runI_swap {ops : List Oper} {x y : Item} {r : List Item} (hi : indep x.fp y.fp = true) (h : RunI tab G ops (x :: y :: r) st st') : RunI tab G ops (y :: x :: r) st st' := by
  obtain ⟨h1, h2, h3⟩ := h
  obtain ⟨i1, i2, i3⟩ := indep_iff hi
  have i3' : ∀ r ∈ x.fp.reads, r ∉ y.fp.writes := fun r hr hq => i3 r hq hr
  refine ⟨one_off h2 (fun r hr hq => i1 r hq (by simp [Item.fp, hr])), one_on h1 (fun r hr => i3' r (by simp [Item.fp, hr])), ?_⟩
  rw [apply_comm (fun r hr hq => i2 r hq hr) (fun r hr hq => i1 r hq (by simp [Item.fp, hr])) (fun r hr => i3' r (by simp [Item.fp, hr]))]
  exact h3
theorem runI_bubble {ops : List Oper} {y : Item} {post : List Item} : ∀ {pre : List Item} {st : St}, (∀ x ∈ pre, indep x.fp y.fp = true) → RunI tab G ops (pre ++ y :: post) st st' → RunI tab G ops (y :: (pre ++ post)) st st'
  | [], _, _, h => h
  | x :: pre, st, hi, h => by
    obtain ⟨h1, h2⟩ := h
    have := runI_bubble (fun z hz => hi z (by simp [hz])) h2
    exact runI_swap (hi x (by simp)) ⟨h1, this⟩

theorem runT_items {ops : List Oper} : ∀ {rest : List Oper} {i : Nat} {st : St} {fs : List FP}, runT tab G ops rest st = some (st', fs) →
    ∃ xs : List Item, RunI tab G ops xs st st' ∧ xs.map Item.fp = fs ∧ xs.map (·.o) = rest ∧ xs.map (·.i) = List.range' i rest.length := by
  intro rest
  induction rest with
  | nil => intro i st fs h; injection h with h; injection h with h1 h2; subst h1; subst h2; exact ⟨[], rfl, rfl, rfl, rfl⟩
  | cons o rest ih =>
    intro i st fs h
    simp only [runT] at h
    cases hu : oneU tab G ops o st with
    | none => rw [hu] at h; cases h
    | some ur =>
      obtain ⟨u, rs⟩ := ur
      rw [hu] at h; simp only [] at h
      cases hrest : runT tab G ops rest (apply st u) with
      | none => rw [hrest] at h; cases h
      | some sf =>
        obtain ⟨s', fs'⟩ := sf
        rw [hrest] at h
        injection h with h; injection h with h1 h2; subst h1; subst h2
        obtain ⟨xs, k1, k2, k3, k4⟩ := ih (i := i + 1) hrest
        exact ⟨⟨i, o, u, rs⟩ :: xs, ⟨hu, k1⟩, by simp [k2, Item.fp], by simp [k3], by simp [k4, List.range'_succ]⟩
end
end Go.Den
