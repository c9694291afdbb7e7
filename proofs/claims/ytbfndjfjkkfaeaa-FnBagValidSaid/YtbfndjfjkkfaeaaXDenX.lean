/- Functions: what the reading gives, a call gives. -/
import Derived.Test.YtbfndjfjkkfaeaaXDenWX
set_option linter.unusedVariables false
set_option linter.unusedSimpArgs false
namespace Go.Den
section
variable {P : Program} {tab : Tab} {G : Gam} {w0 : Base} {lim0 : Lim} {rb : Option Nat} {n : Nat}
variable {st st' : St} {a : Act} {w : World} {lim : Lim} {β : Mp}

theorem putArgs_env {w : World} {lim : Lim} {rb : Option Nat} : ∀ {t : Ty} {x : t.val} {vals : List Value} {i : Nat}, ArgsRep w lim rb t x vals → ∀ j, ((putArgs t x i).env j).av = .any ∨
    ∃ k v, j = i + k ∧ vals[k]? = some v ∧ ((∃ b y, ((putArgs t x i).env j).av = .dat b y ∧ TRep w lim b y v) ∨ (((putArgs t x i).env j).av = .rdr [] ∧ ∃ g, rb = some g ∧ v = .pointer (some ⟨g, 0, none⟩))) := by
  intro t
  induction t with
  | prod p q ihp ihq =>
    intro x vals i h j
    cases vals with
    | nil => exact h.elim
    | cons v vals =>
      obtain ⟨h1, h2⟩ := h
      have he : (putArgs (.prod p q) x i).env j = cnd (Nat.beq j i) ⟨argAV p x.1, none⟩ ((putArgs q x.2 (Nat.succ i)).env j) := rfl
      rw [he]
      cases hq : Nat.beq j i with
      | true =>
        have := nbeq hq; subst this
        refine .inr ⟨0, v, rfl, rfl, ?_⟩
        rcases h1 with ⟨h1, h3⟩ | ⟨h1, h3⟩
        · have : argAV p x.1 = .dat p x.1 := by cases p <;> first | rfl | exact absurd rfl h1
          exact .inl ⟨p, x.1, this, h3⟩
        · subst h1; exact .inr ⟨rfl, h3⟩
      | false =>
        rcases ihq (i := Nat.succ i) h2 j with h3 | ⟨k, v', h3, h4, h5⟩
        · exact .inl h3
        · exact .inr ⟨k + 1, v', h3.trans (Nat.succ_add_eq_add_succ i k), by simpa using h4, h5⟩
  | unit => intro x vals i _ j; exact .inl rfl
  | int k => intro x vals i h; cases vals <;> exact h.elim
  | bool => intro x vals i h; cases vals <;> exact h.elim
  | str => intro x vals i h; cases vals <;> exact h.elim
  | slice t => intro x vals i h; cases vals <;> exact h.elim
theorem putArgs_rest : ∀ {t : Ty} {x : t.val} {i : Nat}, (∀ j, ((putArgs t x i).env j).tag = none) ∧ (∀ b, (putArgs t x i).box b = none) ∧ (∀ l, (putArgs t x i).own l = false) ∧ (putArgs t x i).rd = none := by
  intro t
  induction t with
  | prod p q ihp ihq =>
    intro x i
    obtain ⟨h1, h2, h3, h4⟩ := ihq (x := x.2) (i := Nat.succ i)
    refine ⟨fun j => ?_, h2, fun l => ?_, h4⟩
    · have he : (putArgs (.prod p q) x i).env j = cnd (Nat.beq j i) ⟨argAV p x.1, none⟩ ((putArgs q x.2 (Nat.succ i)).env j) := rfl
      rw [he]
      cases Nat.beq j i with
      | true => rfl
      | false => exact h1 j
    · cases l with
      | box b p => exact h3 _
      | tmp u r =>
        have he : (putArgs (.prod p q) x i).own (.tmp u r) = cnd (Nat.beq u i) (inPaths r []) ((putArgs q x.2 (Nat.succ i)).own (.tmp u r)) := rfl
        rw [he]
        cases Nat.beq u i with
        | true => rfl
        | false => exact h3 _
  | _ => intro x i; exact ⟨fun _ => rfl, fun _ => rfl, fun _ => rfl, rfl⟩

theorem putArgs_trees : ∀ {t : Ty} {x : t.val} {i : Nat}, (∀ r, (putArgs t x i).io r = none) ∧ ∀ b, (putArgs t x i).xb b = none := by
  intro t
  induction t with
  | prod p q ihp ihq =>
    intro x i
    obtain ⟨h1, h2⟩ := ihq (x := x.2) (i := Nat.succ i)
    exact ⟨h1, h2⟩
  | _ => intro x i; exact ⟨fun _ => rfl, fun _ => rfl⟩
/-- the world in which an ordinary call began -/
def base0 (w : World) : Base := { w with X := fun _ => False, mu := false, V0 := undef }
theorem base0_grown {w w' : World} {rb : Option Nat} (h : (base0 w).grownBy w' rb) : w.grownBy w' rb :=
  ⟨h.os, h.tape, h.output, h.size, fun i hi hne => h.block i hi hne id⟩
theorem no_trees {w0 : Base} {rb : Option Nat} {st : St} {a : Act} {w : World} {lim : Lim} {β : Mp} (h1 : ∀ r, st.io r = none) (h2 : ∀ b, st.xb b = none) : Own w0 rb st a w lim β :=
  ⟨fun r _ hr => (by rw [h1] at hr; cases hr), fun r _ _ hr => (by rw [h1] at hr; cases hr), fun r _ _ hr => (by rw [h1] at hr; cases hr), fun r _ _ hr => (by rw [h1] at hr; cases hr), fun r _ _ _ _ hr => (by rw [h1] at hr; cases hr), fun b _ _ hb => (by rw [h2] at hb; cases hb), fun b _ _ hb => (by rw [h2] at hb; cases hb), fun b _ _ _ _ _ hb => (by rw [h2] at hb; cases hb), fun _ hd => (by rw [h1] at hd; cases hd)⟩
theorem offs_nil (t : Ty) : offs t [] = 0 := by cases t <;> rfl
theorem whole_cells {w : World} {g : Nat} {cells : Array Value} {e : TypeId} (hg : w.heap[g]? = some (.cells cells e (0, 0))) : ∀ (j : Nat), w.cell? ⟨g, j, none⟩ = cells.toList[j]? := by
  intro j
  simp [World.cell?, hg]

/-- one result -/
theorem resVal_ok (hT : TabOk P tab) (h : Sim w0 lim0 rb n st a w lim β) {ty : Ty} {r : ResultVar} {x : ty.val} (hr : resVal tab st ty r = some x) :
    ∃ v, (match r with | .tmp t => pure (a.tmps.getD t undef) | .cell c t => do loadVar t (← asAddr (a.tmps.getD c undef)) : Sem Value).run P w = .ok v w ∧ TRep w lim ty x v ∧
      ∀ p l, resLoc st p r = some l → st.own l = true → typeAt ty p = locTy st l ∧ v.cells.toList[offs ty p]? = locV st a w β l := by
  cases r with
  | tmp t =>
    simp only [resVal] at hr
    refine ⟨_, Sem.run_pure _ _ _, as_rep hr (h.env t), fun p l hl ho => ?_⟩
    injection hl with hl; subst hl
    obtain ⟨e, v, k1, k2, _⟩ := h.own _ ho
    have hav : (st.env t).av = .dat ty x := by
      rcases as_dat hr with h1 | h1
      · exact h1
      · simp only [locTy, h1] at k1; cases k1
    have ht := h.env t
    rw [hav] at ht
    refine ⟨by simp only [locTy, hav], ?_⟩
    simp only [locV, hav]
    rw [flat_TRep ht]; rfl
  | cell c t =>
    simp only [resVal] at hr
    split at hr
    · rename_i b hav
      have hc := h.env c
      rw [hav] at hc
      obtain ⟨d, k1, k2⟩ := hc
      rw [k1] at hr
      simp only [] at hr
      cases hty : tyIs (tab t) d.1 with
      | false => rw [hty] at hr; cases hr
      | true =>
        rw [hty] at hr
        obtain ⟨e1, e2⟩ := cast_some hr
        obtain ⟨dt, dv⟩ := d
        simp only at e1 e2 k1 k2 hty
        subst e1; subst e2
        obtain ⟨cells, e, m1, m2, m3, m4⟩ := h.box b _ k1
        have hcell := whole_cells m1
        have hload := run_loadVar (P := P) (hT _ _ (tyIs_some hty)) m2 (b := β b) (o := 0) (w := w) (fun j u hu => by rw [Nat.zero_add, hcell]; exact hu)
        have hp : a.tmps.getD c undef = .pointer (some ⟨β b, 0, none⟩) := by
          have : offs dt [] = 0 := by cases dt <;> rfl
          rw [this] at k2; exact k2
        refine ⟨_, ?_, ⟨_, m2, rfl⟩, fun p l hl ho => ?_⟩
        · simp only [hp, asAddr, Sem.run_bind, Sem.run_pure, Result.andThen_ok]
          exact hload
        · simp only [resLoc, hav] at hl
          injection hl with hl; subst hl
          refine ⟨by simp only [locTy, k1], ?_⟩
          simp only [locV, k1, hcell]
          rw [wrapV_cells m2]
    · cases hr

theorem resVals_ok (hT : TabOk P tab) (h : Sim w0 lim0 rb n st a w lim β) :
    ∀ {ty : Ty} {rs : List ResultVar} {x : ty.val}, resVals tab st ty rs = some x → ∃ vs : List Value, (∀ (f : ResultVar → Sem Value) (_ : ∀ u, f (.tmp u) = pure (a.tmps.getD u undef)) (_ : ∀ c t, f (.cell c t) = (do loadVar t (← asAddr (a.tmps.getD c undef)))), (rs.mapM f).run P w = .ok vs w) ∧ TupRep w lim ty x vs ∧ vs.length = rs.length ∧
      ∀ i r p l, nthR rs i = some r → resLoc st p r = some l → st.own l = true → typeAt ty (i :: p) = locTy st l ∧ (vs.flatMap fun v => v.cells.toList)[offs ty (i :: p)]? = locV st a w β l := by
  intro ty
  induction ty with
  | prod p q ihp ihq =>
    intro rs x hr
    cases rs with
    | nil => cases hr
    | cons r rs =>
      simp only [resVals] at hr
      cases h1 : resVal tab st p r with
      | none => rw [h1] at hr; cases hr
      | some y =>
        cases h2 : resVals tab st q rs with
        | none => rw [h1, h2] at hr; cases hr
        | some z =>
          rw [h1, h2] at hr
          injection hr with hr; subst hr
          obtain ⟨v, k1, k2, k3⟩ := resVal_ok hT h h1
          obtain ⟨vs, m1, m2, m3, m4⟩ := ihq h2
          refine ⟨v :: vs, fun f hf hc => ?_, ⟨v, vs, rfl, k2, m2⟩, by simp [m3], fun i r' pp l hi hl ho => ?_⟩
          · have hfr : (f r).run P w = .ok v w := by
              cases r with
              | tmp u => rw [hf]; exact k1
              | cell c t => rw [hc]; exact k1
            simp [List.mapM_cons, hfr, m1 f hf hc]
          have hlen := k2.cells.length
          cases i with
          | zero =>
            injection hi with hi; subst hi
            obtain ⟨e1, e2⟩ := k3 pp l hl ho
            refine ⟨e1, ?_⟩
            obtain ⟨e, u, _, k5, _⟩ := h.own _ ho
            simp only [offs, List.flatMap_cons]
            rw [k5] at e2 ⊢
            rw [List.getElem?_append_left (List.getElem?_eq_some_iff.1 e2).1]; exact e2
          | succ i =>
            obtain ⟨e1, e2⟩ := m4 i r' pp l hi hl ho
            refine ⟨e1, ?_⟩
            simp only [offs, List.flatMap_cons]
            rw [List.getElem?_append_right (by omega), hlen, show p.size + offs q (i :: pp) - p.size = offs q (i :: pp) by omega]; exact e2
  | unit =>
    intro rs x hr
    cases rs with
    | nil => exact ⟨[], fun _ _ _ => by simp, rfl, rfl, fun i r p l hi => by cases hi⟩
    | cons r rs => cases hr
  | int k => intro rs x hr; cases rs <;> cases hr
  | bool => intro rs x hr; cases rs <;> cases hr
  | str => intro rs x hr; cases rs <;> cases hr
  | slice t => intro rs x hr; cases rs <;> cases hr

theorem resLocs_mem {rs : List ResultVar} : ∀ {ps : List (List Nat)} {ls : List Loc}, resLocs st rs ps = some ls → ∀ p ∈ ps, ∃ i q r l, p = i :: q ∧ nthR rs i = some r ∧ resLoc st q r = some l ∧ st.own l = true ∧ l ∈ ls
  | [], ls, h, p, hp => by cases hp
  | [] :: ps, ls, h, p, hp => by cases h
  | (i :: q) :: ps, ls, h, p, hp => by
    simp only [resLocs] at h
    cases h1 : nthR rs i with
    | none => rw [h1] at h; cases h
    | some r =>
      rw [h1] at h; simp only [] at h
      cases h2 : resLoc st q r with
      | none => rw [h2] at h; cases h
      | some l =>
        rw [h2] at h; simp only [] at h
        cases h3 : resLocs st rs ps with
        | none => rw [h3] at h; cases h
        | some ls' =>
          rw [h3] at h; simp only [] at h
          cases h4 : st.own l with
          | false => rw [h4] at h; cases h
          | true =>
            cases h5 : inLocs l ls' with
            | true => rw [h4, h5] at h; cases h
            | false =>
              rw [h4, h5] at h
              injection h with h; subst h
              rcases List.mem_cons.1 hp with rfl | hp
              · exact ⟨i, q, r, l, rfl, h1, h2, h4, by simp⟩
              · obtain ⟨i', q', r', l', k1, k2, k3, k4, k5⟩ := resLocs_mem h3 p hp
                exact ⟨i', q', r', l', k1, k2, k3, k4, by simp [k5]⟩
theorem resLocs_inj {rs : List ResultVar} : ∀ {ps : List (List Nat)} {ls : List Loc}, resLocs st rs ps = some ls → ∀ i q r l i' q' r', (i :: q) ∈ ps → (i' :: q') ∈ ps → nthR rs i = some r → nthR rs i' = some r' → resLoc st q r = some l → resLoc st q' r' = some l → i :: q = i' :: q'
  | [], ls, h, i, q, r, l, i', q', r', hp, _, _, _, _, _ => by cases hp
  | [] :: ps, ls, h, _, _, _, _, _, _, _, hp, _, _, _, _, _ => by cases h
  | (j :: s) :: ps, ls, h, i, q, r, l, i', q', r', hp, hp', hr, hr', hl, hl' => by
    simp only [resLocs] at h
    cases h1 : nthR rs j with
    | none => rw [h1] at h; cases h
    | some rj =>
      rw [h1] at h; simp only [] at h
      cases h2 : resLoc st s rj with
      | none => rw [h2] at h; cases h
      | some lj =>
        rw [h2] at h; simp only [] at h
        cases h3 : resLocs st rs ps with
        | none => rw [h3] at h; cases h
        | some ls' =>
          rw [h3] at h; simp only [] at h
          cases h4 : st.own lj with
          | false => rw [h4] at h; cases h
          | true =>
            cases h5 : inLocs lj ls' with
            | true => rw [h4, h5] at h; cases h
            | false =>
              have clash : ∀ {i q r}, (i :: q) ∈ ps → nthR rs i = some r → resLoc st q r = some lj → False := by
                intro i q r hm hi hq
                obtain ⟨i2, q2, r2, l2, k1, k2, k3, k4, k5⟩ := resLocs_mem h3 _ hm
                injection k1 with k1 k1'; subst k1; subst k1'
                rw [hi] at k2; injection k2 with k2; subst k2
                rw [hq] at k3; injection k3 with k3; subst k3
                rw [inLocs_iff.2 k5] at h5; cases h5
              rcases List.mem_cons.1 hp with hp | _
              · injection hp with e1 e2; subst e1; subst e2
                rw [h1] at hr; injection hr with hr; subst hr
                rw [h2] at hl; injection hl with hl; subst hl
                rcases List.mem_cons.1 hp' with hp' | hp'
                · injection hp' with e1 e2; subst e1; subst e2; rfl
                · exact (clash hp' hr' hl').elim
              · rename_i hpm
                rcases List.mem_cons.1 hp' with hp' | hp'
                · injection hp' with e1 e2; subst e1; subst e2
                  rw [h1] at hr'; injection hr' with hr'; subst hr'
                  rw [h2] at hl'; injection hl' with hl'; subst hl'
                  exact (clash hpm hr hl).elim
                · exact resLocs_inj h3 i q r l i' q' r' hpm hp' hr hr' hl hl'

theorem one_rep {t : Ty} {y : t.val} {v : Value} (m2 : TupRep w lim t y [v]) : ERep st00 w lim mp0 none (resAV t true y) v := by
  cases t with
  | prod p q' =>
    obtain ⟨v', vs', hv, t1, t2⟩ := m2
    injection hv with hv hvs; subst hv; subst hvs
    cases q' with
    | unit => exact t1
    | prod _ _ => obtain ⟨v', vs', hv, _⟩ := t2; cases hv
    | _ => exact t2.elim
  | unit => cases m2
  | _ => exact m2.elim
theorem one_part {t : Ty} {y : t.val} {v : Value} (m2 : TupRep w lim t y [v]) {q : List Nat} {lt : Option Ty} {lv : Option Value} (e1 : typeAt t (0 :: q) = lt) (e2 : ([v].flatMap fun v => v.cells.toList)[offs t (0 :: q)]? = lv) :
    typeAV q (resAV t true y) = lt ∧ partAV v q (resAV t true y) = lv := by
  cases t with
  | prod p q' =>
    obtain ⟨v', vs', hv, t1, t2⟩ := m2
    injection hv with hv hvs; subst hv; subst hvs
    cases q' with
    | unit =>
      simp only [resAV, typeAV, partAV]
      refine ⟨e1, ?_⟩
      rw [flat_TRep t1]
      simpa [offs] using e2
    | prod _ _ => obtain ⟨v', vs', hv, _⟩ := t2; cases hv
    | _ => exact t2.elim
  | unit => cases m2
  | _ => exact m2.elim

theorem rb_lt {s : Sig} {w : World} {lim : Lim} {rb : Option Nat} {rd : s.rdty.val} (hrd : RdIn w lim rb s rd) : ∀ k, some k = rb → k < w.heap.size := by
  intro k hk
  cases hu : s.usesRd with
  | true =>
    obtain ⟨b, cells, e, h1, h2, _⟩ := hrd.1 hu
    rw [h1] at hk; injection hk with hk; subst hk
    exact (Array.getElem?_eq_some_iff.1 h2).1
  | false => rw [hrd.2 hu] at hk; cases hk

/-- the state at a call's start -/
theorem start_sim {s : Sig} {w : World} {lim : Lim} {rb : Option Nat} {x : s.aty.val} {rd : s.rdty.val} {vals : List Value} (m : Nat) (hargs : ArgsRep w lim rb s.aty x vals) (hrd : RdIn w lim rb s rd) :
    Sim (base0 w) lim rb (vals.toArray ++ Array.replicate (m - vals.toArray.size) undef).size (startOf s.aty s.rdty s.usesRd x rd) { tmps := vals.toArray ++ Array.replicate (m - vals.toArray.size) undef, defers := [] } w lim mp0 := by
  obtain ⟨q1, q2, q3, q4⟩ := putArgs_rest (t := s.aty) (x := x) (i := 0)
  have henv := putArgs_env (i := 0) hargs
  unfold startOf
  have e1 : ∀ t, (cnd s.usesRd { putArgs s.aty x 0 with rd := some ⟨s.rdty, rd⟩ } (putArgs s.aty x 0)).env t = (putArgs s.aty x 0).env t := fun t => by cases s.usesRd <;> rfl
  have e2 : ∀ t, (cnd s.usesRd { putArgs s.aty x 0 with rd := some ⟨s.rdty, rd⟩ } (putArgs s.aty x 0)).box t = (putArgs s.aty x 0).box t := fun t => by cases s.usesRd <;> rfl
  have e3 : ∀ t, (cnd s.usesRd { putArgs s.aty x 0 with rd := some ⟨s.rdty, rd⟩ } (putArgs s.aty x 0)).own t = (putArgs s.aty x 0).own t := fun t => by cases s.usesRd <;> rfl
  refine ⟨rfl, rfl, ⟨rfl, rfl, rfl, Nat.le_refl _, fun _ _ _ _ => rfl⟩, fun _ _ => rfl, fun t => ?_, fun b d hbx => ?_, fun b c d d' hbx => ?_, fun l hl => ?_, fun l l' v v' g hl => ?_, fun t l hl => ?_, fun d hd => ?_, ?_⟩
  · rw [e1]
    rcases henv t with h1 | ⟨k, v, h1, h2, h3⟩
    · rw [h1]; trivial
    · have hv : tmpOf { tmps := vals.toArray ++ Array.replicate (m - vals.toArray.size) undef, defers := [] } t = v := by
        have hk := (List.getElem?_eq_some_iff.1 h2).1
        have : t = k := h1.trans (Nat.zero_add k)
        subst this
        simp only [tmpOf]
        rw [Array.getD_eq_getD_getElem?, Array.getElem?_append_left (by simpa using hk)]
        simp [h2]
      rw [hv]
      rcases h3 with ⟨b, y, h3, h4⟩ | ⟨h3, g, h4, h5⟩
      · rw [h3]; exact h4
      · rw [h3]
        cases hu : s.usesRd with
        | false => rw [hrd.2 hu] at h4; cases h4
        | true => exact ⟨⟨s.rdty, rd⟩, g, rfl, h4, by rw [h5, offs_nil]⟩
  · rw [e2, q2] at hbx; cases hbx
  · rw [e2, q2] at hbx; cases hbx
  · rw [e3, q3] at hl; cases hl
  · rw [e3, q3] at hl; cases hl
  · rw [e1, q1] at hl; cases hl
  · cases hu : s.usesRd with
    | false => rw [hu] at hd; simp only [cnd_false, q4] at hd; cases hd
    | true =>
      rw [hu] at hd
      injection hd with hd; subst hd
      obtain ⟨b, cells, e, h1, h2, h3, h4⟩ := hrd.1 hu
      exact ⟨b, cells, e, h1, (Array.getElem?_eq_some_iff.1 h2).1, h2, h3, h4⟩
  · obtain ⟨t1, t2⟩ := putArgs_trees (t := s.aty) (x := x) (i := 0)
    exact no_trees (fun r => by cases s.usesRd <;> exact t1 r) (fun b => by cases s.usesRd <;> exact t2 b)

/-- A FUNCTION: what the reading gives, a call gives. -/
theorem fn_ok (hT : TabOk P tab) (hG : GamOk P G) (hm : P.follows .mixedOrders = true) {f : FuncId} {fn : Func} {c : Code} (hf : P.funcs[f]? = some fn) (hname : (fn.name == "runtime.NumGoroutine") = false) (hb : fn.body = some c)
    (s : Sig) (hop : s.opens = false) (hmu : s.muts = false) (hone : Nat.beq fn.results.toList.length 1 = s.one) {ann : Ann} {fuel : Nat} (hfn : ∀ x rd r, s.fn x rd = some r → evalFn tab G ann fuel fn s.aty s.rdty s.usesRd s.rty s.own x rd = some r) : FnOk P f s := by
  refine ⟨fun args w => ?_, fun _ _ x rd r hr w lim rb vals hargs hrd => ?_, fun h => (by rw [hop] at h; cases h), fun h => (by rw [hmu] at h; cases h)⟩
  · have h1 : fn.name ≠ "runtime.NumGoroutine" := by simpa using hname
    simp [callFunc, hf, h1, hb]
  · have he := hfn x rd r hr
    unfold evalFn at he
    rw [hb] at he
    simp only [] at he
    cases hdst : dstsOk fn.ntmps c with
    | false => rw [hdst] at he; cases he
    | true =>
    rw [hdst] at he
    simp only [cnd_true] at he
    refine calls_of_wp hf hb ?_
    have hrb := rb_lt hrd
    have hsim := start_sim fn.ntmps hargs hrd
    -- what stands at the end
    have hend : ∀ st', finOf tab fn.results.toList s.rdty s.usesRd s.rty s.own st' = some r → ∀ a' w' lim' β', Sim (base0 w) lim rb (vals.toArray ++ Array.replicate (fn.ntmps - vals.toArray.size) undef).size st' a' w' lim' β' →
        a'.defers = [] ∧ ∃ v, (results fn a'.tmps).run P w' = .ok v w' ∧ RetOk w lim rb s r (.returned v) w' := by
      intro st0' hfin a' w' lim0' β' hs0
      have hs := hs0.frz fn.results.toList (fun _ hg => hg)
      unfold finOf at hfin
      simp only [] at hfin
      revert hfin hs
      generalize frz fn.results.toList st0' = st'
      generalize limF st0' β' lim0' = lim'
      intro hfin hs
      refine ⟨hs.defers, ?_⟩
      cases h1 : resVals tab st' s.rty fn.results.toList with
      | none => rw [h1] at hfin; cases hfin
      | some y =>
        cases h2 : resLocs st' fn.results.toList s.own with
        | none => rw [h1, h2] at hfin; cases hfin
        | some ls =>
          rw [h1, h2] at hfin
          simp only [] at hfin
          have hr1 : r.1 = y ∧ (s.usesRd = true → ∃ d, st'.rd = some d ∧ Ty.cast d.1 s.rdty d.2 = some r.2) := by
            cases hu : s.usesRd with
            | false => rw [hu] at hfin; injection hfin with hfin; subst hfin; exact ⟨rfl, fun h => by cases h⟩
            | true =>
              rw [hu] at hfin
              simp only [cnd_true] at hfin
              cases h3 : st'.rd with
              | none => rw [h3] at hfin; cases hfin
              | some d =>
                rw [h3] at hfin; simp only [] at hfin
                cases h4 : Ty.cast d.1 s.rdty d.2 with
                | none => rw [h4] at hfin; cases hfin
                | some z =>
                  rw [h4] at hfin; injection hfin with hfin; subst hfin
                  exact ⟨rfl, fun _ => ⟨d, rfl, h4⟩⟩
          obtain ⟨hry, hrrd⟩ := hr1
          obtain ⟨vs, m1, m2, m3, m4⟩ := resVals_ok hT hs h1
          have hrun : (results fn a'.tmps).run P w' = .ok (if h : vs.toArray.size = 1 then vs.toArray[0] else .tuple vs.toArray) w' := by
            unfold results
            rw [show fn.results = fn.results.toList.toArray by simp, List.mapM_toArray]
            simp only [Sem.run_bind, Sem.run_map]
            rw [m1]
            · simp
            · intro u; rfl
            · intro c t; rfl
          refine ⟨_, hrun, _, lim', rfl, base0_grown hs.grow, hs.limOld, ?_⟩
          -- the value
          have shape : (s.one = false ∧ (if h : vs.toArray.size = 1 then vs.toArray[0] else .tuple vs.toArray) = .tuple vs.toArray) ∨
              (s.one = true ∧ ∃ v, vs = [v] ∧ (if h : vs.toArray.size = 1 then vs.toArray[0] else .tuple vs.toArray) = v) := by
            cases ho : s.one with
            | true =>
              rw [ho] at hone
              have hl := nbeq hone
              obtain ⟨v, rfl⟩ := List.length_eq_one_iff.1 (m3.trans hl)
              exact .inr ⟨rfl, v, rfl, by simp⟩
            | false =>
              rw [ho] at hone
              have hl : fn.results.toList.length ≠ 1 := fun e => by rw [e] at hone; cases hone
              refine .inl ⟨rfl, ?_⟩
              rw [dif_neg]
              simp only [List.size_toArray]
              rw [m3]; exact hl
          -- a slice that is handed out
          have part : ∀ i q r' l, nthR fn.results.toList i = some r' → resLoc st' q r' = some l → st'.own l = true →
              ∃ p', (s.one = true → p' = q) ∧ (s.one = false → p' = i :: q) ∧ typeAV p' (resAV s.rty s.one r.1) = locTy st' l ∧
                partAV (if h : vs.toArray.size = 1 then vs.toArray[0] else .tuple vs.toArray) p' (resAV s.rty s.one r.1) = locV st' a' w' β' l := by
            intro i q r' l hi hl ho
            obtain ⟨e1, e2⟩ := m4 i r' q l hi hl ho
            rcases shape with ⟨s1, s2⟩ | ⟨s1, v, s2, s3⟩
            · refine ⟨i :: q, fun h => (by rw [s1] at h; cases h), fun _ => rfl, ?_, ?_⟩
              · rw [s1]
                have : resAV s.rty false r.1 = .tup s.rty r.1 := by unfold resAV; split <;> simp_all
                rw [this]; exact e1
              · rw [s2, s1]
                have : resAV s.rty false r.1 = .tup s.rty r.1 := by unfold resAV; split <;> simp_all
                rw [this]
                simpa [partAV, flatV] using e2
            · refine ⟨q, fun _ => rfl, fun h => (by rw [s1] at h; cases h), ?_⟩
              subst s2
              rw [s3, s1, hry]
              have hi0 : i = 0 := by
                cases hrs : fn.results.toList with
                | nil => rw [hrs] at hi; cases hi
                | cons r0 rs =>
                  rw [hrs] at hi m3
                  have : rs = [] := by simpa using m3
                  subst this
                  cases i with
                  | zero => rfl
                  | succ i => cases hi
              subst hi0
              exact one_part m2 e1 e2
          refine ⟨?_, fun p hp => ?_, fun p hp q hq x' y' g hx' hy' hbx hby => ?_, fun hu => ?_⟩
          · rcases shape with ⟨s1, s2⟩ | ⟨s1, v, s2, s3⟩
            · rw [s2, s1, hry]
              have : resAV s.rty false y = .tup s.rty y := by unfold resAV; split <;> simp_all
              rw [this]; exact ⟨vs, rfl, m2⟩
            · rw [s3, s1, hry]
              subst s2
              exact one_rep m2
          · have src : ∃ i q, (i :: q) ∈ s.own ∧ (s.one = true → p = q) ∧ (s.one = false → p = i :: q) := by
              cases ho : s.one with
              | true =>
                rw [ho] at hp
                obtain ⟨p0, hp0, rfl⟩ := List.mem_map.1 hp
                obtain ⟨i, q, r', l, k1, _⟩ := resLocs_mem h2 p0 hp0
                subst k1
                exact ⟨i, q, hp0, fun _ => rfl, fun h => by cases h⟩
              | false =>
                rw [ho] at hp
                obtain ⟨i, q, r', l, k1, _⟩ := resLocs_mem h2 p hp
                subst k1
                exact ⟨i, q, hp, fun h => (by cases h), fun _ => rfl⟩
            obtain ⟨i, q, hm', t1, t2⟩ := src
            obtain ⟨i', q', r', l, k1, k2, k3, k4, _⟩ := resLocs_mem h2 _ hm'
            injection k1 with k1 k1'; subst k1; subst k1'
            obtain ⟨p', u1, u2, u3, u4⟩ := part _ _ r' l k2 k3 k4
            have : p = p' := by
              cases ho : s.one with
              | true => rw [t1 ho, u1 ho]
              | false => rw [t2 ho, u2 ho]
            subst this
            obtain ⟨e, v, z1, z2, z3, _⟩ := hs.own l k4
            exact ⟨e, v, u3.trans z1, u4.trans z2, z3⟩
          · have src : ∀ p, p ∈ resOwn s.one s.own → ∃ i q r' l, (i :: q) ∈ s.own ∧ nthR fn.results.toList i = some r' ∧ resLoc st' q r' = some l ∧ st'.own l = true ∧ (s.one = true → p = q) ∧ (s.one = false → p = i :: q) ∧
                partAV (if h : vs.toArray.size = 1 then vs.toArray[0] else .tuple vs.toArray) p (resAV s.rty s.one r.1) = locV st' a' w' β' l := by
              intro p hp
              have src : ∃ i q, (i :: q) ∈ s.own ∧ (s.one = true → p = q) ∧ (s.one = false → p = i :: q) := by
                cases ho : s.one with
                | true =>
                  rw [ho] at hp
                  obtain ⟨p0, hp0, rfl⟩ := List.mem_map.1 hp
                  obtain ⟨i, q, r', l, k1, _⟩ := resLocs_mem h2 p0 hp0
                  subst k1
                  exact ⟨i, q, hp0, fun _ => rfl, fun h => by cases h⟩
                | false =>
                  rw [ho] at hp
                  obtain ⟨i, q, r', l, k1, _⟩ := resLocs_mem h2 p hp
                  subst k1
                  exact ⟨i, q, hp, fun h => (by cases h), fun _ => rfl⟩
              obtain ⟨i, q, hm', t1, t2⟩ := src
              obtain ⟨i', q', r', l, k1, k2, k3, k4, _⟩ := resLocs_mem h2 _ hm'
              injection k1 with k1 k1'; subst k1; subst k1'
              obtain ⟨p', u1, u2, u3, u4⟩ := part _ _ r' l k2 k3 k4
              have : p = p' := by
                cases ho : s.one with
                | true => rw [t1 ho, u1 ho]
                | false => rw [t2 ho, u2 ho]
              subst this
              exact ⟨_, _, r', l, hm', k2, k3, k4, t1, t2, u4⟩
            obtain ⟨i1, q1, r1, l1, a1, a2, a3, a4, a5, a6, a7⟩ := src p hp
            obtain ⟨i2, q2, r2, l2, b1, b2, b3, b4, b5, b6, b7⟩ := src q hq
            rw [a7] at hx'
            rw [b7] at hy'
            have hll := hs.sep l1 l2 x' y' g a4 b4 hx' hy' hbx hby
            subst hll
            have := resLocs_inj h2 i1 q1 r1 l1 i2 q2 r2 a1 b1 a2 b2 a3 b3
            injection this with g1 g2
            cases ho : s.one with
            | true => rw [a5 ho, b5 ho, g2]
            | false => rw [a6 ho, b6 ho, g1, g2]
          · obtain ⟨d, d1, d2⟩ := hrrd hu
            obtain ⟨b, cells, e, z1, z2, z3, z4, _⟩ := hs.rd d d1
            obtain ⟨e1, e2⟩ := cast_some d2
            obtain ⟨dt, dv⟩ := d
            simp only at e1 e2 z4
            subst e1
            exact ⟨b, cells, e, z1, z3, by rw [e2]; exact z4⟩
    refine eval_sound (m := fn.ntmps) hT hG hm hrb (by simp; omega) c _ _ _ _ _ r hdst he _ _ _ _ _ hsim (fun st' hk a' w' lim' β' hs => hend st' hk a' w' lim' β' hs) (fun st' hk a' w' lim' β' hs => hend st' hk a' w' lim' β' hs) (fun i st' hk => by cases hk)

/-- A FUNCTION THAT HANDS OUT A POINTER TO A NEW BOX -/
theorem open_ok (hT : TabOk P tab) (hG : GamOk P G) (hm : P.follows .mixedOrders = true) {f : FuncId} {fn : Func} {c : Code} (hf : P.funcs[f]? = some fn) (hname : (fn.name == "runtime.NumGoroutine") = false) (hb : fn.body = some c)
    (s : Sig) (hop : s.opens = true) (hmu : s.muts = false) (hus : s.usesRd = false) {ann : Ann} {fuel : Nat} (hfn : ∀ x rd r, s.fn x rd = some r → ∃ r', evalOpen tab G ann fuel fn s.aty s.rty x = some r' ∧ r'.1 = r.1) : FnOk P f s := by
  refine ⟨fun args w => ?_, fun h => (by rw [hop] at h; cases h), fun _ x rd r hr w lim vals hargs => ?_, fun h => (by rw [hmu] at h; cases h)⟩
  · have h1 : fn.name ≠ "runtime.NumGoroutine" := by simpa using hname
    simp [callFunc, hf, h1, hb]
  · obtain ⟨r', he, hr1⟩ := hfn x rd r hr
    unfold evalOpen at he
    rw [hb] at he
    simp only [] at he
    cases hdst : dstsOk fn.ntmps c with
    | false => rw [hdst] at he; cases he
    | true =>
    rw [hdst] at he
    simp only [cnd_true] at he
    refine calls_of_wp hf hb ?_
    have hsim := start_sim (s := { s with usesRd := false, rdty := .unit, fn := fun _ _ => none }) (lim := lim) (rb := none) (x := x) (rd := ()) fn.ntmps hargs ⟨fun h => (by cases h), fun _ => rfl⟩
    have hend : ∀ st', finOpen fn.results.toList s.rty st' = some r' → ∀ a' w' lim' β', Sim (base0 w) lim none (vals.toArray ++ Array.replicate (fn.ntmps - vals.toArray.size) undef).size st' a' w' lim' β' →
        a'.defers = [] ∧ ∃ v, (results fn a'.tmps).run P w' = .ok v w' ∧ OpenOk w lim s.rty r.1 (.returned v) w' := by
      intro st' hfin a' w' lim' β' hs
      refine ⟨hs.defers, ?_⟩
      unfold finOpen at hfin
      split at hfin
      · rename_i t hrs
        split at hfin
        · rename_i b hav
          split at hfin
          · rename_i d hbx
            cases hc : Ty.cast d.1 s.rty d.2 with
            | none => rw [hc] at hfin; cases hfin
            | some z =>
              rw [hc] at hfin
              injection hfin with hfin; subst hfin
              obtain ⟨cells, e, k1, k2, k3, k4⟩ := hs.box b d hbx
              have ht := hs.env t
              rw [hav] at ht
              obtain ⟨d', m1, m2⟩ := ht
              rw [hbx] at m1; injection m1 with m1; subst m1
              obtain ⟨e1, e2⟩ := cast_some hc
              obtain ⟨dt, dv⟩ := d
              simp only at e1 e2 k2 m2
              subst e1
              have hres : fn.results = #[.tmp t] := by apply Array.ext'; simpa using hrs
              refine ⟨.pointer (some ⟨β' b, 0, none⟩), ?_, β' b, lim', cells, e, rfl, base0_grown hs.grow, hs.limOld, k3, k1, by rw [← hr1]; rw [show z = dv from e2]; exact k2, k4⟩
              unfold results
              rw [hres]
              rw [offs_nil] at m2
              have m2 : a'.tmps.getD t undef = _ := m2
              rw [Array.getD_eq_getD_getElem?] at m2
              simp [m2]
          · cases hfin
        · cases hfin
      · cases hfin
    refine eval_sound (m := fn.ntmps) hT hG hm (fun k hk => by cases hk) (by simp; omega) c _ _ _ _ _ r' hdst he _ _ _ _ _ hsim (fun st' hk a' w' lim' β' hs => hend st' hk a' w' lim' β' hs) (fun st' hk a' w' lim' β' hs => hend st' hk a' w' lim' β' hs) (fun i st' hk => by cases hk)
end
end Go.Den
