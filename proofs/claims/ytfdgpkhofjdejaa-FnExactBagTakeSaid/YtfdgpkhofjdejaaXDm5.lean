/- Functions: what the reading gives, a call gives. -/
import Derived.Below
import Derived.ChangeOld
import Derived.OpenShut
import Derived.ProofKit
import Derived.SizedLaws
import Derived.Test.YtfdgpkhofjdejaaXDm4
set_option linter.unusedSimpArgs false
namespace Go.Den
section
variable {P : Program} {tab : Tab} {G : Gam} {w0 : Base} {lim0 : Lim} {rb : Option Nat} {n : Nat}
variable {st st' : St} {a : Act} {w : World} {lim : Lim} {β : Mp}

theorem putArgs_env {w : World} {lim : Lim} {rb : Option Nat} : ∀ {t : Ty} {x : t.val} {vals : List Value} {i : Nat}, ArgsRep w lim rb t x vals → ∀ j, ((putArgs t x i).env j).av = .any ∨
    ∃ k v, j = i + k ∧ vals[k]? = some v ∧ ((∃ b y, ((putArgs t x i).env j).av = .dat b y ∧ TRep w lim b y v) ∨ (((putArgs t x i).env j).av = .rdr [] ∧ ∃ g, rb = some g ∧ v = .pointer (some ⟨g, 0, none⟩))) := by
  intro t
  induction t with
  | prod p q ihp ihq =>
    intro x vals i h j
    cases vals with
    | nil => exact h.elim
    | cons v vals =>
      obtain ⟨h1, h2⟩ := h
      have he : (putArgs (.prod p q) x i).env j = cnd (Nat.beq j i) ⟨argAV p x.1, none⟩ ((putArgs q x.2 (Nat.succ i)).env j) := rfl
      rw [he]
      cases hq : Nat.beq j i with
      | true =>
        have := nbeq hq; subst this
        refine .inr ⟨0, v, rfl, rfl, ?_⟩
        rcases h1 with ⟨h1, h3⟩ | ⟨h1, h3⟩
        · have : argAV p x.1 = .dat p x.1 := by cases p <;> first | rfl | exact absurd rfl h1
          exact .inl ⟨p, x.1, this, h3⟩
        · subst h1; exact .inr ⟨rfl, h3⟩
      | false =>
        rcases ihq (i := Nat.succ i) h2 j with h3 | ⟨k, v', h3, h4, h5⟩
        · exact .inl h3
        · exact .inr ⟨k + 1, v', h3.trans (Nat.succ_add_eq_add_succ i k), by simpa using h4, h5⟩
  | unit => intro x vals i _ j; exact .inl rfl
  | int k => intro x vals i h; cases vals <;> exact h.elim
  | bool => intro x vals i h; cases vals <;> exact h.elim
  | str => intro x vals i h; cases vals <;> exact h.elim
  | slice t => intro x vals i h; cases vals <;> exact h.elim
theorem putArgs_rest : ∀ {t : Ty} {x : t.val} {i : Nat}, (∀ j, ((putArgs t x i).env j).tag = none) ∧ (∀ b, (putArgs t x i).box b = none) ∧ (∀ l, (putArgs t x i).own l = false) ∧ (putArgs t x i).rd = none := by
  intro t
  induction t with
  | prod p q ihp ihq =>
    intro x i
    obtain ⟨h1, h2, h3, h4⟩ := ihq (x := x.2) (i := Nat.succ i)
    refine ⟨fun j => ?_, h2, fun l => ?_, h4⟩
    · have he : (putArgs (.prod p q) x i).env j = cnd (Nat.beq j i) ⟨argAV p x.1, none⟩ ((putArgs q x.2 (Nat.succ i)).env j) := rfl
      rw [he]
      cases Nat.beq j i with
      | true => rfl
      | false => exact h1 j
    · cases l with
      | box b p => exact h3 _
      | tmp u r =>
        have he : (putArgs (.prod p q) x i).own (.tmp u r) = cnd (Nat.beq u i) (inPaths r []) ((putArgs q x.2 (Nat.succ i)).own (.tmp u r)) := rfl
        rw [he]
        cases Nat.beq u i with
        | true => rfl
        | false => exact h3 _
  | _ => intro x i; exact ⟨fun _ => rfl, fun _ => rfl, fun _ => rfl, rfl⟩

theorem putArgs_trees : ∀ {t : Ty} {x : t.val} {i : Nat}, (∀ r, (putArgs t x i).io r = none) ∧ ∀ b, (putArgs t x i).xb b = none := by
  intro t
  induction t with
  | prod p q ihp ihq =>
    intro x i
    obtain ⟨h1, h2⟩ := ihq (x := x.2) (i := Nat.succ i)
    exact ⟨h1, h2⟩
  | _ => intro x i; exact ⟨fun _ => rfl, fun _ => rfl⟩
theorem putArgs_rb : ∀ {t : Ty} {x : t.val} {i : Nat} (b : Tmp), (putArgs t x i).rb b = none := by
  intro t
  induction t with
  | prod p q ihp ihq => intro x i b; exact ihq (x := x.2) (i := Nat.succ i) b
  | _ => intro x i b; rfl
/-- the world in which an ordinary call began -/
def base0 (w : World) : Base := { w with X := fun _ => False, mu := false, V0 := undef }
theorem base0_grown {w w' : World} {rb : Option Nat} (h : (base0 w).grownBy w' rb) : w.grownBy w' rb :=
  ⟨h.os, h.tape, h.output, h.size, fun i hi hne => h.block i hi hne id⟩
theorem offs_nil (t : Ty) : offs t [] = 0 := by cases t <;> rfl
theorem whole_cells {w : World} {g : Nat} {cells : Array Value} {e : TypeId} (hg : w.heap[g]? = some (.cells cells e (0, 0))) : ∀ (j : Nat), w.cell? ⟨g, j, none⟩ = cells.toList[j]? := by
  intro j
  simp [World.cell?, hg]

/-- one result -/
theorem resVal_ok (hT : TabOk P tab) (h : Sim w0 lim0 rb n st a w lim β) {ty : Ty} {r : ResultVar} {x : ty.val} (hr : resVal tab st ty r = some x) :
    ∃ v, (match r with | .tmp t => pure (a.tmps.getD t undef) | .cell c t => do loadVar t (← asAddr (a.tmps.getD c undef)) : Sem Value).run P w = .ok v w ∧ TRep w lim ty x v ∧
      ∀ p l, resLoc st p r = some l → st.own l = true → typeAt ty p = locTy st l ∧ v.cells.toList[offs ty p]? = locV st a w β l := by
  cases r with
  | tmp t =>
    simp only [resVal] at hr
    refine ⟨_, Sem.run_pure _ _ _, as_rep hr (h.env t), fun p l hl ho => ?_⟩
    injection hl with hl; subst hl
    obtain ⟨e, v, k1, k2, _⟩ := h.own _ ho
    have hav : (st.env t).av = .dat ty x := by
      rcases as_dat hr with h1 | h1
      · exact h1
      · simp only [locTy, h1] at k1; cases k1
    have ht := h.env t
    rw [hav] at ht
    refine ⟨by simp only [locTy, hav], ?_⟩
    simp only [locV, hav]
    rw [flat_TRep ht]; rfl
  | cell c t =>
    simp only [resVal] at hr
    split at hr
    · rename_i b hav
      have hc := h.env c
      rw [hav] at hc
      obtain ⟨d, k1, k2⟩ := hc
      rw [k1] at hr
      simp only [] at hr
      cases hty : tyIs (tab t) d.1 with
      | false => rw [hty] at hr; cases hr
      | true =>
        rw [hty] at hr
        obtain ⟨e1, e2⟩ := cast_some hr
        obtain ⟨dt, dv⟩ := d
        simp only at e1 e2 k1 k2 hty
        subst e1; subst e2
        obtain ⟨cells, e, m1, m2, m3, m4⟩ := h.box b _ k1
        have hcell := whole_cells m1
        have hload := run_loadVar (P := P) (hT _ _ (tyIs_some hty)) m2 (b := β b) (o := 0) (w := w) (fun j u hu => by rw [Nat.zero_add, hcell]; exact hu)
        have hp : a.tmps.getD c undef = .pointer (some ⟨β b, 0, none⟩) := by
          have : offs dt [] = 0 := by cases dt <;> rfl
          rw [this] at k2; exact k2
        refine ⟨_, ?_, ⟨_, m2, rfl⟩, fun p l hl ho => ?_⟩
        · simp only [hp, asAddr, Sem.run_bind, Sem.run_pure, Result.andThen_ok]
          exact hload
        · simp only [resLoc, hav] at hl
          injection hl with hl; subst hl
          refine ⟨by simp only [locTy, k1], ?_⟩
          simp only [locV, k1, hcell]
          rw [wrapV_cells m2]
    · cases hr

theorem resVals_ok (hT : TabOk P tab) (h : Sim w0 lim0 rb n st a w lim β) :
    ∀ {ty : Ty} {rs : List ResultVar} {x : ty.val}, resVals tab st ty rs = some x → ∃ vs : List Value, (∀ (f : ResultVar → Sem Value) (_ : ∀ u, f (.tmp u) = pure (a.tmps.getD u undef)) (_ : ∀ c t, f (.cell c t) = (do loadVar t (← asAddr (a.tmps.getD c undef)))), (rs.mapM f).run P w = .ok vs w) ∧ TupRep w lim ty x vs ∧ vs.length = rs.length ∧
      ∀ i r p l, nthR rs i = some r → resLoc st p r = some l → st.own l = true → typeAt ty (i :: p) = locTy st l ∧ (vs.flatMap fun v => v.cells.toList)[offs ty (i :: p)]? = locV st a w β l := by
  intro ty
  induction ty with
  | prod p q ihp ihq =>
    intro rs x hr
    cases rs with
    | nil => cases hr
    | cons r rs =>
      simp only [resVals] at hr
      cases h1 : resVal tab st p r with
      | none => rw [h1] at hr; cases hr
      | some y =>
        cases h2 : resVals tab st q rs with
        | none => rw [h1, h2] at hr; cases hr
        | some z =>
          rw [h1, h2] at hr
          injection hr with hr; subst hr
          obtain ⟨v, k1, k2, k3⟩ := resVal_ok hT h h1
          obtain ⟨vs, m1, m2, m3, m4⟩ := ihq h2
          refine ⟨v :: vs, fun f hf hc => ?_, ⟨v, vs, rfl, k2, m2⟩, by simp [m3], fun i r' pp l hi hl ho => ?_⟩
          · have hfr : (f r).run P w = .ok v w := by
              cases r with
              | tmp u => rw [hf]; exact k1
              | cell c t => rw [hc]; exact k1
            simp [List.mapM_cons, hfr, m1 f hf hc]
          have hlen := k2.cells.length
          cases i with
          | zero =>
            injection hi with hi; subst hi
            obtain ⟨e1, e2⟩ := k3 pp l hl ho
            refine ⟨e1, ?_⟩
            obtain ⟨e, u, _, k5, _⟩ := h.own _ ho
            simp only [offs, List.flatMap_cons]
            rw [k5] at e2 ⊢
            rw [List.getElem?_append_left (List.getElem?_eq_some_iff.1 e2).1]; exact e2
          | succ i =>
            obtain ⟨e1, e2⟩ := m4 i r' pp l hi hl ho
            refine ⟨e1, ?_⟩
            simp only [offs, List.flatMap_cons]
            rw [List.getElem?_append_right (by omega), hlen, show p.size + offs q (i :: pp) - p.size = offs q (i :: pp) by omega]; exact e2
  | unit =>
    intro rs x hr
    cases rs with
    | nil => exact ⟨[], fun _ _ _ => by simp, rfl, rfl, fun i r p l hi => by cases hi⟩
    | cons r rs => cases hr
  | int k => intro rs x hr; cases rs <;> cases hr
  | bool => intro rs x hr; cases rs <;> cases hr
  | str => intro rs x hr; cases rs <;> cases hr
  | slice t => intro rs x hr; cases rs <;> cases hr

theorem resLocs_mem {rs : List ResultVar} : ∀ {ps : List (List Nat)} {ls : List Loc}, resLocs st rs ps = some ls → ∀ p ∈ ps, ∃ i q r l, p = i :: q ∧ nthR rs i = some r ∧ resLoc st q r = some l ∧ st.own l = true ∧ l ∈ ls
  | [], ls, h, p, hp => by cases hp
  | [] :: ps, ls, h, p, hp => by cases h
  | (i :: q) :: ps, ls, h, p, hp => by
    simp only [resLocs] at h
    cases h1 : nthR rs i with
    | none => rw [h1] at h; cases h
    | some r =>
      rw [h1] at h; simp only [] at h
      cases h2 : resLoc st q r with
      | none => rw [h2] at h; cases h
      | some l =>
        rw [h2] at h; simp only [] at h
        cases h3 : resLocs st rs ps with
        | none => rw [h3] at h; cases h
        | some ls' =>
          rw [h3] at h; simp only [] at h
          cases h4 : st.own l with
          | false => rw [h4] at h; cases h
          | true =>
            cases h5 : inLocs l ls' with
            | true => rw [h4, h5] at h; cases h
            | false =>
              rw [h4, h5] at h
              injection h with h; subst h
              rcases List.mem_cons.1 hp with rfl | hp
              · exact ⟨i, q, r, l, rfl, h1, h2, h4, by simp⟩
              · obtain ⟨i', q', r', l', k1, k2, k3, k4, k5⟩ := resLocs_mem h3 p hp
                exact ⟨i', q', r', l', k1, k2, k3, k4, by simp [k5]⟩
theorem resLocs_inj {rs : List ResultVar} : ∀ {ps : List (List Nat)} {ls : List Loc}, resLocs st rs ps = some ls → ∀ i q r l i' q' r', (i :: q) ∈ ps → (i' :: q') ∈ ps → nthR rs i = some r → nthR rs i' = some r' → resLoc st q r = some l → resLoc st q' r' = some l → i :: q = i' :: q'
  | [], ls, h, i, q, r, l, i', q', r', hp, _, _, _, _, _ => by cases hp
  | [] :: ps, ls, h, _, _, _, _, _, _, _, hp, _, _, _, _, _ => by cases h
  | (j :: s) :: ps, ls, h, i, q, r, l, i', q', r', hp, hp', hr, hr', hl, hl' => by
    simp only [resLocs] at h
    cases h1 : nthR rs j with
    | none => rw [h1] at h; cases h
    | some rj =>
      rw [h1] at h; simp only [] at h
      cases h2 : resLoc st s rj with
      | none => rw [h2] at h; cases h
      | some lj =>
        rw [h2] at h; simp only [] at h
        cases h3 : resLocs st rs ps with
        | none => rw [h3] at h; cases h
        | some ls' =>
          rw [h3] at h; simp only [] at h
          cases h4 : st.own lj with
          | false => rw [h4] at h; cases h
          | true =>
            cases h5 : inLocs lj ls' with
            | true => rw [h4, h5] at h; cases h
            | false =>
              have clash : ∀ {i q r}, (i :: q) ∈ ps → nthR rs i = some r → resLoc st q r = some lj → False := by
                intro i q r hm hi hq
                obtain ⟨i2, q2, r2, l2, k1, k2, k3, k4, k5⟩ := resLocs_mem h3 _ hm
                injection k1 with k1 k1'; subst k1; subst k1'
                rw [hi] at k2; injection k2 with k2; subst k2
                rw [hq] at k3; injection k3 with k3; subst k3
                rw [inLocs_iff.2 k5] at h5; cases h5
              rcases List.mem_cons.1 hp with hp | _
              · injection hp with e1 e2; subst e1; subst e2
                rw [h1] at hr; injection hr with hr; subst hr
                rw [h2] at hl; injection hl with hl; subst hl
                rcases List.mem_cons.1 hp' with hp' | hp'
                · injection hp' with e1 e2; subst e1; subst e2; rfl
                · exact (clash hp' hr' hl').elim
              · rename_i hpm
                rcases List.mem_cons.1 hp' with hp' | hp'
                · injection hp' with e1 e2; subst e1; subst e2
                  rw [h1] at hr'; injection hr' with hr'; subst hr'
                  rw [h2] at hl'; injection hl' with hl'; subst hl'
                  exact (clash hpm hr hl).elim
                · exact resLocs_inj h3 i q r l i' q' r' hpm hp' hr hr' hl hl'

theorem one_rep {t : Ty} {y : t.val} {v : Value} (m2 : TupRep w lim t y [v]) : ERep st00 w lim mp0 none (resAV t true y) v := by
  cases t with
  | prod p q' =>
    obtain ⟨v', vs', hv, t1, t2⟩ := m2
    injection hv with hv hvs; subst hv; subst hvs
    cases q' with
    | unit => exact t1
    | prod _ _ => obtain ⟨v', vs', hv, _⟩ := t2; cases hv
    | _ => exact t2.elim
  | unit => cases m2
  | _ => exact m2.elim
theorem one_part {t : Ty} {y : t.val} {v : Value} (m2 : TupRep w lim t y [v]) {q : List Nat} {lt : Option Ty} {lv : Option Value} (e1 : typeAt t (0 :: q) = lt) (e2 : ([v].flatMap fun v => v.cells.toList)[offs t (0 :: q)]? = lv) :
    typeAV q (resAV t true y) = lt ∧ partAV v q (resAV t true y) = lv := by
  cases t with
  | prod p q' =>
    obtain ⟨v', vs', hv, t1, t2⟩ := m2
    injection hv with hv hvs; subst hv; subst hvs
    cases q' with
    | unit =>
      simp only [resAV, typeAV, partAV]
      refine ⟨e1, ?_⟩
      rw [flat_TRep t1]
      simpa [offs] using e2
    | prod _ _ => obtain ⟨v', vs', hv, _⟩ := t2; cases hv
    | _ => exact t2.elim
  | unit => cases m2
  | _ => exact m2.elim

theorem rb_lt {s : Sig} {w : World} {lim : Lim} {rb : Option Nat} {rd : s.rdty.val} (hrd : RdIn w lim rb s rd) : ∀ k, some k = rb → k < w.heap.size := by
  intro k hk
  cases hu : s.usesRd with
  | true =>
    obtain ⟨b, cells, e, h1, h2, _⟩ := hrd.1 hu
    rw [h1] at hk; injection hk with hk; subst hk
    exact (Array.getElem?_eq_some_iff.1 h2).1
  | false => rw [hrd.2 hu] at hk; cases hk

/-- the state at a call's start -/
theorem start_sim {s : Sig} {w : World} {lim : Lim} {rb : Option Nat} {x : s.aty.val} {rd : s.rdty.val} {vals : List Value} (m : Nat) (hargs : ArgsRep w lim rb s.aty x vals) (hrd : RdIn w lim rb s rd) :
    Sim (base0 w) lim rb (vals.toArray ++ Array.replicate (m - vals.toArray.size) undef).size (startOf s.aty s.rdty s.usesRd x rd) { tmps := vals.toArray ++ Array.replicate (m - vals.toArray.size) undef, defers := [] } w lim mp0 := by
  obtain ⟨q1, q2, q3, q4⟩ := putArgs_rest (t := s.aty) (x := x) (i := 0)
  have henv := putArgs_env (i := 0) hargs
  unfold startOf
  have e1 : ∀ t, (cnd s.usesRd { putArgs s.aty x 0 with rd := some ⟨s.rdty, rd⟩ } (putArgs s.aty x 0)).env t = (putArgs s.aty x 0).env t := fun t => by cases s.usesRd <;> rfl
  have e2 : ∀ t, (cnd s.usesRd { putArgs s.aty x 0 with rd := some ⟨s.rdty, rd⟩ } (putArgs s.aty x 0)).box t = (putArgs s.aty x 0).box t := fun t => by cases s.usesRd <;> rfl
  have e3 : ∀ t, (cnd s.usesRd { putArgs s.aty x 0 with rd := some ⟨s.rdty, rd⟩ } (putArgs s.aty x 0)).own t = (putArgs s.aty x 0).own t := fun t => by cases s.usesRd <;> rfl
  have hrdk : RdK (base0 w) rb (cnd s.usesRd { putArgs s.aty x 0 with rd := some ⟨s.rdty, rd⟩ } (putArgs s.aty x 0)).rd w := by
    intro d b hd hb p e hp
    refine ⟨rfl, fun ad m' c hv hm => ?_⟩
    cases hu : s.usesRd with
    | false => rw [hu] at hd; simp only [cnd_false, q4] at hd; cases hd
    | true =>
      rw [hu] at hd
      injection hd with hd; subst hd
      obtain ⟨b', cells, e', k1, k2, k3, k4⟩ := hrd.1 hu
      rw [hb] at k1; injection k1 with k1; subst k1
      obtain ⟨e2, _, xs, v, m1, a', c', m2, m3, m4⟩ := CRep.vis k3 hp rfl
      have hv : w.cell? ⟨b, offs s.rdty p, none⟩ = some (.slice (some ad) m' c) := hv
      rw [whole_cells k2, m1] at hv
      injection hv with hv
      injection m2 with m2 _
      rw [m2] at hv
      injection hv with h1 h2 h3
      rcases m4 with m4 | ⟨bb, oo, m5, m6, _⟩
      · rw [m4] at h2; simp at h2; omega
      · rw [m5] at h1; injection h1 with h1; subst h1; exact m6
  refine ⟨rfl, rfl, ⟨rfl, rfl, rfl, Nat.le_refl _, fun _ _ _ _ => rfl⟩, fun _ _ _ => rfl, fun _ hg => hg.elim, hrdk, fun t => ?_, fun b d hbx => ?_, fun b c d d' hbx => ?_, fun l hl => ?_, fun l g hl => ?_, fun l l' g hl => ?_, fun t l hl => ?_, fun d hd => ?_, ?_⟩
  · rw [e1]
    rcases henv t with h1 | ⟨k, v, h1, h2, h3⟩
    · rw [h1]; trivial
    · have hv : tmpOf { tmps := vals.toArray ++ Array.replicate (m - vals.toArray.size) undef, defers := [] } t = v := by
        have hk := (List.getElem?_eq_some_iff.1 h2).1
        have : t = k := h1.trans (Nat.zero_add k)
        subst this
        simp only [tmpOf]
        rw [Array.getD_eq_getD_getElem?, Array.getElem?_append_left (by simpa using hk)]
        simp [h2]
      rw [hv]
      rcases h3 with ⟨b, y, h3, h4⟩ | ⟨h3, g, h4, h5⟩
      · rw [h3]; exact h4
      · rw [h3]
        cases hu : s.usesRd with
        | false => rw [hrd.2 hu] at h4; cases h4
        | true => exact ⟨⟨s.rdty, rd⟩, g, rfl, h4, by rw [h5, offs_nil]⟩
  · rw [e2, q2] at hbx; cases hbx
  · rw [e2, q2] at hbx; cases hbx
  · rw [e3, q3] at hl; cases hl
  · rw [e3, q3] at hl; cases hl
  · rw [e3, q3] at hl; cases hl
  · rw [e1, q1] at hl; cases hl
  · cases hu : s.usesRd with
    | false => rw [hu] at hd; simp only [cnd_false, q4] at hd; cases hd
    | true =>
      rw [hu] at hd
      injection hd with hd; subst hd
      obtain ⟨b, cells, e, h1, h2, h3, h4⟩ := hrd.1 hu
      exact ⟨b, cells, e, h1, (Array.getElem?_eq_some_iff.1 h2).1, h2, h3, h4⟩
  · obtain ⟨t1, t2⟩ := putArgs_trees (t := s.aty) (x := x) (i := 0)
    exact no_trees (fun r => by cases s.usesRd <;> exact t1 r) (fun b => by cases s.usesRd <;> exact t2 b) (fun b => by cases s.usesRd <;> exact putArgs_rb b)

/-- what a function's body comes to, from any base -/
def RetOkB (b0 : Base) (lim : Lim) (rb : Option Nat) (s : Sig) (r : s.rty.val × s.rdty.val) (e : Ending) (w' : World) : Prop :=
  ∃ v lim', e = .returned v ∧ b0.grownBy w' rb ∧ (∀ b, b < b0.heap.size → ¬ b0.X b → lim' b = lim b) ∧ ERep st00 w' lim' mp0 none (resAV s.rty s.one r.1) v ∧
    (∀ p ∈ resOwn s.one s.own, ∃ T x, typeAV p (resAV s.rty s.one r.1) = some T ∧ partAV v p (resAV s.rty s.one r.1) = some x ∧ OwnT w' lim' b0.fr T x) ∧
    (∀ p ∈ resOwn s.one s.own, ∀ q ∈ resOwn s.one s.own, ∀ T T' x y g, typeAV p (resAV s.rty s.one r.1) = some T → typeAV q (resAV s.rty s.one r.1) = some T' → partAV v p (resAV s.rty s.one r.1) = some x → partAV v q (resAV s.rty s.one r.1) = some y → Blk w' T x g → Blk w' T' y g → p = q) ∧
    (s.usesRd = true → ∃ b cells e, rb = some b ∧ w'.heap[b]? = some (.cells cells e (0, 0)) ∧ CRep w' lim' s.rdty r.2 cells.toList ∧ ∀ p e', typeAt s.rdty p = some (.slice e') → w'.cell? ⟨b, offs s.rdty p, none⟩ = b0.cell? ⟨b, offs s.rdty p, none⟩)
theorem RetOkB.ret {w w' : World} {lim : Lim} {rb : Option Nat} {s : Sig} {r : s.rty.val × s.rdty.val} {e : Ending} (h : RetOkB (base0 w) lim rb s r e w') : RetOk w lim rb s r e w' := by
  obtain ⟨v, lim', h1, h2, h3, h4, h5, h6, h7⟩ := h
  refine ⟨v, lim', h1, base0_grown h2, fun b hb => h3 b hb id, h4, fun p hp => ?_, h6, h7⟩
  obtain ⟨T, x, k1, k2, k3⟩ := h5 p hp
  exact ⟨T, x, k1, k2, k3.below fun g hg => hg.resolve_right id⟩
/-- a function's body, read from its start to its end -/
theorem fn_coreB (hT : TabOk P tab) (hG : GamOk P G) (hm : P.follows .mixedOrders = true) {f : FuncId} {fn : Func} {c : Code} (hf : P.funcs[f]? = some fn) (hb : fn.body = some c)
    (s : Sig) (hone : Nat.beq fn.results.toList.length 1 = s.one) {ann : Ann} {fuel : Nat} (hdst : dstsOk fn.ntmps c = true) {st0 : St} {r : s.rty.val × s.rdty.val}
    (he : evalK tab G ann fuel c (s.rty.val × s.rdty.val) st0 (finOf tab fn.results.toList s.rdty s.usesRd s.rty s.own) (finOf tab fn.results.toList s.rdty s.usesRd s.rty s.own) (fun _ _ => none) = some r)
    {b0 : Base} {w : World} {lim : Lim} {rb : Option Nat} {β0 : Mp} {vals : List Value} (hrb : ∀ k, some k = rb → k < b0.heap.size)
    (hsim : Sim b0 lim rb (vals.toArray ++ Array.replicate (fn.ntmps - vals.toArray.size) undef).size st0 { tmps := vals.toArray ++ Array.replicate (fn.ntmps - vals.toArray.size) undef, defers := [] } w lim β0) :
    Calls P f vals.toArray w (RetOkB b0 lim rb s r) := by
  refine calls_of_wp hf hb ?_
  -- what stands at the end
  have hend : ∀ st', finOf tab fn.results.toList s.rdty s.usesRd s.rty s.own st' = some r → ∀ a' w' lim' β', Sim b0 lim rb (vals.toArray ++ Array.replicate (fn.ntmps - vals.toArray.size) undef).size st' a' w' lim' β' →
      a'.defers = [] ∧ ∃ v, (results fn a'.tmps).run P w' = .ok v w' ∧ RetOkB b0 lim rb s r (.returned v) w' := by
    intro st0' hfin a' w' lim0' β' hs0
    have hs := hs0.frz fn.results.toList hrb
    unfold finOf at hfin
    simp only [] at hfin
    revert hfin hs
    generalize frz fn.results.toList st0' = st'
    generalize limF st0' β' w' lim0' = lim'
    intro hfin hs
    refine ⟨hs.defers, ?_⟩
    cases h1 : resVals tab st' s.rty fn.results.toList with
    | none => rw [h1] at hfin; cases hfin
    | some y =>
      cases h2 : resLocs st' fn.results.toList s.own with
      | none => rw [h1, h2] at hfin; cases hfin
      | some ls =>
        rw [h1, h2] at hfin
        simp only [] at hfin
        have hr1 : r.1 = y ∧ (s.usesRd = true → ∃ d, st'.rd = some d ∧ Ty.cast d.1 s.rdty d.2 = some r.2) := by
          cases hu : s.usesRd with
          | false => rw [hu] at hfin; injection hfin with hfin; subst hfin; exact ⟨rfl, fun h => by cases h⟩
          | true =>
            rw [hu] at hfin
            simp only [cnd_true] at hfin
            cases h3 : st'.rd with
            | none => rw [h3] at hfin; cases hfin
            | some d =>
              rw [h3] at hfin; simp only [] at hfin
              cases h4 : Ty.cast d.1 s.rdty d.2 with
              | none => rw [h4] at hfin; cases hfin
              | some z =>
                rw [h4] at hfin; injection hfin with hfin; subst hfin
                exact ⟨rfl, fun _ => ⟨d, rfl, h4⟩⟩
        obtain ⟨hry, hrrd⟩ := hr1
        obtain ⟨vs, m1, m2, m3, m4⟩ := resVals_ok hT hs h1
        have hrun : (results fn a'.tmps).run P w' = .ok (if h : vs.toArray.size = 1 then vs.toArray[0] else .tuple vs.toArray) w' := by
          unfold results
          rw [show fn.results = fn.results.toList.toArray by simp, List.mapM_toArray]
          simp only [Sem.run_bind, Sem.run_map]
          rw [m1]
          · simp
          · intro u; rfl
          · intro c t; rfl
        refine ⟨_, hrun, _, lim', rfl, hs.grow, hs.limOld, ?_⟩
        -- the value
        have shape : (s.one = false ∧ (if h : vs.toArray.size = 1 then vs.toArray[0] else .tuple vs.toArray) = .tuple vs.toArray) ∨
            (s.one = true ∧ ∃ v, vs = [v] ∧ (if h : vs.toArray.size = 1 then vs.toArray[0] else .tuple vs.toArray) = v) := by
          cases ho : s.one with
          | true =>
            rw [ho] at hone
            have hl := nbeq hone
            obtain ⟨v, rfl⟩ := List.length_eq_one_iff.1 (m3.trans hl)
            exact .inr ⟨rfl, v, rfl, by simp⟩
          | false =>
            rw [ho] at hone
            have hl : fn.results.toList.length ≠ 1 := fun e => by rw [e] at hone; cases hone
            refine .inl ⟨rfl, ?_⟩
            rw [dif_neg]
            simp only [List.size_toArray]
            rw [m3]; exact hl
        -- a slice that is handed out
        have part : ∀ i q r' l, nthR fn.results.toList i = some r' → resLoc st' q r' = some l → st'.own l = true →
            ∃ p', (s.one = true → p' = q) ∧ (s.one = false → p' = i :: q) ∧ typeAV p' (resAV s.rty s.one r.1) = locTy st' l ∧
              partAV (if h : vs.toArray.size = 1 then vs.toArray[0] else .tuple vs.toArray) p' (resAV s.rty s.one r.1) = locV st' a' w' β' l := by
          intro i q r' l hi hl ho
          obtain ⟨e1, e2⟩ := m4 i r' q l hi hl ho
          rcases shape with ⟨s1, s2⟩ | ⟨s1, v, s2, s3⟩
          · refine ⟨i :: q, fun h => (by rw [s1] at h; cases h), fun _ => rfl, ?_, ?_⟩
            · rw [s1]
              have : resAV s.rty false r.1 = .tup s.rty r.1 := by unfold resAV; split <;> simp_all
              rw [this]; exact e1
            · rw [s2, s1]
              have : resAV s.rty false r.1 = .tup s.rty r.1 := by unfold resAV; split <;> simp_all
              rw [this]
              simpa [partAV, flatV] using e2
          · refine ⟨q, fun _ => rfl, fun h => (by rw [s1] at h; cases h), ?_⟩
            subst s2
            rw [s3, s1, hry]
            have hi0 : i = 0 := by
              cases hrs : fn.results.toList with
              | nil => rw [hrs] at hi; cases hi
              | cons r0 rs =>
                rw [hrs] at hi m3
                have : rs = [] := by simpa using m3
                subst this
                cases i with
                | zero => rfl
                | succ i => cases hi
            subst hi0
            exact one_part m2 e1 e2
        refine ⟨?_, fun p hp => ?_, fun p hp q hq T1 T2 x' y' g ht1 ht2 hx' hy' hbx hby => ?_, fun hu => ?_⟩
        · rcases shape with ⟨s1, s2⟩ | ⟨s1, v, s2, s3⟩
          · rw [s2, s1, hry]
            have : resAV s.rty false y = .tup s.rty y := by unfold resAV; split <;> simp_all
            rw [this]; exact ⟨vs, rfl, m2⟩
          · rw [s3, s1, hry]
            subst s2
            exact one_rep m2
        · have src : ∃ i q, (i :: q) ∈ s.own ∧ (s.one = true → p = q) ∧ (s.one = false → p = i :: q) := by
            cases ho : s.one with
            | true =>
              rw [ho] at hp
              obtain ⟨p0, hp0, rfl⟩ := List.mem_map.1 hp
              obtain ⟨i, q, r', l, k1, _⟩ := resLocs_mem h2 p0 hp0
              subst k1
              exact ⟨i, q, hp0, fun _ => rfl, fun h => by cases h⟩
            | false =>
              rw [ho] at hp
              obtain ⟨i, q, r', l, k1, _⟩ := resLocs_mem h2 p hp
              subst k1
              exact ⟨i, q, hp, fun h => (by cases h), fun _ => rfl⟩
          obtain ⟨i, q, hm', t1, t2⟩ := src
          obtain ⟨i', q', r', l, k1, k2, k3, k4, _⟩ := resLocs_mem h2 _ hm'
          injection k1 with k1 k1'; subst k1; subst k1'
          obtain ⟨p', u1, u2, u3, u4⟩ := part _ _ r' l k2 k3 k4
          have : p = p' := by
            cases ho : s.one with
            | true => rw [t1 ho, u1 ho]
            | false => rw [t2 ho, u2 ho]
          subst this
          obtain ⟨e, v, z1, z2, z3⟩ := hs.own l k4
          exact ⟨e, v, u3.trans z1, u4.trans z2, z3⟩
        · have src : ∀ p, p ∈ resOwn s.one s.own → ∃ i q r' l, (i :: q) ∈ s.own ∧ nthR fn.results.toList i = some r' ∧ resLoc st' q r' = some l ∧ st'.own l = true ∧ (s.one = true → p = q) ∧ (s.one = false → p = i :: q) ∧ typeAV p (resAV s.rty s.one r.1) = locTy st' l ∧
              partAV (if h : vs.toArray.size = 1 then vs.toArray[0] else .tuple vs.toArray) p (resAV s.rty s.one r.1) = locV st' a' w' β' l := by
            intro p hp
            have src : ∃ i q, (i :: q) ∈ s.own ∧ (s.one = true → p = q) ∧ (s.one = false → p = i :: q) := by
              cases ho : s.one with
              | true =>
                rw [ho] at hp
                obtain ⟨p0, hp0, rfl⟩ := List.mem_map.1 hp
                obtain ⟨i, q, r', l, k1, _⟩ := resLocs_mem h2 p0 hp0
                subst k1
                exact ⟨i, q, hp0, fun _ => rfl, fun h => by cases h⟩
              | false =>
                rw [ho] at hp
                obtain ⟨i, q, r', l, k1, _⟩ := resLocs_mem h2 p hp
                subst k1
                exact ⟨i, q, hp, fun h => (by cases h), fun _ => rfl⟩
            obtain ⟨i, q, hm', t1, t2⟩ := src
            obtain ⟨i', q', r', l, k1, k2, k3, k4, _⟩ := resLocs_mem h2 _ hm'
            injection k1 with k1 k1'; subst k1; subst k1'
            obtain ⟨p', u1, u2, u3, u4⟩ := part _ _ r' l k2 k3 k4
            have : p = p' := by
              cases ho : s.one with
              | true => rw [t1 ho, u1 ho]
              | false => rw [t2 ho, u2 ho]
            subst this
            exact ⟨_, _, r', l, hm', k2, k3, k4, t1, t2, u3, u4⟩
          obtain ⟨i1, q1, r1, l1, a1, a2, a3, a4, a5, a6, a8, a7⟩ := src p hp
          obtain ⟨i2, q2, r2, l2, b1, b2, b3, b4, b5, b6, b8, b7⟩ := src q hq
          rw [a7] at hx'
          rw [b7] at hy'
          rw [a8] at ht1
          rw [b8] at ht2
          have hll := hs.sep l1 l2 g a4 b4 ⟨_, _, ht1, hx', hbx⟩ ⟨_, _, ht2, hy', hby⟩
          subst hll
          have := resLocs_inj h2 i1 q1 r1 l1 i2 q2 r2 a1 b1 a2 b2 a3 b3
          injection this with g1 g2
          cases ho : s.one with
          | true => rw [a5 ho, b5 ho, g2]
          | false => rw [a6 ho, b6 ho, g1, g2]
        · obtain ⟨d, d1, d2⟩ := hrrd hu
          obtain ⟨b, cells, e, z1, z2, z3, z4, _⟩ := hs.rd d d1
          obtain ⟨e1, e2⟩ := cast_some d2
          obtain ⟨dt, dv⟩ := d
          simp only at e1 e2 z4
          subst e1
          exact ⟨b, cells, e, z1, z3, by rw [e2]; exact z4, fun p e' hp => (hs.rdk _ b d1 z1 p e' hp).1⟩
  refine eval_sound (m := fn.ntmps) hT hG hm hrb (by simp; omega) c _ _ _ _ _ r hdst he _ _ _ _ _ hsim (fun st' hk a' w' lim' β' hs => hend st' hk a' w' lim' β' hs) (fun st' hk a' w' lim' β' hs => hend st' hk a' w' lim' β' hs) (fun i st' hk => by cases hk)

theorem fn_core (hT : TabOk P tab) (hG : GamOk P G) (hm : P.follows .mixedOrders = true) {f : FuncId} {fn : Func} {c : Code} (hf : P.funcs[f]? = some fn) (hb : fn.body = some c)
    (s : Sig) (hone : Nat.beq fn.results.toList.length 1 = s.one) {ann : Ann} {fuel : Nat} (hdst : dstsOk fn.ntmps c = true) {st0 : St} {r : s.rty.val × s.rdty.val}
    (he : evalK tab G ann fuel c (s.rty.val × s.rdty.val) st0 (finOf tab fn.results.toList s.rdty s.usesRd s.rty s.own) (finOf tab fn.results.toList s.rdty s.usesRd s.rty s.own) (fun _ _ => none) = some r)
    {w : World} {lim : Lim} {rb : Option Nat} {vals : List Value} (hrb : ∀ k, some k = rb → k < w.heap.size)
    (hsim : Sim (base0 w) lim rb (vals.toArray ++ Array.replicate (fn.ntmps - vals.toArray.size) undef).size st0 { tmps := vals.toArray ++ Array.replicate (fn.ntmps - vals.toArray.size) undef, defers := [] } w lim mp0) :
    Calls P f vals.toArray w (RetOk w lim rb s r) :=
  Calls.mono (fn_coreB hT hG hm hf hb s hone hdst he hrb hsim) fun _ _ h => h.ret

/-- A FUNCTION: what the reading gives, a call gives. -/
theorem fn_ok (hT : TabOk P tab) (hG : GamOk P G) (hm : P.follows .mixedOrders = true) {f : FuncId} {fn : Func} {c : Code} (hf : P.funcs[f]? = some fn) (hname : (fn.name == "runtime.NumGoroutine") = false) (hb : fn.body = some c)
    (s : Sig) (hop : s.opens = false) (hmu : s.muts = false) (hone : Nat.beq fn.results.toList.length 1 = s.one) {ann : Ann} {fuel : Nat} (hfn : ∀ x rd r, s.fn x rd = some r → evalFn tab G ann fuel fn s.aty s.rdty s.usesRd s.rty s.own x rd = some r) (hfv : s.fv = none := by rfl) : FnOk P f s := by
  refine ⟨fun args w => ?_, fun _ _ _ x rd r hr w lim rb vals hargs hrd => ?_, fun g hg => (by rw [hfv] at hg; cases hg), fun _ h => (by rw [hop] at h; cases h), fun _ _ h => (by rw [hmu] at h; cases h), fun _ h => (by rw [hmu] at h; cases h)⟩
  · have h1 : fn.name ≠ "runtime.NumGoroutine" := by simpa using hname
    simp [callFunc, hf, h1, hb]
  · have he := hfn x rd r hr
    unfold evalFn at he
    rw [hb] at he
    simp only [] at he
    cases hdst : dstsOk fn.ntmps c with
    | false => rw [hdst] at he; cases he
    | true =>
    rw [hdst] at he
    simp only [cnd_true] at he
    exact fn_core hT hG hm hf hb s hone hdst he (rb_lt hrd) (start_sim fn.ntmps hargs hrd)
end
end Go.Den

namespace Go.Den
section
variable {P : Program} {tab : Tab} {G : Gam}

/-- the slices in the elements of the given tree -/
def startK (w : World) (rdty : Ty) (cs : List Value) : Nat → List Nat → Value := match rdty, (cs[0]? : Option Value) with
  | Ty.slice e, some (Value.slice (some a) _ _) => fun n q => (w.cell? ⟨a.block, n * e.size + offs e q, none⟩).getD undef
  | _, _ => fun _ _ => undef
theorem startK_ok {w : World} {e : Ty} {rd : (Ty.slice e).val} {cs : List Value} {B : Nat → Prop} (hX : XRep w (.slice e) rd cs B) {q : List Nat} {e' : Ty} {g m c n : Nat} (hq : typeAt e q = some (.slice e'))
    (hV : cs[0]? = some (.slice (some ⟨g, 0, none⟩) m c)) (hn : n < m) : w.cell? ⟨g, n * e.size + offs e q, none⟩ = some (startK w (.slice e) cs n q) := by
  have hk : startK w (.slice e) cs n q = (w.cell? ⟨g, n * e.size + offs e q, none⟩).getD undef := by simp only [startK, hV]
  rw [hk]
  rcases hX with ⟨h1, _⟩ | ⟨g', c', arr, el, fr, Bs, h1, h2, h3, h4, hf, h5, h6, h7, h8⟩
  · rw [h1] at hV; cases hV
  · rw [h1] at hV
    injection hV with hV
    injection hV with k1 k2 k3
    injection k1 with k1
    injection k1 with k1
    subst k1
    obtain ⟨ds, m1, m2⟩ := h8 n ((show List e.val from rd)[n]'(by rw [k2]; exact hn)) (List.getElem?_eq_getElem _)
    have hl := typeAt_lt hq
    have hs : (Ty.slice e').size = 1 := rfl
    have hdl := m1.length
    have := m2 (offs e q) _ (List.getElem?_eq_getElem (by omega))
    have hc : w.cell? ⟨g', n * e.size + offs e q, none⟩ = arr[n * e.size + offs e q]? := by simp [World.cell?, h4]
    rw [hc, this]; rfl
theorem start_mut {b rdty : Ty} {w : World} {lim : Lim} {x : b.val} {rd : rdty.val} {vs : List Value} {cs : List Value} {B : Nat → Prop} (m : Nat) (hX : XRep w rdty rd cs B) (hB : ∀ g, B g → lim g = some 0) (hargs : ArgsRep w lim none b x vs) :
    Sim { w with X := B, mu := true, V0 := wrapV rdty cs } lim none ((wrapV rdty cs :: vs).toArray ++ Array.replicate (m - (wrapV rdty cs :: vs).toArray.size) undef).size (startMut b rdty x rd)
      { tmps := (wrapV rdty cs :: vs).toArray ++ Array.replicate (m - (wrapV rdty cs :: vs).toArray.size) undef, defers := [] } w lim ⟨fun _ => 0, fun _ => 0, fun _ => wrapV rdty cs, fun _ => B, startK w rdty cs⟩ := by
  obtain ⟨q1, q2, q3, q4⟩ := putArgs_rest (t := b) (x := x) (i := 1)
  obtain ⟨t1, t2⟩ := putArgs_trees (t := b) (x := x) (i := 1)
  have henv := putArgs_env (i := 1) hargs
  have hcr : CRep w (fun _ => none) rdty rd cs := hX.crep (fun _ _ => rfl)
  have hfl : flatV (wrapV rdty cs) = cs := flat_wrap hcr
  have he : ∀ t, (startMut b rdty x rd).env t = cnd (Nat.beq t 0) ⟨.xf 0 [], none⟩ ((putArgs b x 1).env t) := fun _ => rfl
  have hio : ∀ r d, (startMut b rdty x rd).io r = some d → r = 0 ∧ d = ⟨rdty, rd⟩ := by
    intro r d hr
    have hr : cnd (Nat.beq r 0) (some (⟨rdty, rd⟩ : Dat)) none = some d := hr
    cases hq : Nat.beq r 0 with
    | true => rw [hq] at hr; injection hr with hr; exact ⟨nbeq hq, hr.symm⟩
    | false => rw [hq] at hr; cases hr
  have hxb : ∀ k, (startMut b rdty x rd).xb k = none := fun k => t2 k
  have hbx : ∀ k, (startMut b rdty x rd).box k = none := fun k => q2 k
  have hown : ∀ l, (startMut b rdty x rd).own l = false := by
    intro l
    cases l with
    | box c p => exact q3 _
    | tmp u p =>
      have : (startMut b rdty x rd).own (.tmp u p) = cnd (Nat.beq u 0) (inPaths p []) ((putArgs b x 1).own (.tmp u p)) := rfl
      rw [this]
      cases Nat.beq u 0 with
      | true => rfl
      | false => exact q3 _
  refine ⟨rfl, rfl, ⟨rfl, rfl, rfl, Nat.le_refl _, fun _ _ _ _ => rfl⟩, fun _ _ _ => rfl, fun _ _ h => (by cases h), (fun _ _ _ h => (by cases h)), fun t => ?_, fun k d hk => (by rw [hbx] at hk; cases hk), fun k c d d' hk => (by rw [hbx] at hk; cases hk), fun l hl => (by rw [hown] at hl; cases hl),
    fun l g hl => (by rw [hown] at hl; cases hl), fun l l' g hl => (by rw [hown] at hl; cases hl), fun t l hl => ?_, fun d hd => ?_, ?_⟩
  · rw [he]
    cases hq : Nat.beq t 0 with
    | true =>
      have := nbeq hq; subst this
      refine ⟨⟨rdty, rd⟩, rfl, .inr ⟨rdty, by cases rdty <;> rfl, ?_⟩⟩
      simp only [offs_nil, List.drop_zero, hfl]
      rw [← hX.length, List.take_length]
      simp only [tmpOf]
      rw [Array.getD_eq_getD_getElem?, Array.getElem?_append_left (by simp)]
      simp
    | false =>
      simp only [cnd_false]
      rcases henv t with h1 | ⟨k, v, h1, h2, h3⟩
      · rw [h1]; trivial
      · rcases h3 with ⟨c, y, h3, h4⟩ | ⟨_, g, h4, _⟩
        · have hv : tmpOf { tmps := (wrapV rdty cs :: vs).toArray ++ Array.replicate (m - (wrapV rdty cs :: vs).toArray.size) undef, defers := [] } t = v := by
            have hk := (List.getElem?_eq_some_iff.1 h2).1
            subst h1
            simp only [tmpOf]
            rw [Array.getD_eq_getD_getElem?, Array.getElem?_append_left (by simp; omega)]
            simp [Nat.add_comm 1 k, h2]
          rw [hv, h3]; exact h4
        · cases h4
  · rw [he] at hl
    cases hq : Nat.beq t 0 with
    | true => rw [hq] at hl; cases hl
    | false => rw [hq] at hl; simp only [cnd_false, q1] at hl; cases hl
  · have hd : (putArgs b x 1).rd = some d := hd
    rw [q4] at hd; cases hd
  · refine ⟨fun r d hr => ?_, fun r d g hr hg => ?_, fun r d g hr hg c d' hc => (by rw [hbx] at hc; cases hc), fun r d g hr hg l hl => (by rw [hown] at hl; cases hl), fun r d r' d' g hr hr' hg hg' => ?_, fun k t o hk => (by rw [hxb] at hk; cases hk), fun k t o hk => (by rw [hxb] at hk; cases hk),
      fun k c t o t' o' hk => (by rw [hxb] at hk; cases hk), fun d hd _ => ⟨rfl, rfl⟩, fun d hd e q e' g m c k he1 hq hV hk => ?_, fun bb d ps hb => ?_⟩
    · obtain ⟨e1, e2⟩ := hio r d hr
      subst e2
      simp only [hfl]; exact hX
    · exact ⟨.inr hg, by simp, hB g hg⟩
    · rw [(hio r d hr).1, (hio r' d' hr').1]
    · have hdd := (hio 0 d hd).2
      subst hdd
      simp only at he1
      subst he1
      simp only [hfl] at hV
      exact startK_ok hX hq hV hk
    · have hb : (putArgs b x 1).rb bb = some (d, ps) := hb
      rw [putArgs_rb] at hb; cases hb

/-- A FUNCTION THAT WRITES: what the reading gives, a call does. -/
theorem mut_ok (hT : TabOk P tab) (hG : GamOk P G) (hm : P.follows .mixedOrders = true) {f : FuncId} {fn : Func} {c : Code} (hf : P.funcs[f]? = some fn) (hname : (fn.name == "runtime.NumGoroutine") = false) (hb : fn.body = some c)
    (b rdty rty : Ty) (one : Bool) (g : (Ty.prod .unit b).val → rdty.val → Option (rty.val × rdty.val)) (hone : Nat.beq fn.results.toList.length 1 = one) {ann : Ann} {fuel : Nat}
    (hfn : ∀ x rd r, g ((), x) rd = some r → evalMut tab G ann fuel fn b rdty rty x rd = some r) :
    FnOk P f { aty := .prod .unit b, rdty := rdty, usesRd := true, rty := rty, one := one, own := [], opens := false, muts := true, fn := g } := by
  refine ⟨fun args w => ?_, fun _ _ h => (by cases h), fun g hg => (by cases hg), fun _ h => (by cases h), fun _ _ _ h => (by cases h), fun _ _ _ x rd r hr w lim vals B hargs hB => ?_⟩
  · have h1 : fn.name ≠ "runtime.NumGoroutine" := by simpa using hname
    simp [callFunc, hf, h1, hb]
  · obtain ⟨⟨⟩, x⟩ := x
    have he := hfn x rd r hr
    cases vals with
    | nil => exact hargs.elim
    | cons v0 vs =>
    obtain ⟨⟨cs, hv0, hX⟩, hrest⟩ := hargs
    subst hv0
    unfold evalMut at he
    rw [hb] at he
    simp only [] at he
    cases hdst : dstsOk fn.ntmps c with
    | false => rw [hdst] at he; cases he
    | true =>
    rw [hdst] at he
    simp only [cnd_true] at he
    refine calls_of_wp hf hb ?_
    have hsim := start_mut fn.ntmps hX hB hrest
    have hcr : CRep w (fun _ => none) rdty rd cs := hX.crep (fun _ _ => rfl)
    have hfl : flatV (wrapV rdty cs) = cs := flat_wrap hcr
    have hend : ∀ st', finMut tab fn.results.toList rdty rty st' = some r → ∀ a' w' lim' β', Sim { w with X := B, mu := true, V0 := wrapV rdty cs } lim none ((wrapV rdty cs :: vs).toArray ++ Array.replicate (fn.ntmps - (wrapV rdty cs :: vs).toArray.size) undef).size st' a' w' lim' β' →
        a'.defers = [] ∧ ∃ v, (results fn a'.tmps).run P w' = .ok v w' ∧ MutOk w { aty := .prod .unit b, rdty := rdty, usesRd := true, rty := rty, one := one, own := [], opens := false, muts := true, fn := g } r B (wrapV rdty cs :: vs) (.returned v) w' := by
      intro st' hfin a' w' lim' β' hs
      refine ⟨hs.defers, ?_⟩
      unfold finMut at hfin
      cases h1 : resVals tab st' rty fn.results.toList with
      | none => rw [h1] at hfin; cases hfin
      | some y =>
        cases h2 : st'.io 0 with
        | none => rw [h1, h2] at hfin; cases hfin
        | some d =>
          rw [h1, h2] at hfin; simp only [] at hfin
          cases h3 : Ty.cast d.1 rdty d.2 with
          | none => rw [h3] at hfin; cases hfin
          | some z =>
            rw [h3] at hfin; injection hfin with hfin; subst hfin
            obtain ⟨vals', m1, m2, m3, _⟩ := resVals_ok hT hs h1
            have hrun : (results fn a'.tmps).run P w' = .ok (if h : vals'.toArray.size = 1 then vals'.toArray[0] else .tuple vals'.toArray) w' := by
              unfold results
              rw [show fn.results = fn.results.toList.toArray by simp, List.mapM_toArray]
              simp only [Sem.run_bind, Sem.run_map]
              rw [m1]
              · simp
              · intro u; rfl
              · intro c t; rfl
            obtain ⟨e1, e2⟩ := cast_some h3
            obtain ⟨dt, dv⟩ := d
            simp only at e1 e2
            subst e1
            obtain ⟨k1, k2⟩ := hs.xs.fix _ h2 rfl
            have hXe := hs.xs.io 0 _ h2
            rw [k1, k2] at hXe
            have hXe : XRep w' dt dv (flatV (wrapV dt cs)) B := hXe
            rw [hfl] at hXe
            refine ⟨_, hrun, _, rfl, hs.grow.os, hs.grow.tape, hs.grow.output, hs.grow.size, fun k hk hn => hs.grow.block k hk (by simp) hn, ?_, cs, rfl, by show XRep w' dt z cs B; rw [e2]; exact hXe⟩
            have hext : Ext w' lim' w' (fun _ => none) := ⟨Nat.le_refl _, fun _ _ _ _ _ h => h, fun _ _ _ _ k hk => by cases hk⟩
            cases one with
            | true =>
              have hl := nbeq hone
              obtain ⟨v, rfl⟩ := List.length_eq_one_iff.1 (m3.trans hl)
              have : ERep st00 w' (fun _ => none) mp0 none (resAV rty true y) v := one_rep (m2.mono hext)
              simpa using this
            | false =>
              have hl : fn.results.toList.length ≠ 1 := fun e => by rw [e] at hone; cases hone
              rw [dif_neg (by simp only [List.size_toArray]; rw [m3]; exact hl)]
              have : resAV rty false y = .tup rty y := by unfold resAV; split <;> simp_all
              show ERep st00 w' (fun _ => none) mp0 none (resAV rty false y) _
              rw [this]
              exact ⟨vals', rfl, m2.mono hext⟩
    refine eval_sound (m := fn.ntmps) hT hG hm (fun k hk => by cases hk) (by simp; omega) c _ _ _ _ _ r hdst he _ _ _ _ _ hsim (fun st' hk a' w' lim' β' hs => hend st' hk a' w' lim' β' hs) (fun st' hk a' w' lim' β' hs => hend st' hk a' w' lim' β' hs) (fun i st' hk => by cases hk)
end
end Go.Den

namespace Go.Den
structure Atoms where
  cndS : {α : Type} → (c : Bool) → (x y : α) → α
  obind : {α β : Type} → (x : Option α) → (f : α → Option β) → Option β
  sumE : {α β γ : Type} → (e : α ⊕ β) → (f : α → γ) → (g : β → γ) → γ
  iter : {σ ρ : Type} → Nat → (σ → Option (σ ⊕ ρ)) → σ → Option ρ
  le0 : (n : Int) → Bool
  leI : (a b : Int) → Bool
  ltI : (a b : Int) → Bool
  lenL : {α : Type} → (xs : List α) → Int
  takeL : {α : Type} → (xs : List α) → (n : Int) → List α
  dropL : {α : Type} → (xs : List α) → (n : Int) → List α
  atL : {α : Type} → (xs : List α) → (n : Int) → (d : α) → α
  appL : {α : Type} → (xs ys : List α) → List α
  repL : {α : Type} → (n : Int) → (d : α) → List α
  u8i : (b : UInt8) → Int
  eqI : (a b : Int) → Bool
  eqB : (a b : Bool) → Bool
  eqS : (a b : List UInt8) → Bool
  lessS : (a b : List UInt8) → Bool
  notB : (b : Bool) → Bool
  andB : (a b : Bool) → Bool
  orB : (a b : Bool) → Bool
  wrapI : (k : IntKind) → (n : Int) → Int
  addI : (a b : Int) → Int
  subI : (a b : Int) → Int
  mulI : (a b : Int) → Int
  quoI : (a b : Int) → Int
  remI : (a b : Int) → Int
  minI : (a b : Int) → Int
  maxI : (a b : Int) → Int
  xorI : (k : IntKind) → (a b : Int) → Int
  shrI : (a b : Int) → Int
  setL : {α : Type} → (xs : List α) → (n : Int) → (x : α) → List α
  byteList : (xs : List Int) → List UInt8
  intList : (s : List UInt8) → List Int
  big : Int
def real : Atoms := { cndS := @cndS, obind := @obind, sumE := @sumE, iter := @iter, le0 := le0, leI := leI, ltI := ltI, lenL := @lenL, takeL := @takeL, dropL := @dropL, atL := @atL, appL := @appL, repL := @repL, u8i := u8i, eqI := eqI, eqB := eqB, eqS := eqS, lessS := lessS, notB := notB, andB := andB, orB := orB, wrapI := wrapI, addI := addI, subI := subI, mulI := mulI, quoI := quoI, remI := remI, minI := minI, maxI := maxI, xorI := xorI, shrI := shrI, setL := @setL, byteList := byteList, intList := intList, big := big }
def stPickP (A : Atoms) (o : Oper) (c x y : Operand) (st : St) : Option Comp :=
  match (st.ent c).av with
  | .dat .bool b => match (st.ent x).av, (st.ent y).av with
    | .dat t v, .dat u w => match Ty.cast u t w with
      | some w' => some (.ret none (upd0 o.dst (.dat t (A.cndS b v w')) none))
      | none => none
    | v, w => some (.ret none (upd0 o.dst (cnd b v w) none))
  | _ => none
def stMakeSliceP (A : Atoms) (tab : Tab) (o : Oper) (t : TypeId) (l c : Operand) (st : St) : Option Comp :=
  match tab t, (st.ent l).av, (st.ent c).av with
  | some (.slice e), .dat (.int _) n, .dat (.int _) m =>
    some (.ret (some (A.andB (A.le0 n) (A.andB (A.leI n m) (A.ltI m A.big)))) { upd0 o.dst (.dat (.slice e) (A.repL n e.zero)) none with own := [[]] })
  | _, _, _ => none
def Ty.eqvP (A : Atoms) : (t : Ty) → t.val → t.val → Option Bool
  | .int _, x, y => some (A.eqI x y)
  | .bool, x, y => some (A.eqB x y)
  | .str, x, y => some (A.eqS x y)
  | .unit, _, _ => some true
  | .prod a b, x, y => match Ty.eqvP A a x.1 y.1, Ty.eqvP A b x.2 y.2 with
    | some p, some q => some (A.andB p q)
    | _, _ => none
  | .slice _, _, _ => none
def intOpP (A : Atoms) (op : BinOp) (k : IntKind) (a b : Int) : Option (Option Bool × AV) :=
  match op with
  | .add => some (none, .dat (.int k) (A.wrapI k (A.addI a b)))
  | .sub => some (none, .dat (.int k) (A.wrapI k (A.subI a b)))
  | .mul => some (none, .dat (.int k) (A.wrapI k (A.mulI a b)))
  | .quo => some (some (A.notB (A.eqI b 0)), .dat (.int k) (A.wrapI k (A.quoI a b)))
  | .rem => some (some (A.notB (A.eqI b 0)), .dat (.int k) (A.remI a b))
  | .xor => some (none, .dat (.int k) (A.xorI k a b))
  | .shr => some (some (A.andB (A.le0 b) (A.leI b 8)), .dat (.int k) (A.shrI a b))
  | .eql => some (none, .dat .bool (A.eqI a b))
  | .neq => some (none, .dat .bool (A.notB (A.eqI a b)))
  | .lss => some (none, .dat .bool (A.ltI a b))
  | .leq => some (none, .dat .bool (A.leI a b))
  | .gtr => some (none, .dat .bool (A.ltI b a))
  | .geq => some (none, .dat .bool (A.leI b a))
  | _ => none
def strOpP (A : Atoms) (op : BinOp) (a b : List UInt8) : Option (Option Bool × AV) :=
  match op with
  | .add => some (some (A.ltI (A.addI (A.lenL a) (A.lenL b)) A.big), .dat .str (A.appL a b))
  | .eql => some (none, .dat .bool (A.eqS a b))
  | .neq => some (none, .dat .bool (A.notB (A.eqS a b)))
  | .lss => some (none, .dat .bool (A.lessS a b))
  | .leq => some (none, .dat .bool (A.orB (A.lessS a b) (A.eqS a b)))
  | .gtr => some (none, .dat .bool (A.notB (A.orB (A.lessS a b) (A.eqS a b))))
  | .geq => some (none, .dat .bool (A.notB (A.lessS a b)))
  | _ => none
def binAVP (A : Atoms) (tab : Tab) (op : BinOp) (xt : TypeId) (x y : AV) : Option (Option Bool × AV) :=
  match x, y with
  | .dat (.int k) a, .dat (.int k') b => cnd (kbeq k k') (intOpP A op k a b) none
  | .dat .str a, .dat .str b => strOpP A op a b
  | .dat t a, .dat u b => match cnd (tyIs (tab xt) t) (Nat.ble (Ty.dep t) 1000) false, Ty.cast u t b with
    | true, some b' => match Ty.eqvP A t a b', op with
      | some q, .eql => some (none, .dat .bool q)
      | some q, .neq => some (none, .dat .bool (A.notB q))
      | _, _ => none
    | _, _ => none
  | _, _ => none
def stBinP (A : Atoms) (tab : Tab) (o : Oper) (op : BinOp) (xt : TypeId) (x y : Operand) (st : St) : Option Comp :=
  match binAVP A tab op xt (st.ent x).av (st.ent y).av with
  | some (c, v) => some (.ret c (upd0 o.dst v none))
  | none => none
def stUnP (A : Atoms) (o : Oper) (op : UnOp) (x : Operand) (st : St) : Option Comp :=
  match op, (st.ent x).av with
  | .not, .dat .bool b => some (.ret none (upd0 o.dst (.dat .bool (A.notB b)) none))
  | .neg, .dat (.int k) n => some (.ret none (upd0 o.dst (.dat (.int k) (A.wrapI k (A.subI 0 n))) none))
  | _, _ => none
def stConvP (A : Atoms) (tab : Tab) (o : Oper) (src dst : TypeId) (x : Operand) (st : St) : Option Comp :=
  match tab src, tab dst, (st.ent x).av with
  | some (.int _), some (.int k), .dat (.int _) n => some (.ret none (upd0 o.dst (.dat (.int k) (A.wrapI k n)) none))
  | some (.slice (.int .u8)), some .str, .dat (.slice (.int .u8)) xs => some (.ret none (upd0 o.dst (.dat .str (A.byteList xs)) none))
  | some .str, some (.slice (.int .u8)), .dat .str s => some (.ret (some (A.ltI (A.lenL (α := UInt8) s) A.big)) { upd0 o.dst (.dat (.slice (.int .u8)) (A.intList s)) none with own := [[]] })
  | some .str, some .str, .dat .str s => some (.ret none (upd0 o.dst (.dat .str s) none))
  | _, _, _ => none
def cutLP (A : Atoms) {α : Type} (xs : List α) : Option AV → Option AV → Option (Bool × List α)
  | some (.dat (.int _) l), some (.dat (.int _) h) => some (A.andB (A.le0 l) (A.andB (A.leI l h) (A.leI h (A.lenL xs))), A.dropL (A.takeL xs h) l)
  | some (.dat (.int _) l), none => some (A.andB (A.le0 l) (A.leI l (A.lenL xs)), A.dropL xs l)
  | none, some (.dat (.int _) h) => some (A.andB (A.le0 h) (A.leI h (A.lenL xs)), A.takeL xs h)
  | _, _ => none
def stSliceP (A : Atoms) (tab : Tab) (o : Oper) (t : TypeId) (x : Operand) (lo hi max : Option Operand) (st : St) : Option Comp :=
  match max, (st.ent x).av with
  | none, .dat (.slice e) xs => match tyIs (tab t) (.slice e), cutLP A (α := e.val) xs (avOpt st lo) (avOpt st hi) with
    | true, some (c, ys) => some (.ret (some c) (upd0 o.dst (.dat (.slice e) ys) none))
    | _, _ => none
  | none, .dat .str xs => match tyIs (tab t) .str, cutLP A (α := UInt8) xs (avOpt st lo) (avOpt st hi) with
    | true, some (c, ys) => some (.ret (some c) (upd0 o.dst (.dat .str ys) none))
    | _, _ => none
  | _, _ => none
def stIndexAddrP (A : Atoms) (tab : Tab) (o : Oper) (t : TypeId) (x i : Operand) (st : St) : Option Comp :=
  match (st.ent x).av, (st.ent i).av with
  | .dat (.slice e) xs, .dat (.int _) n => cnd (tyIs (tab t) (.slice e))
    (some (.ret (some (A.andB (A.le0 n) (A.ltI n (A.lenL (α := e.val) xs)))) (upd0 o.dst (.ref e (A.atL (α := e.val) xs n e.zero)) (starTag st o x e)))) none
  | _, _ => none
def stIndexP (A : Atoms) (tab : Tab) (o : Oper) (t : TypeId) (x i : Operand) (st : St) : Option Comp :=
  match (st.ent x).av, (st.ent i).av with
  | .dat .str s, .dat (.int _) n => cnd (tyIs (tab t) .str)
    (some (.ret (some (A.andB (A.le0 n) (A.ltI n (A.lenL (α := UInt8) s)))) (upd0 o.dst (.dat (.int .u8) (A.u8i (A.atL (α := UInt8) s n 0))) none))) none
  | _, _ => none
def stLenP (A : Atoms) (tab : Tab) (o : Oper) (t : TypeId) (x : Operand) (st : St) : Option Comp :=
  match (st.ent x).av with
  | .dat (.slice e) xs => cnd (tyIs (tab t) (.slice e)) (some (.ret none (upd0 o.dst (.dat (.int .i64) (A.lenL (α := e.val) xs)) none))) none
  | .dat .str s => cnd (tyIs (tab t) .str) (some (.ret none (upd0 o.dst (.dat (.int .i64) (A.lenL (α := UInt8) s)) none))) none
  | _ => none
def stAppendP (A : Atoms) (tab : Tab) (o : Oper) (t : TypeId) (x y : Operand) (st : St) : Option Comp :=
  match tab t with
  | some (.slice e) => match AV.as (.slice e) (st.ent x).av, AV.as (.slice e) (st.ent y).av, st.owner x with
    | some xs, some ys, some l => match starApp st e l y with
      | some tk => some (.ret (some (A.ltI (A.addI (A.lenL (α := e.val) xs) (A.lenL (α := e.val) ys)) A.big))
        { upd0 o.dst (.dat (.slice e) (A.appL (α := e.val) xs ys)) none with own := [[], [0]], takes := tk })
      | none => some (.ret (some (A.ltI (A.addI (A.lenL (α := e.val) xs) (A.lenL (α := e.val) ys)) A.big))
        { upd0 o.dst (.dat (.slice e) (A.appL (α := e.val) xs ys)) none with own := [[]], takes := l.toList })
    | _, _, _ => none
  | _ => none
def stMinMaxP (A : Atoms) (mx : Bool) (o : Oper) (x y : Operand) (st : St) : Option Comp :=
  match (st.ent x).av, (st.ent y).av with
  | .dat (.int k) a, .dat (.int k') b => match kbeq k k' with
    | true => some (.ret none (upd0 o.dst (.dat (.int k) (cnd mx (A.maxI a b) (A.minI a b))) none))
    | false => none
  | _, _ => none
def stMakeXP (A : Atoms) (tab : Tab) (o : Oper) (t : TypeId) (l c : Operand) (st : St) : Option Comp :=
  match tab t, (st.ent l).av, (st.ent c).av, freeD st o.dst with
  | some (.slice e), .dat (.int _) n, .dat (.int _) m, some d =>
    some (.ret (some (A.andB (A.le0 n) (A.andB (A.leI n m) (A.ltI m A.big)))) { upd0 (some d) (.xf d []) none with xw := some (d, ⟨.slice e, A.repL n e.zero⟩) })
  | _, _, _, _ => none
def stLoadPP (A : Atoms) (tab : Tab) (o : Oper) (t : TypeId) (r : Tmp) (p : List Nat) (n : Int) (q : List Nat) (st : St) : Option Comp :=
  match Nat.beq r 0, p, st.io r with
  | true, [], some ⟨.slice e, xs⟩ => match getP e (A.atL (α := e.val) xs n e.zero) q with
    | some y => match tyIs (tab t) y.1, isSlT y.1 with
      | true, true => some (.ret (some (A.andB (A.le0 n) (A.ltI n (A.lenL (α := e.val) xs)))) (upd0 o.dst (.xe n q) none))
      | _, _ => none
    | none => none
  | _, _, _ => none
def stStoreXP (A : Atoms) (tab : Tab) (o : Oper) (t : TypeId) (r : Tmp) (p : List Nat) (n : Int) (q : List Nat) (v : Operand) (st : St) : Option Comp :=
  match st.io r, st.atX r p with
  | some d, some ⟨.slice e, xs⟩ => match getP e (A.atL (α := e.val) xs n e.zero) q with
    | some y => match tyIs (tab t) y.1, noSl y.1, AV.as y.1 (st.ent v).av with
      | true, true, some z => match setP e (A.atL (α := e.val) xs n e.zero) q ⟨y.1, z⟩ with
        | some x' => match setP d.1 d.2 p ⟨.slice e, A.setL (α := e.val) xs n x'⟩ with
          | some d' => some (.ret (some (A.andB (A.le0 n) (A.ltI n (A.lenL (α := e.val) xs)))) { upd0 o.dst .skp none with xw := some (r, ⟨d.1, d'⟩) })
          | none => none
        | none => none
      | _, _, _ => none
    | none => none
  | _, _ => none
def stGraftXP (A : Atoms) (tab : Tab) (o : Oper) (t : TypeId) (r : Tmp) (p : List Nat) (n : Int) (q : List Nat) (r2 : Tmp) (st : St) : Option Comp :=
  match st.io r, st.atX r p, st.atX r2 [] with
  | some d, some ⟨.slice e, xs⟩, some z => match getP e (A.atL (α := e.val) xs n e.zero) q with
    | some y => match tyIs (tab t) y.1, cnd (Nat.beq r 0) true (cnd (Nat.beq r2 0) true (Nat.beq r r2)), Ty.cast z.1 y.1 z.2 with
      | true, false, some z' => match setP e (A.atL (α := e.val) xs n e.zero) q ⟨y.1, z'⟩ with
        | some x' => match setP d.1 d.2 p ⟨.slice e, A.setL (α := e.val) xs n x'⟩ with
          | some d' => some (.ret (some (A.andB (A.le0 n) (A.ltI n (A.lenL (α := e.val) xs)))) { upd0 o.dst .skp none with xw := some (r, ⟨d.1, d'⟩), xk := some r2 })
          | none => none
        | none => none
      | _, _, _ => none
    | none => none
  | _, _, _ => none
def stFieldAddrXP (A : Atoms) (tab : Tab) (o : Oper) (s : TypeId) (r : Tmp) (p : List Nat) (n : Int) (q : List Nat) (f : Nat) (st : St) : Option Comp :=
  match st.atX r p with
  | some ⟨.slice e, xs⟩ => match getP e (A.atL (α := e.val) xs n e.zero) q with
    | some y => match tyIs (tab s) y.1, getF y.1 y.2 f with
      | true, some _ => some (.ret none (upd0 o.dst (.xp r p n (q ++ [f])) none))
      | _, _ => none
    | none => none
  | _ => none
def stIndexAddrXP (A : Atoms) (tab : Tab) (o : Oper) (t : TypeId) (r : Tmp) (p : List Nat) (i : Operand) (st : St) : Option Comp :=
  match st.atX r p, (st.ent i).av with
  | some ⟨.slice e, xs⟩, .dat (.int _) n => cnd (tyIs (tab t) (.slice e))
    (some (.ret (some (A.andB (A.le0 n) (A.ltI n (A.lenL (α := e.val) xs)))) (upd0 o.dst (.xp r p n []) none))) none
  | _, _ => none
def stLenXP (A : Atoms) (tab : Tab) (o : Oper) (t : TypeId) (r : Tmp) (p : List Nat) (st : St) : Option Comp :=
  match st.atX r p with
  | some ⟨.slice e, xs⟩ => cnd (tyIs (tab t) (.slice e)) (some (.ret none (upd0 o.dst (.dat (.int .i64) (A.lenL (α := e.val) xs)) none))) none
  | _ => none
def stConvXP (A : Atoms) (tab : Tab) (o : Oper) (src dst : TypeId) (r : Tmp) (p : List Nat) (st : St) : Option Comp :=
  match tab src, tab dst, st.atX r p with
  | some (.slice (.int .u8)), some .str, some ⟨.slice (.int .u8), xs⟩ => some (.ret none (upd0 o.dst (.dat .str (A.byteList xs)) none))
  | _, _, _ => none
def stAppendXP (A : Atoms) (tab : Tab) (o : Oper) (t : TypeId) (x y : Operand) (st : St) : Option Comp :=
  match tab t with
  | some (.slice e) => match AV.as (.slice e) (st.ent x).av, AV.as (.slice e) (argX st (st.ent y).av), st.owner x with
    | some xs, some ys, some l => match freeD st o.dst, noSl e with
      | some d, true => some (.ret (some (A.andB (A.eqI (A.lenL (α := e.val) xs) 0) (A.ltI (A.lenL (α := e.val) ys) A.big)))
        { upd0 (some d) (.xf d []) none with takes := l.toList, xw := some (d, ⟨.slice e, ys⟩) })
      | _, _ => none
    | _, _, _ => none
  | _ => none
def stSliceXP (A : Atoms) (tab : Tab) (o : Oper) (t : TypeId) (x : Operand) (lo hi max : Option Operand) (st : St) : Option Comp :=
  match max, lo, (st.ent x).av with
  | none, none, .xf r [] => match st.io r, avOpt st hi, freeD st o.dst with
    | some ⟨.slice e, xs⟩, some (.dat (.int _) h), some d => match Nat.beq r 0, tyIs (tab t) (.slice e), noSl e with
      | false, true, true => some (.ret (some (A.andB (A.le0 h) (A.leI h (A.lenL (α := e.val) xs)))) { upd0 (some d) (.xf d []) none with xw := some (d, ⟨.slice e, A.takeL (α := e.val) xs h⟩), xk := some r })
      | _, _, _ => none
    | _, _, _ => none
  | _, _, _ => none
def stAppendTP (A : Atoms) (tab : Tab) (o : Oper) (t : TypeId) (x y : Operand) (st : St) : Option Comp :=
  match (st.ent x).av with
  | .xf r [] => match st.io r with
    | some ⟨.slice e, xs⟩ => match AV.as (.slice e) (argX st (st.ent y).av), freeD st o.dst with
      | some ys, some d => match Nat.beq r 0, tyIs (tab t) (.slice e), noSl e with
        | false, true, true => some (.ret (some (A.ltI (A.addI (A.lenL (α := e.val) xs) (A.lenL (α := e.val) ys)) A.big)) { upd0 (some d) (.xf d []) none with xw := some (d, ⟨.slice e, A.appL (α := e.val) xs ys⟩), xk := some r })
        | _, _, _ => none
      | _, _ => none
    | _ => none
  | _ => none
def stCallXP (A : Atoms) (G : Gam) (o : Oper) (f : FuncId) (args : List Operand) (st : St) : Option Comp :=
  match G f with
  | some s => cnd (isF s.fv) none (match s.usesRd, s.opens, s.muts with
    | false, false, false => match packArgs none s.aty (args.map fun x => argX st (st.ent x).av), Ty.cast .unit s.rdty (), closedS s with
      | some x, some rd, true => cnd (mkD st o.dst)
        (match freeD st o.dst with
          | some d => some (.call s.rty s.rdty (s.fn x rd) fun r => { upd0 (some d) (rootAV s.one s.rty d) none with xw := some (d, rootOf s.one s.rty r.1) })
          | none => none)
        (some (.call s.rty s.rdty (s.fn x rd) fun r => { upd0 o.dst (resAV s.rty s.one r.1) none with own := resOwn s.one s.own }))
      | _, _, _ => none
    | true, false, true => match args with
      | x0 :: xs => match (st.ent x0).av with
        | .xf r p => match st.io r, st.atX r p with
          | some d, some y => match Ty.cast y.1 s.rdty y.2, s.aty, s.fn with
            | some rd, .prod .unit b, fn => match packArgs none b (xs.map fun x => (st.ent x).av), noSl s.rty, cnd (Nat.beq r 0) (isSlT d.1) false with
              | some x, true, false => some (.call s.rty s.rdty (fn ((), x) rd) fun z => { upd0 o.dst (resAV s.rty s.one z.1) none with xw := some (r, setDat d p ⟨s.rdty, z.2⟩) })
              | _, _, _ => none
            | _, _, _ => none
          | _, _ => none
        | .xe k q => match st.io 0 with
          | some ⟨.slice e, ys⟩ => match getP e (A.atL (α := e.val) ys k e.zero) q with
            | some y => match Ty.cast y.1 s.rdty y.2, s.aty, s.fn, isSlT y.1 with
              | some rd, .prod .unit b, fn, true => match packArgs none b (xs.map fun x => (st.ent x).av), noSl s.rty with
                | some x, true => some (.call s.rty s.rdty (fn ((), x) rd) fun z => { upd0 o.dst (resAV s.rty s.one z.1) none with xw := some (0, ⟨.slice e, A.setL (α := e.val) ys k (setE e (A.atL (α := e.val) ys k e.zero) q ⟨s.rdty, z.2⟩)⟩) })
                | _, _ => none
              | _, _, _, _ => none
            | none => none
          | _ => none
        | _ => none
      | [] => none
    | _, _, _ => none)
  | none => none
def stepCP (A : Atoms) (tab : Tab) (G : Gam) (o : Oper) (st : St) : Option Comp :=
  match o.op with
  | .move x => some (cnd (mkD st o.dst) (stAssignM o x st (stMove tab o x st)) (stMove tab o x st))
  | .assign x => some (cnd (mkD st o.dst) (stAssignM o x st (stAssign tab o x st)) (stAssign tab o x st))
  | .pick c a b => stPickP A o c a b st
  | .alloc e => cnd (mkD st o.dst) (stAllocX tab o e st) (stAlloc tab o e st)
  | .box e x => match (st.ent x).av with
    | .xf r p => stBoxX tab o e r p st
    | _ => stBox tab o e x st
  | .build t ps => cnd (anyX st (ps.toList.map fun p => p.2)) (cnd (mkD st o.dst) (stBuildX tab o t ps.toList st) (stBuildR tab o t ps.toList st)) (stBuild tab o t ps.toList st)
  | .buildSlice t n ps => stBuildSlice tab o t n ps.toList st
  | .load t x => match (st.ent x).av with
    | .cx b p => stLoadX tab o t b p st
    | .xp r p n q => stLoadPP A tab o t r p n q st
    | _ => stLoad tab o t x st
  | .store t x v => match (st.ent x).av, (st.ent v).av with
    | .xp r p n q, .xf r2 [] => stGraftXP A tab o t r p n q r2 st
    | .xp r p n q, _ => stStoreXP A tab o t r p n q v st
    | .cx b [], .xf r q => stPutX tab o t b r q st
    | .cx b [], .mx ty x ps => stPutR tab o t b ⟨ty, x⟩ ps st
    | .cx b p, .xf r q => stPartR tab o t b p r q st
    | _, _ => stStore tab o t x v st
  | .nilCheck x => match (st.ent x).av with
    | .cel b p => some (.ret none (upd0 o.dst (.cel b p) none))
    | .rdr p => some (.ret none (upd0 o.dst (.rdr p) none))
    | _ => none
  | .binOp op xt x y _ => stBinP A tab o op xt x y st
  | .unOp op _ x => stUnP A o op x st
  | .convert s d x => match (st.ent x).av with
    | .xf r p => stConvXP A tab o s d r p st
    | _ => stConvP A tab o s d x st
  | .makeSlice t l c => cnd (mkD st o.dst) (stMakeXP A tab o t l c st) (stMakeSliceP A tab o t l c st)
  | .slice t x lo hi mx => match (st.ent x).av with
    | .xf _ _ => stSliceXP A tab o t x lo hi mx st
    | _ => stSliceP A tab o t x lo hi mx st
  | .fieldAddr s x f => match (st.ent x).av with
    | .xp r p n q => stFieldAddrXP A tab o s r p n q f st
    | .cx b p => stFieldAddrC tab o s b p f st
    | _ => stFieldAddr tab o s x f st
  | .field s x f => stField tab o s x f st
  | .indexAddr t x i => match (st.ent x).av with
    | .xf r p => stIndexAddrXP A tab o t r p i st
    | _ => stIndexAddrP A tab o t x i st
  | .index t x i => stIndexP A tab o t x i st
  | .extract x i => match (st.ent x).av with
    | .xt r => stExtractX o r i st
    | _ => stExtract o x i st
  | .call c => match c.callee with
    | .value (.func f) => cnd (hasF G f) (stCallF G o f c.args.toList st) (cnd (isCons G f) (stCallC G o f c.args.toList st) (cnd (cnd (mkD st o.dst) (isRdM G f) false) (stCallXR G o f c.args.toList st) (cnd (cnd (anyX st c.args.toList) true (cnd (mkD st o.dst) true (isMut G f))) (stCallXP A G o f c.args.toList st) (stCall G o f c.args.toList st))))
    | .value (.tmp t) => match (st.env t).av with
      | .fn f => stCall G o f c.args.toList st
      | _ => none
    | .builtin .len => match c.args.toList, c.argTypes.toList with
      | [x], [t] => match (st.ent x).av with
        | .xf r p => stLenXP A tab o t r p st
        | _ => stLenP A tab o t x st
      | _, _ => none
    | .builtin .append => match c.args.toList, c.argTypes.toList with
      | [x, y], [t, t'] => cnd (Nat.beq t t') (match (st.ent x).av with
        | .xf _ _ => stAppendTP A tab o t x y st
        | _ => cnd (mkD st o.dst) (stAppendXP A tab o t x y st) (stAppendP A tab o t x y st)) none
      | _, _ => none
    | .builtin .min => match c.args.toList with
      | [x, y] => stMinMaxP A false o x y st
      | _ => none
    | .builtin .max => match c.args.toList with
      | [x, y] => stMinMaxP A true o x y st
      | _ => none
    | _ => none
  | _ => none
def Comp.runKP (A : Atoms) {R : Type} (st : St) (k : St → Option R) : Comp → Option R
  | .ret none u => k (apply st u)
  | .ret (some c) u => A.cndS c (k (apply st u)) none
  | .call _ _ F u => A.obind F fun r => k (apply st (u r))
def Comp.runTP (A : Atoms) {R : Type} (st : St) (rs : List Res) (k : St → FP → Option R) : Comp → Option R
  | .ret none u => k (apply st u) ⟨tagRes u ++ rs, u.writes⟩
  | .ret (some c) u => A.cndS c (k (apply st u) ⟨tagRes u ++ rs, u.writes⟩) none
  | .call _ _ F u => A.obind F fun r => k (apply st (u r)) ⟨tagRes (u r) ++ rs, (u r).writes⟩
def opsKP (A : Atoms) {R : Type} (tab : Tab) (G : Gam) (ops : List Oper) : List Oper → Nat → St → (St → Option R) → Option R
  | [], _, st, k => k st
  | o :: rest, i, st, k => match o.guard with
    | none => match stepCP A tab G o st with
      | some c => c.runKP A st fun st' => opsKP A tab G ops rest (Nat.succ i) (setKn st' o.dst (knOf o st)) k
      | none => none
    | some (g, want) => match guardT ops g with
      | none => none
      | some t => match (st.env t).av with
        | .dat .bool b =>
          let go (st : St) := match stepCP A tab G o st with
            | some c => c.runKP A st fun st' => opsKP A tab G ops rest (Nat.succ i) (setKn st' o.dst (knOf o st)) k
            | none => none
          let by' (st : St) := opsKP A tab G ops rest (Nat.succ i) (setKn (apply st (skipU o)) o.dst false) k
          cnd (st.kn t) (cnd b (cnd want (go st) (by' st)) (cnd want (by' st) (go st)))
            (A.cndS b (cnd want (go (setKn (setAV st t (.dat .bool true)) (some t) true)) (by' (setKn (setAV st t (.dat .bool true)) (some t) true)))
                    (cnd want (by' (setKn (setAV st t (.dat .bool false)) (some t) true)) (go (setKn (setAV st t (.dat .bool false)) (some t) true))))
        | .skp => opsKP A tab G ops rest (Nat.succ i) (setKn (apply st (skipU o)) o.dst false) k
        | _ => none
def drawKP (A : Atoms) {R : Type} (tab : Tab) (G : Gam) (ops : List Oper) : List Oper → Nat → St → List FP → (St → List FP → Option R) → Option R
  | [], _, st, acc, k => k st acc
  | o :: rest, i, st, acc, k => match o.guard with
    | none => match stepCP A tab G o st with
      | some c => c.runTP A st (reads st o) fun st' f => drawKP A tab G ops rest (Nat.succ i) (setKn st' o.dst (knOf o st)) (acc ++ [f]) k
      | none => none
    | some (g, want) => match guardT ops g with
      | none => none
      | some t => match (st.env t).av with
        | .dat .bool b =>
          let go (st : St) := match stepCP A tab G o st with
            | some c => c.runTP A st (.tmp t :: reads st o) fun st' f => drawKP A tab G ops rest (Nat.succ i) (setKn st' o.dst (knOf o st)) (acc ++ [f]) k
            | none => none
          let by' (st : St) := drawKP A tab G ops rest (Nat.succ i) (setKn (apply st (skipU o)) o.dst false) (acc ++ [⟨[.tmp t], (skipU o).writes⟩]) k
          cnd (st.kn t) (cnd b (cnd want (go st) (by' st)) (cnd want (by' st) (go st)))
            (A.cndS b (cnd want (go (setKn (setAV st t (.dat .bool true)) (some t) true)) (by' (setKn (setAV st t (.dat .bool true)) (some t) true)))
                    (cnd want (by' (setKn (setAV st t (.dat .bool false)) (some t) true)) (go (setKn (setAV st t (.dat .bool false)) (some t) true))))
        | .skp => drawKP A tab G ops rest (Nat.succ i) (setKn (apply st (skipU o)) o.dst false) (acc ++ [⟨[.tmp t], (skipU o).writes⟩]) k
        | _ => none
def evalKP (A : Atoms) (tab : Tab) (G : Gam) (ann : Ann) (fuel : Nat) : Code → (R : Type) → St → (St → Option R) → (St → Option R) → (Nat → St → Option R) → Option R
  | .skip, _, st, kn, _, _ => kn st
  | .region id ops draw, _, st0, kn, _, _ => match trAll { st0 with mkt := ann.mkt } (ann.pre id) with
    | some st => cnd draw (drawKP A tab G ops.toList ops.toList 0 st [] fun st' fs => cnd (cnd (edgesOk ops.toList 0) (pairsOk (masks ops.toList []) [] fs 0) false) (kn st') none)
      (opsKP A tab G ops.toList ops.toList 0 st kn)
    | none => none
  | .seq x y, R, st, kn, kr, ke => match cutOf ann y with
    | none => evalKP A tab G ann fuel x R st (fun st' => evalKP A tab G ann fuel y R st' kn kr ke) kr ke
    | some (S, true) => A.obind (evalKP A tab G ann fuel x S.ty.val st (fun st' => packT (precOf ann y) S st') (fun _ => none) (fun _ _ => none))
        fun s => evalKP A tab G ann fuel y R (unpack S s) kn kr ke
    | some (S, false) => A.obind (evalKP A tab G ann fuel x (S.ty.val ⊕ R) st (fun st' => (packT (precOf ann y) S st').map .inl) (fun st' => (kr st').map .inr) (fun i st' => (ke i st').map .inr))
        fun e => A.sumE e (fun s => evalKP A tab G ann fuel y R (unpack S s) kn kr ke) (fun r => some r)
  | .cond c x y, R, st, kn, kr, ke => match (st.ent c).av with
    | .dat .bool b => cnd (st.knX c) (cnd b (evalKP A tab G ann fuel x R st kn kr ke) (evalKP A tab G ann fuel y R st kn kr ke)) (A.cndS b (evalKP A tab G ann fuel x R st kn kr ke) (evalKP A tab G ann fuel y R st kn kr ke))
    | _ => none
  | .block id (.loop b), R, st, kn, kr, ke => match ann.loop id with
    | some (S, T, true) => match packT (ann.prel id) S st with
      | none => none
      | some s0 =>
        A.obind (A.iter fuel (fun s => evalKP A tab G ann fuel b (S.ty.val ⊕ T.ty.val) (unpack S s) (fun st' => (pack S st').map .inl) (fun _ => none)
          (fun i st' => cnd (Nat.beq i id) ((pack T st').map .inr) none)) s0) fun t => kn (unpack T t)
    | some (S, T, false) => match packT (ann.prel id) S st with
      | none => none
      | some s0 =>
        A.obind (A.iter fuel (fun s => evalKP A tab G ann fuel b (S.ty.val ⊕ (T.ty.val ⊕ R)) (unpack S s) (fun st' => (pack S st').map .inl) (fun st' => (kr st').map fun r => .inr (.inr r))
          (fun i st' => cnd (Nat.beq i id) ((pack T st').map fun t => .inr (.inl t)) ((ke i st').map fun r => .inr (.inr r)))) s0) fun e => A.sumE e (fun t => kn (unpack T t)) (fun r => some r)
    | none => none
  | .block id c, R, st, kn, kr, ke => evalKP A tab G ann fuel c R st kn kr (fun i st' => cnd (Nat.beq i id) (kn st') (ke i st'))
  | .exit id, _, st, _, _, ke => ke id st
  | .ret, _, st, _, kr, _ => kr st
  | _, _, _, _, _, _ => none
def evalFnP (A : Atoms) (tab : Tab) (G : Gam) (ann : Ann) (fuel : Nat) (fn : Func) (aty rdty : Ty) (usesRd : Bool) (rty : Ty) (own : List (List Nat)) (x : aty.val) (rd : rdty.val) : Option (rty.val × rdty.val) :=
  match fn.body with
  | none => none
  | some c => cnd (dstsOk fn.ntmps c) (evalKP A tab G ann fuel c (rty.val × rdty.val) (startOf aty rdty usesRd x rd) (finOf tab fn.results.toList rdty usesRd rty own) (finOf tab fn.results.toList rdty usesRd rty own) (fun _ _ => none)) none
def evalMutP (A : Atoms) (tab : Tab) (G : Gam) (ann : Ann) (fuel : Nat) (fn : Func) (b rdty rty : Ty) (x : b.val) (rd : rdty.val) : Option (rty.val × rdty.val) :=
  match fn.body with
  | none => none
  | some c => cnd (dstsOk fn.ntmps c) (evalKP A tab G ann fuel c (rty.val × rdty.val) (startMut b rdty x rd) (finMut tab fn.results.toList rdty rty) (finMut tab fn.results.toList rdty rty) (fun _ _ => none)) none
theorem eqv_real : ∀ (t : Ty) (x y : t.val), Ty.eqvP real t x y = Ty.eqv t x y
  | .int _, _, _ => rfl
  | .bool, _, _ => rfl
  | .str, _, _ => rfl
  | .unit, _, _ => rfl
  | .slice _, _, _ => rfl
  | .prod a b, x, y => by simp only [Ty.eqvP, Ty.eqv, eqv_real a, eqv_real b]; rfl
theorem intOp_real (op : BinOp) (k : IntKind) (a b : Int) : intOpP real op k a b = intOp op k a b := by kernel_rfl
theorem strOp_real (op : BinOp) (a b : List UInt8) : strOpP real op a b = strOp op a b := by kernel_rfl
theorem binAV_real (tab : Tab) (op : BinOp) (xt : TypeId) (x y : AV) : binAVP real tab op xt x y = binAV tab op xt x y := by
  unfold binAVP binAV
  simp only [eqv_real, intOp_real, strOp_real]
  kernel_rfl
theorem stepC_real (tab : Tab) (G : Gam) (o : Oper) (st : St) : stepCP real tab G o st = stepC tab G o st := by
  unfold stepCP stepC
  cases o.op with
  | binOp op xt x y yt => simp only [stBinP, stBin, binAV_real]; kernel_rfl
  | _ => kernel_rfl
theorem runK_real {R : Type} (st : St) (k : St → Option R) (c : Comp) : c.runKP real st k = c.runK st k := by cases c <;> rfl
theorem runT_real {R : Type} (st : St) (rs : List Res) (k : St → FP → Option R) (c : Comp) : c.runTP real st rs k = c.runT st rs k := by cases c <;> rfl
theorem opsK_real {R : Type} (tab : Tab) (G : Gam) (ops : List Oper) : ∀ (rest : List Oper) (i : Nat) (st : St) (k : St → Option R), opsKP real tab G ops rest i st k = opsK tab G ops rest i st k := by
  intro rest
  induction rest with
  | nil => intros; rfl
  | cons o rest ih => intro i st k; simp only [opsKP, opsK, stepC_real, runK_real, ih]; kernel_rfl
theorem drawK_real {R : Type} (tab : Tab) (G : Gam) (ops : List Oper) : ∀ (rest : List Oper) (i : Nat) (st : St) (acc : List FP) (k : St → List FP → Option R), drawKP real tab G ops rest i st acc k = drawK tab G ops rest i st acc k := by
  intro rest
  induction rest with
  | nil => intros; rfl
  | cons o rest ih => intro i st acc k; simp only [drawKP, drawK, stepC_real, runT_real, ih]; kernel_rfl
theorem evalK_real (tab : Tab) (G : Gam) (ann : Ann) (fuel : Nat) (c : Code) : (∀ (R : Type) (st : St) (kn kr : St → Option R) (ke : Nat → St → Option R), evalKP real tab G ann fuel c R st kn kr ke = evalK tab G ann fuel c R st kn kr ke) ∧
    ∀ b, c = .loop b → ∀ (R : Type) (st : St) (kn kr : St → Option R) (ke : Nat → St → Option R), evalKP real tab G ann fuel b R st kn kr ke = evalK tab G ann fuel b R st kn kr ke := by
  induction c with
  | skip => exact ⟨fun _ _ _ _ _ => rfl, fun b hb => by cases hb⟩
  | region id ops draw =>
    refine ⟨fun R st kn kr ke => ?_, fun b hb => by cases hb⟩
    simp only [evalKP, evalK, opsK_real, drawK_real]; kernel_rfl
  | seq x y ihx ihy =>
    refine ⟨fun R st kn kr ke => ?_, fun b hb => by cases hb⟩
    simp only [evalKP, evalK, ihx.1, ihy.1]; kernel_rfl
  | cond c x y ihx ihy =>
    refine ⟨fun R st kn kr ke => ?_, fun b hb => by cases hb⟩
    simp only [evalKP, evalK, ihx.1, ihy.1]; kernel_rfl
  | block id c ih =>
    refine ⟨fun R st kn kr ke => ?_, fun b hb => by cases hb⟩
    cases c with
    | loop b => simp only [evalKP, evalK, ih.2 b rfl]; kernel_rfl
    | _ => exact ih.1 R st kn kr (fun i st' => cnd (Nat.beq i id) (kn st') (ke i st'))
  | loop c ih => exact ⟨fun _ _ _ _ _ => rfl, fun b hb => by injection hb with hb; subst hb; exact ih.1⟩
  | _ => exact ⟨fun _ _ _ _ _ => rfl, fun b hb => by cases hb⟩
theorem evalFn_real (tab : Tab) (G : Gam) (ann : Ann) (fuel : Nat) (fn : Func) (aty rdty : Ty) (usesRd : Bool) (rty : Ty) (own : List (List Nat)) (x : aty.val) (rd : rdty.val) :
    evalFnP real tab G ann fuel fn aty rdty usesRd rty own x rd = evalFn tab G ann fuel fn aty rdty usesRd rty own x rd := by
  unfold evalFnP evalFn
  cases fn.body with
  | none => rfl
  | some c => simp only [(evalK_real tab G ann fuel c).1]
theorem evalMut_real (tab : Tab) (G : Gam) (ann : Ann) (fuel : Nat) (fn : Func) (b rdty rty : Ty) (x : b.val) (rd : rdty.val) :
    evalMutP real tab G ann fuel fn b rdty rty x rd = evalMut tab G ann fuel fn b rdty rty x rd := by
  unfold evalMutP evalMut
  cases fn.body with
  | none => rfl
  | some c => simp only [(evalK_real tab G ann fuel c).1]
end Go.Den

namespace Go.Den

def lookT : List (Nat × Ty) → Nat → Option Ty
  | [], _ => none
  | (i, t) :: l, j => cnd (Nat.beq j i) (some t) (lookT l j)
theorem lookT_mem : ∀ {l : List (Nat × Ty)} {j : Nat} {t : Ty}, lookT l j = some t → (j, t) ∈ l
  | [], _, _, h => by cases h
  | (i, u) :: l, j, t, h => by
    simp only [lookT] at h
    cases hq : Nat.beq j i with
    | true => rw [hq] at h; injection h with h; subst h; rw [nbeq hq]; exact List.mem_cons_self
    | false => rw [hq] at h; exact List.mem_cons_of_mem _ (lookT_mem h)

/-- the zero cells of a type taken off -/
def stripZ : Ty → List Value → Option (List Value)
  | .int k, .int k' n :: cs => cnd (kbeq k k') (cnd (decide (n = 0)) (some cs) none) none
  | .bool, .bool b :: cs => cnd b none (some cs)
  | .str, .string s :: cs => cnd (Nat.beq s.data.size 0) (some cs) none
  | .unit, cs => some cs
  | .prod a b, cs => (stripZ a cs).bind (stripZ b)
  | .slice _, .slice none 0 0 :: cs => some cs
  | _, _ => none
theorem stripZ_spec : ∀ {t : Ty} {cs rest : List Value}, stripZ t cs = some rest → cs = zeroCells t ++ rest := by
  intro t
  induction t with
  | int k =>
    intro cs rest h
    unfold stripZ at h
    split at h <;> try cases h
    · rename_i k' k2 n cs' he
      injection he with he; subst he
      cases h1 : kbeq k k2 with
      | false => rw [h1] at h; cases h
      | true =>
        cases h2 : decide (n = 0) with
        | false => rw [h1, h2] at h; cases h
        | true =>
          rw [h1, h2] at h; injection h with h; subst h
          rw [← k_of_beq h1, of_decide_eq_true h2]; rfl
    all_goals rename_i he; cases he
  | bool =>
    intro cs rest h
    unfold stripZ at h
    split at h <;> rename_i he <;> try cases he
    · rename_i b cs'
      cases b with
      | true => cases h
      | false => injection h with h; subst h; rfl
    · cases h
  | str =>
    intro cs rest h
    unfold stripZ at h
    split at h <;> rename_i he <;> try cases he
    · rename_i s cs'
      cases h1 : Nat.beq s.data.size 0 with
      | false => rw [h1] at h; cases h
      | true =>
        rw [h1] at h; injection h with h; subst h
        have : s = ⟨#[]⟩ := by
          cases s with
          | mk d =>
            have hd : d.size = 0 := nbeq h1
            rw [Array.eq_empty_of_size_eq_zero hd]
        rw [this]; rfl
    · cases h
  | unit =>
    intro cs rest h
    have h : some cs = some rest := by cases cs <;> exact h
    injection h with h
  | prod a b iha ihb =>
    intro cs rest h
    have h : (stripZ a cs).bind (stripZ b) = some rest := by cases cs <;> exact h
    obtain ⟨m, h1, h2⟩ := Option.bind_eq_some_iff.1 h
    rw [iha h1, ihb h2]; simp [zeroCells]
  | slice e _ =>
    intro cs rest h
    unfold stripZ at h
    split at h <;> rename_i he <;> try cases he
    · injection h with h; subst h; rfl
    · cases h
def zeroB (t : Ty) (v : Value) : Bool := match v with
  | .agg xs => match isProd t, stripZ t xs.toList with
    | true, some [] => true
    | _, _ => false
  | v => match isProd t, stripZ t [v] with
    | false, some [] => true
    | _, _ => false
theorem zeroB_spec {t : Ty} {v : Value} (h : zeroB t v = true) : v = wrapV t (zeroCells t) := by
  unfold zeroB at h
  split at h
  · rename_i xs
    split at h
    · rename_i h1 h2
      have := stripZ_spec h2
      rw [List.append_nil] at this
      have e : xs = (zeroCells t).toArray := by apply Array.ext'; simpa using this
      rw [e]
      cases t <;> first | rfl | cases h1
    · cases h
  · split at h
    · rename_i h1 h2
      have := stripZ_spec h2
      rw [List.append_nil] at this
      cases t <;> first | (cases h1; done) | (rw [← this]; rfl)
    · cases h

def fieldsB (tab : Tab) : Ty → Nat → List Field → Bool
  | .unit, _, [] => true
  | .prod a b, o, f :: fs => cnd (Nat.beq f.offset o) (cnd (tyIs (tab f.type) a) (cnd (Nat.beq a.size 0) false (cnd (f.name == "_") false (fieldsB tab b (Nat.add o a.size) fs))) false) false
  | _, _, _ => false
theorem fieldsB_spec {tab : Tab} : ∀ {t : Ty} {o : Nat} {fs : List Field}, fieldsB tab t o fs = true → FieldsOk tab t o fs := by
  intro t
  induction t with
  | prod a b _ ihb =>
    intro o fs h
    cases fs with
    | nil => cases h
    | cons f fs =>
      simp only [fieldsB] at h
      cases h1 : Nat.beq f.offset o with
      | false => rw [h1] at h; cases h
      | true =>
        cases h2 : tyIs (tab f.type) a with
        | false => rw [h1, h2] at h; cases h
        | true =>
          cases h3 : Nat.beq a.size 0 with
          | true => rw [h1, h2, h3] at h; cases h
          | false =>
            cases h4 : f.name == "_" with
            | true => rw [h1, h2, h3, h4] at h; cases h
            | false =>
              rw [h1, h2, h3, h4] at h
              exact ⟨nbeq h1, tyIs_some h2, fun e => (by rw [e] at h3; cases h3), fun e => (by rw [e] at h4; simp at h4), ihb h⟩
  | unit => intro o fs h; cases fs with
    | nil => trivial
    | cons _ _ => cases h
  | _ => intro o fs h; cases fs <;> cases h
def descB (P : Program) (tab : Tab) (t : TypeId) (ty : Ty) : Bool := match P.underlying t, ty with
  | some (.int k), .int k' => kbeq k k'
  | some .bool, .bool => true
  | some .string, .str => true
  | some (.slice el), .slice e => tyIs (tab el) e
  | some (.struct fs), .prod a b => fieldsB tab (.prod a b) 0 fs.toList
  | some (.struct fs), .unit => fieldsB tab .unit 0 fs.toList
  | _, _ => false
theorem descB_spec {P : Program} {tab : Tab} {t : TypeId} {ty : Ty} (h : descB P tab t ty = true) : DescOk P tab t ty := by
  unfold descB at h
  split at h
  · rename_i h1; rw [k_of_beq h] at h1; exact h1
  · rename_i h1; exact h1
  · rename_i h1; exact h1
  · rename_i h1; exact ⟨_, h1, tyIs_some h⟩
  · rename_i h1; exact ⟨_, h1, fieldsB_spec h⟩
  · rename_i h1; exact ⟨_, h1, fieldsB_spec h⟩
  · cases h
def infoB (P : Program) (t : TypeId) (ty : Ty) : Bool := match P.info? t with
  | some i => match i.zero with
    | some z => cnd (Nat.beq i.size ty.size) (cnd (Nat.ble i.bytes 4096) (zeroB ty z) false) false
    | none => false
  | none => false
theorem infoB_spec {P : Program} {t : TypeId} {ty : Ty} (h : infoB P t ty = true) : ∃ i, P.info? t = some i ∧ i.size = ty.size ∧ i.zero = some (wrapV ty (zeroCells ty)) ∧ i.bytes ≤ 4096 := by
  unfold infoB at h
  split at h
  · rename_i i h1
    split at h
    · rename_i z h2
      cases h3 : Nat.beq i.size ty.size with
      | false => rw [h3] at h; cases h
      | true =>
        cases h4 : Nat.ble i.bytes 4096 with
        | false => rw [h3, h4] at h; cases h
        | true =>
          rw [h3, h4] at h
          exact ⟨i, h1, nbeq h3, by rw [h2, zeroB_spec h], Nat.le_of_ble_eq_true h4⟩
    · cases h
  · cases h
def cmpB (P : Program) (t : TypeId) (ty : Ty) : Bool := cnd (isProd ty) (cnd (P.stoodInHeld t) false (cnd (P.eqGuardType P.depth t) false true)) true
theorem cmpB_spec {P : Program} {t : TypeId} {ty : Ty} (h : cmpB P t ty = true) : isProd ty = true → P.stoodInHeld t = false ∧ P.eqGuardType P.depth t = false := by
  intro hp
  unfold cmpB at h
  rw [hp] at h
  cases h1 : P.stoodInHeld t with
  | true => rw [h1] at h; cases h
  | false =>
    cases h2 : P.eqGuardType P.depth t with
    | true => rw [h1, h2] at h; cases h
    | false => exact ⟨rfl, rfl⟩
def tabB (P : Program) (tab : Tab) : List (Nat × Ty) → Bool
  | [] => true
  | (t, ty) :: l => cnd (infoB P t ty) (cnd (descB P tab t ty) (cnd (cmpB P t ty) (tabB P tab l) false) false) false
theorem tabB_mem {P : Program} {tab : Tab} : ∀ {l : List (Nat × Ty)}, tabB P tab l = true → ∀ t ty, (t, ty) ∈ l → TyOk P tab t ty
  | [], _, _, _, h => by cases h
  | (u, uy) :: l, h, t, ty, hm => by
    simp only [tabB] at h
    cases h1 : infoB P u uy with
    | false => rw [h1] at h; cases h
    | true =>
      cases h2 : descB P tab u uy with
      | false => rw [h1, h2] at h; cases h
      | true =>
        cases h3 : cmpB P u uy with
        | false => rw [h1, h2, h3] at h; cases h
        | true =>
          rw [h1, h2, h3] at h
          rcases List.mem_cons.1 hm with he | hm
          · injection he with e1 e2; subst e1; subst e2
            exact ⟨infoB_spec h1, descB_spec h2, cmpB_spec h3⟩
          · exact tabB_mem h t ty hm
theorem tabOk_of {P : Program} {l : List (Nat × Ty)} (h : tabB P (lookT l) l = true) : TabOk P (lookT l) := fun t ty ht => tabB_mem h t ty (lookT_mem ht)

/-! ### functions that are called -/
theorem gam_nil {P : Program} : GamOk P (fun _ => none) := fun f s h => by cases h
theorem gam_cons {P : Program} {G : Gam} {f : FuncId} {s : Sig} (h : FnOk P f s) (hG : GamOk P G) : GamOk P (fun g => cnd (Nat.beq g f) (some s) (G g)) := by
  intro g t hg
  have hg : cnd (Nat.beq g f) (some s) (G g) = some t := hg
  cases hq : Nat.beq g f with
  | true => rw [hq] at hg; injection hg with hg; subst hg; rw [nbeq hq]; exact h
  | false => rw [hq] at hg; exact hG g t hg

theorem fn_okP {P : Program} {tab : Tab} {G : Gam} (hT : TabOk P tab) (hG : GamOk P G) (hm : P.follows .mixedOrders = true) {f : FuncId} {fn : Func} {c : Code} (hf : P.funcs[f]? = some fn) (hname : (fn.name == "runtime.NumGoroutine") = false) (hb : fn.body = some c)
    (s : Sig) (hop : s.opens = false) (hmu : s.muts = false) (hone : Nat.beq fn.results.toList.length 1 = s.one) {ann : Ann} {fuel : Nat} (hfn : ∀ x rd, evalFnP real tab G ann fuel fn s.aty s.rdty s.usesRd s.rty s.own x rd = s.fn x rd) (hfv : s.fv = none := by rfl) : FnOk P f s :=
  fn_ok hT hG hm hf hname hb s hop hmu hone (ann := ann) (fuel := fuel) (fun x rd r h => by rw [← evalFn_real, hfn]; exact h) hfv
theorem mut_okP {P : Program} {tab : Tab} {G : Gam} (hT : TabOk P tab) (hG : GamOk P G) (hm : P.follows .mixedOrders = true) {f : FuncId} {fn : Func} {c : Code} (hf : P.funcs[f]? = some fn) (hname : (fn.name == "runtime.NumGoroutine") = false) (hb : fn.body = some c)
    (b rdty rty : Ty) (one : Bool) (g : (Ty.prod .unit b).val → rdty.val → Option (rty.val × rdty.val)) (hone : Nat.beq fn.results.toList.length 1 = one) {ann : Ann} {fuel : Nat} (hfn : ∀ x rd, evalMutP real tab G ann fuel fn b rdty rty x rd = g ((), x) rd) :
    FnOk P f { aty := .prod .unit b, rdty := rdty, usesRd := true, rty := rty, one := one, own := [], opens := false, muts := true, fn := g } :=
  mut_ok hT hG hm hf hname hb b rdty rty one g hone (ann := ann) (fuel := fuel) fun x rd r h => by rw [← evalMut_real, hfn]; exact h
theorem fn_none {P : Program} {f : FuncId} {fn : Func} {c : Code} (hf : P.funcs[f]? = some fn) (hname : (fn.name == "runtime.NumGoroutine") = false) (hb : fn.body = some c) (s : Sig) (h : ∀ x rd, s.fn x rd = none) : FnOk P f s := by
  refine ⟨fun args w => ?_, fun _ _ _ x rd r hr => (by rw [h] at hr; cases hr), fun _ _ _ _ _ x rd r hr => (by rw [h] at hr; cases hr), fun _ _ x rd r hr => (by rw [h] at hr; cases hr), fun _ _ _ _ x rd r hr => (by rw [h] at hr; cases hr), fun _ _ _ x rd r hr => (by rw [h] at hr; cases hr)⟩
  have h1 : fn.name ≠ "runtime.NumGoroutine" := by simpa using hname
  simp [callFunc, hf, h1, hb]

/-! ### arguments -/
def InR : (t : Ty) → t.val → Prop
  | .int k, x => (Lit.int k x).wf = true
  | .prod a b, x => InR a x.1 ∧ InR b x.2
  | .slice t, xs => List.length (α := t.val) xs ≤ maxLen ∧ ∀ x, x ∈ (show List t.val from xs) → InR t x
  | .str, xs => List.length (α := UInt8) xs ≤ maxLen
  | _, _ => True
def Ty.rank : Ty → Nat
  | .prod a b => a.rank + b.rank + 1
  | .slice t => t.rank + 1
  | _ => 1
/-- no list of nothings -/
def posB : Ty → Bool
  | .prod a b => cnd (posB a) (posB b) false
  | .slice t => cnd (Nat.beq t.size 0) false (posB t)
  | _ => true

section
variable {P : Program} {tab : Tab} {H : Type} {enc : TypeId × Value → H} {w : World} {base : Nat} {spare : Nat → Bool} {held : Bool}
theorem cellsOf_ok {t : TypeId} {ty : Ty} (h : TyOk P tab t ty) : P.cellsOf t = ty.size := by
  obtain ⟨i, h1, h2, _⟩ := h.info
  simp [Program.cellsOf, h1, h2]
theorem trod_rep (hT : TabOk P tab) : ∀ {ty : Ty} {t : TypeId} {n : Nat} {cs : List Value} {x : DataW H × List MemPlace}, DescOk P tab t ty → P.cellsOf t = ty.size → posB ty = true → DataW.trod enc P w base spare held n t cs = some x → ∃ y : ty.val, CRep w (fun _ => none) ty y cs ∧ InR ty y := by
  intro ty
  have fields : ∀ {ty : Ty} {o : Nat} {fs : List Field} {n : Nat} {cs : List Value} {xs : List (DataW H × List MemPlace)} (_ : ∀ {u : Ty} {v : TypeId} {m : Nat} {ds : List Value} {z : DataW H × List MemPlace}, u.rank < ty.rank → DescOk P tab v u → P.cellsOf v = u.size → posB u = true → DataW.trod enc P w base spare held m v ds = some z → ∃ y : u.val, CRep w (fun _ => none) u y ds ∧ InR u y),
      FieldsOk tab ty o fs → posB ty = true → cs.length = o + ty.size → (∀ (i : Nat) (f : Field), fs[i]? = some f → DataW.trod enc P w base spare held n f.type ((cs.drop f.offset).take (P.cellsOf f.type)) = xs[i]?) → xs.length = fs.length →
      ∃ y : ty.val, CRep w (fun _ => none) ty y (cs.drop o) ∧ InR ty y := by
    intro ty
    induction ty with
    | prod a b _ ihb =>
      intro o fs n cs xs ih hf hp hl hx hxl
      cases fs with
      | nil => exact hf.elim
      | cons f fs =>
        obtain ⟨h1, h2, h3, h4, h5⟩ := hf
        have hp' : posB a = true ∧ posB b = true := by
          simp only [posB] at hp
          cases hq : posB a with
          | false => rw [hq] at hp; cases hp
          | true => rw [hq] at hp; exact ⟨rfl, hp⟩
        have hta := hT _ _ h2
        cases xs with
        | nil => simp at hxl
        | cons x0 xs =>
          have h0 := hx 0 f rfl
          rw [h1, cellsOf_ok hta] at h0
          obtain ⟨y1, c1, r1⟩ := ih (u := a) (by simp only [Ty.rank]; omega) hta.desc (cellsOf_ok hta) hp'.1 (h0.trans rfl)
          have hsz : cs.length = (o + a.size) + b.size := by rw [hl]; simp [Ty.size]; omega
          obtain ⟨y2, c2, r2⟩ := ihb (o := o + a.size) (fs := fs) (n := n) (cs := cs) (xs := xs) (fun hlt => ih (by simp only [Ty.rank]; omega)) h5 hp'.2 hsz (fun i g hg => by have := hx (i + 1) g (by simpa using hg); simpa using this) (by simpa using hxl)
          refine ⟨(y1, y2), ⟨_, _, ?_, c1, c2⟩, r1, r2⟩
          rw [← List.drop_drop]
          exact (List.take_append_drop _ _).symm
    | unit =>
      intro o fs n cs xs ih hf hp hl hx hxl
      refine ⟨(), ?_, trivial⟩
      simp only [CRep]
      rw [List.drop_eq_nil_iff]; simp [Ty.size] at hl; omega
    | _ => intro o fs n cs xs ih hf; cases fs <;> exact hf.elim
  -- by the type's size
  have main : ∀ (k : Nat) (ty : Ty), ty.rank < k → ∀ {t : TypeId} {n : Nat} {cs : List Value} {x : DataW H × List MemPlace}, DescOk P tab t ty → P.cellsOf t = ty.size → posB ty = true → DataW.trod enc P w base spare held n t cs = some x → ∃ y : ty.val, CRep w (fun _ => none) ty y cs ∧ InR ty y := by
    intro k
    induction k with
    | zero => intro ty h; omega
    | succ k ih =>
      intro ty hk t n cs x hd hc hp h
      have str : ∀ {ty : Ty} (_ : ty.rank < k + 1) (_ : P.cellsOf t = ty.size) (_ : posB ty = true), (∃ fs, P.underlying t = some (.struct fs) ∧ FieldsOk tab ty 0 fs.toList) → ∃ y : ty.val, CRep w (fun _ => none) ty y cs ∧ InR ty y := by
        intro ty hk hc hp ⟨fs, h1, h2⟩
        obtain ⟨xs, m, _, _, hl, hxl, hf⟩ := DataW.trod_struct h1 h
        have := fields (ty := ty) (o := 0) (fs := fs.toList) (n := m) (cs := cs) (xs := xs) (fun hlt => ih _ (by omega)) h2 hp (by rw [hl, hc]; omega) (fun i f hi => hf i f (by simpa using hi)) (by simpa using hxl)
        simpa using this
      cases ty with
      | int kd =>
        obtain ⟨m, h1, _, h2⟩ := DataW.trod_int hd h
        subst h1
        exact ⟨m, rfl, h2⟩
      | bool =>
        obtain ⟨b, h1, _⟩ := DataW.trod_bool hd h
        subst h1
        exact ⟨b, rfl, trivial⟩
      | str =>
        obtain ⟨s, h1, _, h2⟩ := DataW.trod_string hd h
        subst h1
        exact ⟨s.data.toList, rfl, (by show s.data.toList.length ≤ _; rw [Array.length_toList]; exact h2)⟩
      | unit => exact str hk hc hp hd
      | prod a b => exact str hk hc hp hd
      | slice e =>
        obtain ⟨el, h1, h2⟩ := hd
        have hte := hT _ _ h2
        have hce := cellsOf_ok hte
        have hp' : e.size ≠ 0 ∧ posB e = true := by
          simp only [posB] at hp
          cases hq : Nat.beq e.size 0 with
          | true => rw [hq] at hp; cases hp
          | false => rw [hq] at hp; exact ⟨fun e => (by rw [e] at hq; cases hq), hp⟩
        rcases DataW.trod_slice h1 h with ⟨rfl, _⟩ | ⟨a, len, cap, elems, rest, m, _, rfl, _, hb, hl, hm, hlen, hel, _, _⟩
        · exact ⟨([] : List e.val), ⟨none, 0, rfl, Nat.le_refl _, .inl rfl⟩, Nat.zero_le _, fun x hx => by cases hx⟩
        · have each : ∀ i, i < len → ∃ (y : e.val) (ds : List Value), CRep w (fun _ => none) e y ds ∧ InR e y ∧ w.cells? base (a.add (i * e.size)) e.size = some ds := by
            intro i hi
            have := hel i hi
            rw [hce] at this
            cases hq : w.cells? base (a.add (i * e.size)) e.size with
            | none => rw [hq] at this; simp at this; omega
            | some ds =>
              rw [hq] at this
              simp only [Option.bind_some] at this
              have hi' : i < elems.length := by omega
              rw [List.getElem?_eq_getElem hi'] at this
              obtain ⟨y, k1, k2⟩ := ih e (by simp only [Ty.rank] at hk; omega) hte.desc hce hp'.2 this
              exact ⟨y, ds, k1, k2, rfl⟩
          obtain ⟨ys, hyl, hys⟩ : ∃ ys : List e.val, ys.length = len ∧ ∀ i y, ys[i]? = some y → ∃ ds : List Value, CRep w (fun _ => none) e y ds ∧ InR e y ∧ w.cells? base (a.add (i * e.size)) e.size = some ds := by
            have : ∀ j, j ≤ len → ∃ ys : List e.val, ys.length = j ∧ ∀ i y, ys[i]? = some y → ∃ ds : List Value, CRep w (fun _ => none) e y ds ∧ InR e y ∧ w.cells? base (a.add (i * e.size)) e.size = some ds := by
              intro j
              induction j with
              | zero => intro _; exact ⟨[], rfl, fun i y hi => by simp at hi⟩
              | succ j ihj =>
                intro hj
                obtain ⟨ys, k1, k2⟩ := ihj (by omega)
                obtain ⟨y, ds, k3, k4, k5⟩ := each j (by omega)
                refine ⟨ys ++ [y], by simp [k1], fun i z hi => ?_⟩
                by_cases hij : i < ys.length
                · rw [List.getElem?_append_left hij] at hi; exact k2 i z hi
                · have hi2 : i = j := by
                    have := (List.getElem?_eq_some_iff.1 hi).1
                    simp at this; omega
                  subst hi2
                  rw [List.getElem?_append_right (by omega)] at hi
                  simp [k1] at hi
                  subst hi
                  exact ⟨ds, k3, k4, k5⟩
            exact this len (Nat.le_refl _)
          refine ⟨ys, ⟨some a, cap, by rw [hyl], by rw [hyl]; exact hl, ?_⟩, by show List.length (α := e.val) ys ≤ maxLen; omega, fun y hy => ?_⟩
          · by_cases hnil : ys = []
            · exact .inl hnil
            · -- the first element's first cell
              have hlen0 : 0 < len := by rw [← hyl]; exact List.length_pos_iff.2 hnil
              have cellAt : ∀ i, i < len → ∀ j, j < e.size → ∃ v, w.cell? ((a.add (i * e.size)).add j) = some v := by
                intro i hi j hj
                obtain ⟨y, ds, k1, _, k3⟩ := each i hi
                obtain ⟨_, m2, m3⟩ := World.cells?_some k3
                have : j < ds.length := by omega
                exact ⟨ds[j], (m3 j hj).trans (List.getElem?_eq_getElem this)⟩
              obtain ⟨v0, hv0⟩ := cellAt 0 hlen0 0 (Nat.pos_of_ne_zero hp'.1)
              have ha0 : (a.add (0 * e.size)).add 0 = a := by simp [Addr.add]
              rw [ha0] at hv0
              have hspot : a.spot = none := by
                unfold World.cell? at hv0
                split at hv0
                · split at hv0
                  · cases hv0
                  · rename_i hq; cases hs : a.spot with
                    | none => rfl
                    | some _ => rw [hs] at hq; simp at hq
                · cases hv0
              have hblk : a.block < w.heap.size := by
                unfold World.cell? at hv0
                split at hv0
                · rename_i hq; exact (Array.getElem?_eq_some_iff.1 hq).1
                · cases hv0
              obtain ⟨ab, ao, asp⟩ := a
              simp only at hspot hblk
              subst hspot
              refine .inr ⟨ab, ao, rfl, hblk, fun m hm => (by cases hm), fun i y hi => ?_⟩
              obtain ⟨ds, k1, k2, k3⟩ := hys i y hi
              refine ⟨ds, k1, fun j v hj => ?_⟩
              obtain ⟨_, m2, m3⟩ := World.cells?_some k3
              have hjl := (List.getElem?_eq_some_iff.1 hj).1
              have := (m3 j (by omega)).trans hj
              have hadd : ((⟨ab, ao, none⟩ : Addr).add (i * e.size)).add j = ⟨ab, ao + i * e.size + j, none⟩ := by
                unfold Addr.add
                split <;> split <;> simp_all <;> omega
              rw [hadd] at this
              exact this
          · obtain ⟨i, hi⟩ := List.getElem?_of_mem hy
            obtain ⟨ds, _, k2, _⟩ := hys i y hi
            exact k2
  intro t n cs x
  exact main (ty.rank + 1) ty (Nat.lt_succ_self _)

/-- an argument, read -/
theorem arg_rep (hT : TabOk P tab) {base2 : Nat} {t : TypeId} {ty : Ty} (ht : tab t = some ty) (hp : posB ty = true) {v : Value} {d : DataW H} {ps : List MemPlace} (hok : Value.okWide P w .any base2 t v) (h : DataW.Trod enc P w base spare held t v d ps) :
    ∃ x : ty.val, TRep w (fun _ => none) ty x v ∧ InR ty x := by
  obtain ⟨n, hn⟩ := h
  have hty := hT _ _ ht
  obtain ⟨y, h1, h2⟩ := trod_rep hT hty.desc (cellsOf_ok hty) hp hn
  refine ⟨y, ⟨_, h1, ?_⟩, h2⟩
  have hd := hty.desc
  cases ty with
  | int k => obtain ⟨m, rfl⟩ := WideShapes.okWide_int hd hok; rfl
  | bool => obtain ⟨m, rfl⟩ := WideShapes.okWide_bool hd hok; rfl
  | str => obtain ⟨m, rfl⟩ := WideShapes.okWide_string hd hok; rfl
  | slice e => obtain ⟨el, hd, _⟩ := hd; obtain ⟨a, l, c, rfl⟩ := WideShapes.okWide_slice hd hok; rfl
  | unit => obtain ⟨fs, hd, _⟩ := hd; obtain ⟨cs, rfl, _⟩ := WideShapes.okWide_struct hd hok; simp [wrapV, Value.cells]
  | prod a b => obtain ⟨fs, hd, _⟩ := hd; obtain ⟨cs, rfl, _⟩ := WideShapes.okWide_struct hd hok; simp [wrapV, Value.cells]

/-- A LAW THAT ANSWERS TRUE: its call. -/
theorem law_calls {f : FuncId} {aty : Ty} {fn : aty.val → Ty.unit.val → Option ((Ty.prod .bool .unit).val × Ty.unit.val)} (hF : FnOk P f { aty := aty, rdty := .unit, usesRd := false, rty := .prod .bool .unit, one := true, own := [], opens := false, fn := fn })
    {x : aty.val} (hx : fn x () = some ((true, ()), ())) {vals : List Value} {W : World} (ha : ArgsRep W (fun _ => none) none aty x vals) :
    Calls P f vals.toArray W (fun e W' => e = .returned (.bool true) ∧ Go.RowKit.Below W.heap.size W W') := by
  refine (hF.calls rfl rfl rfl x () _ hx W (fun _ => none) none vals ha ⟨fun h => (by cases h), fun _ => rfl⟩).mono fun e W' h => ?_
  obtain ⟨v, lim', rfl, h1, _, h2, _⟩ := h
  have : v = .bool true := bool_rep (st := st00) h2
  subst this
  exact ⟨rfl, (Go.RowKit.Below.refl _ _).grown h1 (Nat.le_refl _) (fun k hk => by cases hk)⟩
end
end Go.Den

namespace Go.Den
set_option linter.unusedVariables false
set_option linter.unusedSectionVars false

def EnvOk (a : Act) (n : Nat) (L : List (Nat × Value)) : Prop := a.defers = [] ∧ a.tmps.size = n ∧ ∀ t v, L.lookup t = some v → tmpOf a t = v
theorem EnvOk.get {a : Act} {n : Nat} {L : List (Nat × Value)} (h : EnvOk a n L) {t : Nat} {v : Value} (hl : L.lookup t = some v) : a.eval (.tmp t) = v := h.2.2 t v hl
theorem EnvOk.put {a : Act} {n : Nat} {L : List (Nat × Value)} (h : EnvOk a n L) {d : Nat} (hd : d < n) (v : Value) : EnvOk (a.put (some d) v) n ((d, v) :: L) := by
  refine ⟨h.1, by simp [Act.put, h.2.1], fun t u hl => ?_⟩
  by_cases e : t = d
  · subst e
    rw [tmpOf_put_eq (by rw [h.2.1]; exact hd)]
    simp [List.lookup] at hl
    exact hl
  · rw [tmpOf_put_ne (fun e' => e (by injection e' with e'; exact e'.symm))]
    have : (t == d) = false := by simpa using e
    simp only [List.lookup, this] at hl
    exact h.2.2 t u hl

/-- a region's operations, one after the other -/
def wpE (P : Program) (n : Nat) (K : List (Nat × Value) → World → Prop) : List (Nat × Op × TypeId) → List (Nat × Value) → World → Prop
  | [], L, w => K L w
  | (d, op, ty) :: rest, L, w => d < n ∧ ∃ v w', (∀ (a : Act) (o : Oper), EnvOk a n L → o.op = op → o.type = ty → (execOp a.eval o).run P w = .ok (.value v) w') ∧ wpE P n K rest ((d, v) :: L) w'

section
variable {P : Program} {n : Nat}
theorem wpOps_E {ops : Array Oper} {K : List (Nat × Value) → World → Prop} {Q : Exit → Act → World → Prop} (hQ : ∀ a L w, EnvOk a n L → K L w → Q .normal a w) :
    ∀ (ks : List (Nat × Op × TypeId)) (j : Nat), (ops.toList.drop j).map (fun o => (o.dst, o.op, o.type, o.guard)) = ks.map (fun k => (some k.1, k.2.1, k.2.2, none)) →
      ∀ a L w, EnvOk a n L → wpE P n K ks L w → wpOps P ops Q (List.range' j (ops.size - j)) a w := by
  intro ks
  induction ks with
  | nil =>
    intro j hk a L w he h
    have : (ops.toList.drop j).length = 0 := by rw [← List.length_map (f := fun o : Oper => (o.dst, o.op, o.type, o.guard)), hk]; rfl
    rw [List.length_drop, Array.length_toList] at this
    rw [this]
    exact hQ a L w he h
  | cons k ks ih =>
    intro j hk a L w he h
    obtain ⟨d, op, ty⟩ := k
    obtain ⟨hd, v, w', hx, hr⟩ := h
    cases hdr : ops.toList.drop j with
    | nil => rw [hdr] at hk; cases hk
    | cons o rest =>
      rw [hdr] at hk
      simp only [List.map_cons, List.cons.injEq, Prod.mk.injEq] at hk
      obtain ⟨⟨k1, k2, k3, k4⟩, hk⟩ := hk
      have hlt : j < ops.size := by
        have := congrArg List.length hdr
        rw [List.length_drop, Array.length_toList, List.length_cons] at this
        omega
      have ho : ops[j]? = some o := by
        have : (ops.toList.drop j)[0]? = some o := by rw [hdr]; rfl
        rw [List.getElem?_drop, Nat.add_zero, Array.getElem?_toList] at this
        exact this
      have hrest : rest = ops.toList.drop (j + 1) := by
        rw [← List.drop_drop, hdr]; rfl
      rw [show ops.size - j = (ops.size - (j + 1)) + 1 by omega, List.range'_succ]
      simp only [wpOps, ho, Region.wanted, k4, if_true]
      refine .inl ?_
      unfold Oper.wp
      rw [hx a o he k2 k3, Oper.upon_value, k1]
      exact ih (j + 1) (by rw [← hrest]; exact hk) _ _ _ (he.put hd v) hr
theorem region_E {id : Nat} {ops : Array Oper} {K : List (Nat × Value) → World → Prop} {Q : Exit → Act → World → Prop} (ks : List (Nat × Op × TypeId))
    (hk : ops.toList.map (fun o => (o.dst, o.op, o.type, o.guard)) = ks.map (fun k => (some k.1, k.2.1, k.2.2, none))) {a : Act} {L : List (Nat × Value)} {w : World}
    (he : EnvOk a n L) (h : wpE P n K ks L w) (hQ : ∀ a L w, EnvOk a n L → K L w → Q .normal a w) : (Code.region id ops false).wp P Q a w := by
  refine wp_region ?_
  rw [List.range_eq_range']
  exact wpOps_E hQ ks 0 hk a L w he h
end

/-- a list given away, as its cells -/
structure Cut (w : World) (e : Ty) (xs : List e.val) (B : Nat → Prop) (b : Option Addr) (cc : Nat) (L : List Value) (Bs : Nat → Nat → Prop) : Prop where
  cap : xs.length ≤ cc
  len : L.length = xs.length * e.size
  cells : xs.length = 0 ∨ ∃ g, b = some ⟨g, 0, none⟩ ∧ g < w.heap.size ∧ ∀ k v, L[k]? = some v → w.cell? ⟨g, k, none⟩ = some v
  old : ∀ i h, Bs i h → B h ∧ h < w.heap.size
  one : ∀ i j h, Bs i h → Bs j h → i = j
  el : ∀ (i : Nat) (x : e.val), xs[i]? = some x → ∃ ds, XRep w e x ds (Bs i) ∧ ∀ j v, ds[j]? = some v → L[i * e.size + j]? = some v
  flat : ∀ v ∈ L, notAgg v

theorem XRep.flatCells {w : World} {t : Ty} {x : t.val} {cs : List Value} {B : Nat → Prop} (h : XRep w t x cs B) : ∀ v ∈ cs, notAgg v :=
  (h.crep (lim := fun _ => none) (fun _ _ => rfl)).cells

theorem cut_of {w : World} {e : Ty} {xs : List e.val} {cs : List Value} {B : Nat → Prop} (hX : XRep w (.slice e) xs cs B) :
    ∃ b cc L Bs, cs = [.slice b xs.length cc] ∧ Cut w e xs B b cc L Bs := by
  have hlt := hX.lt
  rcases hX with ⟨h1, h2, h3⟩ | ⟨g, c, arr, el, fr, Bs, h1, h2, h3, h4, h5, h6, h7, h8, h9⟩
  · have h2 : xs.length = 0 := h2
    refine ⟨none, 0, [], fun _ _ => False, by rw [h1, h2], by omega, by rw [h2]; simp, .inl h2, fun _ _ hf => hf.elim, fun _ _ _ hf => hf.elim, fun i x hx => ?_, fun v hv => by simp at hv⟩
    have := (List.getElem?_eq_some_iff.1 hx).1
    omega
  · have h2 : xs.length ≤ c := h2
    have hfit : xs.length * e.size ≤ arr.size := Nat.le_trans (Nat.mul_le_mul_right _ h2) h3
    have hg : g < w.heap.size := (Array.getElem?_eq_some_iff.1 h4).1
    have hal : arr.toList.length = arr.size := Array.length_toList
    have hget : ∀ k, k < xs.length * e.size → (arr.toList.take (xs.length * e.size))[k]? = arr[k]? := fun k hk => by
      rw [List.getElem?_take_of_lt hk, Array.getElem?_toList]
    refine ⟨some ⟨g, 0, none⟩, c, arr.toList.take (xs.length * e.size), Bs, h1, h2, by rw [List.length_take, hal]; omega, .inr ⟨g, rfl, hg, fun k v hv => ?_⟩, fun i h hb => ⟨(h6 h).2 (.inr ⟨i, hb⟩), hlt h ((h6 h).2 (.inr ⟨i, hb⟩))⟩, h8, fun i x hx => ?_, fun v hv => ?_⟩
    · have hk : k < xs.length * e.size := by have := (List.getElem?_eq_some_iff.1 hv).1; rw [List.length_take] at this; omega
      rw [hget k hk] at hv
      simp only [World.cell?, h4, Option.isSome_none, Bool.false_eq_true, if_false]
      exact hv
    · obtain ⟨ds, k1, k2⟩ := h9 i x hx
      refine ⟨ds, k1, fun j v hv => ?_⟩
      have hi := (List.getElem?_eq_some_iff.1 hx).1
      have hj := (List.getElem?_eq_some_iff.1 hv).1
      rw [k1.length] at hj
      have hm : (i + 1) * e.size ≤ xs.length * e.size := Nat.mul_le_mul_right _ hi
      rw [Nat.succ_mul] at hm
      rw [hget _ (by omega)]
      exact k2 j v hv
    · obtain ⟨k, hk, rfl⟩ := List.getElem_of_mem hv
      rw [List.length_take, hal] at hk
      by_cases hs : e.size = 0
      · rw [hs] at hk; omega
      · have hs : 0 < e.size := Nat.pos_of_ne_zero hs
        have hi : k / e.size < xs.length := (Nat.div_lt_iff_lt_mul hs).2 (by omega)
        obtain ⟨ds, k1, k2⟩ := h9 (k / e.size) _ (List.getElem?_eq_getElem hi)
        have hj : k % e.size < ds.length := by rw [k1.length]; exact Nat.mod_lt _ hs
        have := k2 _ _ (List.getElem?_eq_getElem hj)
        have hkk : k / e.size * e.size + k % e.size = k := by rw [Nat.mul_comm]; exact Nat.div_add_mod _ _
        rw [hkk] at this
        have hv' : (arr.toList.take (xs.length * e.size))[k] = ds[k % e.size] := by
          have h0 := hget k (by omega)
          rw [this, List.getElem?_eq_getElem (by rw [List.length_take, hal]; omega)] at h0
          injection h0
        rw [hv']
        exact k1.flatCells _ (List.getElem_mem hj)

section
variable {P : Program} {tab : Tab} {a : Act} {o : Oper} {w : World} {t ti el : TypeId} {e : Ty}
theorem ex_move {x : Operand} {v : Value} (ho : o.op = .move x) (hv : a.eval x = v) : (execOp a.eval o).run P w = .ok (.value v) w := by
  simp [execOp, ho, hv]
theorem ex_assign {x : Operand} {v : Value} (ho : o.op = .assign x) (hv : a.eval x = v) : (execOp a.eval o).run P w = .ok (.value v) w := by
  simp [execOp, ho, hv]
theorem ex_len (h1 : P.underlying t = some (.slice el)) {x : Operand} {b : Option Addr} {m cc : Nat} (ho : o.op = .call { callee := .builtin .len, args := #[x], argTypes := #[t] }) (hv : a.eval x = .slice b m cc) :
    (execOp a.eval o).run P w = .ok (.value (.int .i64 m)) w := by
  simp [execOp, ho, resolve, invoke, builtin, Builtin.len_, underlying, h1, hv, goInt]
theorem ex_int {op : BinOp} {x y : Operand} {p q r : Int} (ho : o.op = .binOp op ti x y ti) (hx : a.eval x = .int .i64 p) (hy : a.eval y = .int .i64 q) (hi : intOp op .i64 p q = some (none, .dat (.int .i64) r)) :
    (execOp a.eval o).run P w = .ok (.value (.int .i64 r)) w := by
  obtain ⟨v, k1, k2, k3⟩ := run_intOp (P := P) (w := w) (st := st00) (lim := fun _ => none) (β := mp0) (rb := none) (xt := ti) (ox := x) (oy := y) hi rfl
  obtain ⟨cs, k4, k5⟩ := k3
  have k4 : cs = [.int .i64 r] := k4
  have k5 : v = .int .i64 r := by rw [k5, k4]; rfl
  subst k5
  simp [execOp, ho, hx, hy, k1, k2]
theorem ex_make (h1 : P.underlying t = some (.slice el)) (h2 : TyOk P tab el e) {x : Operand} {c : Nat} (ho : o.op = .makeSlice t (.const (.int .i64 0)) x) (hx : a.eval x = .int .i64 (c : Int)) (hb : c < 4294967296) :
    (execOp a.eval o).run P w = .ok (.value (.slice (some ⟨w.heap.size, 0, none⟩) 0 c)) (w.alloc (.cells (madeCells (zeroCells e).toArray (c * e.size)) el)) := by
  obtain ⟨i, hi1, hi2, hi3, hi4⟩ := h2.info
  have hzc : (wrapV e (zeroCells e)).cells = (zeroCells e).toArray := wrapV_cells (zero_rep w (fun _ => none) e)
  have hbb : (i.bytes : Int) * (c : Int) ≤ 281474976710656 := by
    have e1 : (i.bytes : Int) * (c : Int) ≤ 4096 * (c : Int) := Int.mul_le_mul_of_nonneg_right (by omega) (by omega)
    omega
  have hrun := run_make (P := P) w t el i (wrapV e (zeroCells e)) h1 hi1 hi3 .i64 .i64 0 (c : Int) (Int.le_refl _) (by omega) hbb (by omega)
  have h0 : a.eval (.const (.int .i64 0)) = .int .i64 0 := rfl
  simp only [execOp, ho, Sem.run_bind, h0, hx, hrun, Result.andThen_ok, Sem.run_pure, hi2, hzc]
  simp
theorem ex_slice (h1 : P.underlying t = some (.slice el)) {x : Operand} {lo hi : Option Operand} {b : Option Addr} {m cc : Nat} {r : Value} (ho : o.op = .slice t x lo hi none) (hv : a.eval x = .slice b m cc)
    (hu : (Instr.slice t (.slice b m cc) (lo.map a.eval) (hi.map a.eval) none).run P w = .ok r w) : (execOp a.eval o).run P w = .ok (.value r) w := by
  simp only [execOp, ho, Instr.sliceAt, Sem.run_bind, underlying, run_program, h1, Result.andThen_ok, Sem.run_pure, Option.map_none, hv]
  simp only [hu, Result.andThen_ok]
theorem ex_append {x y : Operand} {r : Value} {w2 : World} (ho : o.op = .call { callee := .builtin .append, args := #[x, y], argTypes := #[t, t] }) (hr : (Builtin.append_ #[t, t] o.type #[a.eval x, a.eval y]).run P w = .ok r w2) :
    (execOp a.eval o).run P w = .ok (.value r) w2 := by
  have e0 : (#[x, y] : Array Operand).map a.eval = #[a.eval x, a.eval y] := by simp
  simp only [execOp, ho, resolve, Sem.run_bind, Sem.run_pure, Result.andThen_ok, invoke, builtin, e0, hr]
theorem first_raw {s k cc : Nat} {b : Option Addr} {L : List Value} (hl : L.length = k * s) (hc : k = 0 ∨ ∃ g oo, b = some ⟨g, oo, none⟩ ∧ ∀ j v, L[j]? = some v → w.cell? ⟨g, oo + j, none⟩ = some v) :
    (Builtin.firstCells s k (.slice b k cc)).run P w = .ok L.toArray w := by
  rcases hc with hc | ⟨g, oo, rfl, hc⟩
  · subst hc
    have : L = [] := List.eq_nil_of_length_eq_zero (by simpa using hl)
    subst this
    cases b <;> simp [Builtin.firstCells, loadCells, loadCellsFrom]
  · exact run_firstCells_some w s k ⟨g, oo, none⟩ k cc L hl (fun j v hv => by rw [addr_add]; exact hc j v hv)
end

def apC (t : TypeId) (x y : Nat) : Op := .call { callee := .builtin .append, args := #[.tmp x, .tmp y], argTypes := #[t, t] }
def lnC (t : TypeId) (x : Nat) : Op := .call { callee := .builtin .len, args := #[.tmp x], argTypes := #[t] }
def ks0 (t : TypeId) : List (Nat × Op × TypeId) := [(8, .assign (.const (.slice none 0 0)), t)]
def ks1 (t ti : TypeId) : List (Nat × Op × TypeId) := [(10, .move (.tmp 0), t), (11, lnC t 10, ti), (12, .move (.tmp 2), ti), (13, .binOp .sub ti (.tmp 11) (.tmp 12) ti, ti), (14, .move (.tmp 3), t), (15, lnC t 14, ti),
  (16, .binOp .add ti (.tmp 13) (.tmp 15) ti, ti), (17, .makeSlice t (.const (.int .i64 0)) (.tmp 16), t), (9, .assign (.tmp 17), t)]
def ks2 (t ti : TypeId) : List (Nat × Op × TypeId) := [(18, .move (.tmp 9), t), (19, .move (.tmp 0), t), (20, .move (.tmp 1), ti), (21, .slice t (.tmp 19) none (some (.tmp 20)) none, t), (22, apC t 18 21, t), (9, .assign (.tmp 22), t)]
def ks3 (t : TypeId) : List (Nat × Op × TypeId) := [(23, .move (.tmp 9), t), (24, .move (.tmp 3), t), (25, apC t 23 24, t), (9, .assign (.tmp 25), t)]
def ks4 (t ti : TypeId) : List (Nat × Op × TypeId) := [(26, .move (.tmp 9), t), (27, .move (.tmp 0), t), (28, .move (.tmp 1), ti), (29, .move (.tmp 2), ti), (30, .binOp .add ti (.tmp 28) (.tmp 29) ti, ti),
  (31, .slice t (.tmp 27) (some (.tmp 30)) none none, t), (32, apC t 26 31, t), (8, .assign (.tmp 32), t)]
def keyO (o : Oper) : Option Tmp × Op × TypeId × Option (Nat × Bool) := (o.dst, o.op, o.type, o.guard)
def keyK (k : Nat × Op × TypeId) : Option Tmp × Op × TypeId × Option (Nat × Bool) := (some k.1, k.2.1, k.2.2, none)

theorem wpE_cons {P : Program} {n : Nat} {K : List (Nat × Value) → World → Prop} {d : Nat} {op : Op} {ty : TypeId} {rest : List (Nat × Op × TypeId)} {L : List (Nat × Value)} {w : World} (hd : d < n) {v : Value} {w' : World}
    (hx : ∀ (a : Act) (o : Oper), EnvOk a n L → o.op = op → o.type = ty → (execOp a.eval o).run P w = .ok (.value v) w') (hr : wpE P n K rest ((d, v) :: L) w') : wpE P n K ((d, op, ty) :: rest) L w := ⟨hd, v, w', hx, hr⟩
theorem wpE_nil {P : Program} {n : Nat} {K : List (Nat × Value) → World → Prop} {L : List (Nat × Value)} {w : World} (h : K L w) : wpE P n K [] L w := h

section
variable {P : Program} {tab : Tab}
theorem replaced_walk (hT : TabOk P tab) {t ti : TypeId} {e : Ty} (ht : tab t = some (.slice e)) {f : FuncId} {fn : Func} {i0 i1 i2 i3 i4 : Nat} {o0 o1 o2 o3 o4 : Array Oper} (hf : P.funcs[f]? = some fn)
    (hb : fn.body = some (.seq (.region i0 o0 false) (.seq (.region i1 o1 false) (.seq (.region i2 o2 false) (.seq (.region i3 o3 false) (.seq (.region i4 o4 false) .ret))))))
    (hk0 : o0.toList.map keyO = (ks0 t).map keyK) (hk1 : o1.toList.map keyO = (ks1 t ti).map keyK) (hk2 : o2.toList.map keyO = (ks2 t ti).map keyK) (hk3 : o3.toList.map keyO = (ks3 t).map keyK) (hk4 : o4.toList.map keyO = (ks4 t ti).map keyK)
    (hres : fn.results = #[.tmp 8]) (hn : fn.ntmps = 33) {w : World} {xs : List e.val} {B : Nat → Prop} {b : Option Addr} {cc : Nat} {L : List Value} {Bs : Nat → Nat → Prop} (C : Cut w e xs B b cc L Bs)
    {p m : Nat} (hpm : p + m ≤ xs.length) (hbig : xs.length < 4294967296) {bb : Option Addr} {cb : Nat} :
    Calls P f #[.slice b xs.length cc, .int .i64 (p : Int), .int .i64 (m : Int), .slice bb 0 cb] w (fun e' w' => ∃ arr el, e' = .returned (.slice (some ⟨w.heap.size, 0, none⟩) (xs.length - m) (xs.length - m)) ∧
      w'.os = w.os ∧ w'.tape = w.tape ∧ w'.output = w.output ∧ w.heap.size ≤ w'.heap.size ∧ (∀ k, k < w.heap.size → w'.heap[k]? = w.heap[k]?) ∧ w'.heap[w.heap.size]? = some (.cells arr el (0, 0)) ∧
      arr.toList = L.take (p * e.size) ++ L.drop ((p + m) * e.size)) := by
  obtain ⟨el, h1, h2⟩ := elemTy hT ht
  have hcap := C.cap
  have hlen := C.len
  -- the new block
  have hZ : (madeCells (zeroCells e).toArray ((xs.length - m) * e.size)).toList.length = (xs.length - m) * e.size := by
    rw [Array.length_toList, size_madeCells]
  have hZs : (madeCells (zeroCells e).toArray ((xs.length - m) * e.size)).size = (xs.length - m) * e.size := size_madeCells _ _
  generalize hZd : madeCells (zeroCells e).toArray ((xs.length - m) * e.size) = Z at hZ hZs
  have hps : p * e.size ≤ (xs.length - m) * e.size := Nat.mul_le_mul_right _ (by omega)
  have hpL : p * e.size ≤ L.length := by rw [hlen]; exact Nat.mul_le_mul_right _ (by omega)
  have hq : (p + m) * e.size ≤ L.length := by rw [hlen]; exact Nat.mul_le_mul_right _ hpm
  have hsum : (xs.length - (p + m)) * e.size + p * e.size = (xs.length - m) * e.size := by rw [← Nat.add_mul]; congr 1; omega
  have hsum2 : (xs.length - (p + m)) * e.size + (p + m) * e.size = xs.length * e.size := by rw [← Nat.add_mul]; congr 1; omega
  let w1 : World := w.alloc (.cells Z el)
  have hw1 : w1.heap[w.heap.size]? = some (.cells Z el (0, 0)) := alloc_new _
  -- the first part
  have cut1 := run_cut_slice (P := P) (w := w1) (b := b) h1 h2 (m := xs.length) (cc := cc) (l := 0) (r := (p : Int)) (lo := none) (hi := some (.int .i64 (p : Int))) (Int.le_refl _) (by omega) (by omega) hcap (.inr ⟨rfl, rfl⟩) (.inl ⟨.i64, rfl⟩)
  have c1at : ∀ {w2 : World}, (∀ k, k < w.heap.size → w2.heap[k]? = w.heap[k]?) → ∀ {q : Nat}, p = 0 ∨ ∃ g oo, (if cc = (0 : Int).toNat then b else b.map (·.add ((0 : Int).toNat * e.size))) = some ⟨g, oo, none⟩ ∧ ∀ j v, (L.take (p * e.size))[j]? = some v → w2.cell? ⟨g, oo + j, none⟩ = some v := by
    intro w2 hk q
    by_cases hp : p = 0
    · exact .inl hp
    · right
      rcases C.cells with h0 | ⟨g, rfl, hg, hc⟩
      · omega
      · refine ⟨g, 0, ?_, fun j v hv => ?_⟩
        · split
          · rfl
          · simp [addr_add]
        · have hj := (List.getElem?_eq_some_iff.1 hv).1
          rw [List.length_take] at hj
          rw [List.getElem?_take_of_lt (by omega)] at hv
          rw [Nat.zero_add]
          exact (World.cell?_of_block (hk g hg)).trans (hc j v hv)
  have hk1' : ∀ k, k < w.heap.size → w1.heap[k]? = w.heap[k]? := fun k hk => alloc_old _ hk
  have new1 := first_raw (P := P) (w := w1) (s := e.size) (k := p) (cc := cc - (0 : Int).toNat) (L := L.take (p * e.size)) (by rw [List.length_take]; omega) (c1at hk1' (q := 0))
  obtain ⟨w2, r2, W2⟩ := run_append_at_room (P := P) (w := w1) (ty := t) h1 h2 (g := w.heap.size) (s := 0) (sc := xs.length - m) (m := p) (c1 := []) (c2 := Z.toList.take (p * e.size)) (c3 := Z.toList.drop (p * e.size)) (arr := Z) (el' := el) (fr := (0, 0))
    new1 (by omega) hw1 (by simp) (by simp) (by rw [List.length_take, List.length_take, hZ]; omega) (fun v hv => C.flat v (List.mem_of_mem_take hv)) (fun k _ hk => by simp at hk)
  rw [Nat.zero_add] at r2
  -- nothing
  have new2 := first_raw (P := P) (w := w2) (s := e.size) (k := 0) (cc := cb) (b := bb) (L := []) (by simp) (.inl rfl)
  obtain ⟨w3, r3, W3⟩ := run_append_at_room (P := P) (w := w2) (ty := t) h1 h2 (g := w.heap.size) (s := p) (sc := xs.length - m) (m := 0) (c1 := L.take (p * e.size)) (c2 := []) (c3 := Z.toList.drop (p * e.size)) (fr := (0, 0))
    new2 (by omega) W2.at_ (by simp) (by rw [List.length_take]; omega) rfl (fun v hv => by simp at hv) (fun k _ hk => by simp at hk)
  rw [Nat.add_zero] at r3
  -- the other part
  have cut2 := run_cut_slice (P := P) (w := w3) (b := b) h1 h2 (m := xs.length) (cc := cc) (l := ((p + m : Nat) : Int)) (r := (xs.length : Int)) (lo := some (.int .i64 ((p + m : Nat) : Int))) (hi := none) (by omega) (by omega) (Int.le_refl _) hcap (.inl ⟨.i64, rfl⟩) (.inr ⟨rfl, rfl⟩)
  rw [Int.toNat_natCast, Int.toNat_natCast] at cut2
  have hk3' : ∀ k, k < w.heap.size → w3.heap[k]? = w.heap[k]? := fun k hk => (W3.other k (by omega)).trans ((W2.other k (by omega)).trans (hk1' k hk))
  have c2at : xs.length - (p + m) = 0 ∨ ∃ g oo, (if cc = p + m then b else b.map (·.add ((p + m) * e.size))) = some ⟨g, oo, none⟩ ∧ ∀ j v, (L.drop ((p + m) * e.size))[j]? = some v → w3.cell? ⟨g, oo + j, none⟩ = some v := by
    by_cases hp : xs.length - (p + m) = 0
    · exact .inl hp
    · right
      rcases C.cells with h0 | ⟨g, rfl, hg, hc⟩
      · omega
      · refine ⟨g, (p + m) * e.size, ?_, fun j v hv => ?_⟩
        · rw [if_neg (by omega)]; simp [addr_add]
        · rw [List.getElem?_drop] at hv
          exact (World.cell?_of_block (hk3' g hg)).trans (hc _ v hv)
  have new3 := first_raw (P := P) (w := w3) (s := e.size) (k := xs.length - (p + m)) (cc := cc - (p + m)) (L := L.drop ((p + m) * e.size)) (by rw [List.length_drop]; omega) c2at
  have hZd2 : (Z.toList.drop (p * e.size)).length = (L.drop ((p + m) * e.size)).length := by rw [List.length_drop, List.length_drop, hZ]; omega
  obtain ⟨w4, r4, W4⟩ := run_append_at_room (P := P) (w := w3) (ty := t) h1 h2 (g := w.heap.size) (s := p) (sc := xs.length - m) (m := xs.length - (p + m)) (c1 := L.take (p * e.size)) (c2 := Z.toList.drop (p * e.size)) (c3 := []) (fr := (0, 0))
    new3 (by omega) W3.at_ (by simp) (by rw [List.length_take]; omega) hZd2 (fun v hv => C.flat v (List.mem_of_mem_drop hv)) (fun k _ hk => by simp at hk)
  rw [show p + (xs.length - (p + m)) = xs.length - m by omega] at r4
  have i1' : intOp .sub .i64 (xs.length : Int) (m : Int) = some (none, .dat (.int .i64) (((xs.length - m : Nat) : Int))) := by
    have : wrapI .i64 (subI (xs.length : Int) (m : Int)) = ((xs.length - m : Nat) : Int) := by
      unfold wrapI subI; rw [IntKind.wrap_i64]; omega
    simp only [intOp, this]
  have i2' : intOp .add .i64 ((xs.length - m : Nat) : Int) ((0 : Nat) : Int) = some (none, .dat (.int .i64) (((xs.length - m : Nat) : Int))) := by
    have : wrapI .i64 (addI ((xs.length - m : Nat) : Int) ((0 : Nat) : Int)) = ((xs.length - m : Nat) : Int) := by
      unfold wrapI addI; rw [IntKind.wrap_i64]; omega
    simp only [intOp, this]
  have i3' : intOp .add .i64 (p : Int) (m : Int) = some (none, .dat (.int .i64) (((p + m : Nat) : Int))) := by
    have : wrapI .i64 (addI (p : Int) (m : Int)) = ((p + m : Nat) : Int) := by
      unfold wrapI addI; rw [IntKind.wrap_i64]; omega
    simp only [intOp, this]
  have mk := fun (a : Act) (o : Oper) (x : Operand) (ho : o.op = .makeSlice t (.const (.int .i64 0)) x) (hx : a.eval x = .int .i64 ((xs.length - m : Nat) : Int)) => ex_make (P := P) (w := w) h1 h2 ho hx (by omega)
  rw [hZd] at mk
  have hend : ∀ L' w', (L' : List (Nat × Value)).lookup 8 = some (Value.slice (some ⟨w.heap.size, 0, none⟩) (xs.length - m) (xs.length - m)) ∧ w' = w4 → ∀ a', EnvOk a' 33 L' → bodyPost P fn (fun e' w' => ∃ arr el, e' = .returned (.slice (some ⟨w.heap.size, 0, none⟩) (xs.length - m) (xs.length - m)) ∧
      w'.os = w.os ∧ w'.tape = w.tape ∧ w'.output = w.output ∧ w.heap.size ≤ w'.heap.size ∧ (∀ k, k < w.heap.size → w'.heap[k]? = w.heap[k]?) ∧ w'.heap[w.heap.size]? = some (.cells arr el (0, 0)) ∧
      arr.toList = L.take (p * e.size) ++ L.drop ((p + m) * e.size)) .ret a' w' := by
    rintro L' w' ⟨hl, rfl⟩ a' he
    refine ⟨he.1, _, ?_, _, _, rfl, W4.os.trans (W3.os.trans W2.os), W4.tape.trans (W3.tape.trans W2.tape), W4.output.trans (W3.output.trans W2.output), ?_, fun k hk => (W4.other k (by omega)).trans (hk3' k hk), W4.at_, by simp⟩
    · have h8 : a'.tmps.getD 8 undef = _ := he.get hl
      have h8' : a'.tmps[8]? = some (Value.slice (some ⟨w.heap.size, 0, none⟩) (xs.length - m) (xs.length - m)) := by
        have hs : 8 < a'.tmps.size := by rw [he.2.1]; decide
        rw [Array.getElem?_eq_getElem hs]
        rw [Array.getD_eq_getD_getElem?, Array.getElem?_eq_getElem hs] at h8
        simpa using h8
      unfold results
      rw [hres]
      simp [h8']
    · rw [W4.size, W3.size, W2.size]; simp [w1]
  have henv : EnvOk { tmps := #[Value.slice b xs.length cc, .int .i64 (p : Int), .int .i64 (m : Int), .slice bb 0 cb] ++ Array.replicate (fn.ntmps - (#[Value.slice b xs.length cc, .int .i64 (p : Int), .int .i64 (m : Int), .slice bb 0 cb] : Array Value).size) undef, defers := [] } 33
      [(0, Value.slice b xs.length cc), (1, .int .i64 (p : Int)), (2, .int .i64 (m : Int)), (3, .slice bb 0 cb)] := by
    refine ⟨rfl, by simp [hn], fun t' v hl => ?_⟩
    rcases t' with _ | _ | _ | _ | t' <;> simp [List.lookup] at hl <;> subst hl <;> simp [tmpOf, Array.getD_eq_getD_getElem?, Array.getElem?_append]
  refine calls_of_wp hf hb (wp_seq (region_E (ks0 t) hk0 henv (K := fun L w => wpE P 33 (fun L w => wpE P 33 (fun L w => wpE P 33 (fun L w => wpE P 33 (fun L' w' => L'.lookup 8 = some (Value.slice (some ⟨_, 0, none⟩) (xs.length - m) (xs.length - m)) ∧ w' = w4) (ks4 t ti) L w) (ks3 t) L w) (ks2 t ti) L w) (ks1 t ti) L w) ?_
    fun a L w he h => wp_seq (region_E (ks1 t ti) hk1 he h fun a L w he h => wp_seq (region_E (ks2 t ti) hk2 he h fun a L w he h => wp_seq (region_E (ks3 t) hk3 he h fun a L w he h => wp_seq (region_E (ks4 t ti) hk4 he h fun a L w he h => wp_ret (hend L w h a he)))))))
  refine wpE_cons (by decide) (fun a o he ho _ => ex_assign ho rfl) (wpE_nil ?_)
  refine wpE_cons (by decide) (fun a o he ho _ => ex_move ho (he.get (t := 0) rfl)) ?_
  refine wpE_cons (by decide) (fun a o he ho _ => ex_len h1 ho (he.get (t := 10) rfl)) ?_
  refine wpE_cons (by decide) (fun a o he ho _ => ex_move ho (he.get (t := 2) rfl)) ?_
  refine wpE_cons (by decide) (fun a o he ho _ => ex_int ho (he.get (t := 11) rfl) (he.get (t := 12) rfl) i1') ?_
  refine wpE_cons (by decide) (fun a o he ho _ => ex_move ho (he.get (t := 3) rfl)) ?_
  refine wpE_cons (by decide) (fun a o he ho _ => ex_len h1 ho (he.get (t := 14) rfl)) ?_
  refine wpE_cons (by decide) (fun a o he ho _ => ex_int ho (he.get (t := 13) rfl) (he.get (t := 15) rfl) i2') ?_
  refine wpE_cons (by decide) (fun a o he ho _ => mk a o _ ho (he.get (t := 16) rfl)) ?_
  refine wpE_cons (by decide) (fun a o he ho _ => ex_assign ho (he.get (t := 17) rfl)) (wpE_nil ?_)
  refine wpE_cons (by decide) (fun a o he ho _ => ex_move ho (he.get (t := 9) rfl)) ?_
  refine wpE_cons (by decide) (fun a o he ho _ => ex_move ho (he.get (t := 0) rfl)) ?_
  refine wpE_cons (by decide) (fun a o he ho _ => ex_move ho (he.get (t := 1) rfl)) ?_
  refine wpE_cons (by decide) (fun a o he ho _ => ex_slice h1 ho (he.get (t := 19) rfl) (by rw [Option.map_none, Option.map_some, he.get (t := 20) rfl]; exact cut1)) ?_
  refine wpE_cons (by decide) (fun a o he ho hty => ex_append ho (by rw [hty, he.get (t := 18) rfl, he.get (t := 21) rfl]; exact r2)) ?_
  refine wpE_cons (by decide) (fun a o he ho _ => ex_assign ho (he.get (t := 22) rfl)) (wpE_nil ?_)
  refine wpE_cons (by decide) (fun a o he ho _ => ex_move ho (he.get (t := 9) rfl)) ?_
  refine wpE_cons (by decide) (fun a o he ho _ => ex_move ho (he.get (t := 3) rfl)) ?_
  refine wpE_cons (by decide) (fun a o he ho hty => ex_append ho (by rw [hty, he.get (t := 23) rfl, he.get (t := 24) rfl]; exact r3)) ?_
  refine wpE_cons (by decide) (fun a o he ho _ => ex_assign ho (he.get (t := 25) rfl)) (wpE_nil ?_)
  refine wpE_cons (by decide) (fun a o he ho _ => ex_move ho (he.get (t := 9) rfl)) ?_
  refine wpE_cons (by decide) (fun a o he ho _ => ex_move ho (he.get (t := 0) rfl)) ?_
  refine wpE_cons (by decide) (fun a o he ho _ => ex_move ho (he.get (t := 1) rfl)) ?_
  refine wpE_cons (by decide) (fun a o he ho _ => ex_move ho (he.get (t := 2) rfl)) ?_
  refine wpE_cons (by decide) (fun a o he ho _ => ex_int ho (he.get (t := 28) rfl) (he.get (t := 29) rfl) i3') ?_
  refine wpE_cons (by decide) (fun a o he ho _ => ex_slice h1 ho (he.get (t := 27) rfl) (by rw [Option.map_none, Option.map_some, he.get (t := 30) rfl]; exact cut2)) ?_
  refine wpE_cons (by decide) (fun a o he ho hty => ex_append ho (by rw [hty, he.get (t := 26) rfl, he.get (t := 31) rfl]; exact r4)) ?_
  refine wpE_cons (by decide) (fun a o he ho _ => ex_assign ho (he.get (t := 32) rfl)) (wpE_nil ?_)
  exact ⟨rfl, rfl⟩

theorem cut_tree {w w' : World} {e : Ty} {xs : List e.val} {B : Nat → Prop} {b : Option Addr} {cc : Nat} {L : List Value} {Bs : Nat → Nat → Prop} (C : Cut w e xs B b cc L Bs) {p m : Nat} (hpm : p + m ≤ xs.length)
    (hk : ∀ k, k < w.heap.size → w'.heap[k]? = w.heap[k]?) {arr : Array Value} {el : TypeId} (hat : w'.heap[w.heap.size]? = some (.cells arr el (0, 0))) (hl : arr.toList = L.take (p * e.size) ++ L.drop ((p + m) * e.size)) :
    ∃ B', XRep w' (.slice e) (xs.take p ++ xs.drop (p + m)) [.slice (some ⟨w.heap.size, 0, none⟩) (xs.length - m) (xs.length - m)] B' ∧ ∀ g, B' g → w.heap.size ≤ g ∨ B g := by
  have hlen := C.len
  have hys : (xs.take p ++ xs.drop (p + m)).length = xs.length - m := by rw [List.length_append, List.length_take, List.length_drop]; omega
  have hpL : p * e.size ≤ L.length := by rw [hlen]; exact Nat.mul_le_mul_right _ (by omega)
  have hq : (p + m) * e.size ≤ L.length := by rw [hlen]; exact Nat.mul_le_mul_right _ hpm
  have hal : arr.toList.length = arr.size := Array.length_toList
  have hsum : (xs.length - (p + m)) * e.size + p * e.size = (xs.length - m) * e.size := by rw [← Nat.add_mul]; congr 1; omega
  have hsum2 : (xs.length - (p + m)) * e.size + (p + m) * e.size = xs.length * e.size := by rw [← Nat.add_mul]; congr 1; omega
  have hsz : arr.size = (xs.length - m) * e.size := by
    rw [← hal, hl, List.length_append, List.length_take, List.length_drop]; omega
  refine ⟨fun h => h = w.heap.size ∨ ∃ i, (if i < p then Bs i h else Bs (i + m) h) ∧ i < xs.length - m, .inr ⟨w.heap.size, xs.length - m, arr, el, (0, 0), fun i h => (if i < p then Bs i h else Bs (i + m) h) ∧ i < xs.length - m,
    by rw [show List.length (α := e.val) (xs.take p ++ xs.drop (p + m)) = xs.length - m from hys], Nat.le_of_eq hys, Nat.le_of_eq hsz.symm, hat, fun o _ hk => by simp at hk, fun h => Iff.rfl, fun i h hb => ⟨?_, ?_⟩, fun i j h hb hb' => ?_, fun i x hx => ?_⟩, ?_⟩
  · rw [show List.length (α := e.val) (xs.take p ++ xs.drop (p + m)) = xs.length - m from hys]; exact hb.2
  · have : h < w.heap.size := by
      have := hb.1
      split at this
      · exact (C.old _ _ this).2
      · exact (C.old _ _ this).2
    omega
  · have h1 := hb.1
    have h2 := hb'.1
    split at h1 <;> split at h2
    · exact C.one _ _ _ h1 h2
    · have := C.one _ _ _ h1 h2; omega
    · have := C.one _ _ _ h1 h2; omega
    · have := C.one _ _ _ h1 h2; omega
  · have hx : (xs.take p ++ xs.drop (p + m))[i]? = some x := hx
    have hi : i < xs.length - m := by rw [← hys]; exact (List.getElem?_eq_some_iff.1 hx).1
    have keep : ∀ {j : Nat} {ds : List Value}, XRep w e x ds (Bs j) → XRep w' e x ds (Bs j) := fun h => h.keep fun g hg => hk g (C.old _ _ hg).2
    by_cases hip : i < p
    · rw [List.getElem?_append_left (by rw [List.length_take]; omega), List.getElem?_take_of_lt hip] at hx
      obtain ⟨ds, k1, k2⟩ := C.el i x hx
      refine ⟨ds, (keep k1).congr fun g => ?_, fun j v hv => ?_⟩
      · simp [hip, hi]
      · have hj := (List.getElem?_eq_some_iff.1 hv).1
        rw [k1.length] at hj
        have hm : (i + 1) * e.size ≤ p * e.size := Nat.mul_le_mul_right _ hip
        rw [Nat.succ_mul] at hm
        rw [← Array.getElem?_toList, hl, List.getElem?_append_left (by rw [List.length_take]; omega), List.getElem?_take_of_lt (by omega)]
        exact k2 j v hv
    · have hpl : (xs.take p).length = p := by rw [List.length_take]; omega
      rw [List.getElem?_append_right (by omega), hpl, List.getElem?_drop, show p + m + (i - p) = i + m by omega] at hx
      obtain ⟨ds, k1, k2⟩ := C.el (i + m) x hx
      refine ⟨ds, (keep k1).congr fun g => ?_, fun j v hv => ?_⟩
      · simp [hip, hi]
      · have hm : p * e.size ≤ i * e.size := Nat.mul_le_mul_right _ (by omega)
        have e1 : (i + m) * e.size = i * e.size + m * e.size := Nat.add_mul _ _ _
        have e2 : (p + m) * e.size = p * e.size + m * e.size := Nat.add_mul _ _ _
        have htl : (L.take (p * e.size)).length = p * e.size := by rw [List.length_take]; omega
        rw [← Array.getElem?_toList, hl, List.getElem?_append_right (by omega), htl, List.getElem?_drop]
        have := k2 j v hv
        rw [show (p + m) * e.size + (i * e.size + j - p * e.size) = (i + m) * e.size + j by omega]
        exact this
  · rintro g (rfl | ⟨i, hb, _⟩)
    · exact .inl (Nat.le_refl _)
    · right
      split at hb
      · exact (C.old _ _ hb).1
      · exact (C.old _ _ hb).1

open Classical in
/-- a tree that is handed out as data, all of its slices owned -/
theorem tree_out {w w' : World} {lim : Lim} {e : Ty} {ys : List e.val} {a : Option Addr} {k c : Nat} {B B' : Nat → Prop} (hX : XRep w' (.slice e) ys [.slice a k c] B') (hB : ∀ g, B' g → w.heap.size ≤ g ∨ B g)
    (hos : w'.os = w.os) (htp : w'.tape = w.tape) (hout : w'.output = w.output) (hsz : w.heap.size ≤ w'.heap.size) (hk : ∀ k, k < w.heap.size → w'.heap[k]? = w.heap[k]?)
    (hns : noSl e = false) (hft : flatT e = true) {s : Sig} (hr : s.rty = .prod (.slice e) .unit) (ho : s.one = true) (hw : s.own = [[0], [0, 0]]) (r : s.rty.val × s.rdty.val) (hrv : HEq r.1 ((ys, ()) : (Ty.prod (.slice e) .unit).val)) :
    ConsOk w lim s r B (.returned (.slice a k c)) w' := by
  obtain ⟨aty, rdty, usesRd, rty, one, own, opens, muts, fv, fn⟩ := s
  simp only at hr ho hw
  subst hr; subst ho; subst hw
  obtain ⟨r1, r2⟩ := r
  have hrv : r1 = ((ys, ()) : (Ty.prod (.slice e) .unit).val) := eq_of_heq hrv
  subst hrv
  let lim' : Lim := fun g => if h : ∃ k', SeenIn w' (.slice e) [.slice a k c] g k' then some h.choose else lim g
  have hl : ∀ g k', SeenIn w' (.slice e) [.slice a k c] g k' → lim' g = some k' := fun g k' hs => by
    have hex : ∃ k', SeenIn w' (.slice e) [.slice a k c] g k' := ⟨k', hs⟩
    show (if h : _ then _ else _) = _
    rw [dif_pos hex, hX.seen_inj hex.choose_spec hs]
  refine ⟨_, lim', rfl, ⟨hos, htp, hout, hsz, fun i hi _ _ => hk i hi⟩, fun g hg hgB => ?_, ⟨_, hX.crep2 hl, rfl⟩, ?_, ?_⟩
  · show (if h : _ then _ else _) = _
    rw [dif_neg]
    rintro ⟨k', hs⟩
    rcases hB g (hX.seen_blk hs) with h1 | h1
    · omega
    · exact hgB h1
  · intro p hp
    have hp : p = [] ∨ p = [0] := by simpa [resOwn] using hp
    have base : ∀ g, B' g → (baseX w B).fr g := fun g hg => hB g hg
    rcases hp with rfl | rfl
    · obtain ⟨v, k1, k2⟩ := hX.ownT (p := []) (T := .slice e) hl base rfl rfl
      exact ⟨_, v, rfl, k1, k2⟩
    · obtain ⟨v, k1, k2⟩ := hX.ownT (p := [0]) (T := .prod (.slice e) .unit) hl base rfl rfl
      exact ⟨_, v, rfl, k1, k2⟩
  · intro p hp q hq T T' x y g hT hT' hx hy hg hg'
    have sp : ∀ {p}, p ∈ resOwn true [[0], [0, 0]] → p ∈ slicePaths (.slice e) := fun {p} hp => by
      have hp : p = [] ∨ p = [0] := by simpa [resOwn] using hp
      simp only [slicePaths, hns, hft, cnd_true, cnd_false]
      rcases hp with rfl | rfl <;> simp
    exact hX.sepT (sp hp) (sp hq) hT hT' hx hy hg hg'

theorem replaced_ok (hT : TabOk P tab) {f : FuncId} {fn : Func} (hf : P.funcs[f]? = some fn) (hname : (fn.name == "runtime.NumGoroutine") = false) {t ti : TypeId} {e : Ty} (ht : tab t = some (.slice e)) {i0 i1 i2 i3 i4 : Nat} {o0 o1 o2 o3 o4 : Array Oper}
    (hb : fn.body = some (.seq (.region i0 o0 false) (.seq (.region i1 o1 false) (.seq (.region i2 o2 false) (.seq (.region i3 o3 false) (.seq (.region i4 o4 false) .ret))))))
    (hk0 : o0.toList.map keyO = (ks0 t).map keyK) (hk1 : o1.toList.map keyO = (ks1 t ti).map keyK) (hk2 : o2.toList.map keyO = (ks2 t ti).map keyK) (hk3 : o3.toList.map keyO = (ks3 t).map keyK) (hk4 : o4.toList.map keyO = (ks4 t ti).map keyK)
    (hres : fn.results = #[.tmp 8]) (hn : fn.ntmps = 33) (hns : noSl e = false) (hft : flatT e = true)
    (g : (Ty.prod (.slice e) (.prod (.int .i64) (.prod (.int .i64) (.prod (.slice e) .unit)))).val → Ty.unit.val → Option ((Ty.prod (.slice e) .unit).val × Ty.unit.val))
    (hg : ∀ (xs : List e.val) (p m : Int) (ys : List e.val) rd r, g (xs, (p, (m, (ys, ())))) rd = some r → 0 ≤ p ∧ 0 ≤ m ∧ p + m ≤ xs.length ∧ (xs.length : Int) < 4294967296 ∧ ys.length = 0 ∧ r.1 = (xs.take p.toNat ++ xs.drop (p + m).toNat, ())) :
    FnOk P f { aty := .prod (.slice e) (.prod (.int .i64) (.prod (.int .i64) (.prod (.slice e) .unit))), rdty := .unit, usesRd := false, rty := .prod (.slice e) .unit, one := true, own := [[0], [0, 0]], opens := false, muts := true, fn := g } := by
  refine ⟨fun args w => ?_, fun _ _ h => (by cases h), fun g hg => (by cases hg), fun _ h => (by cases h), fun _ _ _ _ x rd r hr w lim vals B hargs hB => ?_, fun _ _ h => (by cases h)⟩
  · have h1 : fn.name ≠ "runtime.NumGoroutine" := by simpa using hname
    simp [callFunc, hf, h1, hb]
  · obtain ⟨xs, p, m, ys, u⟩ := x
    change List e.val at xs
    change Int at p
    change Int at m
    change List e.val at ys
    obtain ⟨q1, q2, q3, q4, q5, q6⟩ := hg xs p m ys rd r hr
    cases vals with
    | nil => exact hargs.elim
    | cons v0 vs =>
    obtain ⟨⟨cs, hv0, hX⟩, hrest⟩ := hargs
    cases vs with
    | nil => exact hrest.elim
    | cons v1 vs =>
    obtain ⟨h1, hrest⟩ := hrest
    cases vs with
    | nil => exact hrest.elim
    | cons v2 vs =>
    obtain ⟨h2, hrest⟩ := hrest
    cases vs with
    | nil => exact hrest.elim
    | cons v3 vs =>
    obtain ⟨h3, hrest⟩ := hrest
    cases vs with
    | cons v4 vs => exact hrest.elim
    | nil =>
    have int : ∀ {k : IntKind} {z : Int} {v : Value}, (((Ty.int k) ≠ .unit ∧ TRep w lim (.int k) z v) ∨ ((Ty.int k) = .unit ∧ ∃ g, (none : Option Nat) = some g ∧ v = .pointer (some ⟨g, 0, none⟩))) → v = .int k z := by
      rintro k z v (⟨_, cs, h1, h2⟩ | ⟨h1, _⟩)
      · have h1 : cs = [.int k z] := h1
        rw [h2, h1]; rfl
      · cases h1
    have e1 : v1 = .int .i64 p := int h1
    have e2 : v2 = .int .i64 m := int h2
    obtain ⟨bb, cb, e3⟩ : ∃ bb cb, v3 = .slice bb 0 cb := by
      rcases h3 with ⟨_, cs, k1, k2⟩ | ⟨k1, _⟩
      · obtain ⟨a, c, k3, _⟩ := k1
        have k3 : cs = [.slice a (List.length (α := e.val) ys) c] := k3
        exact ⟨a, c, by rw [k2, k3, q5]; rfl⟩
      · cases k1
    obtain ⟨b, cc, L, Bs, hcs, C⟩ := cut_of (xs := xs) hX
    have e0 : v0 = .slice b xs.length cc := by rw [hv0, hcs]; rfl
    subst e0; subst e1; subst e2; subst e3
    obtain ⟨p', rfl⟩ := Int.eq_ofNat_of_zero_le q1
    obtain ⟨m', rfl⟩ := Int.eq_ofNat_of_zero_le q2
    have hpm : p' + m' ≤ xs.length := by omega
    refine Calls.mono (replaced_walk hT ht hf hb hk0 hk1 hk2 hk3 hk4 hres hn C (p := p') (m := m') hpm (by omega) (bb := bb) (cb := cb)) fun e' w' hw => ?_
    obtain ⟨arr, el, rfl, w1, w2, w3, w4, w5, w6, w7⟩ := hw
    obtain ⟨B', hX', hB'⟩ := cut_tree C hpm w5 w6 w7
    refine tree_out hX' hB' w1 w2 w3 w4 w5 hns hft rfl rfl rfl r (heq_of_eq ?_)
    rw [q6]
    have t1 : (Int.ofNat p').toNat = p' := rfl
    have t2 : ((p' : Int) + (m' : Int)).toNat = p' + m' := by omega
    simp only [t1, t2, Int.ofNat_eq_natCast, Int.toNat_natCast]
    rfl
end
end Go.Den
