/- The relation under the kinds of steps: a value alone, a new box, a store, memory that has grown. -/
import Derived.Test.YtbfndjfjkkfaeaaXDenC
set_option linter.unusedVariables false
set_option linter.unusedSimpArgs false
namespace Go.Den
section
variable {w0 : Base} {lim0 : Lim} {rb : Option Nat} {n : Nat}

def typeAV (p : List Nat) : AV → Option Ty
  | .dat ty _ => typeAt ty p
  | .tup ty _ => typeAt ty p
  | _ => none
def partAV (v : Value) (p : List Nat) : AV → Option Value
  | .dat ty _ => (flatV v)[offs ty p]?
  | .tup ty _ => (flatV v)[offs ty p]?
  | _ => none
theorem locTy_tmp (st : St) (t : Tmp) (p : List Nat) : locTy st (.tmp t p) = typeAV p (st.env t).av := by
  simp only [locTy]; cases (st.env t).av <;> rfl
theorem locV_tmp (st : St) (a : Act) (w : World) (β : Mp) (t : Tmp) (p : List Nat) : locV st a w β (.tmp t p) = partAV (tmpOf a t) p (st.env t).av := by
  simp only [locV]; cases (st.env t).av <;> rfl

theorem apply_env_dst {st : St} {u : Upd} {d : Tmp} (h : u.dst = some d) : (apply st u).env d = u.ent := by
  simp [apply, isT_some.2 h]

theorem Sim.lt {st : St} {a : Act} {w : World} {lim : Lim} {β : Mp} (h : Sim w0 lim0 rb n st a w lim β) {l : Loc} {x : Value} {g : Nat}
    (ho : st.own l = true) (hx : locV st a w β l = some x) (hg : blockOf x = some g) : g < w.heap.size ∧ w0.heap.size ≤ g := by
  obtain ⟨e, y, _, h2, h3, _⟩ := h.own l ho
  rw [hx] at h2; injection h2 with h2; subst h2
  rcases h3 with h3 | ⟨b, m, c, arr, e', fr, h3, h4, h5, _⟩
  · rw [h3] at hg; cases hg
  · rw [h3] at hg; injection hg with hg; subst hg
    exact ⟨(Array.getElem?_eq_some_iff.1 h5).1, h4⟩

/-- a value is put, memory stays -/
theorem Sim.val {st : St} {a : Act} {w : World} {lim : Lim} {β : Mp} (h : Sim w0 lim0 rb n st a w lim β)
    (u : Upd) (v : Value) (hd : ∀ d, u.dst = some d → d < n) (hb : u.bw = none) (hr : u.rd = none)
    (hv : ERep st w lim β rb u.ent.av v) (src : List Nat → Loc)
    (hown : ∀ p ∈ u.own, ∃ e x, typeAV p u.ent.av = some (.slice e) ∧ partAV v p u.ent.av = some x ∧
      (x = .slice none 0 0 ∨ (src p ∈ u.takes ∧ st.own (src p) = true ∧ locV st a w β (src p) = some x ∧ locTy st (src p) = some (.slice e))))
    (hinj : ∀ p ∈ u.own, ∀ q ∈ u.own, src p = src q → p = q)
    (hto : ∀ l, u.ent.tag = some (true, l) → u.own = [])
    (htag : ∀ l, u.ent.tag = some (true, l) → st.own l = true → locV st a w β l = some v ∧ ∃ e x, u.ent.av = .dat (.slice e) x ∧ locTy st l = some (.slice e))
    (hxw : u.xw = none := by rfl) (hxbw : u.xbw = none := by rfl) :
    Sim w0 lim0 rb n (apply st u) (a.put u.dst v) w lim β := by
  have hbx : ∀ b, (apply st u).box b = st.box b := fun b => by simp [apply, hb]
  have hrd : (apply st u).rd = st.rd := by simp [apply, hr]
  have hnb : ∀ c d o q, u.bw ≠ some (c, d, o, q) := fun _ _ _ _ e => by rw [hb] at e; cases e
  have hiox : (apply st u).io = st.io := by simp [apply, hxw]
  have hxbx : (apply st u).xb = st.xb := by simp [apply, hxbw]
  have hio1 : ∀ r d, st.io r = some d → ∃ d', (apply st u).io r = some d' ∧ d'.1 = d.1 ∧ β.V r = β.V r := fun r d hr => ⟨d, by rw [hiox]; exact hr, rfl, rfl⟩
  have hxb1 : ∀ b t o, st.xb b = some (t, o) → (∃ o', (apply st u).xb b = some (t, o')) ∧ β.c b = β.c b := fun b t o hb' => ⟨⟨o, by rw [hxbx]; exact hb'⟩, rfl⟩
  have hv' : ERep (apply st u) w lim β rb u.ent.av v :=
    hv.mono (Ext.refl _ _) (fun b d hbd => ⟨rfl, d, (hbx b).trans hbd, rfl⟩) (fun d hd => ⟨d, hrd.trans hd, rfl⟩) hio1 hxb1
  have key : ∀ l, newOwn u l → ∃ d p, l = .tmp d p ∧ u.dst = some d ∧ p ∈ u.own := by
    intro l hl
    cases l with
    | tmp t p => exact ⟨t, p, rfl, hl.1, hl.2⟩
    | box b p => obtain ⟨d, o, q, he, _⟩ := hl; exact absurd he (hnb _ _ _ _)
  have look : ∀ d p, u.dst = some d → locTy (apply st u) (.tmp d p) = typeAV p u.ent.av ∧ locV (apply st u) (a.put u.dst v) w β (.tmp d p) = partAV v p u.ent.av := by
    intro d p hdd
    refine ⟨by rw [locTy_tmp, apply_env_dst hdd], ?_⟩
    rw [locV_tmp, apply_env_dst hdd, hdd, tmpOf_put_eq (by rw [h.size]; exact hd d hdd)]
  refine h.step u v w lim β hd (Ext.refl _ _) h.grow (fun _ _ => rfl) (fun _ _ _ => rfl) (fun _ _ => hv') (fun _ _ _ _ => ⟨rfl, rfl⟩) (fun _ _ _ _ _ _ => ⟨rfl, rfl⟩)
    (fun c d o q he => absurd he (hnb _ _ _ _)) ?_ ?_ ?_ (.inl ⟨hr, fun _ _ _ _ => ⟨rfl, rfl⟩⟩) hio1 hxb1 ?_
  · intro l hl
    obtain ⟨d, p, rfl, hdd, hp⟩ := key l hl
    obtain ⟨e, x, h1, h2, h3⟩ := hown p hp
    refine ⟨e, x, (look d p hdd).1.trans h1, (look d p hdd).2.trans h2, ?_, fun g hg => ?_⟩
    · rcases h3 with rfl | ⟨_, k2, k3, k4⟩
      · exact .inl rfl
      · obtain ⟨e', x', h4, h5, h6, _⟩ := h.own _ k2
        rw [k3] at h5; injection h5 with h5; subst h5
        rw [k4] at h4; injection h4 with h4; injection h4 with h4; subst h4
        exact h6
    · rcases h3 with rfl | ⟨k1, k2, k3, k4⟩
      · cases hg
      · obtain ⟨e', x', h4, h5, h6, h7⟩ := h.own _ k2
        rw [k3] at h5; injection h5 with h5; subst h5
        refine ⟨fun b d' hbd => h7 g hg b d' ((hbx b).symm.trans hbd), fun m y hm hy hgy => ?_⟩
        have := h.sep _ _ _ _ g k2 hm.1 k3 hy hg hgy
        rw [this] at k1
        exact hm.2.1 k1
  · intro l m x y g hl hm hx hy hgx hgy
    obtain ⟨d, p, rfl, hdd, hp⟩ := key l hl
    obtain ⟨d', q, rfl, hdd', hq⟩ := key m hm
    rw [hdd] at hdd'; injection hdd' with hdd'; subst hdd'
    rw [(look d p hdd).2] at hx
    rw [(look d q hdd).2] at hy
    obtain ⟨e, x', _, h2, h3⟩ := hown p hp
    obtain ⟨e2, y', _, h4, h5⟩ := hown q hq
    rw [hx] at h2; injection h2 with h2; subst h2
    rw [hy] at h4; injection h4 with h4; subst h4
    rcases h3 with rfl | ⟨_, k2, k3, _⟩
    · cases hgx
    · rcases h5 with rfl | ⟨_, k2', k3', _⟩
      · cases hgy
      · rw [hinj p hp q hq (h.sep _ _ _ _ g k2 k2' k3 k3' hgx hgy)]
  · intro d l hdd ht hl
    rcases own_apply hl with hn | hs
    · exfalso
      obtain ⟨d', p, rfl, hdd', hp⟩ := key l hn
      rw [hto _ ht] at hp; cases hp
    · have hne : ∀ t p, l = .tmp t p → u.dst ≠ some t := fun t p e => by subst e; exact hs.2.2
      obtain ⟨k1, e, x, k2, k3⟩ := htag l ht hs.1
      have : locTy (apply st u) l = locTy st l ∧ locV (apply st u) (a.put u.dst v) w β l = locV st a w β l := by
        cases l with
        | tmp t p =>
          have hne := hne t p rfl
          have hav : ((apply st u).env t).av = (st.env t).av := by simp [apply, isT_ne.2 hne]
          exact ⟨by simp only [locTy, hav], by simp only [locV, hav, tmpOf_put_ne hne]⟩
        | box b p => exact ⟨by simp only [locTy, hbx], by simp only [locV, hbx]⟩
      exact ⟨this.2.trans k1, e, x, k2, this.1.trans k3⟩
  · intro hst
    refine h.xs.keep hiox hxbx (fun _ _ _ => ⟨rfl, rfl⟩) (fun _ _ _ _ => rfl) (fun _ _ => ⟨rfl, rfl⟩) (fun b d hbd => h.xs.offb ((hbx b).symm.trans hbd)) (fun l y g hl hy hg => ?_)
    rcases own_apply hl with hn | hs
    · obtain ⟨d, p, rfl, hdd, hp⟩ := key l hn
      obtain ⟨e, x, h1, h2, h3⟩ := hown p hp
      rw [(look d p hdd).2, h2] at hy; injection hy with hy; subst hy
      rcases h3 with rfl | ⟨_, k2, k3, _⟩
      · cases hg
      · exact h.xs.off k2 k3 hg
    · rw [hst l hs] at hy
      exact h.xs.off hs.1 hy hg

/-! ### parts of a value -/
theorem cast_self (t : Ty) (z : t.val) : Ty.cast t t z = some z := by
  unfold Ty.cast; split
  · rfl
  · rename_i h; rw [Ty.beq_refl] at h; cases h
theorem cast_some {t u : Ty} {x : t.val} {y : u.val} (h : Ty.cast t u x = some y) : ∃ e : t = u, y = e ▸ x := by
  unfold Ty.cast at h; split at h
  · rename_i hb; injection h with h; exact ⟨Ty.of_beq hb, h.symm⟩
  · cases h
theorem typeAt_getP : ∀ {p : List Nat} {t : Ty} {x : t.val} {y : Dat}, getP t x p = some y → typeAt t p = some y.1
  | [], t, x, y, h => by simp [getP] at h; subst h; simp [typeAt]
  | i :: p, t, x, y, h => by
    simp only [getP] at h
    cases hf : getF t x i with
    | none => rw [hf] at h; cases h
    | some d =>
      rw [hf] at h
      have ih := typeAt_getP h
      have : ∀ {t : Ty} {x : t.val} {i : Nat} {d : Dat}, getF t x i = some d → typeAt t (i :: p) = typeAt d.1 p := by
        intro t
        induction t with
        | prod a b iha ihb =>
          intro x i d hf
          cases i with
          | zero => simp [getF] at hf; subst hf; simp [typeAt]
          | succ i => simp only [getF] at hf; simp only [typeAt]; exact ihb hf
        | int k => intro x i d hf; simp [getF] at hf
        | bool => intro x i d hf; simp [getF] at hf
        | str => intro x i d hf; simp [getF] at hf
        | unit => intro x i d hf; simp [getF] at hf
        | slice t => intro x i d hf; simp [getF] at hf
      rw [this hf]; exact ih

/-- a field's cells -/
theorem CRep.field {w : World} {lim : Lim} : ∀ {t : Ty} {x : t.val} {cs : List Value} {i : Nat} {d : Dat}, CRep w lim t x cs → getF t x i = some d →
    ∃ c1 c2 c3, cs = c1 ++ (c2 ++ c3) ∧ c1.length = offs t [i] ∧ CRep w lim d.1 d.2 c2 ∧
      ∀ (z : d.1.val) c2' x', CRep w lim d.1 z c2' → setF t x i ⟨d.1, z⟩ = some x' → CRep w lim t x' (c1 ++ (c2' ++ c3)) := by
  intro t
  induction t with
  | prod a b iha ihb =>
    intro x cs i d hc hf
    obtain ⟨c1, c2, rfl, h1, h2⟩ := hc
    cases i with
    | zero =>
      simp [getF] at hf; subst hf
      refine ⟨[], c1, c2, rfl, by simp [offs], h1, fun z c2' x' hz hs => ?_⟩
      have hs' : (Ty.cast a a z).map (fun z => (z, x.2)) = some x' := hs
      rw [cast_self] at hs'; injection hs' with hs'; subst hs'
      exact ⟨c2', c2, rfl, hz, h2⟩
    | succ i =>
      simp only [getF] at hf
      obtain ⟨k1, k2, k3, e, hl, hk, hset⟩ := ihb h2 hf
      refine ⟨c1 ++ k1, k2, k3, by rw [e]; simp, by simp [offs, h1.length, hl], hk, fun z c2' x' hz hs => ?_⟩
      have hs' : (setF b x.2 i ⟨d.1, z⟩).map (fun z => (x.1, z)) = some x' := hs
      cases hq : setF b x.2 i ⟨d.1, z⟩ with
      | none => rw [hq] at hs'; cases hs'
      | some y =>
        rw [hq] at hs'; injection hs' with hs'; subst hs'
        exact ⟨c1, k1 ++ (c2' ++ k3), by simp, h1, hset z c2' y hz hq⟩
  | int k => intro x cs i d _ hf; simp [getF] at hf
  | bool => intro x cs i d _ hf; simp [getF] at hf
  | str => intro x cs i d _ hf; simp [getF] at hf
  | unit => intro x cs i d _ hf; simp [getF] at hf
  | slice t => intro x cs i d _ hf; simp [getF] at hf

theorem getF_typeAt : ∀ {t : Ty} {x : t.val} {i : Nat} {d : Dat} (p : List Nat), getF t x i = some d → typeAt t (i :: p) = typeAt d.1 p ∧ offs t (i :: p) = offs t [i] + offs d.1 p := by
  intro t
  induction t with
  | prod a b iha ihb =>
    intro x i d p hf
    cases i with
    | zero => simp [getF] at hf; subst hf; simp [typeAt, offs]
    | succ i =>
      simp only [getF] at hf
      obtain ⟨h1, h2⟩ := ihb p hf
      exact ⟨by simp only [typeAt]; exact h1, by simp only [offs]; rw [h2]; omega⟩
  | int k => intro x i d p hf; simp [getF] at hf
  | bool => intro x i d p hf; simp [getF] at hf
  | str => intro x i d p hf; simp [getF] at hf
  | unit => intro x i d p hf; simp [getF] at hf
  | slice t => intro x i d p hf; simp [getF] at hf

theorem CRep.part {w : World} {lim : Lim} : ∀ {p : List Nat} {t : Ty} {x : t.val} {cs : List Value} {y : Dat}, CRep w lim t x cs → getP t x p = some y →
    ∃ c1 c2 c3, cs = c1 ++ (c2 ++ c3) ∧ c1.length = offs t p ∧ CRep w lim y.1 y.2 c2 ∧
      ∀ (z : y.1.val) c2' x', CRep w lim y.1 z c2' → setP t x p ⟨y.1, z⟩ = some x' → CRep w lim t x' (c1 ++ (c2' ++ c3))
  | [], t, x, cs, y, hc, hp => by
    simp [getP] at hp; subst hp
    refine ⟨[], cs, [], by simp, by simp [offs], hc, fun z c2' x' hz hs => ?_⟩
    simp only [setP] at hs
    rw [cast_self] at hs; injection hs with hs; subst hs
    simpa using hz
  | i :: p, t, x, cs, y, hc, hp => by
    simp only [getP] at hp
    cases hf : getF t x i with
    | none => rw [hf] at hp; cases hp
    | some d =>
      rw [hf] at hp
      obtain ⟨c1, c2, c3, rfl, hl, hd, hset⟩ := hc.field hf
      obtain ⟨k1, k2, k3, rfl, hl', hk, hset'⟩ := CRep.part hd hp
      refine ⟨c1 ++ k1, k2, k3 ++ c3, by simp, by rw [(getF_typeAt p hf).2]; simp [hl, hl'], hk, fun z c2' x' hz hs => ?_⟩
      simp only [setP, hf] at hs
      cases hq : setP d.1 d.2 p ⟨y.1, z⟩ with
      | none => rw [hq] at hs; cases hs
      | some r =>
        rw [hq] at hs
        have := hset r _ x' (hset' z c2' r hz hq) hs
        simpa using this

/-- the place of a slice lies in the value; a path beside another one leads beside its cells -/
theorem typeAt_lt : ∀ {t : Ty} {p : List Nat} {u : Ty}, typeAt t p = some u → offs t p + u.size ≤ t.size := by
  intro t
  induction t with
  | prod a b iha ihb =>
    intro p u h
    cases p with
    | nil => simp [typeAt] at h; subst h; simp [offs]
    | cons i p =>
      cases i with
      | zero => simp only [typeAt] at h; have := iha h; simp [offs, Ty.size]; omega
      | succ i => simp only [typeAt] at h; have := ihb h; simp [offs, Ty.size]; omega
  | int k => intro p u h; cases p <;> simp [typeAt] at h; subst h; simp [offs]
  | bool => intro p u h; cases p <;> simp [typeAt] at h; subst h; simp [offs]
  | str => intro p u h; cases p <;> simp [typeAt] at h; subst h; simp [offs]
  | unit => intro p u h; cases p <;> simp [typeAt] at h; subst h; simp [offs]
  | slice t => intro p u h; cases p <;> simp [typeAt] at h; subst h; simp [offs]
theorem beside : ∀ {t : Ty} {p q : List Nat} {u v : Ty}, typeAt t p = some u → typeAt t q = some v → pcomp p q = false →
    offs t p + u.size ≤ offs t q ∨ offs t q + v.size ≤ offs t p := by
  intro t
  induction t with
  | prod a b iha ihb =>
    intro p q u v hp hq hc
    cases p with
    | nil => simp [pcomp] at hc
    | cons i p =>
      cases q with
      | nil => simp [pcomp] at hc
      | cons j q =>
        cases i with
        | zero =>
          cases j with
          | zero =>
            simp only [typeAt] at hp hq
            simp only [pcomp] at hc
            simp only [offs]
            exact iha hp hq (by simpa using hc)
          | succ j =>
            simp only [typeAt] at hp hq
            have := typeAt_lt hp
            simp only [offs]
            left; omega
        | succ i =>
          cases j with
          | zero =>
            simp only [typeAt] at hp hq
            have := typeAt_lt hq
            simp only [offs]
            right; omega
          | succ j =>
            simp only [typeAt] at hp hq
            have hc' : pcomp (i :: p) (j :: q) = false := by
              simp only [pcomp] at hc ⊢
              have : Nat.beq (i + 1) (j + 1) = Nat.beq i j := rfl
              rw [this] at hc; exact hc
            have := ihb hp hq hc'
            simp only [offs]
            omega
  | int k => intro p q u v h _ hc; cases p <;> simp [typeAt, pcomp] at h hc
  | bool => intro p q u v h _ hc; cases p <;> simp [typeAt, pcomp] at h hc
  | str => intro p q u v h _ hc; cases p <;> simp [typeAt, pcomp] at h hc
  | unit => intro p q u v h _ hc; cases p <;> simp [typeAt, pcomp] at h hc
  | slice t => intro p q u v h _ hc; cases p <;> simp [typeAt, pcomp] at h hc
end
end Go.Den
