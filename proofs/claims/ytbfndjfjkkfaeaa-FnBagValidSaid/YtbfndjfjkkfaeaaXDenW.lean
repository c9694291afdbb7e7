/- Code: what the reading gives, the machine does. -/
import Derived.Test.YtbfndjfjkkfaeaaXDenV
import Derived.Deep.LoopGhost
set_option linter.unusedVariables false
set_option linter.unusedSimpArgs false
namespace Go.Den
section
variable {P : Program} {tab : Tab} {G : Gam} {w0 : Base} {lim0 : Lim} {rb : Option Nat} {n : Nat}
variable {st st' : St} {a : Act} {w : World} {lim : Lim} {β : Mp}

/-- a state that knows less -/
structure Weak (st' st : St) : Prop where
  env : ∀ t, (st'.env t).av = .any ∨ (∃ ty x, (st'.env t).av = .dat ty x ∧ AV.as ty (st.env t).av = some x) ∨
    (∃ b p d, (st'.env t).av = .cel b p ∧ (st.env t).av = .cel b p ∧ st'.box b = some d) ∨ (∃ d, (st'.env t).av = .rdr [] ∧ (st.env t).av = .rdr [] ∧ st'.rd = some d) ∨
    (∃ r p d, (st'.env t).av = .xf r p ∧ (st.env t).av = .xf r p ∧ st'.io r = some d) ∨ (∃ b p d, (st'.env t).av = .cx b p ∧ (st.env t).av = .cx b p ∧ st'.xb b = some d)
  tag : ∀ t, (st'.env t).tag = none
  box : ∀ b d, st'.box b = some d → st.box b = some d
  own : ∀ l, st'.own l = true → st.own l = true
  ownT : ∀ t p, st'.own (.tmp t p) = true → ∃ ty x, (st'.env t).av = .dat ty x
  ownB : ∀ b p, st'.own (.box b p) = true → ∃ d, st'.box b = some d
  rd : ∀ d, st'.rd = some d → st.rd = some d
  io : ∀ r d, st'.io r = some d → st.io r = some d
  xb : ∀ b t o, st'.xb b = some (t, o) → st.xb b = some (t, o) ∧ ∀ r q, o = some (r, q) → ∃ d, st'.io r = some d

theorem as_dat {t : Ty} {av : AV} {x : t.val} (h : AV.as t av = some x) : av = .dat t x ∨ av = .nil := by
  cases av with
  | dat u y =>
    obtain ⟨h1, h2⟩ := cast_some h
    subst h1; subst h2; exact .inl rfl
  | nil => exact .inr rfl
  | _ => cases h

theorem Sim.weak (h : Sim w0 lim0 rb n st a w lim β) (hw : Weak st' st) : Sim w0 lim0 rb n st' a w lim β := by
  have loc : ∀ l, st'.own l = true → locTy st' l = locTy st l ∧ locV st' a w β l = locV st a w β l := by
    intro l hl
    have ho := hw.own l hl
    cases l with
    | tmp t p =>
      obtain ⟨ty, x, h1⟩ := hw.ownT t p hl
      obtain ⟨e, v, k1, k2, _⟩ := h.own _ ho
      have : (st.env t).av = .dat ty x := by
        rcases hw.env t with h2 | ⟨ty', x', h2, h3⟩ | ⟨b, q, d, h2, _⟩ | ⟨d, h2, _⟩ | ⟨_, _, _, h2, _⟩ | ⟨_, _, _, h2, _⟩
        · rw [h1] at h2; cases h2
        · rw [h1] at h2; injection h2 with h4 h5; subst h4; have h5 := eq_of_heq h5; subst h5
          rcases as_dat h3 with h6 | h6
          · exact h6
          · simp only [locTy, h6] at k1; cases k1
        · rw [h1] at h2; cases h2
        · rw [h1] at h2; cases h2
        · rw [h1] at h2; cases h2
        · rw [h1] at h2; cases h2
      simp only [locTy, locV, h1, this, and_self]
    | box b p =>
      obtain ⟨d, h1⟩ := hw.ownB b p hl
      have := hw.box b d h1
      simp only [locTy, locV, h1, this, and_self]
  refine ⟨h.size, h.defers, h.grow, h.limOld, fun t => ?_, fun b d hb => h.box b d (hw.box b d hb), fun b c d d' h1 h2 h3 => h.inj b c d d' (hw.box b d h1) (hw.box c d' h2) h3, fun l hl => ?_, fun l l' v v' g h1 h2 h3 h4 h5 h6 => ?_, fun t l h1 h2 => ?_, fun d hd => h.rd d (hw.rd d hd), ?_⟩
  · have ht := h.env t
    rcases hw.env t with h2 | ⟨ty, x, h2, h3⟩ | ⟨b, q, d, h2, h3, h4⟩ | ⟨d, h2, h3, h4⟩ | ⟨r, p, d, h2, h3, h4⟩ | ⟨b, p, d, h2, h3, h4⟩
    · rw [h2]; trivial
    · rw [h2]; exact as_rep h3 ht
    · rw [h3] at ht; rw [h2]
      obtain ⟨d', k1, k2⟩ := ht
      have := hw.box b d h4
      rw [k1] at this; injection this with this; subst this
      exact ⟨d', h4, k2⟩
    · rw [h3] at ht; rw [h2]
      obtain ⟨d', b, k1, k2, k3⟩ := ht
      have := hw.rd d h4
      rw [k1] at this; injection this with this; subst this
      exact ⟨d', b, h4, k2, k3⟩
    · rw [h3] at ht; rw [h2]
      obtain ⟨d', u, k1, k2, k3⟩ := ht
      have := hw.io r d h4
      rw [k1] at this; injection this with this; subst this
      exact ⟨d', u, h4, k2, k3⟩
    · rw [h3] at ht; rw [h2]
      obtain ⟨t', o', k1, k2⟩ := ht
      obtain ⟨dt, dO⟩ := d
      have := (hw.xb b dt dO h4).1
      rw [k1] at this; injection this with this; injection this with e1 e2; subst e1
      exact ⟨t', dO, h4, k2⟩
  · obtain ⟨e, v, k1, k2, k3, k4⟩ := h.own l (hw.own l hl)
    obtain ⟨m1, m2⟩ := loc l hl
    exact ⟨e, v, m1.trans k1, m2.trans k2, k3, fun g hg b d hb => k4 g hg b d (hw.box b d hb)⟩
  · rw [(loc l h1).2] at h3; rw [(loc l' h2).2] at h4
    exact h.sep l l' v v' g (hw.own l h1) (hw.own l' h2) h3 h4 h5 h6
  · rw [hw.tag t] at h1; cases h1
  · have hown : ∀ l v, st'.own l = true → locV st' a w β l = some v → st.own l = true ∧ locV st a w β l = some v := fun l v hl hv => ⟨hw.own l hl, by rw [← (loc l hl).2]; exact hv⟩
    refine ⟨fun r d hr => h.xs.io r d (hw.io r d hr), fun r d g hr hg => h.xs.base r d g (hw.io r d hr) hg, fun r d g hr hg b d' hb => h.xs.box r d g (hw.io r d hr) hg b d' (hw.box b d' hb),
      fun r d g hr hg l v hl hv => h.xs.own r d g (hw.io r d hr) hg l v (hown l v hl hv).1 (hown l v hl hv).2, fun r d r' d' g hr hr' => h.xs.dis r d r' d' g (hw.io r d hr) (hw.io r' d' hr'), fun b t o hb => ?_, fun b t o hb => ?_,
      fun b c t o t' o' hb hc => h.xs.xinj b c t o t' o' (hw.xb b t o hb).1 (hw.xb c t' o' hc).1, fun d hd => h.xs.fix d (hw.io 0 d hd)⟩
    · obtain ⟨k1, k2⟩ := hw.xb b t o hb
      obtain ⟨cells, e, m1, m2, m3, m4, m5⟩ := h.xs.xb b t o k1
      refine ⟨cells, e, m1, m2, m3, m4, fun r q ho => ?_⟩
      obtain ⟨d, n1, n2, n3⟩ := m5 r q ho
      obtain ⟨d', n4⟩ := k2 r q ho
      have := hw.io r d' n4
      rw [n1] at this; injection this with this; subst this
      exact ⟨d, n4, n2, n3⟩
    · obtain ⟨k1, _⟩ := hw.xb b t o hb
      obtain ⟨m1, m2, m3⟩ := h.xs.xbox b t o k1
      exact ⟨fun c d hc => m1 c d (hw.box c d hc), fun l v hl hv => m2 l v (hown l v hl hv).1 (hown l v hl hv).2, fun r d hr => m3 r d (hw.io r d hr)⟩

theorem allOwn_spec {own : Loc → Bool} {f : List Nat → Loc} : ∀ {ps : List (List Nat)}, allOwn own f ps = true → ∀ p, inPaths p ps = true → own (f p) = true
  | [], _, p, hp => by cases hp
  | q :: ps, h, p, hp => by
    simp only [allOwn] at h
    cases ho : own (f q) with
    | false => rw [ho] at h; cases h
    | true =>
      rw [ho] at h
      simp only [inPaths] at hp
      cases hb : pbeq p q with
      | true => rw [pbeq_iff.1 hb]; exact ho
      | false => rw [hb] at hp; exact allOwn_spec h p hp

theorem weak_rd : ∀ {r : Option Ty} {x : (rdTy r).val}, packRd st r = some x → Weak (unpackRd st00 r x) st ∧ (∀ b d, (unpackRd st00 r x).box b = some d → False) ∧ (isSomeTy r = true → ∃ d, (unpackRd st00 r x).rd = some d) := by
  intro r x h
  cases r with
  | none => exact ⟨⟨fun t => .inl rfl, fun t => rfl, fun _ _ h => (by cases h), fun _ h => (by cases h), fun _ _ h => (by cases h), fun _ _ h => (by cases h), fun _ h => (by cases h), fun _ _ h => (by cases h), fun _ _ _ h => (by cases h)⟩, fun _ _ h => (by cases h), fun h => (by cases h)⟩
  | some t =>
    unfold packRd at h
    cases hd : st.rd with
    | none => rw [hd] at h; cases h
    | some d =>
      rw [hd] at h
      obtain ⟨h1, h2⟩ := cast_some h
      obtain ⟨dt, dv⟩ := d
      simp only at h1 h2
      subst h1; subst h2
      refine ⟨⟨fun t => .inl rfl, fun t => rfl, fun _ _ h => (by cases h), fun _ h => (by cases h), fun _ _ h => (by cases h), fun _ _ h => (by cases h), fun d' h => ?_, fun _ _ h => (by cases h), fun _ _ _ h => (by cases h)⟩, fun _ _ h => (by cases h), fun _ => ⟨_, rfl⟩⟩
      injection h with h; subst h; exact hd

theorem weak_io {r : Option Ty} : ∀ {is : List (Tmp × Ty)} {x : (ioTy is (rdTy r)).val}, packIo st r is = some x →
    Weak (unpackIo st00 r is x) st ∧ (∀ b d, (unpackIo st00 r is x).box b = some d → False) ∧ (isSomeTy r = true → ∃ d, (unpackIo st00 r is x).rd = some d) ∧ (∀ c, ioIn c is = true → ∃ d, (unpackIo st00 r is x).io c = some d) ∧ (∀ b, (unpackIo st00 r is x).xb b = none)
  | [], x, h => by
    obtain ⟨h1, h2, h3⟩ := weak_rd h
    exact ⟨h1, h2, h3, fun c hc => (by cases hc), fun b => by cases r <;> rfl⟩
  | (c, t) :: is, x, h => by
    simp only [packIo] at h
    cases hb : st.io c with
    | none => rw [hb] at h; cases h
    | some d =>
      rw [hb] at h; simp only [] at h
      cases hc : Ty.cast d.1 t d.2 with
      | none => rw [hc] at h; cases h
      | some y =>
        cases hp : packIo st r is with
        | none => rw [hc, hp] at h; cases h
        | some z =>
          rw [hc, hp] at h
          injection h with h; subst h
          obtain ⟨h1, h2⟩ := cast_some hc
          obtain ⟨dt, dv⟩ := d
          simp only at h1 h2
          subst h1; subst h2
          obtain ⟨k1, k2, k3, k4, k5⟩ := weak_io (is := is) hp
          have hio : ∀ k, (unpackIo st00 r ((c, dt) :: is) (y, z)).io k = cnd (Nat.beq k c) (some ⟨dt, y⟩) ((unpackIo st00 r is z).io k) := fun k => rfl
          have keep : ∀ k, (∃ d, (unpackIo st00 r is z).io k = some d) → ∃ d, (unpackIo st00 r ((c, dt) :: is) (y, z)).io k = some d := by
            intro k hk
            rw [hio]
            cases Nat.beq k c with
            | true => exact ⟨_, rfl⟩
            | false => exact hk
          refine ⟨⟨fun t => ?_, k1.tag, k1.box, k1.own, k1.ownT, k1.ownB, k1.rd, fun k d hk => ?_, fun b t o hb' => ?_⟩, k2, k3, fun k hk => ?_, k5⟩
          · rcases k1.env t with h2 | h2 | h2 | h2 | ⟨k, p, d, h2, h3, h4⟩ | h2
            · exact .inl h2
            · exact .inr (.inl h2)
            · exact .inr (.inr (.inl h2))
            · exact .inr (.inr (.inr (.inl h2)))
            · obtain ⟨d', hd'⟩ := keep k ⟨d, h4⟩
              exact .inr (.inr (.inr (.inr (.inl ⟨k, p, d', h2, h3, hd'⟩))))
            · exact .inr (.inr (.inr (.inr (.inr h2))))
          · rw [hio] at hk
            cases hq : Nat.beq k c with
            | true => rw [hq] at hk; rw [nbeq hq, hb]; exact hk
            | false => rw [hq] at hk; exact k1.io k d hk
          · have hb' : (unpackIo st00 r is z).xb b = some (t, o) := hb'
            rw [k5] at hb'; cases hb'
          · simp only [ioIn] at hk
            cases hq : Nat.beq k c with
            | true => rw [hio, hq]; exact ⟨_, rfl⟩
            | false => rw [hq] at hk; exact keep k (k4 k hk)
theorem xbAll_spec {is : List (Tmp × Ty)} : ∀ {bs : List (Tmp × Ty × Tmp × List Nat)}, xbAll st is bs = true →
    (∀ b t o, unpackXb bs b = some (t, o) → st.xb b = some (t, o) ∧ ∀ r q, o = some (r, q) → ioIn r is = true) ∧ ∀ b, xbIn b bs = true → ∃ d, unpackXb bs b = some d
  | [], _ => ⟨fun _ _ _ h => (by cases h), fun _ h => (by cases h)⟩
  | (b, t, r, q) :: bs, h => by
    simp only [xbAll] at h
    split at h
    · rename_i u r' q' hx
      cases h1 : Ty.beq u t with
      | false => rw [h1] at h; cases h
      | true =>
      cases h2 : Nat.beq r' r with
      | false => rw [h1, h2] at h; cases h
      | true =>
      cases h3 : pbeq q' q with
      | false => rw [h1, h2, h3] at h; cases h
      | true =>
      cases h4 : ioIn r is with
      | false => rw [h1, h2, h3, h4] at h; cases h
      | true =>
        rw [h1, h2, h3, h4] at h
        have h1 := Ty.of_beq h1
        have h2 := nbeq h2
        have h3 := pbeq_iff.1 h3
        subst h1; subst h2; subst h3
        obtain ⟨k1, k2⟩ := xbAll_spec (bs := bs) h
        refine ⟨fun c t' o hc => ?_, fun c hc => ?_⟩
        · simp only [unpackXb] at hc
          cases hq : Nat.beq c b with
          | true =>
            rw [hq] at hc
            injection hc with hc; injection hc with e1 e2; subst e1; subst e2
            rw [nbeq hq]
            exact ⟨hx, fun r2 q2 he => by injection he with he; injection he with he _; rw [← he]; exact h4⟩
          | false => rw [hq] at hc; exact k1 c t' o hc
        · simp only [xbIn] at hc
          simp only [unpackXb]
          cases hq : Nat.beq c b with
          | true => exact ⟨_, rfl⟩
          | false => rw [hq] at hc; exact k2 c hc
    · cases h

/-- what a shape names is there -/
structure Has (S : Shp) (s : St) : Prop where
  rd : isSomeTy S.rd = true → ∃ d, s.rd = some d
  io : ∀ c, ioIn c S.io = true → ∃ d, s.io c = some d
  xb : ∀ b, xbIn b S.xb = true → ∃ d, s.xb b = some d
theorem weak_box {S : Shp} : ∀ {bs : List (Tmp × Ty × List (List Nat))} {x : (boxTy bs S.low).val}, packBox st S bs = some x →
    Weak (unpackBox st00 S bs x) st ∧ (∀ b, boxIn b bs = true → ∃ d, (unpackBox st00 S bs x).box b = some d) ∧ Has S (unpackBox st00 S bs x)
  | [], x, h => by
    simp only [packBox] at h
    cases hx : xbAll st S.io S.xb with
    | false => rw [hx] at h; cases h
    | true =>
      rw [hx] at h
      obtain ⟨h1, h2, h3, h4, h5⟩ := weak_io (x := x) h
      obtain ⟨g1, g2⟩ := xbAll_spec hx
      refine ⟨⟨fun t => ?_, h1.tag, h1.box, h1.own, h1.ownT, h1.ownB, h1.rd, h1.io, fun b t o hb => ?_⟩, fun b hb => (by cases hb), h3, h4, g2⟩
      · rcases h1.env t with k | k | k | k | k | ⟨b, p, d, _, _, k⟩
        · exact .inl k
        · exact .inr (.inl k)
        · exact .inr (.inr (.inl k))
        · exact .inr (.inr (.inr (.inl k)))
        · exact .inr (.inr (.inr (.inr (.inl k))))
        · rw [h5] at k; cases k
      · obtain ⟨k1, k2⟩ := g1 b t o hb
        exact ⟨k1, fun r q ho => h4 r (k2 r q ho)⟩
  | (b, t, ps) :: bs, x, h => by
    simp only [packBox] at h
    cases hb : st.box b with
    | none => rw [hb] at h; cases h
    | some d =>
      rw [hb] at h; simp only [] at h
      cases hc : Ty.cast d.1 t d.2 with
      | none => rw [hc] at h; cases h
      | some y =>
        cases ho : allOwn st.own (.box b ·) ps with
        | false => rw [hc, ho] at h; cases h
        | true =>
          cases hp : packBox st S bs with
          | none => rw [hc, ho, hp] at h; cases h
          | some z =>
            rw [hc, ho, hp] at h
            injection h with h; subst h
            obtain ⟨h1, h2⟩ := cast_some hc
            obtain ⟨dt, dv⟩ := d
            simp only at h1 h2
            subst h1; subst h2
            obtain ⟨k1, k2, k3⟩ := weak_box (bs := bs) hp
            have hbox : ∀ c, (unpackBox st00 S ((b, dt, ps) :: bs) (y, z)).box c = cnd (Nat.beq c b) (some ⟨dt, y⟩) ((unpackBox st00 S bs z).box c) := fun c => rfl
            have keep : ∀ c, (∃ d, (unpackBox st00 S bs z).box c = some d) → ∃ d, (unpackBox st00 S ((b, dt, ps) :: bs) (y, z)).box c = some d := by
              intro c hc
              rw [hbox]
              cases Nat.beq c b with
              | true => exact ⟨_, rfl⟩
              | false => exact hc
            refine ⟨⟨fun t => ?_, k1.tag, fun c d hc => ?_, fun l hl => ?_, k1.ownT, fun c p hc => ?_, k1.rd, k1.io, k1.xb⟩, fun c hc => ?_, ⟨k3.rd, k3.io, k3.xb⟩⟩
            · rcases k1.env t with h2 | h2 | ⟨c, q, d, h2, h3, h4⟩ | h2
              · exact .inl h2
              · exact .inr (.inl h2)
              · obtain ⟨d', hd'⟩ := keep c ⟨d, h4⟩
                exact .inr (.inr (.inl ⟨c, q, d', h2, h3, hd'⟩))
              · exact .inr (.inr (.inr h2))
            · rw [hbox] at hc
              cases hq : Nat.beq c b with
              | true => rw [hq] at hc; rw [nbeq hq, hb]; exact hc
              | false => rw [hq] at hc; exact k1.box c d hc
            · cases l with
              | tmp t p => exact k1.own _ hl
              | box c p =>
                have hl : cnd (Nat.beq c b) (inPaths p ps) ((unpackBox st00 S bs z).own (.box c p)) = true := hl
                cases hq : Nat.beq c b with
                | true => rw [hq] at hl; rw [nbeq hq]; exact allOwn_spec ho p hl
                | false => rw [hq] at hl; exact k1.own _ hl
            · have hc : cnd (Nat.beq c b) (inPaths p ps) ((unpackBox st00 S bs z).own (.box c p)) = true := hc
              rw [hbox]
              cases hq : Nat.beq c b with
              | true => exact ⟨_, rfl⟩
              | false => rw [hq] at hc; exact k1.ownB c p hc
            · simp only [boxIn] at hc
              cases hq : Nat.beq c b with
              | true => rw [hbox, hq]; exact ⟨_, rfl⟩
              | false => rw [hq] at hc; exact keep c (k2 c hc)

theorem weak_putE {s : St} {t : Tmp} {v : AV} {ps : List (List Nat)} (h : Weak s st) (hv : (∃ ty x, v = .dat ty x ∧ AV.as ty (st.env t).av = some x ∧ allOwn st.own (.tmp t ·) ps = true) ∨
    (ps = [] ∧ ((∃ b p d, v = .cel b p ∧ (st.env t).av = .cel b p ∧ s.box b = some d) ∨ (∃ d, v = .rdr [] ∧ (st.env t).av = .rdr [] ∧ s.rd = some d) ∨ (∃ r p d, v = .xf r p ∧ (st.env t).av = .xf r p ∧ s.io r = some d) ∨ (∃ b p d, v = .cx b p ∧ (st.env t).av = .cx b p ∧ s.xb b = some d)))) : Weak (putE s t v ps) st := by
  have he : ∀ u, (putE s t v ps).env u = cnd (Nat.beq u t) ⟨v, none⟩ (s.env u) := fun u => rfl
  have ho : ∀ u p, (putE s t v ps).own (.tmp u p) = cnd (Nat.beq u t) (inPaths p ps) (s.own (.tmp u p)) := fun u p => rfl
  refine ⟨fun u => ?_, fun u => ?_, h.box, fun l hl => ?_, fun u p hu => ?_, h.ownB, h.rd, h.io, h.xb⟩
  · rw [he]
    cases hq : Nat.beq u t with
    | false => exact h.env u
    | true =>
      rw [nbeq hq]
      rcases hv with ⟨ty, x, h1, h2, _⟩ | ⟨_, ⟨b, p, d, h1, h2, h3⟩ | ⟨d, h1, h2, h3⟩ | ⟨r, p, d, h1, h2, h3⟩ | ⟨b, p, d, h1, h2, h3⟩⟩
      · exact .inr (.inl ⟨ty, x, h1, h2⟩)
      · exact .inr (.inr (.inl ⟨b, p, d, h1, h2, h3⟩))
      · exact .inr (.inr (.inr (.inl ⟨d, h1, h2, h3⟩)))
      · exact .inr (.inr (.inr (.inr (.inl ⟨r, p, d, h1, h2, h3⟩))))
      · exact .inr (.inr (.inr (.inr (.inr ⟨b, p, d, h1, h2, h3⟩))))
  · rw [he]
    cases Nat.beq u t with
    | false => exact h.tag u
    | true => rfl
  · cases l with
    | box c p => exact h.own _ hl
    | tmp u p =>
      rw [ho] at hl
      cases hq : Nat.beq u t with
      | false => rw [hq] at hl; exact h.own _ hl
      | true =>
        rw [hq] at hl; rw [nbeq hq]
        rcases hv with ⟨ty, x, _, _, h3⟩ | ⟨rfl, _⟩
        · exact allOwn_spec h3 p hl
        · cases hl
  · rw [ho] at hu
    rw [he]
    cases hq : Nat.beq u t with
    | false => rw [hq] at hu; exact h.ownT u p hu
    | true =>
      rw [hq] at hu
      rcases hv with ⟨ty, x, h1, _, _⟩ | ⟨rfl, _⟩
      · exact ⟨ty, x, h1⟩
      · cases hu

theorem weak_env {S : Shp} : ∀ {es : List (Tmp × ShE)} {x : (envTy es (boxTy S.box S.low)).val}, packEnv st S es = some x →
    Weak (unpackEnv st00 S es x) st ∧ (∀ b, boxIn b S.box = true → ∃ d, (unpackEnv st00 S es x).box b = some d) ∧ Has S (unpackEnv st00 S es x)
  | [], x, h => weak_box h
  | (t, .dat ty ps) :: es, x, h => by
    simp only [packEnv] at h
    cases hc : AV.as ty (st.env t).av with
    | none => rw [hc] at h; cases h
    | some y =>
      cases ho : allOwn st.own (.tmp t ·) ps with
      | false => rw [hc, ho] at h; cases h
      | true =>
        cases hp : packEnv st S es with
        | none => rw [hc, ho, hp] at h; cases h
        | some z =>
          rw [hc, ho, hp] at h
          injection h with h; subst h
          obtain ⟨k1, k2, k3⟩ := weak_env (es := es) hp
          exact ⟨weak_putE k1 (.inl ⟨ty, y, rfl, hc, ho⟩), k2, ⟨k3.rd, k3.io, k3.xb⟩⟩
  | (t, .cel b p) :: es, x, h => by
    simp only [packEnv] at h
    split at h
    · rename_i c q hav
      cases hq : cnd (Nat.beq b c) (cnd (pbeq p q) (boxIn b S.box) false) false with
      | false => rw [hq] at h; cases h
      | true =>
        rw [hq] at h
        cases h1 : Nat.beq b c with
        | false => rw [h1] at hq; cases hq
        | true =>
          rw [h1] at hq
          cases h2 : pbeq p q with
          | false => rw [h2] at hq; cases hq
          | true =>
            rw [h2] at hq
            have := nbeq h1; subst this
            have := pbeq_iff.1 h2; subst this
            obtain ⟨k1, k2, k3⟩ := weak_env (es := es) (x := x) h
            obtain ⟨d, hd⟩ := k2 b hq
            exact ⟨weak_putE k1 (.inr ⟨rfl, .inl ⟨b, p, d, rfl, hav, hd⟩⟩), k2, ⟨k3.rd, k3.io, k3.xb⟩⟩
    · cases h
  | (t, .rdr) :: es, x, h => by
    simp only [packEnv] at h
    split at h
    · rename_i hav
      cases hq : isSomeTy S.rd with
      | false => rw [hq] at h; cases h
      | true =>
        rw [hq] at h
        obtain ⟨k1, k2, k3⟩ := weak_env (es := es) (x := x) h
        obtain ⟨d, hd⟩ := k3.rd hq
        exact ⟨weak_putE k1 (.inr ⟨rfl, .inr (.inl ⟨d, rfl, hav, hd⟩)⟩), k2, ⟨k3.rd, k3.io, k3.xb⟩⟩
    · cases h
  | (t, .xf r p) :: es, x, h => by
    simp only [packEnv] at h
    split at h
    · rename_i c q hav
      cases hq : cnd (Nat.beq r c) (cnd (pbeq p q) (ioIn r S.io) false) false with
      | false => rw [hq] at h; cases h
      | true =>
        rw [hq] at h
        cases h1 : Nat.beq r c with
        | false => rw [h1] at hq; cases hq
        | true =>
          rw [h1] at hq
          cases h2 : pbeq p q with
          | false => rw [h2] at hq; cases hq
          | true =>
            rw [h2] at hq
            have := nbeq h1; subst this
            have := pbeq_iff.1 h2; subst this
            obtain ⟨k1, k2, k3⟩ := weak_env (es := es) (x := x) h
            obtain ⟨d, hd⟩ := k3.io r hq
            exact ⟨weak_putE k1 (.inr ⟨rfl, .inr (.inr (.inl ⟨r, p, d, rfl, hav, hd⟩))⟩), k2, ⟨k3.rd, k3.io, k3.xb⟩⟩
    · cases h
  | (t, .cx r p) :: es, x, h => by
    simp only [packEnv] at h
    split at h
    · rename_i c q hav
      cases hq : cnd (Nat.beq r c) (cnd (pbeq p q) (xbIn r S.xb) false) false with
      | false => rw [hq] at h; cases h
      | true =>
        rw [hq] at h
        cases h1 : Nat.beq r c with
        | false => rw [h1] at hq; cases hq
        | true =>
          rw [h1] at hq
          cases h2 : pbeq p q with
          | false => rw [h2] at hq; cases hq
          | true =>
            rw [h2] at hq
            have := nbeq h1; subst this
            have := pbeq_iff.1 h2; subst this
            obtain ⟨k1, k2, k3⟩ := weak_env (es := es) (x := x) h
            obtain ⟨d, hd⟩ := k3.xb r hq
            exact ⟨weak_putE k1 (.inr ⟨rfl, .inr (.inr (.inr ⟨r, p, d, rfl, hav, hd⟩))⟩), k2, ⟨k3.rd, k3.io, k3.xb⟩⟩
    · cases h
theorem pack_weak {S : Shp} {x : S.ty.val} (h : pack S st = some x) : Weak (unpack S x) st := (weak_env h).1

theorem map_inl {α β γ : Type} {o : Option α} {e : α ⊕ β} (h : o.map (Sum.inl (β := β)) = some e) : ∃ x, o = some x ∧ e = .inl x := by
  cases o with
  | none => cases h
  | some x => injection h with h; exact ⟨x, rfl, h.symm⟩
theorem map_inr {α β : Type} {o : Option β} {e : α ⊕ β} (h : o.map (Sum.inr (α := α)) = some e) : ∃ x, o = some x ∧ e = .inr x := by
  cases o with
  | none => cases h
  | some x => injection h with h; exact ⟨x, rfl, h.symm⟩
theorem obind_some {α β : Type} {o : Option α} {f : α → Option β} {r : β} (h : obind o f = some r) : ∃ x, o = some x ∧ f x = some r := by
  cases o with
  | none => cases h
  | some x => exact ⟨x, rfl, h⟩

theorem loop_sound {b : Code} {σ ρ : Type} {f : σ → Option (σ ⊕ ρ)} {U : σ → St} {Q : Exit → Act → World → Prop} {r : ρ}
    (hb : ∀ s e, f s = some e → ∀ (k : σ → Prop) a w lim β, Sim w0 lim0 rb n (U s) a w lim β → (∀ s', e = .inl s' → k s') → (∀ r', e = .inr r' → r' = r) →
      b.wp P (Exit.then (fun a' w' => ∃ s' lim' β', k s' ∧ Sim w0 lim0 rb n (U s') a' w' lim' β') Q) a w) {fuel : Nat} {s0 : σ} (hi : iter fuel f s0 = some r)
    (h : Sim w0 lim0 rb n (U s0) a w lim β) : (Code.loop b).wp P Q a w := by
  refine wp_loop_ghost (fun k a w => ∃ s lim β, iter k f s = some r ∧ Sim w0 lim0 rb n (U s) a w lim β) fuel ⟨s0, lim, β, hi, h⟩ ?_
  intro k a w ⟨s, lim, β, hk, hs⟩
  cases k with
  | zero => cases hk
  | succ k =>
    simp only [iter] at hk
    cases hf : f s with
    | none => rw [hf] at hk; cases hk
    | some e =>
      rw [hf] at hk
      refine Code.wp_mono ?_ (hb s e hf (fun s' => iter k f s' = some r) a w lim β hs (fun s' he => ?_) (fun r' he => ?_))
      · intro x a' w' hx
        cases x <;> try exact hx
        obtain ⟨s', lim', β', h1, h2⟩ := hx
        exact ⟨k, Nat.lt_succ_self k, s', lim', β', h1, h2⟩
      · subst he; exact hk
      · subst he; injection hk

theorem cnd_cond {α : Type} (k b : Bool) (x y : α) : cnd k (cnd b x y) (cndS b x y) = cond b x y := by cases k <;> cases b <;> rfl
theorem ERep_kn {st : St} {f : Tmp → Bool} {w : World} {lim : Lim} {β : Mp} {rb : Option Nat} {av : AV} {v : Value} (h : ERep st w lim β rb av v) : ERep { st with kn := f } w lim β rb av v := by cases av <;> exact h
theorem Sim.alike {st3 st' : St} (h : Sim w0 lim0 rb n st' a w lim β) (hA : Alike st3 st') : Sim w0 lim0 rb n st3 a w lim β := by
  obtain ⟨f, rfl⟩ := hA
  exact ⟨h.size, h.defers, h.grow, h.limOld, fun t => ERep_kn (h.env t), h.box, h.inj, fun l hl => (by cases l <;> exact h.own _ hl), fun l l' v v' g h1 h2 h3 h4 => (by cases l <;> cases l' <;> exact h.sep _ _ v v' g h1 h2 h3 h4), fun t l h1 h2 => (by cases l <;> exact h.tag t _ h1 h2), h.rd, h.xs.keep rfl rfl (fun _ _ _ => ⟨rfl, rfl⟩) (fun _ _ _ _ => rfl) (fun _ _ => ⟨rfl, rfl⟩) (fun b d hb => h.xs.offb hb) (fun l v g hl hv hg => by cases l <;> exact h.xs.off hl hv hg)⟩
theorem ERep_mk {st : St} {f : Tmp → Bool} {w : World} {lim : Lim} {β : Mp} {rb : Option Nat} {av : AV} {v : Value} (h : ERep st w lim β rb av v) : ERep { st with mkt := f } w lim β rb av v := by cases av <;> exact h
theorem Sim.marks (h : Sim w0 lim0 rb n st a w lim β) (f : Tmp → Bool) : Sim w0 lim0 rb n { st with mkt := f } a w lim β :=
  ⟨h.size, h.defers, h.grow, h.limOld, fun t => ERep_mk (h.env t), h.box, h.inj, fun l hl => (by cases l <;> exact h.own _ hl), fun l l' v v' g h1 h2 h3 h4 => (by cases l <;> cases l' <;> exact h.sep _ _ v v' g h1 h2 h3 h4), fun t l h1 h2 => (by cases l <;> exact h.tag t _ h1 h2), h.rd,
    h.xs.keep rfl rfl (fun _ _ _ => ⟨rfl, rfl⟩) (fun _ _ _ _ => rfl) (fun _ _ => ⟨rfl, rfl⟩) (fun b d hb => h.xs.offb hb) (fun l v g hl hv hg => by cases l <;> exact h.xs.off hl hv hg)⟩
def EvOk (P : Program) (tab : Tab) (G : Gam) (w0 : Base) (lim0 : Lim) (rb : Option Nat) (n : Nat) (ann : Ann) (fuel m : Nat) (c : Code) : Prop :=
    ∀ (R : Type) (st : St) (kn kr : St → Option R) (ke : Nat → St → Option R) (r : R), dstsOk m c = true → evalK tab G ann fuel c R st kn kr ke = some r →
    ∀ (Q : Exit → Act → World → Prop) a w lim β, Sim w0 lim0 rb n st a w lim β → (∀ st', kn st' = some r → ∀ a' w' lim' β', Sim w0 lim0 rb n st' a' w' lim' β' → Q .normal a' w') →
    (∀ st', kr st' = some r → ∀ a' w' lim' β', Sim w0 lim0 rb n st' a' w' lim' β' → Q .ret a' w') → (∀ i st', ke i st' = some r → ∀ a' w' lim' β', Sim w0 lim0 rb n st' a' w' lim' β' → Q (.exit i) a' w') → c.wp P Q a w

/-- CODE: what the reading gives, the machine does. -/
theorem eval_sound (hT : TabOk P tab) (hG : GamOk P G) (hm : P.follows .mixedOrders = true) (hrb : ∀ k, some k = rb → k < w0.heap.size) {ann : Ann} {fuel m : Nat} (hmn : m ≤ n) (c : Code) : EvOk P tab G w0 lim0 rb n ann fuel m c := by
  have both : EvOk P tab G w0 lim0 rb n ann fuel m c ∧ ∀ b, c = .loop b → EvOk P tab G w0 lim0 rb n ann fuel m b := by
    induction c with
    | skip =>
      refine ⟨?_, fun b hb => by cases hb⟩
      intro R st kn kr ke r hd he Q a w lim β h hn hr hx
      unfold evalK at he
      exact wp_skip (hn st he a w lim β h)
    | region id ops draw =>
      refine ⟨?_, fun b hb => by cases hb⟩
      intro R st kn kr ke r hd he Q a w lim β h hn hr hx
      unfold evalK at he
      have h := h.marks ann.mkt
      simp only [] at he
      have hd' : ∀ o ∈ ops.toList, ∀ d, o.dst = some d → d < n := fun o ho d hod => Nat.lt_of_lt_of_le (opsDst_mem (m := m) hd o ho d hod) hmn
      cases draw with
      | true =>
        obtain ⟨st', fs, st3, h1, hal, h2⟩ := drawK_runT (Alike.refl { st with mkt := ann.mkt }) (by exact he)
        rw [List.nil_append] at h2
        cases hE : edgesOk ops.toList 0 with
        | false => rw [hE] at h2; cases h2
        | true =>
          cases hP : pairsOk (masks ops.toList []) [] fs 0 with
          | false => rw [hE, hP] at h2; cases h2
          | true =>
            rw [hE, hP] at h2
            exact draw_sound hT hG hm hrb hd' h1 hE hP h (fun a' w' lim' β' hs => hn st3 h2 a' w' lim' β' (hs.alike hal))
      | false =>
        obtain ⟨st', fs, st3, h1, hal, h2⟩ := opsK_runT (Alike.refl { st with mkt := ann.mkt }) (by exact he)
        exact wp_region_list (run_sound hT hG hrb h1 hd' h (fun a' w' lim' β' hs => hn st3 h2 a' w' lim' β' (hs.alike hal)))
    | seq x y ihx ihy =>
      refine ⟨?_, fun b hb => by cases hb⟩
      intro R st kn kr ke r hd he Q a w lim β h hn hr hx
      unfold evalK at he
      have hd1 : dstsOk m x = true ∧ dstsOk m y = true := by
        simp only [dstsOk] at hd
        cases hq : dstsOk m x with
        | false => rw [hq] at hd; cases hd
        | true => rw [hq] at hd; exact ⟨rfl, hd⟩
      split at he
      · refine wp_seq (ihx.1 R st _ kr ke r hd1.1 he _ a w lim β h (fun st' hk a' w' lim' β' hs => ?_) hr hx)
        exact ihy.1 R st' kn kr ke r hd1.2 hk Q a' w' lim' β' hs hn hr hx
      · rename_i S hcut
        obtain ⟨s, h1, h2⟩ := obind_some he
        refine wp_seq (ihx.1 S.ty.val st _ _ _ s hd1.1 h1 _ a w lim β h (fun st' hk a' w' lim' β' hs => ?_) (fun st' hk => by cases hk) (fun i st' hk => by cases hk))
        exact ihy.1 R (unpack S s) kn kr ke r hd1.2 h2 Q a' w' lim' β' (hs.weak (pack_weak hk)) hn hr hx
      · rename_i S hcut
        obtain ⟨e, h1, h2⟩ := obind_some he
        refine wp_seq (ihx.1 (S.ty.val ⊕ R) st _ _ _ e hd1.1 h1 _ a w lim β h (fun st' hk a' w' lim' β' hs => ?_) (fun st' hk a' w' lim' β' hs => ?_) (fun i st' hk a' w' lim' β' hs => ?_))
        · obtain ⟨s, k1, k2⟩ := map_inl (β := R) (γ := R) hk
          subst k2
          exact ihy.1 R (unpack S s) kn kr ke r hd1.2 h2 Q a' w' lim' β' (hs.weak (pack_weak k1)) hn hr hx
        · obtain ⟨s, k1, k2⟩ := map_inr hk
          subst k2
          injection h2 with h2; subst h2
          exact hr st' k1 a' w' lim' β' hs
        · obtain ⟨s, k1, k2⟩ := map_inr hk
          subst k2
          injection h2 with h2; subst h2
          exact hx i st' k1 a' w' lim' β' hs
    | cond c x y ihx ihy =>
      refine ⟨?_, fun b hb => by cases hb⟩
      intro R st kn kr ke r hd he Q a w lim β h hn hr hx
      unfold evalK at he
      have hd1 : dstsOk m x = true ∧ dstsOk m y = true := by
        simp only [dstsOk] at hd
        cases hq : dstsOk m x with
        | false => rw [hq] at hd; cases hd
        | true => rw [hq] at hd; exact ⟨rfl, hd⟩
      split at he
      · rename_i b hav
        have hc := h.ent c
        rw [hav] at hc
        have hc := bool_rep hc
        have b' : Bool := b
        have he : cond (α := Option R) b (evalK tab G ann fuel x R st kn kr ke) (evalK tab G ann fuel y R st kn kr ke) = some r := (cnd_cond (st.knX c) (show Bool from b) _ _).symm.trans he
        revert hc he
        generalize (show Bool from b) = t
        intro hc he
        refine wp_cond hc ?_
        cases t with
        | true => exact ihx.1 R st kn kr ke r hd1.1 he Q a w lim β h hn hr hx
        | false => exact ihy.1 R st kn kr ke r hd1.2 he Q a w lim β h hn hr hx
      · cases he
    | block id c ihc =>
      refine ⟨?_, fun b hb => by cases hb⟩
      intro R st kn kr ke r hd he Q a w lim β h hn hr hx
      by_cases hl : ∃ b, c = .loop b
      · obtain ⟨b, rfl⟩ := hl
        have ihb := ihc.2 b rfl
        unfold evalK at he
        have hdb : dstsOk m b = true := hd
        split at he
        · rename_i S T hann
          split at he
          · cases he
          · rename_i s0 hp
            obtain ⟨t, h1, h2⟩ := obind_some he
            refine wp_block (loop_sound (U := unpack S) (r := t) ?_ h1 (h.weak (pack_weak hp)))
            intro s e hf k a w lim β hs hk hrt
            refine ihb _ (unpack S s) _ _ _ e hdb hf _ a w lim β hs (fun st' hk' a' w' lim' β' hs' => ?_) (fun st' hk' => by cases hk') (fun i st' hk' a' w' lim' β' hs' => ?_)
            · obtain ⟨s', k1, k2⟩ := map_inl (β := T.ty.val) (γ := R) hk'
              exact ⟨s', lim', β', hk s' k2, hs'.weak (pack_weak k1)⟩
            · cases hq : Nat.beq i id with
              | false => rw [hq] at hk'; cases hk'
              | true =>
                rw [hq] at hk'
                obtain ⟨t', k1, k2⟩ := map_inr hk'
                have := hrt t' k2; subst this
                show (if i = id then Q .normal a' w' else Q (.exit i) a' w')
                rw [if_pos (nbeq hq)]
                exact hn _ h2 a' w' lim' β' (hs'.weak (pack_weak k1))
        · rename_i S T hann
          split at he
          · cases he
          · rename_i s0 hp
            obtain ⟨t, h1, h2⟩ := obind_some he
            refine wp_block (loop_sound (U := unpack S) (r := t) ?_ h1 (h.weak (pack_weak hp)))
            intro s e hf k a w lim β hs hk hrt
            refine ihb _ (unpack S s) _ _ _ e hdb hf _ a w lim β hs (fun st' hk' a' w' lim' β' hs' => ?_) (fun st' hk' a' w' lim' β' hs' => ?_) (fun i st' hk' a' w' lim' β' hs' => ?_)
            · obtain ⟨s', k1, k2⟩ := map_inl (β := T.ty.val ⊕ R) (γ := R) hk'
              exact ⟨s', lim', β', hk s' k2, hs'.weak (pack_weak k1)⟩
            · have hk' : (kr st').map (fun r => (Sum.inr (Sum.inr r) : S.ty.val ⊕ (T.ty.val ⊕ R))) = some e := hk'
              cases hq : kr st' with
              | none => rw [hq] at hk'; cases hk'
              | some r' =>
                rw [hq] at hk'
                injection hk' with hk'
                have := hrt _ hk'.symm
                subst this
                injection h2 with h2; subst h2
                exact hr st' hq a' w' lim' β' hs'
            · show (if i = id then Q .normal a' w' else Q (.exit i) a' w')
              cases hq : Nat.beq i id with
              | false =>
                have hne : ¬ i = id := by intro e; subst e; rw [Nat.beq_refl] at hq; cases hq
                rw [if_neg hne]
                have hk' : (ke i st').map (fun r => (Sum.inr (Sum.inr r) : S.ty.val ⊕ (T.ty.val ⊕ R))) = some e := by rw [hq] at hk'; exact hk'
                cases hq2 : ke i st' with
                | none => rw [hq2] at hk'; cases hk'
                | some r' =>
                  rw [hq2] at hk'
                  injection hk' with hk'
                  have := hrt _ hk'.symm
                  subst this
                  injection h2 with h2; subst h2
                  exact hx i st' hq2 a' w' lim' β' hs'
              | true =>
                rw [if_pos (nbeq hq)]
                have hk' : (pack T st').map (fun t => (Sum.inr (Sum.inl t) : S.ty.val ⊕ (T.ty.val ⊕ R))) = some e := by rw [hq] at hk'; exact hk'
                cases hq2 : pack T st' with
                | none => rw [hq2] at hk'; cases hk'
                | some t' =>
                  rw [hq2] at hk'
                  injection hk' with hk'
                  have := hrt _ hk'.symm
                  subst this
                  exact hn _ h2 a' w' lim' β' (hs'.weak (pack_weak hq2))
        · cases he
      · have he : evalK tab G ann fuel c R st kn kr (fun i st' => cnd (Nat.beq i id) (kn st') (ke i st')) = some r := by
          cases c <;> first | exact he | (exfalso; exact hl ⟨_, rfl⟩)
        refine wp_block (ihc.1 R st kn kr _ r hd he _ a w lim β h hn hr (fun i st' hk a' w' lim' β' hs => ?_))
        show (if i = id then Q .normal a' w' else Q (.exit i) a' w')
        cases hq : Nat.beq i id with
        | true =>
          rw [hq] at hk
          rw [if_pos (nbeq hq)]
          exact hn st' hk a' w' lim' β' hs
        | false =>
          have hne : ¬ i = id := by intro e; subst e; rw [Nat.beq_refl] at hq; cases hq
          rw [hq] at hk
          rw [if_neg hne]
          exact hx i st' hk a' w' lim' β' hs
    | exit id =>
      refine ⟨?_, fun b hb => by cases hb⟩
      intro R st kn kr ke r hd he Q a w lim β h hn hr hx
      unfold evalK at he
      exact wp_exit (hx id st he a w lim β h)
    | ret =>
      refine ⟨?_, fun b hb => by cases hb⟩
      intro R st kn kr ke r hd he Q a w lim β h hn hr hx
      unfold evalK at he
      exact wp_ret (hr st he a w lim β h)
    | loop c ihc =>
      refine ⟨?_, fun b hb => by injection hb with hb; subst hb; exact ihc.1⟩
      intro R st kn kr ke r hd he Q a w lim β h hn hr hx
      unfold evalK at he; cases he
    | goto l =>
      refine ⟨?_, fun b hb => by cases hb⟩
      intro R st kn kr ke r hd he Q a w lim β h hn hr hx
      unfold evalK at he; cases he
    | label l =>
      refine ⟨?_, fun b hb => by cases hb⟩
      intro R st kn kr ke r hd he
      unfold evalK at he; cases he
    | refuse l =>
      refine ⟨?_, fun b hb => by cases hb⟩
      intro R st kn kr ke r hd he
      unfold evalK at he; cases he
    | scope c ihc =>
      refine ⟨?_, fun b hb => by cases hb⟩
      intro R st kn kr ke r hd he
      unfold evalK at he; cases he
    | rangeFunc f ps x y ihx ihy =>
      refine ⟨?_, fun b hb => by cases hb⟩
      intro R st kn kr ke r hd he
      unfold evalK at he; cases he
  exact both.1
end
end Go.Den
