/- One step of the relation: what a change of the read state and of the machine's state must keep. -/
import Derived.Test.YtbfndjfjkkfaeaaXDenB
set_option linter.unusedVariables false
set_option linter.unusedSimpArgs false
namespace Go.Den

theorem nbeq {a b : Nat} (h : Nat.beq a b = true) : a = b := by rw [Nat.beq_eq] at h; exact h
theorem isT_some {t : Tmp} {d : Option Tmp} : isT t d = true ↔ d = some t := by
  cases d with
  | none => simp [isT]
  | some d => simp [isT, Nat.beq_eq]; exact ⟨fun h => h.symm, fun h => h.symm⟩
theorem isT_ne {t : Tmp} {d : Option Tmp} : isT t d = false ↔ d ≠ some t := by
  rw [← Bool.not_eq_true, isT_some]
theorem pbeq_iff : ∀ {p q : List Nat}, pbeq p q = true ↔ p = q
  | [], [] => by simp [pbeq]
  | [], _ :: _ => by simp [pbeq]
  | _ :: _, [] => by simp [pbeq]
  | i :: p, j :: q => by
    cases h : Nat.beq i j with
    | true => have := nbeq h; simp [pbeq, h, this, pbeq_iff (p := p) (q := q)]
    | false => have : i ≠ j := fun e => by subst e; simp at h
               simp [pbeq, h, this]
theorem Loc.beq_iff : ∀ {l m : Loc}, Loc.beq l m = true ↔ l = m
  | .tmp t p, .tmp u q => by
    cases h : Nat.beq t u with
    | true => have := nbeq h; simp [Loc.beq, h, this, pbeq_iff]
    | false => have : t ≠ u := fun e => by subst e; simp at h
               simp [Loc.beq, h, this]
  | .box t p, .box u q => by
    cases h : Nat.beq t u with
    | true => have := nbeq h; simp [Loc.beq, h, this, pbeq_iff]
    | false => have : t ≠ u := fun e => by subst e; simp at h
               simp [Loc.beq, h, this]
  | .tmp _ _, .box _ _ => by simp [Loc.beq]
  | .box _ _, .tmp _ _ => by simp [Loc.beq]
theorem inLocs_iff {l : Loc} : ∀ {ls : List Loc}, inLocs l ls = true ↔ l ∈ ls
  | [] => by simp [inLocs]
  | m :: ms => by
    cases h : Loc.beq l m with
    | true => simp only [inLocs, h, cnd_true, true_iff]; rw [Loc.beq_iff.1 h]; exact List.mem_cons_self
    | false => have : l ≠ m := fun e => by rw [Loc.beq_iff.2 e] at h; cases h
               simp [inLocs, h, this, inLocs_iff (ls := ms)]
theorem inPaths_iff {p : List Nat} : ∀ {ps : List (List Nat)}, inPaths p ps = true ↔ p ∈ ps
  | [] => by simp [inPaths]
  | q :: qs => by
    cases h : pbeq p q with
    | true => simp only [inPaths, h, cnd_true, true_iff]; rw [pbeq_iff.1 h]; exact List.mem_cons_self
    | false => have : p ≠ q := fun e => by rw [pbeq_iff.2 e] at h; cases h
               simp [inPaths, h, this, inPaths_iff (ps := qs)]

theorem tmpOf_put_ne {a : Act} {d : Option Tmp} {v : Value} {t : Tmp} (h : d ≠ some t) : tmpOf (a.put d v) t = tmpOf a t := by
  cases d with
  | none => rfl
  | some d =>
    have : d ≠ t := fun e => h (by rw [e])
    simp [tmpOf, Act.put, Array.getElem?_setIfInBounds_ne this]
theorem tmpOf_put_eq {a : Act} {v : Value} {t : Tmp} (h : t < a.tmps.size) : tmpOf (a.put (some t) v) t = v := by
  simp [tmpOf, Act.put, h]

/-- a place that is newly owned -/
def newOwn (u : Upd) : Loc → Prop
  | .tmp t p => u.dst = some t ∧ p ∈ u.own
  | .box b p => ∃ d o q, u.bw = some (b, d, o, q) ∧ p ∈ o
/-- a place that stays owned -/
def stays (st : St) (u : Upd) (l : Loc) : Prop :=
  st.own l = true ∧ l ∉ u.takes ∧ match l with
    | .tmp t _ => u.dst ≠ some t
    | .box b p => ∀ d o q, u.bw = some (b, d, o, q) → pcomp p q = false

theorem own_apply {st : St} {u : Upd} {l : Loc} (h : (apply st u).own l = true) : newOwn u l ∨ stays st u l := by
  cases l with
  | tmp t p =>
    simp only [apply] at h
    cases ht : isT t u.dst with
    | true => rw [ht] at h; exact .inl ⟨isT_some.1 ht, inPaths_iff.1 h⟩
    | false =>
      rw [ht] at h
      cases hl : inLocs (.tmp t p) u.takes with
      | true => rw [hl] at h; simp at h
      | false =>
        rw [hl] at h
        exact .inr ⟨h, fun hm => (by rw [inLocs_iff.2 hm] at hl; cases hl), isT_ne.1 ht⟩
  | box b p =>
    simp only [apply] at h
    cases hbw : u.bw with
    | none =>
      rw [hbw] at h
      cases hl : inLocs (.box b p) u.takes with
      | true => rw [hl] at h; simp at h
      | false =>
        rw [hl] at h
        exact .inr ⟨h, fun hm => (by rw [inLocs_iff.2 hm] at hl; cases hl), fun d o q he => (by rw [hbw] at he; cases he)⟩
    | some x =>
      obtain ⟨c, d, o, q⟩ := x
      rw [hbw] at h
      simp only [] at h
      cases hl : inLocs (.box b p) u.takes with
      | true =>
        rw [hl] at h
        cases hbc : Nat.beq b c with
        | false => rw [hbc] at h; simp at h
        | true =>
          rw [hbc] at h
          cases hp : inPaths p o with
          | true => exact .inl ⟨d, o, q, by rw [hbw, nbeq hbc], inPaths_iff.1 hp⟩
          | false => rw [hp] at h; cases hc : pcomp p q <;> rw [hc] at h <;> simp at h
      | false =>
        rw [hl] at h
        have hnt : Loc.box b p ∉ u.takes := fun hm => (by rw [inLocs_iff.2 hm] at hl; cases hl)
        cases hbc : Nat.beq b c with
        | false =>
          rw [hbc] at h
          refine .inr ⟨h, hnt, fun d' o' q' he => ?_⟩
          rw [hbw] at he
          injection he with he
          injection he with he _
          rw [he] at hbc; simp at hbc
        | true =>
          rw [hbc] at h
          cases hp : inPaths p o with
          | true => exact .inl ⟨d, o, q, by rw [hbw, nbeq hbc], inPaths_iff.1 hp⟩
          | false =>
            rw [hp] at h
            cases hc : pcomp p q with
            | true => rw [hc] at h; simp at h
            | false =>
              rw [hc] at h
              refine .inr ⟨h, hnt, fun d' o' q' he => ?_⟩
              rw [hbw] at he
              injection he with he
              injection he with _ he
              injection he with _ he
              injection he with _ he
              rw [← he]; exact hc

section
variable {w0 : Base} {lim0 : Lim} {rb : Option Nat} {n : Nat}

theorem ERep.mono {st st' : St} {w w' : World} {lim lim' : Lim} {β β' : Mp} (he : Ext w lim w' lim')
    (hb : ∀ b d, st.box b = some d → β' b = β b ∧ ∃ d', st'.box b = some d' ∧ d'.1 = d.1)
    (hr : ∀ d, st.rd = some d → ∃ d', st'.rd = some d' ∧ d'.1 = d.1)
    (hx : ∀ r d, st.io r = some d → ∃ d', st'.io r = some d' ∧ d'.1 = d.1 ∧ β'.V r = β.V r)
    (hc : ∀ b t o, st.xb b = some (t, o) → (∃ o', st'.xb b = some (t, o')) ∧ β'.c b = β.c b) : ∀ {av : AV} {v : Value}, ERep st w lim β rb av v → ERep st' w' lim' β' rb av v
  | .any, _, h => h
  | .skp, _, h => h
  | .nil, _, h => h
  | .dat _ _, _, h => TRep.mono he h
  | .cel b p, _, h => by
    obtain ⟨d, h1, h2⟩ := h
    obtain ⟨e, d', h3, h4⟩ := hb b d h1
    exact ⟨d', h3, by rw [h2, e, h4]⟩
  | .ref t x, _, h => by
    obtain ⟨b, o, cs, rfl, h1, h2, h3, h4⟩ := h
    refine ⟨b, o, cs, rfl, Nat.lt_of_lt_of_le h1 he.size, h2.mono he, he.lim _ _ h1 h3, fun j u hu => he.cell _ _ _ h1 (under_le h3 ?_) (h4 j u hu)⟩
    have := (List.getElem?_eq_some_iff.1 hu).1
    rw [h2.length] at this
    omega
  | .tup t x, _, h => by
    obtain ⟨vs, rfl, h1⟩ := h
    exact ⟨vs, rfl, h1.mono he⟩
  | .rdr p, _, h => by
    obtain ⟨d, b, h1, h2, h3⟩ := h
    obtain ⟨d', h4, h5⟩ := hr d h1
    exact ⟨d', b, h4, h2, by rw [h3, h5]⟩
  | .xf r p, _, h => by
    obtain ⟨d, u, h1, h2, h3⟩ := h
    obtain ⟨d', h4, h5, h6⟩ := hx r d h1
    exact ⟨d', u, h4, by rw [h5]; exact h2, by rw [h5, h6]; exact h3⟩
  | .xp r p n q, _, h => by
    obtain ⟨d, e, g, m, c, h1, h2, h3, h4, h5⟩ := h
    obtain ⟨d', k1, k2, k3⟩ := hx r d h1
    exact ⟨d', e, g, m, c, k1, by rw [k2]; exact h2, h3, by rw [k2, k3]; exact h4, h5⟩
  | .xt r, _, h => by
    obtain ⟨h1, d, vs, h2, h3, h4⟩ := h
    obtain ⟨d', k1, k2, k3⟩ := hx r d h2
    exact ⟨by rw [h1, k3], d', vs, k1, h3, by rw [k2]; exact h4⟩
  | .cx b p, _, h => by
    obtain ⟨t, o, h1, h2⟩ := h
    obtain ⟨⟨o', k1⟩, k2⟩ := hc b t o h1
    exact ⟨t, o', k1, by rw [h2, k2]⟩

/-- blocks that are the trees' -/
def isTree (st : St) (β : Mp) (g : Nat) : Prop := (∃ r d, st.io r = some d ∧ β.B r g) ∨ ∃ b t o, st.xb b = some (t, o) ∧ g = β.c b
theorem XRep.lt {w : World} : ∀ {t : Ty} {x : t.val} {cs : List Value} {B : Nat → Prop}, XRep w t x cs B → ∀ g, B g → g < w.heap.size
  | .int _, _, _, _, h, g, hg => (h.2 g hg).elim
  | .bool, _, _, _, h, g, hg => (h.2 g hg).elim
  | .str, _, _, _, h, g, hg => (h.2 g hg).elim
  | .unit, _, _, _, h, g, hg => (h.2 g hg).elim
  | .prod a b, _, _, _, h, g, hg => by
    obtain ⟨c1, c2, B1, B2, _, h2, _, h4, h5⟩ := h
    rcases (h2 g).1 hg with hg | hg
    · exact XRep.lt h4 g hg
    · exact XRep.lt h5 g hg
  | .slice t, _, _, _, h, g, hg => by
    rcases h with ⟨_, _, h⟩ | ⟨g', c, arr, e, fr, _, _, _, h4, _, h5, _⟩
    · exact (h g hg).elim
    · have := (h5 g).1 hg; subst this
      exact (Array.getElem?_eq_some_iff.1 h4).1
theorem XRep.keep {w w' : World} : ∀ {t : Ty} {x : t.val} {cs : List Value} {B : Nat → Prop}, XRep w t x cs B → (∀ g, B g → w'.heap[g]? = w.heap[g]?) → XRep w' t x cs B
  | .int _, _, _, _, h, _ => h
  | .bool, _, _, _, h, _ => h
  | .str, _, _, _, h, _ => h
  | .unit, _, _, _, h, _ => h
  | .prod a b, _, _, _, h, hk => by
    obtain ⟨c1, c2, B1, B2, h1, h2, h3, h4, h5⟩ := h
    exact ⟨c1, c2, B1, B2, h1, h2, h3, XRep.keep h4 (fun g hg => hk g ((h2 g).2 (.inl hg))), XRep.keep h5 (fun g hg => hk g ((h2 g).2 (.inr hg)))⟩
  | .slice t, _, _, _, h, hk => by
    rcases h with h | ⟨g, c, arr, e, fr, h1, h2, h3, h4, hf, h5, h6⟩
    · exact .inl h
    · exact .inr ⟨g, c, arr, e, fr, h1, h2, h3, (hk g ((h5 g).2 rfl)).trans h4, hf, h5, h6⟩
theorem Own.lt {st : St} {a : Act} {w : World} {lim : Lim} {β : Mp} (h : Own w0 rb st a w lim β) {g : Nat} (hg : isTree st β g) : g < w.heap.size ∧ (w0.heap.size ≤ g ∨ w0.X g) ∧ lim g = some 0 := by
  rcases hg with ⟨r, d, h1, h2⟩ | ⟨b, t, o, h1, rfl⟩
  · exact ⟨(h.io r d h1).2.lt g h2, (h.base r d g h1 h2).1, (h.base r d g h1 h2).2.2⟩
  · obtain ⟨cells, e, h2, _, h3, h4, _⟩ := h.xb b t o h1
    exact ⟨(Array.getElem?_eq_some_iff.1 h2).1, .inl h3, h4⟩
theorem Own.off {st : St} {a : Act} {w : World} {lim : Lim} {β : Mp} (h : Own w0 rb st a w lim β) {m : Loc} {z : Value} {g : Nat} (h3 : st.own m = true) (h4 : locV st a w β m = some z) (h5 : blockOf z = some g) : ¬ isTree st β g := by
  intro ht
  rcases ht with ⟨r, d', h1, h2⟩ | ⟨c, t, o, h1, h2⟩
  · exact h.own r d' g h1 h2 m z h3 h4 h5
  · rw [h2] at h5; exact (h.xbox c t o h1).2.1 m z h3 h4 h5
theorem Own.offb {st : St} {a : Act} {w : World} {lim : Lim} {β : Mp} (h : Own w0 rb st a w lim β) {b : Tmp} {d : Dat} (hbd : st.box b = some d) : ¬ isTree st β (β b) := by
  intro ht
  rcases ht with ⟨r, d', h1, h2⟩ | ⟨c, t, o, h1, h2⟩
  · exact h.box r d' _ h1 h2 b d hbd rfl
  · exact (h.xbox c t o h1).1 b d hbd h2
/-- what does not touch the trees leaves them as they were -/
theorem Own.keep {st st' : St} {a a' : Act} {w w' : World} {lim lim' : Lim} {β β' : Mp} (h : Own w0 rb st a w lim β) (hio : st'.io = st.io) (hxb : st'.xb = st.xb)
    (hV : ∀ r d, st.io r = some d → β'.V r = β.V r ∧ β'.B r = β.B r) (hβ : ∀ b t o, st.xb b = some (t, o) → β'.c b = β.c b)
    (hk : ∀ g, isTree st β g → w'.heap[g]? = w.heap[g]? ∧ lim' g = lim g)
    (hbox : ∀ b d, st'.box b = some d → ¬ isTree st β (β' b))
    (hown : ∀ l v g, st'.own l = true → locV st' a' w' β' l = some v → blockOf v = some g → ¬ isTree st β g) : Own w0 rb st' a' w' lim' β' := by
  have tr : ∀ r d g, st.io r = some d → β'.B r g → isTree st β g := fun r d g h1 h2 => .inl ⟨r, d, h1, by rw [← (hV r d h1).2]; exact h2⟩
  refine ⟨fun r d hr => ?_, fun r d g hr hg => ?_, fun r d g hr hg b d' hb he => ?_, fun r d g hr hg l v hl hv hg' => ?_, fun r d r' d' g hr hr' hg hg' => ?_, fun b t o hb => ?_, fun b t o hb => ?_, fun b c t o t' o' hb hc he => ?_, fun d hd hm => ?_⟩
  · rw [hio] at hr
    obtain ⟨h1, h2⟩ := h.io r d hr
    rw [(hV r d hr).1, (hV r d hr).2]
    exact ⟨h1, h2.keep fun g hg => (hk g (.inl ⟨r, d, hr, hg⟩)).1⟩
  · rw [hio] at hr
    have ht := tr r d g hr hg
    rw [(hV r d hr).2] at hg
    obtain ⟨h1, h2, h3⟩ := h.base r d g hr hg
    exact ⟨h1, h2, (hk g ht).2.trans h3⟩
  · rw [hio] at hr; exact hbox b d' hb (by rw [he]; exact tr r d g hr hg)
  · rw [hio] at hr; exact hown l v g hl hv hg' (tr r d g hr hg)
  · rw [hio] at hr hr'
    rw [(hV r d hr).2] at hg
    rw [(hV r' d' hr').2] at hg'
    exact h.dis r d r' d' g hr hr' hg hg'
  · rw [hxb] at hb
    obtain ⟨cells, e, h1, h2, h3, h4, h5⟩ := h.xb b t o hb
    have := hk (β.c b) (.inr ⟨b, t, o, hb, rfl⟩)
    rw [hβ b t o hb]
    refine ⟨cells, e, this.1.trans h1, h2, h3, this.2.trans h4, fun r q ho => ?_⟩
    obtain ⟨d, k1, k2, k3⟩ := h5 r q ho
    exact ⟨d, by rw [hio]; exact k1, k2, by rw [(hV r d k1).1]; exact k3⟩
  · rw [hxb] at hb
    have ht : isTree st β (β.c b) := .inr ⟨b, t, o, hb, rfl⟩
    rw [hβ b t o hb]
    refine ⟨fun c d hc he => hbox c d hc (by rw [he]; exact ht), fun l v hl hv hg => hown l v _ hl hv hg ht, fun r d hr hg => ?_⟩
    rw [hio] at hr
    rw [(hV r d hr).2] at hg
    exact (h.xbox b t o hb).2.2 r d hr hg
  · rw [hxb] at hb hc
    rw [hβ b t o hb, hβ c t' o' hc] at he
    exact h.xinj b c t o t' o' hb hc he
  · rw [hio] at hd
    rw [(hV 0 d hd).1, (hV 0 d hd).2]
    exact h.fix d hd hm

theorem Sim.step {st : St} {a : Act} {w : World} {lim : Lim} {β : Mp} (h : Sim w0 lim0 rb n st a w lim β)
    (u : Upd) (v : Value) (w' : World) (lim' : Lim) (β' : Mp)
    (hd : ∀ d, u.dst = some d → d < n)
    (hext : Ext w lim w' lim') (hgrow : w0.grownBy w' rb) (hlim : ∀ b, b < w0.heap.size → lim' b = lim b)
    (hβ : ∀ b d, st.box b = some d → β' b = β b)
    (hval : ∀ d, u.dst = some d → ERep (apply st u) w' lim' β' rb u.ent.av v)
    (hbk : ∀ b d, st.box b = some d → (∀ d' o q, u.bw ≠ some (b, d', o, q)) → w'.heap[β b]? = w.heap[β b]? ∧ lim' (β b) = lim (β b))
    (hok : ∀ l x g, stays st u l → locV st a w β l = some x → blockOf x = some g → w'.heap[g]? = w.heap[g]? ∧ lim' g = lim g)
    (hbw : ∀ c d o q, u.bw = some (c, d, o, q) → (∃ cells e, w'.heap[β' c]? = some (.cells cells e (0, 0)) ∧ CRep w' lim' d.1 d.2 cells.toList ∧ w0.heap.size ≤ β' c ∧ lim' (β' c) = some 0) ∧
      (∀ b d', b ≠ c → st.box b = some d' → β b ≠ β' c) ∧
      (∀ l x g, stays st u l → locV st a w β l = some x → blockOf x = some g → g ≠ β' c) ∧
      (∀ d0, st.box c = some d0 → d0.1 = d.1 ∧ ∀ p e, st.own (.box c p) = true → typeAt d0.1 p = some (.slice e) → pcomp p q = false → w'.cell? ⟨β' c, offs d.1 p, none⟩ = w.cell? ⟨β c, offs d0.1 p, none⟩))
    (hnew : ∀ l, newOwn u l → ∃ e x, locTy (apply st u) l = some (.slice e) ∧ locV (apply st u) (a.put u.dst v) w' β' l = some x ∧ Tip w' lim' w0.heap.size e.size x ∧
      ∀ g, blockOf x = some g → (∀ b d, (apply st u).box b = some d → β' b ≠ g) ∧ (∀ m y, stays st u m → locV st a w β m = some y → blockOf y ≠ some g))
    (hnsep : ∀ l m x y g, newOwn u l → newOwn u m → locV (apply st u) (a.put u.dst v) w' β' l = some x → locV (apply st u) (a.put u.dst v) w' β' m = some y →
      blockOf x = some g → blockOf y = some g → l = m)
    (htag : ∀ d l, u.dst = some d → u.ent.tag = some (true, l) → (apply st u).own l = true →
      locV (apply st u) (a.put u.dst v) w' β' l = some v ∧ ∃ e x, u.ent.av = .dat (.slice e) x ∧ locTy (apply st u) l = some (.slice e))
    (hrd : (u.rd = none ∧ ∀ d b, st.rd = some d → rb = some b → w'.heap[b]? = w.heap[b]? ∧ lim' b = lim b) ∨
      (∃ d d0, u.rd = some d ∧ st.rd = some d0 ∧ d.1 = d0.1 ∧ ∃ b cells e, rb = some b ∧ b < w0.heap.size ∧ w'.heap[b]? = some (.cells cells e (0, 0)) ∧ CRep w' lim' d.1 d.2 cells.toList ∧ lim' b = some 0))
    (hio : ∀ r d, st.io r = some d → ∃ d', (apply st u).io r = some d' ∧ d'.1 = d.1 ∧ β'.V r = β.V r)
    (hxb : ∀ b t o, st.xb b = some (t, o) → (∃ o', (apply st u).xb b = some (t, o')) ∧ β'.c b = β.c b)
    (hxs : (∀ l, stays st u l → locV (apply st u) (a.put u.dst v) w' β' l = locV st a w β l) → Own w0 rb (apply st u) (a.put u.dst v) w' lim' β') :
    Sim w0 lim0 rb n (apply st u) (a.put u.dst v) w' lim' β' := by
  have hbox : ∀ b d, st.box b = some d → β' b = β b ∧ ∃ d', (apply st u).box b = some d' ∧ d'.1 = d.1 := by
    intro b d hb
    refine ⟨hβ b d hb, ?_⟩
    simp only [apply]
    cases hu : u.bw with
    | none => exact ⟨d, hb, rfl⟩
    | some x =>
      obtain ⟨c, d', o, q⟩ := x
      simp only []
      cases hc : Nat.beq b c with
      | false => exact ⟨d, by simpa using hb, rfl⟩
      | true =>
        have := nbeq hc; subst this
        exact ⟨d', rfl, ((hbw _ _ _ _ hu).2.2.2 d hb).1.symm⟩
  have hrdm : ∀ d, st.rd = some d → ∃ d', (apply st u).rd = some d' ∧ d'.1 = d.1 := by
    intro d hr
    simp only [apply]
    rcases hrd with ⟨h1, _⟩ | ⟨d', d0, h1, h2, h3, _⟩
    · rw [h1]; exact ⟨d, hr, rfl⟩
    · rw [h1]; rw [h2] at hr; injection hr with hr; subst hr; exact ⟨d', rfl, h3⟩
  -- what an owned place that stays holds
  have hstay : ∀ l, stays st u l → locTy (apply st u) l = locTy st l ∧ locV (apply st u) (a.put u.dst v) w' β' l = locV st a w β l := by
    intro l hl
    cases l with
    | tmp t p =>
      have hne : u.dst ≠ some t := hl.2.2
      have hav : ((apply st u).env t).av = (st.env t).av := by simp [apply, isT_ne.2 hne]
      exact ⟨by simp only [locTy, hav], by simp only [locV, hav, tmpOf_put_ne hne]⟩
    | box b p =>
      obtain ⟨e, x, h1, h2, _⟩ := h.own _ hl.1
      cases hb : st.box b with
      | none => simp only [locTy, hb] at h1; cases h1
      | some d =>
        obtain ⟨hbe, d', hb', hty⟩ := hbox b d hb
        refine ⟨by simp only [locTy, hb, hb', hty], ?_⟩
        simp only [locV, hb, hb', hty]
        by_cases hw : ∃ d2 o q, u.bw = some (b, d2, o, q)
        · obtain ⟨d2, o, q, hw⟩ := hw
          have h4 := (hbw _ _ _ _ hw).2.2.2 d hb
          have hpc : pcomp p q = false := hl.2.2 d2 o q hw
          have hd2 : (apply st u).box b = some d2 := by simp [apply, hw]
          rw [hb'] at hd2; injection hd2 with hd2; subst hd2
          simp only [locTy, hb] at h1
          have := h4.2 p e hl.1 h1 hpc
          rw [hty] at this
          exact this
        · have hk := hbk b d hb (fun d' o q he => hw ⟨d', o, q, he⟩)
          rw [hbe]
          exact World.cell?_of_block hk.1
  have hTip : ∀ {x sz}, Tip w lim w0.heap.size sz x → (∀ g, blockOf x = some g → w'.heap[g]? = w.heap[g]? ∧ lim' g = lim g) → Tip w' lim' w0.heap.size sz x := by
    intro x sz ht hg
    rcases ht with ht | ⟨b, m, c, arr, e, fr, rfl, h1, h2, h3, h4, h5, h6⟩
    · exact .inl ht
    · obtain ⟨k1, k2⟩ := hg b rfl
      exact .inr ⟨b, m, c, arr, e, fr, rfl, h1, k1.trans h2, h3, h4, h5, k2.trans h6⟩
  refine { size := ?_, defers := ?_, grow := hgrow, limOld := fun b hb => (hlim b hb).trans (h.limOld b hb), env := ?_, box := ?_, inj := ?_, own := ?_, sep := ?_, tag := ?_, rd := ?_, xs := hxs fun l hl => (hstay l hl).2 }
  · have : (a.put u.dst v).tmps.size = a.tmps.size := by cases u.dst <;> simp [Act.put]
    rw [this]; exact h.size
  · have : (a.put u.dst v).defers = a.defers := by cases u.dst <;> rfl
    rw [this]; exact h.defers
  · intro t
    cases ht : isT t u.dst with
    | true =>
      have hdt := isT_some.1 ht
      have : ((apply st u).env t) = u.ent := by simp [apply, ht]
      rw [this, hdt, tmpOf_put_eq (by rw [h.size]; exact hd t hdt)]
      exact hval t hdt
    | false =>
      have : ((apply st u).env t).av = (st.env t).av := by simp [apply, ht]
      rw [this, tmpOf_put_ne (isT_ne.1 ht)]
      exact (h.env t).mono hext hbox hrdm hio hxb
  · intro b d hb
    by_cases hw : ∃ d2 o q, u.bw = some (b, d2, o, q)
    · obtain ⟨d2, o, q, hw⟩ := hw
      have hd2 : (apply st u).box b = some d2 := by simp [apply, hw]
      rw [hb] at hd2; injection hd2 with hd2; subst hd2
      exact (hbw _ _ _ _ hw).1
    · have hne : ∀ d' o q, u.bw ≠ some (b, d', o, q) := fun d' o q he => hw ⟨d', o, q, he⟩
      have hb0 : st.box b = some d := by
        simp only [apply] at hb
        cases hu : u.bw with
        | none => simpa [hu] using hb
        | some x =>
          obtain ⟨c, d', o, q⟩ := x
          rw [hu] at hb; simp only [] at hb
          cases hc : Nat.beq b c with
          | false => simpa [hc] using hb
          | true => have := nbeq hc; subst this; exact absurd hu (hne _ _ _)
      obtain ⟨cells, e, h1, h2, h3, h4⟩ := h.box b d hb0
      obtain ⟨k1, k2⟩ := hbk b d hb0 hne
      rw [hβ b d hb0]
      exact ⟨cells, e, k1.trans h1, h2.mono hext, h3, k2.trans h4⟩
  · intro b c d d' hb hc he
    have back : ∀ b d, (apply st u).box b = some d → (∃ d0, st.box b = some d0 ∧ ∀ d' o q, u.bw ≠ some (b, d', o, q)) ∨ ∃ o q, u.bw = some (b, d, o, q) := by
      intro b d hb
      simp only [apply] at hb
      cases hu : u.bw with
      | none => rw [hu] at hb; exact .inl ⟨d, hb, fun _ _ _ he => by cases he⟩
      | some x =>
        obtain ⟨c, d', o, q⟩ := x
        rw [hu] at hb; simp only [] at hb
        cases hc : Nat.beq b c with
        | false =>
          rw [hc] at hb
          refine .inl ⟨d, hb, fun d2 o2 q2 he => ?_⟩
          injection he with he; injection he with he _; rw [he] at hc; simp at hc
        | true =>
          rw [hc] at hb
          have := nbeq hc; subst this
          have hb : some d' = some d := hb
          injection hb with hb
          subst hb; exact .inr ⟨o, q, rfl⟩
    by_cases hbc : b = c
    · exact hbc
    · rcases back b d hb with ⟨d0, hb0, hbn⟩ | ⟨o, q, hbw'⟩ <;> rcases back c d' hc with ⟨d1, hc0, hcn⟩ | ⟨o', q', hcw⟩
      · rw [hβ b d0 hb0, hβ c d1 hc0] at he
        exact h.inj b c d0 d1 hb0 hc0 he
      · rw [hβ b d0 hb0] at he
        exact absurd he ((hbw _ _ _ _ hcw).2.1 b d0 hbc hb0)
      · rw [hβ c d1 hc0] at he
        exact absurd he.symm ((hbw _ _ _ _ hbw').2.1 c d1 (fun e => hbc e.symm) hc0)
      · rw [hbw'] at hcw; injection hcw with hcw; injection hcw with hcw _
  · intro l hl
    rcases own_apply hl with hn | hs
    · obtain ⟨e, x, h1, h2, h3, h4⟩ := hnew l hn
      exact ⟨e, x, h1, h2, h3, fun g hg => (h4 g hg).1⟩
    · obtain ⟨e, x, h1, h2, h3, h4⟩ := h.own l hs.1
      obtain ⟨k1, k2⟩ := hstay l hs
      refine ⟨e, x, k1.trans h1, k2.trans h2, hTip h3 (fun g hg => hok l x g hs h2 hg), fun g hg b d hb => ?_⟩
      by_cases hw : ∃ d2 o q, u.bw = some (b, d2, o, q)
      · obtain ⟨d2, o, q, hw⟩ := hw
        exact fun e => (hbw _ _ _ _ hw).2.2.1 l x g hs h2 hg e.symm
      · have hb0 : st.box b = some d := by
          simp only [apply] at hb
          cases hu : u.bw with
          | none => simpa [hu] using hb
          | some y =>
            obtain ⟨c, d', o, q⟩ := y
            rw [hu] at hb; simp only [] at hb
            cases hc : Nat.beq b c with
            | false => simpa [hc] using hb
            | true => have := nbeq hc; subst this; exact absurd ⟨_, _, _, hu⟩ hw
        rw [hβ b d hb0]
        exact h4 g hg b d hb0
  · intro l m x y g hl hm hx hy hgx hgy
    rcases own_apply hl with hn | hs <;> rcases own_apply hm with hn' | hs'
    · exact hnsep l m x y g hn hn' hx hy hgx hgy
    · obtain ⟨e, x', h1, h2, h3, h4⟩ := hnew l hn
      rw [hx] at h2; injection h2 with h2; subst h2
      rw [(hstay m hs').2] at hy
      exact absurd hgy ((h4 g hgx).2 m y hs' hy)
    · obtain ⟨e, x', h1, h2, h3, h4⟩ := hnew m hn'
      rw [hy] at h2; injection h2 with h2; subst h2
      rw [(hstay l hs).2] at hx
      exact absurd hgx ((h4 g hgy).2 l x hs hx)
    · rw [(hstay l hs).2] at hx
      rw [(hstay m hs').2] at hy
      exact h.sep l m x y g hs.1 hs'.1 hx hy hgx hgy
  · intro t l ht hl
    cases hdt : isT t u.dst with
    | true =>
      have hde := isT_some.1 hdt
      have he : ((apply st u).env t) = u.ent := by simp [apply, hdt]
      rw [he] at ht
      rw [he]
      conv => enter [1, 2, 1]; rw [show tmpOf (a.put u.dst v) t = v by rw [hde]; exact tmpOf_put_eq (by rw [h.size]; exact hd t hde)]
      exact htag t l hde ht hl
    | false =>
      have hne := isT_ne.1 hdt
      have htg : keepTag u (st.env t).tag = some (true, l) := by simpa [apply, hdt] using ht
      have hav : ((apply st u).env t).av = (st.env t).av := by simp [apply, hdt]
      have h0 : (st.env t).tag = some (true, l) ∧ ¬ newOwn u l := by
        cases hs : (st.env t).tag with
        | none => rw [hs] at htg; simp [keepTag] at htg
        | some km =>
          obtain ⟨k, m⟩ := km
          rw [hs] at htg
          cases m with
          | tmp t' p =>
            simp only [keepTag] at htg
            injection htg with htg; injection htg with h1 h2
            subst h2
            cases hq : isT t' u.dst with
            | true => rw [hq] at h1; cases h1
            | false =>
              rw [hq] at h1
              have h1 : k = true := h1
              subst h1
              exact ⟨rfl, fun hn => by have := isT_ne.1 hq; exact this hn.1⟩
          | box b p =>
            simp only [keepTag] at htg
            injection htg with htg; injection htg with h1 h2
            subst h2
            cases hu : u.bw with
            | none =>
              rw [hu] at h1
              have h1 : k = true := h1
              subst h1
              refine ⟨rfl, fun hn => ?_⟩
              obtain ⟨d, o, q, hn, _⟩ := hn
              rw [hu] at hn; cases hn
            | some x =>
              obtain ⟨c, d', o, q⟩ := x
              rw [hu] at h1
              have h1 : cnd (Nat.beq b c) false k = true := h1
              cases hc : Nat.beq b c with
              | true => rw [hc] at h1; cases h1
              | false =>
                rw [hc] at h1
                have h1 : k = true := h1
                subst h1
                refine ⟨rfl, fun hn => ?_⟩
                obtain ⟨d2, o2, q2, hn, _⟩ := hn
                rw [hu] at hn; injection hn with hn; injection hn with hn _
                rw [hn] at hc; simp at hc
      rcases own_apply hl with hn | hs
      · exact absurd hn h0.2
      · obtain ⟨k1, k2⟩ := hstay l hs
        obtain ⟨h1, e, x, h2, h3⟩ := h.tag t l h0.1 hs.1
        exact ⟨by rw [k2, tmpOf_put_ne hne]; exact h1, e, x, hav.trans h2, k1.trans h3⟩
  · intro d hr
    simp only [apply] at hr
    rcases hrd with ⟨h1, h2⟩ | ⟨d', d0, h1, h2, h3, b, cells, e, h4, h5, h6, h7, h8⟩
    · rw [h1] at hr
      obtain ⟨b, cells, e, h4, h5, h6, h7, h8⟩ := h.rd d hr
      obtain ⟨k1, k2⟩ := h2 d b hr h4
      exact ⟨b, cells, e, h4, h5, k1.trans h6, h7.mono hext, k2.trans h8⟩
    · rw [h1] at hr
      have hr : some d' = some d := hr
      injection hr with hr; subst hr
      exact ⟨b, cells, e, h4, h5, h6, h7, h8⟩
end
end Go.Den
