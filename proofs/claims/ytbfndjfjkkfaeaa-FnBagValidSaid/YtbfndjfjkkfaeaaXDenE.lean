/- The relation under memory that has grown, and under writes to boxes. -/
import Derived.Test.YtbfndjfjkkfaeaaXDenD
set_option linter.unusedVariables false
set_option linter.unusedSimpArgs false
namespace Go.Den
section
variable {w0 : Base} {lim0 : Lim} {rb : Option Nat} {n : Nat}

/-- memory has grown; of the old blocks only the reader's, and one that is given up, may be changed -/
theorem Sim.grown {st : St} {a : Act} {w : World} {lim : Lim} {β : Mp} (h : Sim w0 lim0 rb n st a w lim β)
    (u : Upd) (v : Value) (w' : World) (lim' : Lim) (hd : ∀ d, u.dst = some d → d < n) (hb : u.bw = none)
    (hext : Ext w lim w' lim') (hgrow : w0.grownBy w' rb)
    (hkeep : ∀ k, k < w.heap.size → some k ≠ rb → (∀ l x, l ∈ u.takes → st.own l = true → locV st a w β l = some x → blockOf x ≠ some k) → w'.heap[k]? = w.heap[k]? ∧ lim' k = lim k)
    (hrbl : ∀ k, some k = rb → k < w0.heap.size ∧ lim' k = lim k)
    (hv : ERep (apply st u) w' lim' β rb u.ent.av v)
    (hown : ∀ p ∈ u.own, ∃ e x, typeAV p u.ent.av = some (.slice e) ∧ partAV v p u.ent.av = some x ∧ Tip w' lim' w0.heap.size e.size x ∧
      ∀ g, blockOf x = some g → w.heap.size ≤ g ∨ ∃ l y, l ∈ u.takes ∧ st.own l = true ∧ locV st a w β l = some y ∧ blockOf y = some g)
    (hsep : ∀ p ∈ u.own, ∀ q ∈ u.own, ∀ x y g, partAV v p u.ent.av = some x → partAV v q u.ent.av = some y → blockOf x = some g → blockOf y = some g → p = q)
    (htag : u.ent.tag = none)
    (hrd : (u.rd = none ∧ ∀ b, rb = some b → w'.heap[b]? = w.heap[b]?) ∨
      (∃ d d0, u.rd = some d ∧ st.rd = some d0 ∧ d.1 = d0.1 ∧ ∃ b cells e, rb = some b ∧ b < w0.heap.size ∧ w'.heap[b]? = some (.cells cells e (0, 0)) ∧ CRep w' lim' d.1 d.2 cells.toList ∧ lim' b = some 0))
    (hxw : u.xw = none := by rfl) (hxbw : u.xbw = none := by rfl) :
    Sim w0 lim0 rb n (apply st u) (a.put u.dst v) w' lim' β := by
  have hiox : (apply st u).io = st.io := by simp [apply, hxw]
  have hxbx : (apply st u).xb = st.xb := by simp [apply, hxbw]
  have hio1 : ∀ r d, st.io r = some d → ∃ d', (apply st u).io r = some d' ∧ d'.1 = d.1 ∧ β.V r = β.V r := fun r d hr => ⟨d, by rw [hiox]; exact hr, rfl, rfl⟩
  have hxb1 : ∀ b t o, st.xb b = some (t, o) → (∃ o', (apply st u).xb b = some (t, o')) ∧ β.c b = β.c b := fun b t o hb' => ⟨⟨o, by rw [hxbx]; exact hb'⟩, rfl⟩
  have htree : ∀ g, isTree st β g → w'.heap[g]? = w.heap[g]? ∧ lim' g = lim g := by
    intro g hg
    have hlt := h.xs.lt hg
    refine hkeep g hlt.1 (fun hr => ?_) (fun l x _ ho hx hgx => h.xs.off ho hx hgx hg)
    have h1 := (hrbl g hr).1
    rcases hg with ⟨r, d, k1, k2⟩ | ⟨b, t, o, k1, rfl⟩
    · exact (h.xs.base r d g k1 k2).2.1 hr
    · obtain ⟨_, _, _, _, k3, _⟩ := h.xs.xb b t o k1
      omega
  have hbx : ∀ b, (apply st u).box b = st.box b := fun b => by simp [apply, hb]
  have hnb : ∀ c d o q, u.bw ≠ some (c, d, o, q) := fun _ _ _ _ e => by rw [hb] at e; cases e
  have key : ∀ l, newOwn u l → ∃ d p, l = .tmp d p ∧ u.dst = some d ∧ p ∈ u.own := by
    intro l hl
    cases l with
    | tmp t p => exact ⟨t, p, rfl, hl.1, hl.2⟩
    | box b p => obtain ⟨d, o, q, he, _⟩ := hl; exact absurd he (hnb _ _ _ _)
  have look : ∀ d p, u.dst = some d → locTy (apply st u) (.tmp d p) = typeAV p u.ent.av ∧ locV (apply st u) (a.put u.dst v) w' β (.tmp d p) = partAV v p u.ent.av := by
    intro d p hdd
    refine ⟨by rw [locTy_tmp, apply_env_dst hdd], ?_⟩
    rw [locV_tmp, apply_env_dst hdd, hdd, tmpOf_put_eq (by rw [h.size]; exact hd d hdd)]
  have hlim : ∀ b, b < w0.heap.size → lim' b = lim b := fun b hb' => by
    by_cases hr : some b = rb
    · exact (hrbl b hr).2
    · refine (hkeep b (Nat.lt_of_lt_of_le hb' h.grow.size) hr (fun l x _ ho hx hg => ?_)).2
      have := (h.lt ho hx hg).2
      omega
  have boxk : ∀ b d, st.box b = some d → w'.heap[β b]? = w.heap[β b]? ∧ lim' (β b) = lim (β b) := by
    intro b d hbd
    obtain ⟨cells, e, h1, h2, h3, h4⟩ := h.box b d hbd
    refine hkeep (β b) (Array.getElem?_eq_some_iff.1 h1).1 (fun hr => ?_) (fun l x _ ho hx hg => ?_)
    · have := (hrbl _ hr).1; omega
    · obtain ⟨e', y, _, k2, _, k4⟩ := h.own l ho
      rw [hx] at k2; injection k2 with k2; subst k2
      exact k4 _ hg b d hbd rfl
  have ownk : ∀ l x g, stays st u l → locV st a w β l = some x → blockOf x = some g → w'.heap[g]? = w.heap[g]? ∧ lim' g = lim g := by
    intro l x g hs hx hg
    have hlt := h.lt hs.1 hx hg
    refine hkeep g hlt.1 (fun hr => ?_) (fun m y hm ho hy hgy => ?_)
    · have := (hrbl _ hr).1; omega
    · have := h.sep _ _ _ _ g hs.1 ho hx hy hg hgy
      subst this
      exact hs.2.1 hm
  refine h.step u v w' lim' β hd hext hgrow hlim (fun _ _ _ => rfl) (fun _ _ => hv) (fun b d hbd _ => boxk b d hbd) ownk
    (fun c d o q he => absurd he (hnb _ _ _ _)) ?_ ?_ (fun d l _ ht => by rw [htag] at ht; cases ht) ?_ hio1 hxb1 ?_
  · intro l hl
    obtain ⟨d, p, rfl, hdd, hp⟩ := key l hl
    obtain ⟨e, x, h1, h2, h3, h4⟩ := hown p hp
    refine ⟨e, x, (look d p hdd).1.trans h1, (look d p hdd).2.trans h2, h3, fun g hg => ?_⟩
    rcases h4 g hg with hlt | ⟨m, y, k1, k2, k3, k4⟩
    · refine ⟨fun b d' hbd he => ?_, fun m y hm hy hgy => ?_⟩
      · rw [hbx] at hbd
        obtain ⟨cells, e', h5, _⟩ := h.box b d' hbd
        have := (Array.getElem?_eq_some_iff.1 h5).1
        omega
      · have := (h.lt hm.1 hy hgy).1
        omega
    · refine ⟨fun b d' hbd he => ?_, fun m' y' hm' hy' hgy' => ?_⟩
      · rw [hbx] at hbd
        obtain ⟨e', z, _, k5, _, k6⟩ := h.own m k2
        rw [k3] at k5; injection k5 with k5; subst k5
        exact k6 g k4 b d' hbd he
      · have := h.sep _ _ _ _ g k2 hm'.1 k3 hy' k4 hgy'
        subst this
        exact hm'.2.1 k1
  · intro l m x y g hl hm hx hy hgx hgy
    obtain ⟨d, p, rfl, hdd, hp⟩ := key l hl
    obtain ⟨d', q, rfl, hdd', hq⟩ := key m hm
    rw [hdd] at hdd'; injection hdd' with hdd'; subst hdd'
    rw [(look d p hdd).2] at hx
    rw [(look d q hdd).2] at hy
    rw [hsep p hp q hq x y g hx hy hgx hgy]
  · rcases hrd with ⟨h1, h2⟩ | h1
    · exact .inl ⟨h1, fun d b _ hb' => ⟨h2 b hb', (hrbl b hb'.symm).2⟩⟩
    · exact .inr h1
  · intro hst
    refine h.xs.keep hiox hxbx (fun _ _ _ => ⟨rfl, rfl⟩) (fun _ _ _ _ => rfl) htree (fun b d hbd => h.xs.offb ((hbx b).symm.trans hbd)) (fun l y g hl hy hg ht => ?_)
    rcases own_apply hl with hn | hs
    · obtain ⟨d, p, rfl, hdd, hp⟩ := key l hn
      obtain ⟨e, x, h1, h2, h3, h4⟩ := hown p hp
      rw [(look d p hdd).2, h2] at hy; injection hy with hy; subst hy
      rcases h4 g hg with hlt | ⟨m, z, _, k2, k3, k4⟩
      · have := (h.xs.lt ht).1; omega
      · exact h.xs.off k2 k3 k4 ht
    · rw [hst l hs] at hy
      exact h.xs.off hs.1 hy hg ht

/-- a box is made or written -/
theorem Sim.boxw {st : St} {a : Act} {w : World} {lim : Lim} {β : Mp} (h : Sim w0 lim0 rb n st a w lim β)
    (u : Upd) (v : Value) (w' : World) (lim' : Lim) (β' : Mp) (c : Tmp) (d : Dat) (o : List (List Nat)) (q : List Nat)
    (hd : ∀ d, u.dst = some d → d < n) (hb : u.bw = some (c, d, o, q)) (hrd : u.rd = none) (hno : u.own = []) (htag : u.ent.tag = none)
    (hext : Ext w lim w' lim') (hgrow : w0.grownBy w' rb)
    (hkeep : ∀ k, k < w.heap.size → (∀ d0, st.box c = some d0 → k ≠ β c) → w'.heap[k]? = w.heap[k]? ∧ lim' k = lim k)
    (hβ : ∀ b d, st.box b = some d → β' b = β b)
    (hblk : st.box c = none → w.heap.size ≤ β' c)
    (hrb : ∀ k, some k = rb → k < w0.heap.size)
    (cells : Array Value) (e0 : TypeId) (hcell : w'.heap[β' c]? = some (.cells cells e0 (0, 0))) (hrep : CRep w' lim' d.1 d.2 cells.toList) (hl0 : lim' (β' c) = some 0)
    (hold : ∀ d0, st.box c = some d0 → d0.1 = d.1 ∧ ∀ p e, typeAt d0.1 p = some (.slice e) → pcomp p q = false → w'.cell? ⟨β' c, offs d.1 p, none⟩ = w.cell? ⟨β c, offs d0.1 p, none⟩)
    (hv : ∀ d, u.dst = some d → ERep (apply st u) w' lim' β' rb u.ent.av v) (src : List Nat → Loc)
    (hown : ∀ p ∈ o, ∃ e x, typeAt d.1 p = some (.slice e) ∧ cells[offs d.1 p]? = some x ∧
      (x = .slice none 0 0 ∨ (src p ∈ u.takes ∧ st.own (src p) = true ∧ locV st a w β (src p) = some x ∧ locTy st (src p) = some (.slice e))))
    (hinj : ∀ p ∈ o, ∀ p' ∈ o, src p = src p' → p = p')
    (hV : ∀ r d, st.io r = some d → β'.V r = β.V r ∧ β'.B r = β.B r := by exact fun _ _ _ => ⟨rfl, rfl⟩)
    (hβx : ∀ b t o, st.xb b = some (t, o) → β'.c b = β.c b := by exact fun _ _ _ _ => rfl)
    (hxw : u.xw = none := by rfl) (hxbw : u.xbw = none := by rfl) :
    Sim w0 lim0 rb n (apply st u) (a.put u.dst v) w' lim' β' := by
  have hiox : (apply st u).io = st.io := by simp [apply, hxw]
  have hxbx : (apply st u).xb = st.xb := by simp [apply, hxbw]
  have hio1 : ∀ r d, st.io r = some d → ∃ d', (apply st u).io r = some d' ∧ d'.1 = d.1 ∧ β'.V r = β.V r := fun r d hr => ⟨d, by rw [hiox]; exact hr, rfl, (hV r d hr).1⟩
  have hxb1 : ∀ b t o, st.xb b = some (t, o) → (∃ o', (apply st u).xb b = some (t, o')) ∧ β'.c b = β.c b := fun b t o hb' => ⟨⟨o, by rw [hxbx]; exact hb'⟩, hβx b t o hb'⟩
  have htree : ∀ g, isTree st β g → w'.heap[g]? = w.heap[g]? ∧ lim' g = lim g := fun g hg =>
    hkeep g (h.xs.lt hg).1 (fun d0 hc he => h.xs.offb hc (by rw [← he]; exact hg))
  have hctree : ¬ isTree st β (β' c) := by
    intro hg
    cases hc : st.box c with
    | none => have := hblk hc; have := (h.xs.lt hg).1; omega
    | some d0 => rw [hβ c d0 hc] at hg; exact h.xs.offb hc hg
  have hbc : (apply st u).box c = some d := by simp [apply, hb]
  have hbase : w0.heap.size ≤ β' c := by
    cases hc : st.box c with
    | none => exact Nat.le_trans h.grow.size (hblk hc)
    | some d0 => rw [hβ c d0 hc]; exact (h.box c d0 hc).choose_spec.choose_spec.2.2.1
  have hlim : ∀ b, b < w0.heap.size → lim' b = lim b := fun b hb' => (hkeep b (Nat.lt_of_lt_of_le hb' h.grow.size) (fun d0 hc he => by
    rw [← hβ c d0 hc] at he; omega)).2
  have ownk : ∀ l x g, st.own l = true → locV st a w β l = some x → blockOf x = some g → w'.heap[g]? = w.heap[g]? ∧ lim' g = lim g ∧ g ≠ β' c := by
    intro l x g ho hx hg
    have hlt := h.lt ho hx hg
    obtain ⟨e', y, _, k2, _, k4⟩ := h.own l ho
    rw [hx] at k2; injection k2 with k2; subst k2
    have hk := hkeep g hlt.1 (fun d0 hc he => k4 g hg c d0 hc he.symm)
    refine ⟨hk.1, hk.2, fun he => ?_⟩
    cases hc : st.box c with
    | none => have := hblk hc; omega
    | some d0 => rw [hβ c d0 hc] at he; exact k4 g hg c d0 hc he.symm
  have key : ∀ l, newOwn u l → ∃ p, l = .box c p ∧ p ∈ o := by
    intro l hl
    cases l with
    | tmp t p => have := hl.2; rw [hno] at this; cases this
    | box b p =>
      obtain ⟨d2, o2, q2, he, hp⟩ := hl
      rw [hb] at he; injection he with he; injection he with h1 he; injection he with h2 he; injection he with h3 he
      exact ⟨p, by rw [h1], by rw [h3]; exact hp⟩
  have look : ∀ p, locTy (apply st u) (.box c p) = typeAt d.1 p ∧ locV (apply st u) (a.put u.dst v) w' β' (.box c p) = cells[offs d.1 p]? := by
    intro p
    refine ⟨by simp only [locTy, hbc], ?_⟩
    simp only [locV, hbc, World.cell?, hcell]; rfl
  refine h.step u v w' lim' β' hd hext hgrow hlim hβ hv ?_ (fun l x g hs hx hg => let k := ownk l x g hs.1 hx hg; ⟨k.1, k.2.1⟩) ?_ ?_ ?_ (fun d l _ ht => by rw [htag] at ht; cases ht) ?_ hio1 hxb1 ?_
  · intro b d' hbd hne
    obtain ⟨cs, e, h1, h2, h3, h4⟩ := h.box b d' hbd
    have hk := hkeep (β b) (Array.getElem?_eq_some_iff.1 h1).1 (fun d0 hc he => hne d o q (by rw [h.inj b c d' d0 hbd hc he]; exact hb))
    exact hk
  · intro c' d' o' q' he
    rw [hb] at he; injection he with he; injection he with h1 he; injection he with h2 he; injection he with h3 h4
    subst h1 h2 h3 h4
    refine ⟨⟨cells, e0, hcell, hrep, hbase, hl0⟩, fun b d2 hne hbd he => ?_, fun l x g hs hx hg => (ownk l x g hs.1 hx hg).2.2, fun d0 hc => ⟨(hold d0 hc).1, fun p e _ => (hold d0 hc).2 p e⟩⟩
    obtain ⟨cs, e, k1, _⟩ := h.box b d2 hbd
    cases hc : st.box c with
    | none => have := hblk hc; have := (Array.getElem?_eq_some_iff.1 k1).1; omega
    | some d0 => rw [hβ c d0 hc] at he; exact hne (h.inj b c d2 d0 hbd hc he)
  · intro l hl
    obtain ⟨p, rfl, hp⟩ := key l hl
    obtain ⟨e, x, h1, h2, h3⟩ := hown p hp
    refine ⟨e, x, (look p).1.trans h1, (look p).2.trans h2, ?_, fun g hg => ?_⟩
    · rcases h3 with rfl | ⟨_, k2, k3, k4⟩
      · exact .inl rfl
      · obtain ⟨e', x', h4, h5, h6, _⟩ := h.own _ k2
        rw [k3] at h5; injection h5 with h5; subst h5
        rw [k4] at h4; injection h4 with h4; injection h4 with h4; subst h4
        rcases h6 with h6 | ⟨b, m, cc, arr, e', fr, rfl, h7, h8, h9, h10, h11, h12⟩
        · exact .inl h6
        · obtain ⟨k5, k6, _⟩ := ownk _ _ b k2 k3 rfl
          exact .inr ⟨b, m, cc, arr, e', fr, rfl, h7, k5.trans h8, h9, h10, h11, k6.trans h12⟩
    · rcases h3 with rfl | ⟨k1, k2, k3, k4⟩
      · cases hg
      · refine ⟨fun b d' hbd he => ?_, fun m y hm hy hgy => ?_⟩
        · by_cases hbb : b = c
          · subst hbb; exact (ownk _ _ g k2 k3 hg).2.2 he.symm
          · have hbd0 : st.box b = some d' := by
              have : Nat.beq b c = false := by
                cases hq : Nat.beq b c with
                | true => exact absurd (nbeq hq) hbb
                | false => rfl
              simpa [apply, hb, this] using hbd
            rw [hβ b d' hbd0] at he
            obtain ⟨e', y, _, k5, _, k6⟩ := h.own _ k2
            rw [k3] at k5; injection k5 with k5; subst k5
            exact k6 g hg b d' hbd0 he
        · have := h.sep _ _ _ _ g k2 hm.1 k3 hy hg hgy
          rw [this] at k1
          exact hm.2.1 k1
  · intro l m x y g hl hm hx hy hgx hgy
    obtain ⟨p, rfl, hp⟩ := key l hl
    obtain ⟨p', rfl, hp'⟩ := key m hm
    rw [(look p).2] at hx
    rw [(look p').2] at hy
    obtain ⟨e, x', _, h2, h3⟩ := hown p hp
    obtain ⟨e2, y', _, h4, h5⟩ := hown p' hp'
    rw [hx] at h2; injection h2 with h2; subst h2
    rw [hy] at h4; injection h4 with h4; subst h4
    rcases h3 with rfl | ⟨_, k2, k3, _⟩
    · cases hgx
    · rcases h5 with rfl | ⟨_, k2', k3', _⟩
      · cases hgy
      · rw [hinj p hp p' hp' (h.sep _ _ _ _ g k2 k2' k3 k3' hgx hgy)]
  · refine .inl ⟨hrd, fun d' b _ hb' => ?_⟩
    have hlt := hrb b hb'.symm
    exact hkeep b (Nat.lt_of_lt_of_le hlt h.grow.size) (fun d0 hc he => by rw [← hβ c d0 hc] at he; omega)
  · intro hst
    refine h.xs.keep hiox hxbx hV hβx htree (fun b d' hbd => ?_) (fun l y g hl hy hg ht => ?_)
    · by_cases hbb : b = c
      · subst hbb; exact hctree
      · have hbd0 : st.box b = some d' := by
          have : Nat.beq b c = false := by
            cases hq : Nat.beq b c with
            | true => exact absurd (nbeq hq) hbb
            | false => rfl
          simpa [apply, hb, this] using hbd
        rw [hβ b d' hbd0]; exact h.xs.offb hbd0
    · rcases own_apply hl with hn | hs
      · obtain ⟨p, rfl, hp⟩ := key l hn
        obtain ⟨e, x, h1, h2, h3⟩ := hown p hp
        rw [(look p).2, h2] at hy; injection hy with hy; subst hy
        rcases h3 with rfl | ⟨_, k2, k3, _⟩
        · cases hg
        · exact h.xs.off k2 k3 hg ht
      · rw [hst l hs] at hy
        exact h.xs.off hs.1 hy hg ht
end
end Go.Den
