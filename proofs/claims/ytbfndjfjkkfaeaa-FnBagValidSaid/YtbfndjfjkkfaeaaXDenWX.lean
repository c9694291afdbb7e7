/- Trees of one's own are given up at a function's end. -/
import Derived.Test.YtbfndjfjkkfaeaaXDenW
set_option linter.unusedVariables false
set_option linter.unusedSimpArgs false
namespace Go.Den
section
variable {P : Program} {tab : Tab} {G : Gam} {w0 : Base} {lim0 : Lim} {rb : Option Nat} {n : Nat}
variable {st st' : St} {a : Act} {w : World} {lim : Lim} {β : Mp}

theorem typeAt_nil (t : Ty) : typeAt t [] = some t := by cases t <;> rfl
/-- a slice in a tree has its block there -/
theorem XRep.blk : ∀ {t : Ty} {x : t.val} {cs : List Value} {B : Nat → Prop} {p : List Nat} {e : Ty} {v : Value} {g : Nat}, XRep w t x cs B → typeAt t p = some (.slice e) → cs[offs t p]? = some v → blockOf v = some g → B g := by
  intro t
  induction t with
  | slice u _ =>
    intro x cs B p e v g h ht hv hg
    cases p with
    | cons i p => simp [typeAt] at ht
    | nil =>
      rcases h with ⟨h1, _, _⟩ | ⟨g', c, arr, e', fr, h1, _, _, _, _, h5, _⟩
      · rw [h1] at hv; simp [offs] at hv; subst hv; cases hg
      · rw [h1] at hv; simp [offs] at hv; subst hv; injection hg with hg; exact (h5 g).2 hg.symm
  | prod p' q' ihp ihq =>
    intro x cs B p e v g h ht hv hg
    obtain ⟨c1, c2, B1, B2, rfl, h2, h3, h4, h5⟩ := h
    have l1 := h4.length
    cases p with
    | nil => simp [typeAt] at ht
    | cons i p =>
      cases i with
      | zero =>
        simp only [typeAt] at ht
        simp only [offs] at hv
        have hlt := typeAt_lt ht
        have hs : (Ty.slice e).size = 1 := rfl
        rw [List.getElem?_append_left (by omega)] at hv
        exact (h2 g).2 (.inl (ihp h4 ht hv hg))
      | succ i =>
        simp only [typeAt] at ht
        simp only [offs] at hv
        rw [List.getElem?_append_right (by omega), l1, show p'.size + offs q' (i :: p) - p'.size = offs q' (i :: p) by omega] at hv
        exact (h2 g).2 (.inr (ihq h5 ht hv hg))
  | int k => intro x cs B p e v g h ht; cases p <;> simp [typeAt] at ht
  | bool => intro x cs B p e v g h ht; cases p <;> simp [typeAt] at ht
  | str => intro x cs B p e v g h ht; cases p <;> simp [typeAt] at ht
  | unit => intro x cs B p e v g h ht; cases p <;> simp [typeAt] at ht
/-- two slices of a tree at one block are one -/
theorem XRep.inj : ∀ {t : Ty} {x : t.val} {cs : List Value} {B : Nat → Prop} {p q : List Nat} {e e' : Ty} {u v : Value} {g : Nat}, XRep w t x cs B → typeAt t p = some (.slice e) → typeAt t q = some (.slice e') →
    cs[offs t p]? = some u → cs[offs t q]? = some v → blockOf u = some g → blockOf v = some g → p = q := by
  intro t
  induction t with
  | slice d _ =>
    intro x cs B p q e e' u v g h hp hq _ _ _ _
    cases p with
    | cons i p => simp [typeAt] at hp
    | nil => cases q with
      | nil => rfl
      | cons i q => simp [typeAt] at hq
  | prod p' q' ihp ihq =>
    intro x cs B p q e e' u v g h hp hq hu hv hgu hgv
    obtain ⟨c1, c2, B1, B2, rfl, h2, h3, h4, h5⟩ := h
    have l1 := h4.length
    have left : ∀ {r : List Nat} {f : Ty} {z : Value}, typeAt (.prod p' q') (0 :: r) = some (.slice f) → (c1 ++ c2)[offs (.prod p' q') (0 :: r)]? = some z → typeAt p' r = some (.slice f) ∧ c1[offs p' r]? = some z := by
      intro r f z ht hz
      simp only [typeAt] at ht
      simp only [offs] at hz
      have hlt := typeAt_lt ht
      have hs : (Ty.slice f).size = 1 := rfl
      rw [List.getElem?_append_left (by omega)] at hz
      exact ⟨ht, hz⟩
    have right : ∀ {i : Nat} {r : List Nat} {f : Ty} {z : Value}, typeAt (.prod p' q') ((i + 1) :: r) = some (.slice f) → (c1 ++ c2)[offs (.prod p' q') ((i + 1) :: r)]? = some z → typeAt q' (i :: r) = some (.slice f) ∧ c2[offs q' (i :: r)]? = some z := by
      intro i r f z ht hz
      simp only [typeAt] at ht
      simp only [offs] at hz
      rw [List.getElem?_append_right (by omega), l1, show p'.size + offs q' (i :: r) - p'.size = offs q' (i :: r) by omega] at hz
      exact ⟨ht, hz⟩
    cases p with
    | nil => simp [typeAt] at hp
    | cons i p =>
      cases q with
      | nil => simp [typeAt] at hq
      | cons j q =>
        cases i with
        | zero =>
          obtain ⟨a1, a2⟩ := left hp hu
          cases j with
          | zero =>
            obtain ⟨b1, b2⟩ := left hq hv
            rw [ihp h4 a1 b1 a2 b2 hgu hgv]
          | succ j =>
            obtain ⟨b1, b2⟩ := right hq hv
            exact absurd (h5.blk b1 b2 hgv) (h3 g (h4.blk a1 a2 hgu))
        | succ i =>
          obtain ⟨a1, a2⟩ := right hp hu
          cases j with
          | zero =>
            obtain ⟨b1, b2⟩ := left hq hv
            exact absurd (h5.blk a1 a2 hgu) (h3 g (h4.blk b1 b2 hgv))
          | succ j =>
            obtain ⟨b1, b2⟩ := right hq hv
            have := ihq h5 a1 b1 a2 b2 hgu hgv
            injection this with e1 e2
            rw [e1, e2]
  | int k => intro x cs B p q e e' u v g h hp; cases p <;> simp [typeAt] at hp
  | bool => intro x cs B p q e e' u v g h hp; cases p <;> simp [typeAt] at hp
  | str => intro x cs B p q e e' u v g h hp; cases p <;> simp [typeAt] at hp
  | unit => intro x cs B p q e e' u v g h hp; cases p <;> simp [typeAt] at hp
/-- a tree as others read it, its arrays seen as far as they reach -/
theorem XRep.crep2 : ∀ {t : Ty} {x : t.val} {cs : List Value} {B : Nat → Prop}, XRep w t x cs B → flatT t = true →
    (∀ p e g m c k, typeAt t p = some (.slice e) → cs[offs t p]? = some (.slice (some ⟨g, 0, none⟩) m c) → lim g = some k → m * e.size ≤ k) → CRep w lim t x cs
  | .int _, _, _, _, h, _, _ => h.1
  | .bool, _, _, _, h, _, _ => h.1
  | .str, _, _, _, h, _, _ => h.1
  | .unit, _, _, _, h, _, _ => h.1
  | .prod a b, _, _, _, h, hf, hl => by
    obtain ⟨c1, c2, B1, B2, rfl, h2, _, h4, h5⟩ := h
    obtain ⟨f1, f2⟩ := flat_prod hf
    have l1 := h4.length
    refine ⟨c1, c2, rfl, XRep.crep2 h4 f1 (fun p e g m c k ht hv hk => hl (0 :: p) e g m c k ht ?_ hk), ?_⟩
    · simp only [offs]; rw [List.getElem?_append_left (List.getElem?_eq_some_iff.1 hv).1]; exact hv
    · rcases f2 with ⟨p1, q1, rfl, f2⟩ | rfl
      · refine XRep.crep2 h5 f2 (fun p e g m c k ht hv hk => ?_)
        cases p with
        | nil => simp [typeAt] at ht
        | cons i p =>
          refine hl ((i + 1) :: p) e g m c k ht ?_ hk
          simp only [offs]
          rw [List.getElem?_append_right (by omega), l1, show a.size + offs (.prod p1 q1) (i :: p) - a.size = offs (.prod p1 q1) (i :: p) by omega]; exact hv
      · exact h5.1
  | .slice t, xs, cs, B, h, hf, hl => by
    rcases h with ⟨h1, h2, _⟩ | ⟨g, c, arr, e, fr, h1, h2, h3, h4, _, h5, h6⟩
    · exact ⟨none, 0, by rw [h1, h2], by omega, .inl (List.eq_nil_of_length_eq_zero h2)⟩
    · refine ⟨some ⟨g, 0, none⟩, c, h1, h2, .inr ⟨g, 0, rfl, (Array.getElem?_eq_some_iff.1 h4).1, (by intro m hm; rw [Nat.zero_add]; exact hl [] t g _ c m rfl (by rw [h1]; simp [offs]) hm), fun i x hx => ?_⟩⟩
      refine ⟨cellsV t x, (CRep_noSl hf).2 rfl, fun j v hv => ?_⟩
      have := h6 i x hx j v hv
      simp only [World.cell?, h4]
      simpa using this
/-- how a slice of a tree lies -/
theorem XRep.tip : ∀ {t : Ty} {x : t.val} {cs : List Value} {B : Nat → Prop} {p : List Nat} {e : Ty}, XRep w t x cs B → typeAt t p = some (.slice e) → ∃ v, cs[offs t p]? = some v ∧
    (v = .slice none 0 0 ∨ ∃ g m c arr el fr, v = .slice (some ⟨g, 0, none⟩) m c ∧ w.heap[g]? = some (.cells arr el fr) ∧ (∀ o, o < arr.size → ¬ (fr.1 ≤ o ∧ o < fr.2)) ∧ m ≤ c ∧ c * e.size ≤ arr.size ∧ B g) := by
  intro t
  induction t with
  | slice u _ =>
    intro x cs B p e h ht
    cases p with
    | cons i p => simp [typeAt] at ht
    | nil =>
      simp only [typeAt] at ht; injection ht with ht; injection ht with ht; subst ht
      rcases h with ⟨h1, h2, _⟩ | ⟨g', c, arr, e', fr, h1, h2, h3, h4, hf, h5, _⟩
      · exact ⟨_, by rw [h1]; simp [offs], .inl rfl⟩
      · exact ⟨_, by rw [h1]; simp [offs], .inr ⟨g', _, c, arr, e', fr, rfl, h4, hf, h2, h3, (h5 g').2 rfl⟩⟩
  | prod p' q' ihp ihq =>
    intro x cs B p e h ht
    obtain ⟨c1, c2, B1, B2, rfl, h2, h3, h4, h5⟩ := h
    have l1 := h4.length
    cases p with
    | nil => simp [typeAt] at ht
    | cons i p =>
      cases i with
      | zero =>
        simp only [typeAt] at ht
        obtain ⟨v, k1, k2⟩ := ihp h4 ht
        refine ⟨v, by simp only [offs]; rw [List.getElem?_append_left (List.getElem?_eq_some_iff.1 k1).1]; exact k1, ?_⟩
        rcases k2 with k2 | ⟨g, m, c, arr, el, fr, k2, k3, k4, k5, k6, k7⟩
        · exact .inl k2
        · exact .inr ⟨g, m, c, arr, el, fr, k2, k3, k4, k5, k6, (h2 g).2 (.inl k7)⟩
      | succ i =>
        simp only [typeAt] at ht
        obtain ⟨v, k1, k2⟩ := ihq h5 ht
        refine ⟨v, by simp only [offs]; rw [List.getElem?_append_right (by omega), l1, show p'.size + offs q' (i :: p) - p'.size = offs q' (i :: p) by omega]; exact k1, ?_⟩
        rcases k2 with k2 | ⟨g, m, c, arr, el, fr, k2, k3, k4, k5, k6, k7⟩
        · exact .inl k2
        · exact .inr ⟨g, m, c, arr, el, fr, k2, k3, k4, k5, k6, (h2 g).2 (.inr k7)⟩
  | int k => intro x cs B p e h ht; cases p <;> simp [typeAt] at ht
  | bool => intro x cs B p e h ht; cases p <;> simp [typeAt] at ht
  | str => intro x cs B p e h ht; cases p <;> simp [typeAt] at ht
  | unit => intro x cs B p e h ht; cases p <;> simp [typeAt] at ht

theorem rootIn_spec {r : Tmp} {t : Tmp} {q : List Nat} (hav : (st.env t).av = .xf r q) : ∀ {rs : List ResultVar}, .tmp t ∈ rs → rootIn st r rs = true
  | [], h => by cases h
  | x :: rs, h => by
    rcases List.mem_cons.1 h with h | h
    · subst h
      simp only [rootIn, hav]
      have : Nat.beq r r = true := Nat.beq_refl r
      rw [this]; rfl
    · have ih := rootIn_spec hav h
      cases x with
      | cell c u => exact ih
      | tmp u =>
        simp only [rootIn]
        split
        · rename_i c p _
          cases Nat.beq c r with
          | true => rfl
          | false => exact ih
        · exact ih
theorem soleIn_mem {r t : Tmp} : ∀ {rs : List ResultVar}, soleIn st r t rs = true → .tmp t ∈ rs
  | [], h => by cases h
  | .cell _ _ :: rs, h => List.mem_cons_of_mem _ (soleIn_mem (rs := rs) h)
  | .tmp u :: rs, h => by
    simp only [soleIn] at h
    cases hu : Nat.beq u t with
    | true => rw [nbeq hu]; exact List.mem_cons_self
    | false =>
      rw [hu] at h; simp only [cnd_false] at h
      split at h
      · rename_i c p hav
        cases hc : Nat.beq c r with
        | true => rw [hc] at h; cases h
        | false => rw [hc] at h; exact List.mem_cons_of_mem _ (soleIn_mem (rs := rs) h)
      · exact List.mem_cons_of_mem _ (soleIn_mem (rs := rs) h)
theorem soleIn_inj {r t u : Tmp} {q q' : List Nat} (h1 : (st.env t).av = .xf r q) (h2 : (st.env u).av = .xf r q') : ∀ {rs : List ResultVar}, soleIn st r t rs = true → soleIn st r u rs = true → t = u
  | [], h, _ => by cases h
  | .cell _ _ :: rs, h, k => soleIn_inj h1 h2 (rs := rs) h k
  | .tmp x :: rs, h, k => by
    simp only [soleIn] at h k
    cases ht : Nat.beq x t with
    | true =>
      have et := nbeq ht
      rw [ht] at h; simp only [cnd_true] at h
      have hr : rootIn st r rs = false := by cases hq : rootIn st r rs with
        | false => rfl
        | true => rw [hq] at h; cases h
      cases hu : Nat.beq x u with
      | true => rw [← et, nbeq hu]
      | false =>
        rw [hu] at k; simp only [cnd_false] at k
        rw [et, h1] at k
        simp only [] at k
        have : Nat.beq r r = true := Nat.beq_refl r
        rw [this] at k; cases k
    | false =>
      rw [ht] at h; simp only [cnd_false] at h
      cases hu : Nat.beq x u with
      | true =>
        have eu := nbeq hu
        rw [eu, h2] at h
        simp only [] at h
        have : Nat.beq r r = true := Nat.beq_refl r
        rw [this] at h; cases h
      | false =>
        rw [hu] at k; simp only [cnd_false] at k
        split at h
        · rename_i c p hav
          rw [hav] at k; simp only [] at k
          cases hc : Nat.beq c r with
          | true => rw [hc] at h; cases h
          | false => rw [hc] at h k; exact soleIn_inj h1 h2 (rs := rs) h k
        · rename_i hno
          split at k
          · rename_i c p hav; exact absurd hav (hno c p)
          · exact soleIn_inj h1 h2 (rs := rs) h k

/-- how far a tree's array is seen once the tree is given up -/
def seenTo (st : St) (β : Mp) (g k : Nat) : Prop := ∃ r d p e m c, st.io r = some d ∧ typeAt d.1 p = some (.slice e) ∧ (flatV (β.V r))[offs d.1 p]? = some (.slice (some ⟨g, 0, none⟩) m c) ∧ k = m * e.size
open Classical in
noncomputable def limF (st : St) (β : Mp) (lim : Lim) : Lim := fun g => if h : ∃ k, seenTo st β g k then some h.choose else lim g
theorem seen_tree (h : Sim w0 lim0 rb n st a w lim β) {g k : Nat} (hs : seenTo st β g k) : isTree st β g := by
  obtain ⟨r, d, p, e, m, c, h1, h2, h3, _⟩ := hs
  exact .inl ⟨r, d, h1, (h.xs.io r d h1).2.blk h2 h3 rfl⟩
theorem limF_of (h : Sim w0 lim0 rb n st a w lim β) {g k : Nat} (hs : seenTo st β g k) : limF st β lim g = some k := by
  unfold limF
  have hex : ∃ k, seenTo st β g k := ⟨k, hs⟩
  rw [dif_pos hex]
  obtain ⟨r, d, p, e, m, c, h1, h2, h3, h4⟩ := hs
  obtain ⟨r', d', p', e', m', c', k1, k2, k3, k4⟩ := hex.choose_spec
  have X := (h.xs.io r d h1).2
  have X' := (h.xs.io r' d' k1).2
  have := h.xs.dis r d r' d' g h1 k1 (X.blk h2 h3 rfl) (X'.blk k2 k3 rfl)
  subst this
  rw [h1] at k1; injection k1 with k1; subst k1
  have := X.inj h2 k2 h3 k3 rfl rfl
  subst this
  rw [h2] at k2; injection k2 with k2; injection k2 with k2; subst k2
  rw [h3] at k3; injection k3 with k3; injection k3 with _ k3 _
  rw [k4, h4, k3]
theorem limF_off (h : Sim w0 lim0 rb n st a w lim β) {g : Nat} (hs : ¬ isTree st β g) : limF st β lim g = lim g := by
  unfold limF
  rw [dif_neg (fun ⟨k, hk⟩ => hs (seen_tree h hk))]
theorem ext_limF (h : Sim w0 lim0 rb n st a w lim β) : Ext w lim w (limF st β lim) :=
  ⟨Nat.le_refl _, fun _ _ _ _ _ h => h, fun b m _ hu k hk => by
    by_cases ht : isTree st β b
    · have := hu 0 (h.xs.lt ht).2.2
      omega
    · rw [limF_off h ht] at hk; exact hu k hk⟩
theorem flat_wrap {t : Ty} {x : t.val} {cs : List Value} (h : CRep w lim t x cs) : flatV (wrapV t cs) = cs := by
  rw [flat_TRep (t := t) (x := x) (w := w) (lim := lim) ⟨cs, h, rfl⟩, wrapV_cells h]

/-- THE TREES ARE GIVEN UP. -/
theorem Sim.frz (h : Sim w0 lim0 rb n st a w lim β) (rs : List ResultVar) (hX : ∀ g, ¬ w0.X g) : Sim w0 lim0 rb n (Den.frz rs st) a w (limF st β lim) β := by
  have hnr : ∀ g, isTree st β g → w0.heap.size ≤ g := fun g hg => by
    rcases (h.xs.lt hg).2.1 with k | k
    · exact k
    · exact absurd k (hX g)
  have hext := ext_limF h
  have xval : ∀ t r q, (st.env t).av = .xf r q → ∀ y, st.atX r q = some y → ∃ d cs, st.io r = some d ∧ getP d.1 d.2 q = some y ∧ CRep w (limF st β lim) y.1 y.2 cs ∧ tmpOf a t = wrapV y.1 cs ∧ ∀ k v, cs[k]? = some v → (flatV (β.V r))[offs d.1 q + k]? = some v := by
    intro t r q hav y hy
    obtain ⟨d, hio, hv⟩ := xf_val h (x := .tmp t) hav hy
    obtain ⟨d2, Bu, m1, m2, m3, m4, m5, m6, m7, m8⟩ := h.atX hy
    rw [hio] at m1; injection m1 with m1; subst m1
    have hw := ((h.xs.io r d hio).2.crep2 (lim := limF st β lim) m4 (fun p e g m c k ht hv' hk => by
      have := limF_of h (g := g) (k := m * e.size) ⟨r, d, p, e, m, c, hio, ht, hv', rfl⟩
      rw [hk] at this; injection this with this; omega))
    obtain ⟨c1, c2, c3, q1, q2, q3, _⟩ := hw.part m2
    have hc2 : ((flatV (β.V r)).drop (offs d.1 q)).take y.1.size = c2 := by
      rw [q1, ← q2, List.drop_left, ← q3.length, List.take_left]
    refine ⟨d, c2, hio, m2, q3, by rw [← hc2]; exact hv, fun k v hk => ?_⟩
    rw [q1, ← q2, List.getElem?_append_right (by omega), show c1.length + k - c1.length = k by omega, List.getElem?_append_left (List.getElem?_eq_some_iff.1 hk).1]; exact hk
  -- what is owned then
  have ownc : ∀ l, (Den.frz rs st).own l = true → (st.own l = true ∧ locTy (Den.frz rs st) l = locTy st l ∧ locV (Den.frz rs st) a w β l = locV st a w β l) ∨
      ∃ t p r q y d, l = .tmp t p ∧ (st.env t).av = .xf r q ∧ st.atX r q = some y ∧ st.io r = some d ∧ soleIn st r t rs = true ∧ (∃ e v, typeAt d.1 (q ++ p) = some (.slice e) ∧ (flatV (β.V r))[offs d.1 (q ++ p)]? = some v ∧ locTy (Den.frz rs st) l = some (.slice e) ∧ locV (Den.frz rs st) a w β l = some v) := by
    intro l hl
    cases l with
    | box b p => exact .inl ⟨hl, rfl, rfl⟩
    | tmp t p =>
      simp only [Den.frz] at hl
      split at hl
      · rename_i r q hav
        split at hl
        · rename_i y hy
          cases hso : soleIn st r t rs with
          | false => rw [hso] at hl; cases hl
          | true =>
            rw [hso] at hl
            have hp := inPaths_iff.1 hl
            obtain ⟨⟨e, he⟩, _⟩ := slicePaths_spec hp
            obtain ⟨d, cs, k1, k2, k3, k4, k5⟩ := xval t r q hav y hy
            obtain ⟨g1, g2⟩ := getP_app k2 p he
            obtain ⟨v, hv, _⟩ := (h.xs.io r d k1).2.tip g1
            have hcv : cs[offs y.1 p]? = some v := by
              have hlt := typeAt_lt he
              have hs : (Ty.slice e).size = 1 := rfl
              have hl' := k3.length
              have := k5 (offs y.1 p) _ (List.getElem?_eq_getElem (by omega))
              rw [← g2, hv] at this; injection this with this
              rw [List.getElem?_eq_getElem (by omega), ← this]
            refine .inr ⟨t, p, r, q, y, d, rfl, hav, hy, k1, hso, e, v, g1, hv, ?_, ?_⟩
            · have : ((Den.frz rs st).env t).av = .dat y.1 y.2 := by simp only [Den.frz, frzAV, hav, hy]
              simp only [locTy, this]; exact he
            · have : ((Den.frz rs st).env t).av = .dat y.1 y.2 := by simp only [Den.frz, frzAV, hav, hy]
              simp only [locV, this, k4, flat_wrap k3]; exact hcv
        · cases hl
      · rename_i hno
        obtain ⟨e, v, k1, _⟩ := h.own _ hl
        have hav : ((Den.frz rs st).env t).av = (st.env t).av := by
          simp only [Den.frz]
          simp only [locTy] at k1
          cases hq : (st.env t).av with
          | xf r q => exact absurd hq (hno r q)
          | xp _ _ _ _ => rw [hq] at k1; cases k1
          | xt _ => rw [hq] at k1; cases k1
          | cx _ _ => rw [hq] at k1; cases k1
          | _ => rfl
        exact .inl ⟨hl, by simp only [locTy, hav], by simp only [locV, hav]⟩
  refine ⟨h.size, h.defers, h.grow, fun b hb => ?_, fun t => ?_, fun b d hb => ?_, h.inj, fun l hl => ?_, fun l l' v v' g hl hl' hv hv' hg hg' => ?_, fun t l ht => (by cases ht), fun d hd => ?_, ?_⟩
  · rw [limF_off h (fun ht => by have := hnr b ht; omega)]; exact h.limOld b hb
  · have ht := h.env t
    have hm : ∀ {av : AV}, (∀ r p, av ≠ .xf r p) → (∀ r p k q, av ≠ .xp r p k q) → (∀ r, av ≠ .xt r) → (∀ b p, av ≠ .cx b p) → ERep st w lim β rb av (tmpOf a t) → ERep (Den.frz rs st) w (limF st β lim) β rb av (tmpOf a t) := by
      intro av n1 n2 n3 n4 hv
      cases av with
      | xf r p => exact absurd rfl (n1 r p)
      | xp r p k q => exact absurd rfl (n2 r p k q)
      | xt r => exact absurd rfl (n3 r)
      | cx b p => exact absurd rfl (n4 b p)
      | dat ty x => exact TRep.mono hext hv
      | ref ty x =>
        obtain ⟨b, o, cs, e1, e2, e3, e4, e5⟩ := hv
        exact ⟨b, o, cs, e1, e2, e3.mono hext, hext.lim _ _ e2 e4, e5⟩
      | tup ty x =>
        obtain ⟨vs, e1, e2⟩ := hv
        exact ⟨vs, e1, e2.mono hext⟩
      | _ => exact hv
    have hav : ((Den.frz rs st).env t).av = frzAV st (st.env t).av := rfl
    rw [hav]
    cases hq : (st.env t).av with
    | xf r q =>
      simp only [frzAV]
      cases hy : st.atX r q with
      | none => trivial
      | some y =>
        obtain ⟨d, cs, _, _, k3, k4, _⟩ := xval t r q hq y hy
        exact ⟨cs, k3, k4⟩
    | xp _ _ _ _ => trivial
    | xt _ => trivial
    | cx _ _ => trivial
    | _ => rw [hq] at ht; exact hm (fun _ _ e => by cases e) (fun _ _ _ _ e => by cases e) (fun _ e => by cases e) (fun _ _ e => by cases e) ht
  · obtain ⟨cells, e, h1, h2, h3, h4⟩ := h.box b d hb
    exact ⟨cells, e, h1, h2.mono hext, h3, (limF_off h (h.xs.offb hb)).trans h4⟩
  · rcases ownc l hl with ⟨k1, k2, k3⟩ | ⟨t, p, r, q, y, d, rfl, k1, k2, k3, k4, e, v, k5, k6, k7, k8⟩
    · obtain ⟨e, v, m1, m2, m3, m4⟩ := h.own l k1
      refine ⟨e, v, k2.trans m1, k3.trans m2, ?_, m4⟩
      rcases m3 with m3 | ⟨b, m, c, arr, el, fr, q1, q2, q3, q4, q5, q6, q7⟩
      · exact .inl m3
      · exact .inr ⟨b, m, c, arr, el, fr, q1, q2, q3, q4, q5, q6, (limF_off h (h.xs.off k1 m2 (by rw [q1]; rfl))).trans q7⟩
    · obtain ⟨v', m1, m2⟩ := (h.xs.io r d k3).2.tip k5
      rw [k6] at m1; injection m1 with m1; subst m1
      refine ⟨e, v, k7, k8, ?_, fun g hg b d' hb => ?_⟩
      · rcases m2 with m2 | ⟨g, m, c, arr, el, fr, q1, q2, q3, q4, q5, q6⟩
        · exact .inl m2
        · exact .inr ⟨g, m, c, arr, el, fr, q1, hnr g (.inl ⟨r, d, k3, q6⟩), q2, q3, q4, q5, limF_of h ⟨r, d, q ++ p, e, m, c, k3, k5, by rw [k6, q1], rfl⟩⟩
      · exact h.xs.box r d g k3 ((h.xs.io r d k3).2.blk k5 k6 hg) b d' hb
  · rcases ownc l hl with ⟨k1, k2, k3⟩ | ⟨t, p, r, q, y, d, rfl, k1, k2, k3, k4, e, v1, k5, k6, k7, k8⟩ <;> rcases ownc l' hl' with ⟨j1, j2, j3⟩ | ⟨t', p', r', q', y', d', rfl, j1, j2, j4, j5, e', v2, j6, j7, j8, j9⟩
    · rw [k3] at hv; rw [j3] at hv'
      exact h.sep l l' v v' g k1 j1 hv hv' hg hg'
    · rw [k3] at hv
      rw [j9] at hv'; injection hv' with hv'; subst hv'
      exact absurd hg (h.xs.own r' d' g j4 ((h.xs.io r' d' j4).2.blk j6 j7 hg') l v k1 hv)
    · rw [j3] at hv'
      rw [k8] at hv; injection hv with hv; subst hv
      exact absurd hg' (h.xs.own r d g k3 ((h.xs.io r d k3).2.blk k5 k6 hg) l' v' j1 hv')
    · rw [k8] at hv; injection hv with hv; subst hv
      rw [j9] at hv'; injection hv' with hv'; subst hv'
      have er := h.xs.dis r d r' d' g k3 j4 ((h.xs.io r d k3).2.blk k5 k6 hg) ((h.xs.io r' d' j4).2.blk j6 j7 hg')
      subst er
      have et := soleIn_inj k1 j1 k4 j5
      subst et
      rw [k1] at j1; injection j1 with _ j1; subst j1
      rw [k3] at j4; injection j4 with j4; subst j4
      have := (h.xs.io r d k3).2.inj k5 j6 k6 j7 hg hg'
      rw [List.append_cancel_left this]
  · obtain ⟨b, cells, e, k1, k2, k3, k4, k5⟩ := h.rd d hd
    exact ⟨b, cells, e, k1, k2, k3, k4.mono hext, (limF_off h (fun ht => by have := hnr b ht; omega)).trans k5⟩
  · exact ⟨fun _ _ hr => (by cases hr), fun _ _ _ hr => (by cases hr), fun _ _ _ hr => (by cases hr), fun _ _ _ hr => (by cases hr), fun _ _ _ _ _ hr => (by cases hr), fun _ _ _ hb => (by cases hb), fun _ _ _ hb => (by cases hb), fun _ _ _ _ _ _ hb => (by cases hb), fun _ hd => (by cases hd)⟩
end
end Go.Den
