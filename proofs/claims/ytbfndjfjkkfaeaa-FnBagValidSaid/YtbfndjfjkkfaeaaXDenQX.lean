/- Trees of one's own: the operations that make, read and write them. -/
import Derived.Test.YtbfndjfjkkfaeaaXDenQ
set_option linter.unusedVariables false
set_option linter.unusedSimpArgs false
namespace Go.Den
section
variable {P : Program} {tab : Tab} {w0 : Base} {lim0 : Lim} {rb : Option Nat} {n : Nat}
variable {st st' : St} {a : Act} {w w' : World} {lim lim' : Lim} {β : Mp} {o : Oper} {c : Comp}

theorem cellsV_length : ∀ {t : Ty} {x : t.val}, noSl t = true → (cellsV t x).length = t.size
  | .int _, _, _ => rfl
  | .bool, _, _ => rfl
  | .str, _, _ => rfl
  | .unit, _, _ => rfl
  | .prod a b, x, h => by
    simp only [noSl] at h
    cases ha : noSl a with
    | false => rw [ha] at h; cases h
    | true => rw [ha] at h; simp [cellsV, Ty.size, cellsV_length ha, cellsV_length h]
  | .slice _, _, h => by cases h
theorem CRep_noSl : ∀ {t : Ty} {x : t.val} {cs : List Value}, noSl t = true → (CRep w lim t x cs ↔ cs = cellsV t x)
  | .int _, _, _, _ => Iff.rfl
  | .bool, _, _, _ => Iff.rfl
  | .str, _, _, _ => Iff.rfl
  | .unit, _, _, _ => Iff.rfl
  | .prod a b, x, cs, h => by
    simp only [noSl] at h
    cases ha : noSl a with
    | false => rw [ha] at h; cases h
    | true =>
      rw [ha] at h
      constructor
      · rintro ⟨c1, c2, rfl, h1, h2⟩
        rw [(CRep_noSl ha).1 h1, (CRep_noSl h).1 h2]; rfl
      · intro e
        exact ⟨_, _, e, (CRep_noSl ha).2 rfl, (CRep_noSl h).2 rfl⟩
  | .slice _, _, _, h => by cases h
theorem XRep.length : ∀ {t : Ty} {x : t.val} {cs : List Value} {B : Nat → Prop}, XRep w t x cs B → cs.length = t.size
  | .int _, _, _, _, h => by rw [h.1]; rfl
  | .bool, _, _, _, h => by rw [h.1]; rfl
  | .str, _, _, _, h => by rw [h.1]; rfl
  | .unit, _, _, _, h => by rw [h.1]; rfl
  | .prod a b, _, _, _, h => by
    obtain ⟨c1, c2, B1, B2, rfl, _, _, h4, h5⟩ := h
    simp [Ty.size, XRep.length h4, XRep.length h5]
  | .slice t, _, _, _, h => by
    rcases h with ⟨h, _⟩ | ⟨g, c, arr, e, fr, h, _⟩ <;> rw [h] <;> rfl
theorem flat_prod {a b : Ty} (h : flatT (.prod a b) = true) : flatT a = true ∧ ((∃ p q, b = .prod p q ∧ flatT b = true) ∨ b = .unit) := by
  simp only [flatT] at h
  cases ha : flatT a with
  | false => rw [ha] at h; cases h
  | true =>
    rw [ha] at h
    refine ⟨rfl, ?_⟩
    cases b with
    | prod p q => exact .inl ⟨p, q, rfl, h⟩
    | unit => exact .inr rfl
    | _ => cases h
/-- a tree as others read it -/
theorem XRep.crep : ∀ {t : Ty} {x : t.val} {cs : List Value} {B : Nat → Prop}, XRep w t x cs B → flatT t = true → (∀ g, B g → lim g = none) → CRep w lim t x cs
  | .int _, _, _, _, h, _, _ => h.1
  | .bool, _, _, _, h, _, _ => h.1
  | .str, _, _, _, h, _, _ => h.1
  | .unit, _, _, _, h, _, _ => h.1
  | .prod a b, _, _, _, h, hf, hl => by
    obtain ⟨c1, c2, B1, B2, h1, h2, _, h4, h5⟩ := h
    obtain ⟨f1, f2⟩ := flat_prod hf
    refine ⟨c1, c2, h1, XRep.crep h4 f1 (fun g hg => hl g ((h2 g).2 (.inl hg))), ?_⟩
    rcases f2 with ⟨p, q, rfl, f2⟩ | rfl
    · exact XRep.crep h5 f2 (fun g hg => hl g ((h2 g).2 (.inr hg)))
    · exact XRep.crep h5 rfl (fun g hg => hl g ((h2 g).2 (.inr hg)))
  | .slice t, xs, cs, B, h, hf, hl => by
    rcases h with ⟨h1, h2, _⟩ | ⟨g, c, arr, e, fr, h1, h2, h3, h4, _, h5, h6⟩
    · exact ⟨none, 0, by rw [h1, h2], by omega, .inl (List.eq_nil_of_length_eq_zero h2)⟩
    · refine ⟨some ⟨g, 0, none⟩, c, h1, h2, .inr ⟨g, 0, rfl, (Array.getElem?_eq_some_iff.1 h4).1, (by intro m hm; rw [hl g ((h5 g).2 rfl)] at hm; cases hm), fun i x hx => ?_⟩⟩
      refine ⟨cellsV t x, (CRep_noSl hf).2 rfl, fun j v hv => ?_⟩
      have := h6 i x hx j v hv
      simp only [World.cell?, h4]
      simpa using this
theorem mem_bump {q : List Nat} {ps : List (List Nat)} (h : q ∈ ps.map bump) (hn : ∀ p ∈ ps, p ≠ []) : ∃ i p, q = (i + 1) :: p ∧ (i :: p) ∈ ps := by
  obtain ⟨p, hp, rfl⟩ := List.mem_map.1 h
  cases p with
  | nil => exact absurd rfl (hn _ hp)
  | cons i p => exact ⟨i, p, rfl, hp⟩
/-- a value whose slices are all the caller's own is a tree -/
theorem XRep.of_crep : ∀ {t : Ty} {x : t.val} {cs : List Value} (base : Nat), CRep w lim t x cs → flatT t = true →
    (∀ p ∈ slicePaths t, ∀ v, cs[offs t p]? = some v → v = .slice none 0 0 ∨ ∃ b m cc arr e fr, v = .slice (some ⟨b, 0, none⟩) m cc ∧ w.heap[b]? = some (.cells arr e fr) ∧ (∀ o, o < arr.size → ¬ (fr.1 ≤ o ∧ o < fr.2)) ∧ m ≤ cc ∧ (∀ e', typeAt t p = some (.slice e') → cc * e'.size ≤ arr.size)) →
    (∀ p ∈ slicePaths t, ∀ q ∈ slicePaths t, ∀ u v g, cs[offs t p]? = some u → cs[offs t q]? = some v → blockOf u = some g → blockOf v = some g → p = q) →
    XRep w t x cs (fun g => ∃ p ∈ slicePaths t, ∃ v, cs[offs t p]? = some v ∧ blockOf v = some g) := by
  intro t
  induction t with
  | int k => intro x cs _ h _ _ _; exact ⟨h, fun g ⟨p, hp, _⟩ => by cases hp⟩
  | bool => intro x cs _ h _ _ _; exact ⟨h, fun g ⟨p, hp, _⟩ => by cases hp⟩
  | str => intro x cs _ h _ _ _; exact ⟨h, fun g ⟨p, hp, _⟩ => by cases hp⟩
  | unit => intro x cs _ h _ _ _; exact ⟨h, fun g ⟨p, hp, _⟩ => by cases hp⟩
  | slice e _ =>
    intro xs cs _ h hf ho _
    obtain ⟨ad, cc, h1, h2, h3⟩ := h
    subst h1
    have h0 := ho [] (by simp [slicePaths]) (.slice ad (List.length (α := e.val) xs) cc) (by simp [offs])
    rcases h0 with h0 | ⟨b, m, c', arr, el, fr, h0, h4, hfr, h5, h6⟩
    · injection h0 with e1 e2 e3
      subst e1; 
      have e2 : List.length (α := e.val) xs = 0 := e2
      have e3 : cc = 0 := e3
      subst e3
      refine .inl ⟨by rw [e2], e2, fun g ⟨p, hp, v, hv, hb⟩ => ?_⟩
      have hp : p = [] := by simpa [slicePaths] using hp
      subst hp
      simp [offs] at hv; subst hv; cases hb
    · injection h0 with e1 e2 e3
      subst e1; subst e3
      have e2 : List.length (α := e.val) xs = m := e2
      refine .inr ⟨b, cc, arr, el, fr, rfl, h2, h6 e rfl, h4, hfr, fun g => ⟨fun ⟨p, hp, v, hv, hb⟩ => ?_, fun hg => ⟨[], by simp [slicePaths], _, by simp [offs]; rfl, by rw [hg]; rfl⟩⟩, fun i x hx j v hv => ?_⟩
      · have hp : p = [] := by simpa [slicePaths] using hp
        subst hp
        simp [offs] at hv; subst hv; injection hb with hb; exact hb.symm
      · rcases h3 with h3 | ⟨b', o', q1, _, _, q4⟩
        · rw [h3] at hx; simp at hx
        · injection q1 with q1; injection q1 with q1 q2
          subst q1; subst q2
          obtain ⟨ds, k1, k2⟩ := q4 i x hx
          rw [(CRep_noSl hf).1 k1] at k2
          have := k2 j v hv
          simp only [World.cell?, h4] at this
          simpa using this
  | prod p q ihp ihq =>
    intro x cs base h hf ho hd
    obtain ⟨c1, c2, rfl, h1, h2⟩ := h
    obtain ⟨f1, f2⟩ := flat_prod hf
    have l1 := h1.length
    have hne : ∀ r ∈ slicePaths q, isProd q = true → r ≠ [] := fun r hr hq => (slicePaths_spec hr).2 hq
    have at1 : ∀ r ∈ slicePaths p, ∀ v, (c1 ++ c2)[offs (.prod p q) (0 :: r)]? = some v ↔ c1[offs p r]? = some v := by
      intro r hr v
      obtain ⟨⟨e, he⟩, _⟩ := slicePaths_spec hr
      have := typeAt_lt he
      have hs : (Ty.slice e).size = 1 := rfl
      simp only [offs]
      rw [List.getElem?_append_left (by omega)]
    have at2 : ∀ i r v, (c1 ++ c2)[offs (.prod p q) ((i + 1) :: r)]? = some v ↔ c2[offs q (i :: r)]? = some v := by
      intro i r v
      simp only [offs]
      rw [List.getElem?_append_right (by omega), l1, show p.size + offs q (i :: r) - p.size = offs q (i :: r) by omega]
    have in1 : ∀ r ∈ slicePaths p, (0 :: r) ∈ slicePaths (.prod p q) := fun r hr => by simp only [slicePaths]; exact List.mem_append_left _ (List.mem_map.2 ⟨r, hr, rfl⟩)
    have X1 := ihp base h1 f1 (fun r hr v hv => (ho (0 :: r) (in1 r hr) v ((at1 r hr v).2 hv))) (fun r hr r' hr' u v g hu hv hgu hgv => by
      have := hd _ (in1 r hr) _ (in1 r' hr') u v g ((at1 r hr u).2 hu) ((at1 r' hr' v).2 hv) hgu hgv
      injection this)
    rcases f2 with ⟨q1, q2, hq, f2⟩ | hq
    · subst hq
      have in2 : ∀ i r, (i :: r) ∈ slicePaths (.prod q1 q2) → ((i + 1) :: r) ∈ slicePaths (.prod p (.prod q1 q2)) := fun i r hr => by
        rw [slicePaths]; exact List.mem_append_right _ (List.mem_map.2 ⟨i :: r, hr, rfl⟩)
      have sh : ∀ r ∈ slicePaths (.prod q1 q2), ∃ i s, r = i :: s := fun r hr => by
        cases r with
        | nil => exact absurd rfl (hne [] hr rfl)
        | cons i s => exact ⟨i, s, rfl⟩
      have X2 := ihq base h2 f2 (fun r hr v hv => by
          obtain ⟨i, s, rfl⟩ := sh r hr
          exact ho _ (in2 i s hr) v ((at2 i s v).2 hv)) (fun r hr r' hr' u v g hu hv hgu hgv => by
          obtain ⟨i, s, rfl⟩ := sh r hr
          obtain ⟨i', s', rfl⟩ := sh r' hr'
          have := hd _ (in2 i s hr) _ (in2 i' s' hr') u v g ((at2 i s u).2 hu) ((at2 i' s' v).2 hv) hgu hgv
          injection this with e1 e2
          injection e1 with e1
          rw [e1, e2])
      refine ⟨c1, c2, _, _, rfl, fun g => ⟨fun ⟨r, hr, v, hv, hg⟩ => ?_, fun hg => ?_⟩, fun g ⟨r, hr, v, hv, hg⟩ ⟨r', hr', v', hv', hg'⟩ => ?_, X1, X2⟩
      · rw [slicePaths] at hr
        rcases List.mem_append.1 hr with hr | hr
        · obtain ⟨s, hs, rfl⟩ := List.mem_map.1 hr
          exact .inl ⟨s, hs, v, (at1 s hs v).1 hv, hg⟩
        · obtain ⟨i, s, rfl, hs⟩ := mem_bump hr (fun s hs => hne s hs rfl)
          exact .inr ⟨_, hs, v, (at2 i s v).1 hv, hg⟩
      · rcases hg with ⟨s, hs, v, hv, hg⟩ | ⟨s, hs, v, hv, hg⟩
        · exact ⟨_, in1 s hs, v, (at1 s hs v).2 hv, hg⟩
        · obtain ⟨i, s, rfl⟩ := sh s hs
          exact ⟨_, in2 i s hs, v, (at2 i s v).2 hv, hg⟩
      · obtain ⟨i, s, rfl⟩ := sh r' hr'
        have := hd _ (in1 r hr) _ (in2 i s hr') v v' g ((at1 r hr v).2 hv) ((at2 i s v').2 hv') hg hg'
        injection this with e1 _
        cases e1
    · subst hq
      have hc2 : c2 = [] := h2
      subst hc2
      refine ⟨c1, [], _, fun _ => False, rfl, fun g => ⟨fun ⟨r, hr, v, hv, hg⟩ => ?_, fun hg => ?_⟩, fun _ _ h => h, X1, ⟨rfl, fun _ h => h⟩⟩
      · have hr : r ∈ (slicePaths p).map (0 :: ·) ++ [] := hr
        simp only [List.append_nil] at hr
        obtain ⟨s, hs, rfl⟩ := List.mem_map.1 hr
        exact .inl ⟨s, hs, v, (at1 s hs v).1 hv, hg⟩
      · rcases hg with ⟨s, hs, v, hv, hg⟩ | hg
        · exact ⟨_, in1 s hs, v, (at1 s hs v).2 hv, hg⟩
        · exact hg.elim

/-! ### parts of a tree -/
theorem XRep.field : ∀ {t : Ty} {x : t.val} {cs : List Value} {B : Nat → Prop} {i : Nat} {d : Dat}, XRep w t x cs B → getF t x i = some d →
    ∃ Bu : Nat → Prop, (∀ g, Bu g → B g) ∧ XRep w d.1 d.2 ((cs.drop (offs t [i])).take d.1.size) Bu ∧
      ∀ (w' : World) (z : d.1.val) (x' : t.val), setF t x i ⟨d.1, z⟩ = some x' → (∀ g, B g → ¬ Bu g → w'.heap[g]? = w.heap[g]?) → XRep w' d.1 z ((cs.drop (offs t [i])).take d.1.size) Bu → XRep w' t x' cs B := by
  intro t
  induction t with
  | prod p q _ ihq =>
    intro x cs B i d h hf
    obtain ⟨c1, c2, B1, B2, rfl, h2, h3, h4, h5⟩ := h
    have l1 := h4.length
    cases i with
    | zero =>
      simp only [getF] at hf; injection hf with hf; subst hf
      have e : ((c1 ++ c2).drop (offs (.prod p q) [0])).take p.size = c1 := by
        have : offs (.prod p q) [0] = 0 := by cases p <;> rfl
        rw [this, List.drop_zero, ← l1, List.take_left]
      simp only []
      rw [e]
      refine ⟨B1, fun g hg => (h2 g).2 (.inl hg), h4, fun w' z x' hs hk hx => ?_⟩
      simp only [setF, cast_self] at hs
      injection hs with hs; subst hs
      exact ⟨c1, c2, B1, B2, rfl, h2, h3, hx, h5.keep fun g hg => hk g ((h2 g).2 (.inr hg)) (fun h' => h3 g h' hg)⟩
    | succ i =>
      simp only [getF] at hf
      obtain ⟨Bu, k1, k2, k3⟩ := ihq h5 hf
      have e : ((c1 ++ c2).drop (offs (.prod p q) [i + 1])).take d.1.size = (c2.drop (offs q [i])).take d.1.size := by
        simp only [offs]
        rw [← l1, ← List.drop_drop, List.drop_left]
      rw [e]
      refine ⟨Bu, fun g hg => (h2 g).2 (.inr (k1 g hg)), k2, fun w' z x' hs hk hx => ?_⟩
      simp only [setF] at hs
      cases hsq : setF q x.2 i ⟨d.1, z⟩ with
      | none => rw [hsq] at hs; cases hs
      | some y =>
        rw [hsq] at hs; injection hs with hs; subst hs
        exact ⟨c1, c2, B1, B2, rfl, h2, h3, h4.keep fun g hg => hk g ((h2 g).2 (.inl hg)) (fun h' => h3 g hg (k1 g h')), k3 w' z y hsq (fun g hg hn => hk g ((h2 g).2 (.inr hg)) hn) hx⟩
  | _ => intro x cs B i d h hf; cases hf
theorem XRep.sub : ∀ {p : List Nat} {t : Ty} {x : t.val} {cs : List Value} {B : Nat → Prop} {y : Dat}, XRep w t x cs B → getP t x p = some y →
    ∃ Bu : Nat → Prop, (∀ g, Bu g → B g) ∧ XRep w y.1 y.2 ((cs.drop (offs t p)).take y.1.size) Bu ∧
      ∀ (w' : World) (z : y.1.val) (x' : t.val), setP t x p ⟨y.1, z⟩ = some x' → (∀ g, B g → ¬ Bu g → w'.heap[g]? = w.heap[g]?) → XRep w' y.1 z ((cs.drop (offs t p)).take y.1.size) Bu → XRep w' t x' cs B
  | [], t, x, cs, B, y, h, hp => by
    simp only [getP] at hp; injection hp with hp; subst hp
    have e : (cs.drop (offs t [])).take t.size = cs := by
      have : offs t [] = 0 := by cases t <;> rfl
      rw [this, List.drop_zero, ← h.length, List.take_length]
    simp only []
    rw [e]
    refine ⟨B, fun _ h => h, h, fun w' z x' hs _ hx => ?_⟩
    simp only [setP, cast_self] at hs
    injection hs with hs; subst hs; exact hx
  | i :: p, t, x, cs, B, y, h, hp => by
    simp only [getP] at hp
    cases hf : getF t x i with
    | none => rw [hf] at hp; cases hp
    | some d =>
      rw [hf] at hp; simp only [] at hp
      obtain ⟨B1, k1, k2, k3⟩ := h.field hf
      obtain ⟨Bu, m1, m2, m3⟩ := k2.sub hp
      have ht := typeAt_lt (typeAt_getP hp)
      have e : (((cs.drop (offs t [i])).take d.1.size).drop (offs d.1 p)).take y.1.size = (cs.drop (offs t (i :: p))).take y.1.size := by
        rw [(getF_typeAt p hf).2, ← List.drop_drop, List.drop_take, List.take_take, Nat.min_eq_left (by omega)]
      rw [e] at m2 m3
      refine ⟨Bu, fun g hg => k1 g (m1 g hg), m2, fun w' z x' hs hk hx => ?_⟩
      simp only [setP, hf] at hs
      cases hsp : setP d.1 d.2 p ⟨y.1, z⟩ with
      | none => rw [hsp] at hs; cases hs
      | some y' =>
        rw [hsp] at hs; simp only [] at hs
        exact k3 w' y' x' hs (fun g hg hn => hk g hg (fun h' => hn (m1 g h'))) (m3 w' z y' hsp (fun g hg hn => hk g (k1 g hg) hn) hx)
end
end Go.Den
