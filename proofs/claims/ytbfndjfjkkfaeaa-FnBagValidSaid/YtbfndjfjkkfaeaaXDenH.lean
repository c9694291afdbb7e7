/- The operations without memory of their own. -/
import Derived.Test.YtbfndjfjkkfaeaaXDenF
set_option linter.unusedVariables false
set_option linter.unusedSimpArgs false
namespace Go.Den
section
variable {P : Program} {tab : Tab} {w0 : Base} {lim0 : Lim} {rb : Option Nat} {n : Nat}
variable {st st' : St} {a : Act} {w : World} {lim : Lim} {β : Mp} {o : Oper} {c : Comp}

theorem flat_slice (x : Option Addr) (m k : Nat) : flatV (.slice x m k) = [.slice x m k] := rfl
theorem flat_TRep {t : Ty} {x : t.val} {v : Value} (h : TRep w lim t x v) : flatV v = v.cells.toList := by
  obtain ⟨cs, h, rfl⟩ := h
  cases t <;> first
    | rfl
    | (have := h.length; obtain ⟨u, rfl⟩ := List.length_eq_one_iff.1 this
       have := h.cells u (by simp)
       cases u <;> first | rfl | exact this.elim)

theorem bump_typeAt {a b : Ty} {q : List Nat} {u : Ty} (hq : q ≠ []) (h : typeAt b q = some u) : typeAt (.prod a b) (bump q) = some u := by
  cases q with
  | nil => exact absurd rfl hq
  | cons i q => simpa [typeAt, bump] using h
/-- the slices of a value lie in its cells -/
theorem slicePaths_spec : ∀ {t : Ty} {p : List Nat}, p ∈ slicePaths t → (∃ e, typeAt t p = some (.slice e)) ∧ (isProd t = true → p ≠ []) := by
  intro t
  induction t with
  | slice e => intro p h; simp [slicePaths] at h; subst h; exact ⟨⟨e, rfl⟩, fun h => by cases h⟩
  | prod a b iha ihb =>
    intro p h
    simp only [slicePaths, List.mem_append, List.mem_map] at h
    rcases h with ⟨q, hq, rfl⟩ | h
    · obtain ⟨⟨e, he⟩, _⟩ := iha hq; exact ⟨⟨e, by simpa [typeAt] using he⟩, fun _ => by simp⟩
    · cases b with
      | prod c d =>
        simp only [List.mem_map] at h
        obtain ⟨q, hq, rfl⟩ := h
        obtain ⟨⟨e, he⟩, hne⟩ := ihb hq
        have hne := hne rfl
        exact ⟨⟨e, bump_typeAt hne he⟩, fun _ => by cases q <;> simp_all [bump]⟩
      | int k => simp at h
      | bool => simp at h
      | str => simp at h
      | unit => simp at h
      | slice e => simp at h
  | int k => intro p h; simp [slicePaths] at h
  | bool => intro p h; simp [slicePaths] at h
  | str => intro p h; simp [slicePaths] at h
  | unit => intro p h; simp [slicePaths] at h

theorem CRep.at : ∀ {t : Ty} {p : List Nat} {u : Ty} {x : t.val} {cs : List Value}, CRep w lim t x cs → typeAt t p = some u →
    ∃ (y : u.val) (cs' : List Value), CRep w lim u y cs' ∧ ∀ j v, cs'[j]? = some v → cs[offs t p + j]? = some v := by
  intro t
  induction t with
  | prod a b iha ihb =>
    intro p u x cs hc hp
    cases p with
    | nil => simp [typeAt] at hp; subst hp; exact ⟨x, cs, hc, fun j v h => by simpa [offs] using h⟩
    | cons i p =>
      obtain ⟨c1, c2, rfl, h1, h2⟩ := hc
      cases i with
      | zero =>
        simp only [typeAt] at hp
        obtain ⟨y, cs', hy, hj⟩ := iha h1 hp
        refine ⟨y, cs', hy, fun j v h => ?_⟩
        have := hj j v h
        simp only [offs]
        rw [List.getElem?_append_left (List.getElem?_eq_some_iff.1 this).1]; exact this
      | succ i =>
        simp only [typeAt] at hp
        obtain ⟨y, cs', hy, hj⟩ := ihb h2 hp
        refine ⟨y, cs', hy, fun j v h => ?_⟩
        have := hj j v h
        simp only [offs]
        rw [List.getElem?_append_right (by rw [h1.length]; omega), h1.length]
        rw [show a.size + offs b (i :: p) + j - a.size = offs b (i :: p) + j by omega]; exact this
  | int k => intro p u x cs hc hp; cases p <;> simp [typeAt] at hp; subst hp; exact ⟨x, cs, hc, fun j v h => by simpa [offs] using h⟩
  | bool => intro p u x cs hc hp; cases p <;> simp [typeAt] at hp; subst hp; exact ⟨x, cs, hc, fun j v h => by simpa [offs] using h⟩
  | str => intro p u x cs hc hp; cases p <;> simp [typeAt] at hp; subst hp; exact ⟨x, cs, hc, fun j v h => by simpa [offs] using h⟩
  | unit => intro p u x cs hc hp; cases p <;> simp [typeAt] at hp; subst hp; exact ⟨x, cs, hc, fun j v h => by simpa [offs] using h⟩
  | slice e => intro p u x cs hc hp; cases p <;> simp [typeAt] at hp; subst hp; exact ⟨x, cs, hc, fun j v h => by simpa [offs] using h⟩

/-- a value's slice at a path -/
theorem CRep.sliceAt {t : Ty} {p : List Nat} {e : Ty} {x : t.val} {cs : List Value} (h : CRep w lim t x cs) (hp : typeAt t p = some (.slice e)) :
    ∃ b m k, cs[offs t p]? = some (.slice b m k) := by
  obtain ⟨y, cs', ⟨b, k, rfl, _⟩, hj⟩ := h.at hp
  exact ⟨b, _, k, by simpa using hj 0 _ rfl⟩

theorem owned_mem {x : Operand} {p : List Nat} : ∀ {ps : List (List Nat)}, p ∈ st.owned x ps → p ∈ ps ∧ st.ownOp x p = true
  | [], h => by simp [St.owned] at h
  | q :: qs, h => by
    simp only [St.owned] at h
    cases hq : st.ownOp x q with
    | true =>
      rw [hq] at h; simp at h
      rcases h with rfl | h
      · exact ⟨by simp, hq⟩
      · obtain ⟨h1, h2⟩ := owned_mem h; exact ⟨by simp [h1], h2⟩
    | false =>
      rw [hq] at h
      obtain ⟨h1, h2⟩ := owned_mem h; exact ⟨by simp [h1], h2⟩

def srcOf : Operand → List Nat → Loc
  | .tmp u, p => .tmp u p
  | _, p => .tmp 0 p
theorem srcOf_inj (x : Operand) {p q : List Nat} (h : srcOf x p = srcOf x q) : p = q := by
  cases x <;> simp [srcOf] at h <;> exact h
theorem mem_takesOf {x : Operand} {ps : List (List Nat)} {p : List Nat} (hx : ∀ k, x ≠ .const k) (h : st.ownOp x p = true) (hp : p ∈ ps) : srcOf x p ∈ takesOf x ps := by
  cases x with
  | tmp u => exact List.mem_map.2 ⟨p, hp, rfl⟩
  | const k => exact absurd rfl (hx k)
  | global g => cases h
  | func f => cases h
/-- what an operand owns may be handed on -/
theorem handed (h : Sim w0 lim0 rb n st a w lim β) {x : Operand} {t : Ty} {p : List Nat} (hav : ∀ u, x = .tmp u → (∃ v, (st.env u).av = .dat t v) ∨ (st.env u).av = .nil)
    (hcn : ∀ k, x = .const k → (st.ent x).av = .nil ∨ slicePaths t = [])
    {v : t.val} (hr : TRep w lim t v (a.eval x)) (hs : p ∈ slicePaths t) (hp : st.ownOp x p = true) :
    ∃ e y, typeAt t p = some (.slice e) ∧ (a.eval x).cells.toList[offs t p]? = some y ∧
      (y = .slice none 0 0 ∨ ((∀ k, x ≠ .const k) ∧ st.own (srcOf x p) = true ∧ locV st a w β (srcOf x p) = some y ∧ locTy st (srcOf x p) = some (.slice e))) := by
  obtain ⟨⟨e, he1⟩, _⟩ := slicePaths_spec hs
  obtain ⟨b, m, k, hk⟩ := hr.cells.sliceAt he1
  refine ⟨e, _, he1, hk, ?_⟩
  cases x with
  | const kk =>
    rcases hcn kk rfl with hn | hn
    · have hev := h.ent (.const kk)
      rw [hn] at hev
      have hev : a.eval (.const kk) = .slice none 0 0 := hev
      rw [hev] at hk
      have : (Value.slice none 0 0).cells.toList = [.slice none 0 0] := rfl
      rw [this] at hk
      cases ho : offs t p with
      | zero => rw [ho] at hk; simp at hk; exact .inl (by obtain ⟨rfl, rfl, rfl⟩ := hk; rfl)
      | succ j => rw [ho] at hk; simp at hk
    · rw [hn] at hs; cases hs
  | tmp u =>
    obtain ⟨v', hav⟩ : ∃ v, (st.env u).av = .dat t v := by
      rcases hav u rfl with hav | hav
      · exact hav
      · obtain ⟨e', y', k1, _⟩ := h.own (.tmp u p) hp
        rw [locTy_tmp, hav] at k1; cases k1
    refine .inr ⟨fun k => by simp, hp, ?_, ?_⟩
    · simp only [srcOf]
      rw [locV_tmp, hav]
      simp only [partAV]
      have : flatV (tmpOf a u) = (a.eval (.tmp u)).cells.toList := flat_TRep hr
      rw [this]; exact hk
    · simp only [srcOf]; rw [locTy_tmp, hav]; exact he1
  | global g => cases hp
  | func f => cases hp

theorem coerce_rep (h : Sim w0 lim0 rb n st a w lim β) (x : Operand) {t : Option Ty} {av : AV} (hav : coerce t (st.ent x).av = av) : ERep st w lim β rb av (a.eval x) := by
  have hx := h.ent x
  cases hk : (st.ent x).av with
  | nil =>
    rw [hk] at hav hx
    have hx : a.eval x = _ := hx
    simp only [coerce] at hav
    split at hav
    · subst hav; rw [hx]; exact ⟨_, ⟨none, 0, rfl, Nat.le_refl _, .inl rfl⟩, rfl⟩
    · subst hav; trivial
  | _ => rw [hk] at hav hx; simp only [coerce] at hav; subst hav; exact hx
theorem const_own {k : Value} {t : Option Ty} {ty : Ty} {v : ty.val} (hco : coerce t (st.ent (.const k)).av = .dat ty v) : (st.ent (.const k)).av = .nil ∨ slicePaths ty = [] := by
  cases hk : (st.ent (.const k)).av with
  | nil => exact .inl rfl
  | dat u y =>
    rw [hk] at hco; simp only [coerce] at hco
    injection hco with h1 h2; subst h1
    right
    simp only [St.ent, constAV] at hk
    split at hk <;> first | (injection hk with h3; subst h3; rfl) | cases hk
  | _ => rw [hk] at hco; simp only [coerce] at hco; cases hco

theorem ok_move (h : Sim w0 lim0 rb n st a w lim β) (hd : ∀ d, o.dst = some d → d < n) {x : Operand} (hop : o.op = .move x) (ho : (stMove tab o x st).out st = some st') : OpOk P w0 lim0 rb n o st' a w := by
  have he : (execOp a.eval o).run P w = .ok (.value (a.eval x)) w := by simp [execOp, hop]
  have hx := h.ent x
  unfold stMove at ho
  cases x with
  | tmp t =>
    obtain ⟨_, rfl⟩ := out_ret ho
    refine .value he (h.tagged _ _ _ _ hd hx fun l hl hol => ?_)
    cases hot : st.own (.tmp t []) with
    | true =>
      simp only [hot, cnd_true] at hl; injection hl with hl; injection hl with _ hl; subst hl
      obtain ⟨e, y, h1, h2, _⟩ := h.own _ hot
      have hav : ∃ x, (st.env t).av = .dat (.slice e) x := by
        rw [locTy_tmp] at h1
        cases hav : (st.env t).av with
        | dat ty x => rw [hav] at h1; simp [typeAV, typeAt] at h1; subst h1; exact ⟨x, rfl⟩
        | tup ty x =>
          rw [hav] at h1; simp [typeAV, typeAt] at h1; subst h1
          have := h.env t; rw [hav] at this
          obtain ⟨vs, _, hv⟩ := this; exact hv.elim
        | any => rw [hav] at h1; cases h1
        | skp => rw [hav] at h1; cases h1
        | nil => rw [hav] at h1; cases h1
        | cel _ _ => rw [hav] at h1; cases h1
        | ref _ _ => rw [hav] at h1; cases h1
        | rdr _ => rw [hav] at h1; cases h1
        | xf _ _ => rw [hav] at h1; cases h1
        | xp _ _ _ _ => rw [hav] at h1; cases h1
        | xt _ => rw [hav] at h1; cases h1
        | cx _ _ => rw [hav] at h1; cases h1
      obtain ⟨x, hav⟩ := hav
      refine ⟨?_, e, x, hav, h1⟩
      rw [locV_tmp, hav]
      have hev := h.env t
      rw [hav] at hev
      obtain ⟨b, cc, hv, _⟩ := slice_rep hev
      simp only [partAV, hv, flat_slice, offs]
      have : a.eval (.tmp t) = tmpOf a t := rfl
      rw [this, hv]; rfl
    | false =>
      simp only [hot, cnd_false] at hl
      exact h.tag t l hl hol
  | const k =>
    simp only [] at ho
    cases hco : coerce (tab o.type) (st.ent (.const k)).av with
    | dat t v =>
      rw [hco] at ho
      obtain ⟨_, rfl⟩ := out_ret ho
      have hr : TRep w lim t v (a.eval (.const k)) := coerce_rep h _ hco
      refine .value he (h.val _ _ hd rfl rfl hr (srcOf (.const k)) (fun p hp => ?_) (fun p _ q _ hpq => srcOf_inj _ hpq) (fun l hl => by cases hl) (fun l hl => by cases hl))
      obtain ⟨e, y, h1, h2, h3⟩ := handed h (x := .const k) (p := p) (fun u hu => by cases hu) (fun _ _ => const_own hco) hr hp rfl
      refine ⟨e, y, h1, ?_, ?_⟩
      · simp only [upd0, partAV]; rw [flat_TRep hr]; exact h2
      · rcases h3 with h3 | ⟨h3, _⟩
        · exact .inl h3
        · exact absurd rfl (h3 k)
    | _ =>
      rw [hco] at ho
      obtain ⟨_, rfl⟩ := out_ret ho
      exact .value he (h.plain _ _ _ hd (coerce_rep h _ hco))
  | global g =>
    simp only [] at ho
    simp only [St.ent, coerce] at ho
    obtain ⟨_, rfl⟩ := out_ret ho
    exact .value he (h.plain _ _ _ hd trivial)
  | func f =>
    simp only [] at ho
    simp only [St.ent, coerce] at ho
    obtain ⟨_, rfl⟩ := out_ret ho
    exact .value he (h.plain _ _ _ hd trivial)
end
end Go.Den
