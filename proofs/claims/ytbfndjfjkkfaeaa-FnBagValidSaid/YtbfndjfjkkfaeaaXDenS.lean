/- Regions: operations in the text's order. -/
import Derived.Test.YtbfndjfjkkfaeaaXDenRZ
import Derived.RegionTactic
import Derived.Tactics
set_option linter.unusedVariables false
set_option linter.unusedSimpArgs false
namespace Go.Den
section
variable {P : Program} {tab : Tab} {G : Gam} {w0 : Base} {lim0 : Lim} {rb : Option Nat} {n : Nat}
variable {st st' : St} {a : Act} {w w' : World} {lim lim' : Lim} {β : Mp} {o : Oper} {c : Comp}

theorem setAV_self {t : Tmp} {v : AV} (h : (st.env t).av = v) : setAV st t v = st := by
  obtain ⟨env, box, own, rd⟩ := st
  unfold setAV
  simp only at h ⊢
  congr 1
  funext u
  cases hq : Nat.beq u t with
  | true =>
    have := nbeq hq; subst this
    rw [cnd_true, ← h]
  | false => rfl

theorem guardT_spec {ops : Array Oper} {g : Nat} {t : Tmp} (h : guardT ops.toList g = some t) : (ops[g]?).bind (·.dst) = some t := by
  unfold guardT at h
  have e1 : ops.toList[g]? = ops[g]? := by simp
  rw [e1] at h
  cases hq : ops[g]? with
  | none => rw [hq] at h; cases h
  | some o => rw [hq] at h; exact h
theorem yielded_bool {ops : Array Oper} {g : Nat} {t : Tmp} {b : Bool} (hg : guardT ops.toList g = some t) (hv : tmpOf a t = .bool b) : yielded ops a.tmps g = some b := by
  unfold yielded
  rw [guardT_spec hg]
  simp only [Option.bind_some]
  unfold tmpOf at hv
  rw [Array.getD_eq_getD_getElem?] at hv
  cases hq : a.tmps[t]? with
  | none => rw [hq] at hv; cases hv
  | some v => rw [hq] at hv; simp only [Option.getD_some] at hv; rw [hv]
theorem yielded_skip {ops : Array Oper} {g : Nat} {t : Tmp} (hg : guardT ops.toList g = some t) (hv : tmpOf a t = undef) : yielded ops a.tmps g = none := by
  unfold yielded
  rw [guardT_spec hg]
  simp only [Option.bind_some]
  unfold tmpOf at hv
  rw [Array.getD_eq_getD_getElem?] at hv
  cases hq : a.tmps[t]? with
  | none => rfl
  | some v => rw [hq] at hv; simp only [Option.getD_some] at hv; rw [hv]; rfl

def eqW (b want : Bool) : Bool := b == want
/-- what one operation's reading is, its guard included: the change, and what it looks at -/
def oneU (tab : Tab) (G : Gam) (ops : List Oper) (o : Oper) (st : St) : Option (Upd × List Res) :=
  let go (rs : List Res) : Option (Upd × List Res) := match stepC tab G o st with
    | some (.ret c u) => cond (chkB c) (some (u, rs)) none
    | some (.call _ _ F u) => F.map fun r => (u r, rs)
    | none => none
  match o.guard with
  | none => go (reads st o)
  | some (g, want) => match guardT ops g with
    | none => none
    | some t => match (st.env t).av with
      | .dat .bool b => cond (eqW b want) (go (.tmp t :: reads st o)) (some (skipU o, [.tmp t]))
      | .skp => some (skipU o, [.tmp t])
      | _ => none
def runT (tab : Tab) (G : Gam) (ops : List Oper) : List Oper → St → Option (St × List FP)
  | [], st => some (st, [])
  | o :: rest, st => match oneU tab G ops o st with
    | some (u, rs) => (runT tab G ops rest (apply st u)).map fun x => (x.1, ⟨tagRes u ++ rs, u.writes⟩ :: x.2)
    | none => none

/-- alike but for what is known while the code is read -/
def Alike (st st' : St) : Prop := ∃ f, st = { st' with kn := f }
theorem Alike.refl (st : St) : Alike st st := ⟨st.kn, rfl⟩
theorem Alike.apply {st st' : St} (h : Alike st st') (u : Upd) (t : Option Tmp) (b : Bool) : Alike (setKn (Den.apply st u) t b) (Den.apply st' u) := by
  obtain ⟨f, rfl⟩ := h
  exact ⟨_, rfl⟩
theorem Alike.setKn {st st' : St} (h : Alike st st') (t : Option Tmp) (b : Bool) : Alike (Den.setKn st t b) st' := by
  obtain ⟨f, rfl⟩ := h
  exact ⟨_, rfl⟩
theorem Alike.setAV {st st' : St} (h : Alike st st') {t : Tmp} {v : AV} (hv : (st'.env t).av = v) : Alike (Den.setAV st t v) st' := by
  obtain ⟨f, rfl⟩ := h
  have := setAV_self hv
  refine ⟨f, ?_⟩
  have e : Den.setAV { st' with kn := f } t v = { Den.setAV st' t v with kn := f } := rfl
  rw [e, this]
theorem Alike.env {st st' : St} (h : Alike st st') : st.env = st'.env := by obtain ⟨f, rfl⟩ := h; rfl
theorem Alike.step {st st' : St} (h : Alike st st') : stepC tab G o st = stepC tab G o st' := by
  obtain ⟨f, rfl⟩ := h
  have e1 : ∀ x, ({ st' with kn := f } : St).ent x = st'.ent x := fun x => by cases x <;> rfl
  have e2 : ∀ x p, ({ st' with kn := f } : St).ownOp x p = st'.ownOp x p := fun x p => by cases x <;> rfl
  have e3 : ∀ x ps, ({ st' with kn := f } : St).owned x ps = st'.owned x ps := fun x ps => by
    induction ps with
    | nil => rfl
    | cons p ps ih => simp only [St.owned, e2, ih]
  have e4 : ∀ x, ({ st' with kn := f } : St).owner x = st'.owner x := fun x => by cases x <;> rfl
  have e5 : ∀ (ps : List (Nat × Operand)) t z, fillP { st' with kn := f } t z ps = fillP st' t z ps := fun ps => by
    induction ps with
    | nil => intros; rfl
    | cons q ps ih => obtain ⟨i, x⟩ := q; intro t z; simp only [fillP, e1, ih]
  have e6 : ∀ (ps : List (Nat × Operand)) e z, fillS { st' with kn := f } e z ps = fillS st' e z ps := fun ps => by
    induction ps with
    | nil => intros; rfl
    | cons q ps ih => obtain ⟨i, x⟩ := q; intro e z; simp only [fillS, e1, ih]
  have e7 : ∀ (ps : List (Nat × Operand)) (qs : List (List Nat)), ({ st' with kn := f } : St).builtOwn ps qs = st'.builtOwn ps qs := fun ps qs => by
    induction qs with
    | nil => rfl
    | cons q qs ih =>
      cases q with
      | nil => simp only [St.builtOwn]; exact ih
      | cons i p => simp only [St.builtOwn, e2, ih]
  have e8 : ∀ x, avOpt ({ st' with kn := f } : St) x = avOpt st' x := fun x => by cases x <;> simp only [avOpt, e1]
  have em : ∀ x, mkD ({ st' with kn := f } : St) x = mkD st' x := fun x => by cases x <;> rfl
  have ef : ∀ x, freeD ({ st' with kn := f } : St) x = freeD st' x := fun x => by cases x <;> rfl
  have eo : ∀ b p qs, ({ st' with kn := f } : St).ownedB b p qs = st'.ownedB b p qs := fun b p qs => by
    induction qs with
    | nil => rfl
    | cons q qs ih => simp only [St.ownedB, ih]
  have ea : ∀ r p, ({ st' with kn := f } : St).atX r p = st'.atX r p := fun _ _ => rfl
  have ex : ∀ av, argX ({ st' with kn := f } : St) av = argX st' av := fun av => by cases av <;> rfl
  have ey : ∀ l, anyX ({ st' with kn := f } : St) l = anyX st' l := fun l => by
    induction l with
    | nil => rfl
    | cons x l ih => simp only [anyX, e1, ih]
  unfold stepC
  cases o.op with
  | move x => simp only [stAssignM, stMove, e1, e3, e4, em]
  | assign x => simp only [stAssignM, stAssign, e1, e3, e4, em]
  | pick x y z => simp only [stPick, e1]
  | alloc e => simp only [stAlloc, stAllocX, em, ef]
  | box e x => simp only [stBox, stBoxX, e1, e3, ef, ea]
  | build t ps => simp only [stBuild, e5, e7]
  | buildSlice t k ps => simp only [stBuildSlice, e6]
  | load t x => simp only [stLoad, stLoadX, e1, ea, em, eo]
  | store t x v => simp only [stStore, stStoreX, stPutX, e1, e3, ea]
  | nilCheck x => simp only [e1]
  | binOp op xt x y yt => simp only [stBin, e1]
  | unOp op t x => simp only [stUn, e1]
  | convert s t x => simp only [stConv, e1]
  | makeSlice t x y => simp only [stMakeSlice, stMakeX, e1, em, ef]
  | slice t x lo hi mx => simp only [stSlice, e1, e8]
  | fieldAddr s x f => simp only [stFieldAddr, stFieldAddrX, stFieldAddrC, e1, ea]
  | field s x f => simp only [stField, e1]
  | indexAddr t x i => simp only [stIndexAddr, stIndexAddrX, e1, ea]
  | index t x i => simp only [stIndex, e1]
  | extract x i => simp only [stExtract, stExtractX, e1, e3]
  | call cl => simp only [stCall, stCallX, stLen, stLenX, stAppend, stMinMax, e1, e4, em, ef, ea, ex, ey]
  | _ => rfl
theorem Alike.reads {st st' : St} (h : Alike st st') : Den.reads st o = Den.reads st' o := by
  obtain ⟨f, rfl⟩ := h
  have : ∀ l, readsL { st' with kn := f } l = readsL st' l := fun l => by
    induction l with
    | nil => rfl
    | cons x l ih => simp only [readsL, ih]; cases x <;> rfl
  have e : exNo { st' with kn := f } o.op = exNo st' o.op := by
    cases o.op with
    | extract x i => cases x <;> rfl
    | _ => rfl
  have e2 : mvNo { st' with kn := f } o.op = mvNo st' o.op := by
    cases o.op with
    | move x => cases x <;> rfl
    | _ => rfl
  have e3 : ∀ t, readsM { st' with kn := f } t = readsM st' t := fun _ => rfl
  unfold Den.reads
  rw [this, e, e2]
  simp only [e3]

theorem opsK_runT {R : Type} {ops : List Oper} : ∀ {rest : List Oper} {i : Nat} {st st2 : St} {k : St → Option R} {r : R}, Alike st st2 → opsK tab G ops rest i st k = some r → ∃ st' fs st3, runT tab G ops rest st2 = some (st', fs) ∧ Alike st3 st' ∧ k st3 = some r := by
  intro rest
  induction rest with
  | nil => intro i st st2 k r hA h; exact ⟨st2, [], st, rfl, hA, h⟩
  | cons o rest ih =>
    intro i st st2 k r hA h
    have go : ∀ {st : St} {c : Comp} {rs : List Res} {t : Option Tmp} {b : Bool}, Alike st st2 → c.runK st (fun st' => opsK tab G ops rest (Nat.succ i) (setKn st' t b) k) = some r →
        ∃ u, (match c with | .ret c u => cond (chkB c) (some (u, rs)) none | .call _ _ F u => F.map fun r => (u r, rs)) = some (u, rs) ∧ ∃ st' fs st3, runT tab G ops rest (apply st2 u) = some (st', fs) ∧ Alike st3 st' ∧ k st3 = some r := by
      intro st c rs t b hA hc
      cases c with
      | ret c u =>
        cases c with
        | none => exact ⟨u, rfl, ih (hA.apply u t b) hc⟩
        | some c =>
          cases c with
          | false => cases hc
          | true => exact ⟨u, rfl, ih (hA.apply u t b) hc⟩
      | call rt rdt F u =>
        cases F with
        | none => cases hc
        | some x => exact ⟨u x, rfl, ih (hA.apply (u x) t b) hc⟩
    simp only [opsK] at h
    simp only [runT, oneU]
    cases hg : o.guard with
    | none =>
      rw [hg] at h; simp only [] at h ⊢
      rw [hA.step] at h
      cases hc : stepC tab G o st2 with
      | none => rw [hc] at h; cases h
      | some c =>
        rw [hc] at h
        obtain ⟨u, h1, st', fs, st3, h2, h3, h4⟩ := go (rs := reads st2 o) hA h
        refine ⟨st', ⟨tagRes u ++ reads st2 o, u.writes⟩ :: fs, st3, ?_, h3, h4⟩
        cases c <;> simp only [] at h1 ⊢ <;> rw [h1] <;> simp [h2]
    | some gw =>
      obtain ⟨g, want⟩ := gw
      rw [hg] at h; simp only [] at h ⊢
      cases hgt : guardT ops g with
      | none => rw [hgt] at h; cases h
      | some t =>
        rw [hgt] at h; simp only [] at h ⊢
        have skip : ∀ {st : St}, Alike st st2 → opsK tab G ops rest (Nat.succ i) (setKn (apply st (skipU o)) o.dst false) k = some r → ∃ st' fs st3, (match (some (skipU o, [Res.tmp t]) : Option (Upd × List Res)) with
            | some (u, rs) => (runT tab G ops rest (apply st2 u)).map fun x => (x.1, (⟨tagRes u ++ rs, u.writes⟩ : FP) :: x.2)
            | none => none) = some (st', fs) ∧ Alike st3 st' ∧ k st3 = some r := by
          intro st hA hk
          obtain ⟨st', fs, st3, h2, h3, h4⟩ := ih (hA.apply (skipU o) o.dst false) hk
          exact ⟨st', ⟨[.tmp t], (skipU o).writes⟩ :: fs, st3, by simp [h2, show tagRes (skipU o) = [] from rfl], h3, h4⟩
        have step : ∀ {st : St}, Alike st st2 → (match stepC tab G o st with
            | some c => c.runK st fun st' => opsK tab G ops rest (Nat.succ i) (setKn st' o.dst (knOf o st)) k
            | none => none) = some r → ∃ st' fs st3, (match (match stepC tab G o st2 with
              | some (.ret c u) => cond (chkB c) (some (u, Res.tmp t :: reads st2 o)) none
              | some (.call _ _ F u) => F.map fun r => (u r, Res.tmp t :: reads st2 o)
              | none => none : Option (Upd × List Res)) with
            | some (u, rs) => (runT tab G ops rest (apply st2 u)).map fun x => (x.1, (⟨tagRes u ++ rs, u.writes⟩ : FP) :: x.2)
            | none => none) = some (st', fs) ∧ Alike st3 st' ∧ k st3 = some r := by
          intro st hA hk
          rw [hA.step] at hk
          cases hc : stepC tab G o st2 with
          | none => rw [hc] at hk; cases hk
          | some c =>
            rw [hc] at hk
            obtain ⟨u, h1, st', fs, st3, h2, h3, h4⟩ := go (rs := Res.tmp t :: reads st2 o) hA hk
            refine ⟨st', ⟨tagRes u ++ Res.tmp t :: reads st2 o, u.writes⟩ :: fs, st3, ?_, h3, h4⟩
            cases c <;> simp only [] at h1 ⊢ <;> rw [h1] <;> simp [h2]
        rw [hA.env] at h
        cases hav : (st2.env t).av with
        | dat ty b =>
          rw [hav] at h
          cases ty <;> try (simp only [] at h; cases h; done)
          simp only [] at h ⊢
          have hset := hA.setAV hav
          cases b with
          | true =>
            cases hkn : st.kn t with
            | true =>
              rw [hkn] at h
              have h : cnd want _ _ = some r := h
              cases want with
              | true => exact step hA h
              | false => exact skip hA h
            | false =>
              rw [hkn] at h
              have h : cnd want _ _ = some r := h
              cases want with
              | true => exact step (hset.setKn _ _) h
              | false => exact skip (hset.setKn _ _) h
          | false =>
            cases hkn : st.kn t with
            | true =>
              rw [hkn] at h
              have h : cnd want _ _ = some r := h
              cases want with
              | true => exact skip hA h
              | false => exact step hA h
            | false =>
              rw [hkn] at h
              have h : cnd want _ _ = some r := h
              cases want with
              | true => exact skip (hset.setKn _ _) h
              | false => exact step (hset.setKn _ _) h
        | skp => rw [hav] at h; exact skip hA h
        | _ => rw [hav] at h; simp only [] at h; cases h
theorem drawK_runT {R : Type} {ops : List Oper} : ∀ {rest : List Oper} {i : Nat} {st st2 : St} {acc : List FP} {k : St → List FP → Option R} {r : R}, Alike st st2 → drawK tab G ops rest i st acc k = some r → ∃ st' fs st3, runT tab G ops rest st2 = some (st', fs) ∧ Alike st3 st' ∧ k st3 (acc ++ fs) = some r := by
  intro rest
  induction rest with
  | nil => intro i st st2 acc k r hA h; exact ⟨st2, [], st, rfl, hA, by simpa [drawK] using h⟩
  | cons o rest ih =>
    intro i st st2 acc k r hA h
    have go : ∀ {st : St} {c : Comp} {rs : List Res} {t : Option Tmp} {b : Bool}, Alike st st2 → c.runT st rs (fun st' f => drawK tab G ops rest (Nat.succ i) (setKn st' t b) (acc ++ [f]) k) = some r →
        ∃ u, (match c with | .ret c u => cond (chkB c) (some (u, rs)) none | .call _ _ F u => F.map fun r => (u r, rs)) = some (u, rs) ∧ ∃ st' fs st3, runT tab G ops rest (apply st2 u) = some (st', fs) ∧ Alike st3 st' ∧ k st3 ((acc ++ [⟨tagRes u ++ rs, u.writes⟩]) ++ fs) = some r := by
      intro st c rs t b hA hc
      cases c with
      | ret c u =>
        cases c with
        | none => exact ⟨u, rfl, ih (hA.apply u t b) hc⟩
        | some c =>
          cases c with
          | false => cases hc
          | true => exact ⟨u, rfl, ih (hA.apply u t b) hc⟩
      | call rt rdt F u =>
        cases F with
        | none => cases hc
        | some x => exact ⟨u x, rfl, ih (hA.apply (u x) t b) hc⟩
    simp only [drawK] at h
    simp only [runT, oneU]
    cases hg : o.guard with
    | none =>
      rw [hg] at h; simp only [] at h ⊢
      rw [hA.step, hA.reads] at h
      cases hc : stepC tab G o st2 with
      | none => rw [hc] at h; cases h
      | some c =>
        rw [hc] at h
        obtain ⟨u, h1, st', fs, st3, h2, h3, h4⟩ := go (rs := reads st2 o) hA h
        refine ⟨st', ⟨tagRes u ++ reads st2 o, u.writes⟩ :: fs, st3, ?_, h3, by simpa using h4⟩
        cases c <;> simp only [] at h1 ⊢ <;> rw [h1] <;> simp [h2]
    | some gw =>
      obtain ⟨g, want⟩ := gw
      rw [hg] at h; simp only [] at h ⊢
      cases hgt : guardT ops g with
      | none => rw [hgt] at h; cases h
      | some t =>
        rw [hgt] at h; simp only [] at h ⊢
        have skip : ∀ {st : St}, Alike st st2 → drawK tab G ops rest (Nat.succ i) (setKn (apply st (skipU o)) o.dst false) (acc ++ [⟨[.tmp t], (skipU o).writes⟩]) k = some r → ∃ st' fs st3, (match (some (skipU o, [Res.tmp t]) : Option (Upd × List Res)) with
            | some (u, rs) => (runT tab G ops rest (apply st2 u)).map fun x => (x.1, (⟨tagRes u ++ rs, u.writes⟩ : FP) :: x.2)
            | none => none) = some (st', fs) ∧ Alike st3 st' ∧ k st3 (acc ++ fs) = some r := by
          intro st hA hk
          obtain ⟨st', fs, st3, h2, h3, h4⟩ := ih (hA.apply (skipU o) o.dst false) hk
          exact ⟨st', ⟨[.tmp t], (skipU o).writes⟩ :: fs, st3, by simp [h2, show tagRes (skipU o) = [] from rfl], h3, by simpa using h4⟩
        have step : ∀ {st : St}, Alike st st2 → (match stepC tab G o st with
            | some c => c.runT st (.tmp t :: reads st o) fun st' f => drawK tab G ops rest (Nat.succ i) (setKn st' o.dst (knOf o st)) (acc ++ [f]) k
            | none => none) = some r → ∃ st' fs st3, (match (match stepC tab G o st2 with
              | some (.ret c u) => cond (chkB c) (some (u, Res.tmp t :: reads st2 o)) none
              | some (.call _ _ F u) => F.map fun r => (u r, Res.tmp t :: reads st2 o)
              | none => none : Option (Upd × List Res)) with
            | some (u, rs) => (runT tab G ops rest (apply st2 u)).map fun x => (x.1, (⟨tagRes u ++ rs, u.writes⟩ : FP) :: x.2)
            | none => none) = some (st', fs) ∧ Alike st3 st' ∧ k st3 (acc ++ fs) = some r := by
          intro st hA hk
          rw [hA.step, hA.reads] at hk
          cases hc : stepC tab G o st2 with
          | none => rw [hc] at hk; cases hk
          | some c =>
            rw [hc] at hk
            obtain ⟨u, h1, st', fs, st3, h2, h3, h4⟩ := go (rs := Res.tmp t :: reads st2 o) hA hk
            refine ⟨st', ⟨tagRes u ++ Res.tmp t :: reads st2 o, u.writes⟩ :: fs, st3, ?_, h3, by simpa using h4⟩
            cases c <;> simp only [] at h1 ⊢ <;> rw [h1] <;> simp [h2]
        rw [hA.env] at h
        cases hav : (st2.env t).av with
        | dat ty b =>
          rw [hav] at h
          cases ty <;> try (simp only [] at h; cases h; done)
          simp only [] at h ⊢
          have hset := hA.setAV hav
          cases b with
          | true =>
            cases hkn : st.kn t with
            | true =>
              rw [hkn] at h
              have h : cnd want _ _ = some r := h
              cases want with
              | true => exact step hA h
              | false => exact skip hA h
            | false =>
              rw [hkn] at h
              have h : cnd want _ _ = some r := h
              cases want with
              | true => exact step (hset.setKn _ _) h
              | false => exact skip (hset.setKn _ _) h
          | false =>
            cases hkn : st.kn t with
            | true =>
              rw [hkn] at h
              have h : cnd want _ _ = some r := h
              cases want with
              | true => exact skip hA h
              | false => exact step hA h
            | false =>
              rw [hkn] at h
              have h : cnd want _ _ = some r := h
              cases want with
              | true => exact skip (hset.setKn _ _) h
              | false => exact step (hset.setKn _ _) h
        | skp => rw [hav] at h; exact skip hA h
        | _ => rw [hav] at h; simp only [] at h; cases h

theorem one_sound (hT : TabOk P tab) (hG : GamOk P G) {ops : Array Oper} (h : Sim w0 lim0 rb n st a w lim β) (hrb : ∀ k, some k = rb → k < w0.heap.size) (hd : ∀ d, o.dst = some d → d < n) {u : Upd} {rs : List Res} (hu : oneU tab G ops.toList o st = some (u, rs))
    (K : Act → World → Prop) (Q : Exit → Act → World → Prop) (hK : ∀ a' w' lim' β', Sim w0 lim0 rb n (apply st u) a' w' lim' β' → K a' w') :
    if Region.wanted o (yielded ops a.tmps) = true then o.wp P a w K Q else K (a.put o.dst undef) w := by
  have go : ∀ {rs' : List Res}, (match stepC tab G o st with
      | some (.ret c u) => cond (chkB c) (some (u, rs')) none
      | some (.call _ _ F u) => F.map fun r => (u r, rs')
      | none => none : Option (Upd × List Res)) = some (u, rs) → o.wp P a w K Q := by
    intro rs' hgo
    cases hc : stepC tab G o st with
    | none => rw [hc] at hgo; cases hgo
    | some c =>
      rw [hc] at hgo
      have hout : c.out st = some (apply st u) := by
        cases c with
        | ret c u' =>
          simp only [Comp.out]
          cases hck : chkB c with
          | false => simp only [hck] at hgo; cases hgo
          | true => simp only [hck] at hgo; injection hgo with hgo; injection hgo with hgo _; subst hgo; rfl
        | call rt rdt F u' =>
          cases F with
          | none => cases hgo
          | some r => injection hgo with hgo; injection hgo with hgo _; subst hgo; rfl
      exact step_ok hT hG h hrb hd hc hout K Q hK
  have skip : (some (skipU o, rs) : Option (Upd × List Res)) = some (u, rs) → K (a.put o.dst undef) w := by
    intro hs
    injection hs with hs; injection hs with hs _; subst hs
    exact hK _ _ _ _ (h.plain _ _ _ hd rfl)
  unfold oneU at hu
  cases hg : o.guard with
  | none =>
    rw [hg] at hu
    rw [if_pos (by simp [Region.wanted, hg])]
    exact go hu
  | some gw =>
    obtain ⟨g, want⟩ := gw
    rw [hg] at hu; simp only [] at hu
    cases hgt : guardT ops.toList g with
    | none => rw [hgt] at hu; cases hu
    | some t =>
      rw [hgt] at hu; simp only [] at hu
      have ht := h.env t
      cases hav : (st.env t).av with
      | dat ty b =>
        rw [hav] at hu ht
        cases ty <;> try (simp only [] at hu; cases hu; done)
        simp only [] at hu
        have hv := bool_rep ht
        have hy := yielded_bool (ops := ops) hgt hv
        have hwt : Region.wanted o (yielded ops a.tmps) = eqW b want := by
          unfold Region.wanted eqW
          rw [hg]
          show (yielded ops a.tmps g == some want) = _
          rw [hy]
          exact Option.some_beq_some
        cases hq : eqW b want with
        | true =>
          rw [hq] at hu hwt
          rw [if_pos hwt]
          exact go hu
        | false =>
          rw [hq] at hu hwt
          rw [if_neg (by rw [hwt]; simp)]
          injection hu with hu; injection hu with h1 h2; subst h1; subst h2
          exact skip rfl
      | skp =>
        rw [hav] at hu ht
        have hy := yielded_skip (ops := ops) hgt ht
        rw [if_neg (by simp [Region.wanted, hg, hy])]
        injection hu with hu; injection hu with h1 h2; subst h1; subst h2
        exact skip rfl
      | _ => rw [hav] at hu; simp only [] at hu; cases hu

theorem opsDst_mem {m : Nat} : ∀ {os : List Oper}, opsDst m os = true → ∀ o ∈ os, ∀ d, o.dst = some d → d < m
  | [], _, o, ho, _, _ => by cases ho
  | x :: os, h, o, ho, d, hd => by
    simp only [opsDst] at h
    have h2 : opsDst m os = true ∧ ∀ d, x.dst = some d → d < m := by
      cases hx : x.dst with
      | none => rw [hx] at h; exact ⟨h, fun d hd => by cases hd⟩
      | some e =>
        rw [hx] at h; simp only [] at h
        cases hb : Nat.blt e m with
        | false => rw [hb] at h; cases h
        | true => rw [hb] at h; exact ⟨h, fun d hd => by injection hd with hd; subst hd; simpa [Nat.blt_eq] using hb⟩
    rcases List.mem_cons.1 ho with rfl | ho
    · exact h2.2 d hd
    · exact opsDst_mem h2.1 o ho d hd

theorem run_sound (hT : TabOk P tab) (hG : GamOk P G) {ops : Array Oper} {Q : Exit → Act → World → Prop} (hrb : ∀ k, some k = rb → k < w0.heap.size) : ∀ {rest : List Oper} {st : St} {a : Act} {w : World} {lim : Lim} {β : Mp} {fs : List FP},
    runT tab G ops.toList rest st = some (st', fs) → (∀ o ∈ rest, ∀ d, o.dst = some d → d < n) → Sim w0 lim0 rb n st a w lim β → (∀ a' w' lim' β', Sim w0 lim0 rb n st' a' w' lim' β' → Q .normal a' w') → wpList P ops Q rest a w := by
  intro rest
  induction rest with
  | nil =>
    intro st a w lim β fs hr _ h hQ
    injection hr with hr; injection hr with h1 _; subst h1
    exact hQ _ _ _ _ h
  | cons o rest ih =>
    intro st a w lim β fs hr hd h hQ
    simp only [runT] at hr
    cases hu : oneU tab G ops.toList o st with
    | none => rw [hu] at hr; cases hr
    | some ur =>
      obtain ⟨u, rs⟩ := ur
      rw [hu] at hr; simp only [] at hr
      cases hrest : runT tab G ops.toList rest (apply st u) with
      | none => rw [hrest] at hr; cases hr
      | some sf =>
        obtain ⟨s', fs'⟩ := sf
        rw [hrest] at hr
        injection hr with hr; injection hr with h1 _; subst h1
        have := one_sound (ops := ops) hT hG h hrb (hd o (by simp)) hu (wpList P ops Q rest) Q (fun a' w' lim' β' hs => ih hrest (fun o' ho' => hd o' (by simp [ho'])) hs hQ)
        unfold wpList
        split
        · rename_i hw; rw [if_pos hw] at this; exact .inl this
        · rename_i hw; rw [if_neg hw] at this; exact this
end
end Go.Den
