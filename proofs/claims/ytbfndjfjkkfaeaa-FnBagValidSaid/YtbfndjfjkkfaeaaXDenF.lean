/- Each operation that makes a value out of values, on the machine and in the reading. -/
import Derived.Test.YtbfndjfjkkfaeaaXDenE
set_option linter.unusedVariables false
set_option linter.unusedSimpArgs false
namespace Go.Den

def zeroCells : Ty → List Value
  | .int k => [.int k 0]
  | .bool => [.bool false]
  | .str => [.string ⟨#[]⟩]
  | .unit => []
  | .prod a b => zeroCells a ++ zeroCells b
  | .slice _ => [.slice none 0 0]
theorem zero_rep (w : World) (lim : Lim) : ∀ t : Ty, CRep w lim t t.zero (zeroCells t)
  | .int _ => rfl
  | .bool => rfl
  | .str => rfl
  | .unit => rfl
  | .prod a b => ⟨_, _, rfl, zero_rep w lim a, zero_rep w lim b⟩
  | .slice _ => ⟨none, 0, rfl, Nat.le_refl _, .inl rfl⟩

def FieldsOk (tab : Tab) : Ty → Nat → List Field → Prop
  | .unit, _, [] => True
  | .prod a b, o, f :: fs => f.offset = o ∧ tab f.type = some a ∧ a.size ≠ 0 ∧ f.name ≠ "_" ∧ FieldsOk tab b (o + a.size) fs
  | _, _, _ => False
def DescOk (P : Program) (tab : Tab) (t : TypeId) : Ty → Prop
  | .int k => P.underlying t = some (.int k)
  | .bool => P.underlying t = some .bool
  | .str => P.underlying t = some .string
  | .slice e => ∃ el, P.underlying t = some (.slice el) ∧ tab el = some e
  | ty => ∃ fs, P.underlying t = some (.struct fs) ∧ FieldsOk tab ty 0 fs.toList
structure TyOk (P : Program) (tab : Tab) (t : TypeId) (ty : Ty) : Prop where
  info : ∃ i, P.info? t = some i ∧ i.size = ty.size ∧ i.zero = some (wrapV ty (zeroCells ty)) ∧ i.bytes ≤ 4096
  desc : DescOk P tab t ty
  cmp : isProd ty = true → P.stoodInHeld t = false ∧ P.eqGuardType P.depth t = false
def TabOk (P : Program) (tab : Tab) : Prop := ∀ t ty, tab t = some ty → TyOk P tab t ty

theorem tyIs_some {x : Option Ty} {b : Ty} (h : tyIs x b = true) : x = some b := by
  cases x with
  | none => cases h
  | some t => rw [Ty.of_beq h]

section
variable {P : Program} {tab : Tab} {w : World}
theorem run_sizeOf {t : TypeId} {ty : Ty} (h : TyOk P tab t ty) : (sizeOf t).run P w = .ok ty.size w := by
  obtain ⟨i, h1, h2, _⟩ := h.info
  simp [sizeOf, typeInfo, h1, h2]
theorem run_zeroValue {t : TypeId} {ty : Ty} (h : TyOk P tab t ty) : (zeroValue t).run P w = .ok (wrapV ty (zeroCells ty)) w := by
  obtain ⟨i, h1, _, h3, _⟩ := h.info
  simp [zeroValue, typeInfo, h1, h3]
theorem run_isAgg {t : TypeId} {ty : Ty} (h : TyOk P tab t ty) : (isAgg t).run P w = .ok (isProd ty) w := by
  have hd := h.desc
  cases ty with
  | int k => have hd : P.underlying t = _ := hd; simp [isAgg, underlying, hd, isProd]
  | bool => have hd : P.underlying t = _ := hd; simp [isAgg, underlying, hd, isProd]
  | str => have hd : P.underlying t = _ := hd; simp [isAgg, underlying, hd, isProd]
  | unit => obtain ⟨fs, hd, _⟩ := hd; simp [isAgg, underlying, hd, isProd]
  | prod a b => obtain ⟨fs, hd, _⟩ := hd; simp [isAgg, underlying, hd, isProd]
  | slice e => obtain ⟨fs, hd, _⟩ := hd; simp [isAgg, underlying, hd, isProd]

/-- a variable of memory is read -/
theorem run_loadVar {t : TypeId} {ty : Ty} (h : TyOk P tab t ty) {lim : Lim} {x : ty.val} {cs : List Value} (hc : CRep w lim ty x cs) {b o : Nat}
    (hm : ∀ j u, cs[j]? = some u → w.cell? ⟨b, o + j, none⟩ = some u) : (loadVar t ⟨b, o, none⟩).run P w = .ok (wrapV ty cs) w := by
  have hadd : ∀ j, (⟨b, o, none⟩ : Addr).add j = ⟨b, o + j, none⟩ := fun j => by unfold Addr.add; split <;> simp_all
  have hl : (loadCells ⟨b, o, none⟩ ty.size).run P w = .ok cs.toArray w := by
    have := run_loadCells_list (P := P) (w := w) ⟨b, o, none⟩ cs (fun j v hv => by rw [hadd]; exact hm j v hv)
    rw [hc.length] at this
    exact this
  simp only [loadVar, Sem.run_bind, run_isAgg h, Result.andThen_ok]
  cases hp : isProd ty with
  | true =>
    simp only [if_true, Sem.run_bind, run_sizeOf h, Result.andThen_ok, hl, Sem.run_pure]
    cases ty <;> first | rfl | cases hp
  | false =>
    obtain ⟨v, rfl⟩ : ∃ v, cs = [v] := by
      have := hc.length
      cases ty <;> first | exact List.length_eq_one_iff.1 this | cases hp
    have hv : w.cell? ⟨b, o, none⟩ = some v := by simpa using hm 0 v rfl
    simp only [Bool.false_eq_true, if_false, run_load, hv]
    cases ty <;> first | rfl | cases hp
end

def Comp.out (st : St) : Comp → Option St
  | .ret c u => cond (chkB c) (some (apply st u)) none
  | .call _ _ F u => F.map fun r => apply st (u r)
theorem Comp.runK_out {R : Type} (st : St) (k : St → Option R) (c : Comp) {r : R} (h : c.runK st k = some r) : ∃ st', c.out st = some st' ∧ k st' = some r := by
  cases c with
  | ret c u =>
    cases c with
    | none => exact ⟨_, rfl, h⟩
    | some c =>
      cases c with
      | true => exact ⟨_, rfl, h⟩
      | false => simp [Comp.runK, cndS] at h
  | call rt rdt F u =>
    cases F with
    | none => simp [Comp.runK, obind] at h
    | some x => exact ⟨_, rfl, h⟩
theorem out_ret {st st' : St} {c : Option Bool} {u : Upd} (h : (Comp.ret c u).out st = some st') : chkB c = true ∧ st' = apply st u := by
  cases c with
  | none => injection h with h; exact ⟨rfl, h.symm⟩
  | some c =>
    cases c with
    | true => injection h with h; exact ⟨rfl, h.symm⟩
    | false => cases h

def OpOk (P : Program) (w0 : Base) (lim0 : Lim) (rb : Option Nat) (n : Nat) (o : Oper) (st' : St) (a : Act) (w : World) : Prop :=
  ∀ (K : Act → World → Prop) (Q : Exit → Act → World → Prop), (∀ a' w' lim' β', Sim w0 lim0 rb n st' a' w' lim' β' → K a' w') → o.wp P a w K Q

section
variable {P : Program} {tab : Tab} {w0 : Base} {lim0 : Lim} {rb : Option Nat} {n : Nat}

theorem OpOk.value {o : Oper} {st' : St} {a : Act} {w w' : World} {lim : Lim} {β : Mp} {v : Value} (he : (execOp a.eval o).run P w = .ok (.value v) w')
    (hs : Sim w0 lim0 rb n st' (a.put o.dst v) w' lim β) : OpOk P w0 lim0 rb n o st' a w := by
  intro K Q hK
  unfold Oper.wp
  rw [he]
  exact hK _ _ _ _ hs
theorem OpOk.skip {o : Oper} {st' : St} {a : Act} {w w' : World} {lim : Lim} {β : Mp} (he : (execOp a.eval o).run P w = .ok .skip w')
    (hs : Sim w0 lim0 rb n st' (a.put o.dst undef) w' lim β) : OpOk P w0 lim0 rb n o st' a w := by
  intro K Q hK
  unfold Oper.wp
  rw [he]
  exact hK _ _ _ _ hs

section
variable {st : St} {a : Act} {w : World} {lim : Lim} {β : Mp}

theorem Sim.ent (h : Sim w0 lim0 rb n st a w lim β) (x : Operand) : ERep st w lim β rb (st.ent x).av (a.eval x) := by
  cases x with
  | tmp t => exact h.env t
  | const v =>
    simp only [St.ent, Act.eval]
    unfold constAV
    split
    · exact ⟨_, rfl, rfl⟩
    · exact ⟨_, rfl, rfl⟩
    · exact ⟨[.string _], rfl, by simp [wrapV]⟩
    · rfl
    · trivial
  | global g => trivial
  | func f => trivial

theorem as_rep {t : Ty} {av : AV} {x : t.val} (h : AV.as t av = some x) {v : Value} (hv : ERep st w lim β rb av v) : TRep w lim t x v := by
  cases av with
  | dat u y =>
    obtain ⟨e, h⟩ := cast_some h
    subst e; subst h; exact hv
  | nil =>
    cases t <;> first | (simp [AV.as] at h; done) | skip
    have h : some [] = some x := h
    injection h with h; subst h
    have hv : v = _ := hv
    subst hv
    exact ⟨[.slice none 0 0], ⟨none, 0, rfl, Nat.le_refl _, .inl rfl⟩, rfl⟩
  | any => cases h
  | skp => cases h
  | cel _ _ => cases h
  | ref _ _ => cases h
  | tup _ _ => cases h
  | rdr _ => cases h
  | xf _ _ => cases h
  | xp _ _ _ _ => cases h
  | xt _ => cases h
  | cx _ _ => cases h

theorem int_rep {k : IntKind} {x : Int} {v : Value} (h : ERep st w lim β rb (.dat (.int k) x) v) : v = .int k x := by
  obtain ⟨cs, rfl, rfl⟩ := h; rfl
theorem bool_rep {x : Bool} {v : Value} (h : ERep st w lim β rb (.dat .bool x) v) : v = .bool x := by
  obtain ⟨cs, rfl, rfl⟩ := h; rfl
theorem str_rep {x : List UInt8} {v : Value} (h : ERep st w lim β rb (.dat .str x) v) : v = .string ⟨⟨x⟩⟩ := by
  obtain ⟨cs, rfl, rfl⟩ := h; rfl
theorem slice_rep {t : Ty} {xs : List t.val} {v : Value} (h : ERep st w lim β rb (.dat (.slice t) xs) v) :
    ∃ a c, v = .slice a xs.length c ∧ xs.length ≤ c ∧ SRep w lim (CRep w lim t) t.size xs a := by
  obtain ⟨cs, ⟨a, c, rfl, h1, h2⟩, rfl⟩ := h
  exact ⟨a, c, rfl, h1, h2⟩
theorem mk_int {k : IntKind} {x : Int} : ERep st w lim β rb (.dat (.int k) x) (.int k x) := ⟨[.int k x], rfl, rfl⟩
theorem mk_bool {x : Bool} : ERep st w lim β rb (.dat .bool x) (.bool x) := ⟨[.bool x], rfl, rfl⟩
theorem mk_str {x : List UInt8} : ERep st w lim β rb (.dat .str x) (.string ⟨⟨x⟩⟩) := ⟨[.string ⟨⟨x⟩⟩], rfl, rfl⟩

/-- a value without slices of its own -/
theorem Sim.plain (h : Sim w0 lim0 rb n st a w lim β) (dst : Option Tmp) (av : AV) (v : Value) (hd : ∀ d, dst = some d → d < n) (hv : ERep st w lim β rb av v) :
    Sim w0 lim0 rb n (apply st (upd0 dst av none)) (a.put dst v) w lim β :=
  h.val (upd0 dst av none) v hd rfl rfl hv (fun _ => .tmp 0 []) (fun p hp => by cases hp) (fun p hp => by cases hp) (fun l hl => by cases hl) (fun l hl => by cases hl)
theorem Sim.tagged (h : Sim w0 lim0 rb n st a w lim β) (dst : Option Tmp) (av : AV) (tag : Option (Bool × Loc)) (v : Value) (hd : ∀ d, dst = some d → d < n) (hv : ERep st w lim β rb av v)
    (ht : ∀ l, tag = some (true, l) → st.own l = true → locV st a w β l = some v ∧ ∃ e x, av = .dat (.slice e) x ∧ locTy st l = some (.slice e)) :
    Sim w0 lim0 rb n (apply st (upd0 dst av tag)) (a.put dst v) w lim β :=
  h.val (upd0 dst av tag) v hd rfl rfl hv (fun _ => .tmp 0 []) (fun p hp => by cases hp) (fun p hp => by cases hp) (fun _ _ => rfl) ht

end
end
end Go.Den
