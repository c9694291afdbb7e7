/- Structs and slices that are built. -/
import Derived.Test.YtbfndjfjkkfaeaaXDenN
set_option linter.unusedVariables false
set_option linter.unusedSimpArgs false
namespace Go.Den
section
variable {P : Program} {tab : Tab} {w0 : Base} {lim0 : Lim} {rb : Option Nat} {n : Nat}
variable {st st' : St} {a : Act} {w w' : World} {lim lim' : Lim} {β : Mp} {o : Oper} {c : Comp}

/-- cells set from a place on -/
theorem fold_set : ∀ (vs : List Value) (k off : Nat) (cells : Array Value) (c1 c2 c3 : List Value), cells.toList = c1 ++ (c2 ++ c3) → c1.length = off + k → c2.length = vs.length →
    (((vs.zipIdx k).foldl (fun cs (p : Value × Nat) => cs.setIfInBounds (off + p.2) p.1) cells)).toList = c1 ++ (vs ++ c3) := by
  intro vs
  induction vs with
  | nil =>
    intro k off cells c1 c2 c3 h hl hl2
    have : c2 = [] := List.eq_nil_of_length_eq_zero (by simpa using hl2)
    subst this
    simpa using h
  | cons v vs ih =>
    intro k off cells c1 c2 c3 h hl hl2
    cases c2 with
    | nil => simp at hl2
    | cons u c2 =>
      simp only [List.zipIdx_cons, List.foldl_cons]
      have := ih (k + 1) off (cells.setIfInBounds (off + k) v) (c1 ++ [v]) c2 c3 (by simp only [Array.toList_setIfInBounds, h, ← hl]; simp) (by simp [hl]; omega) (by simpa using hl2)
      simpa using this

theorem fill_step {place : Nat → Option (Nat × Nat)} {cells : Array Value} {i : Nat} {v : Value} {rest : List (Nat × Value)} {off size : Nat} {c1 c2 c3 : List Value} (hp : place i = some (off, size)) (hv : v.cells.size = size)
    (hc : cells.toList = c1 ++ (c2 ++ c3)) (hl : c1.length = off) (hl2 : c2.length = size) :
    Instr.fill place cells ((i, v) :: rest) = Instr.fill place (c1 ++ (v.cells.toList ++ c3)).toArray rest := by
  have hsz : cells.size = c1.length + (c2.length + c3.length) := by
    have : cells.size = cells.toList.length := by simp
    rw [this, hc]; simp
  simp only [Instr.fill, hp]
  rw [if_neg (by simp [hv]; omega)]
  congr 1
  apply Array.ext'
  have := fold_set v.cells.toList 0 off cells c1 c2 c3 hc (by omega) (by simp [hl2, hv])
  rw [← this]
  congr 1
  rw [← Array.foldl_toList]
  simp

theorem partOf_none : ∀ {parts : List (Nat × Operand)} {i : Nat}, partOf i parts = none → ∀ x, (i, x) ∉ parts
  | [], _, _, _, h => by cases h
  | (j, y) :: ps, i, h, x, hm => by
    simp only [partOf] at h
    cases hb : Nat.beq i j with
    | true => rw [hb] at h; cases h
    | false =>
      rw [hb] at h
      rcases List.mem_cons.1 hm with hm | hm
      · injection hm with hm _; subst hm; simp at hb
      · exact partOf_none h x hm

/-- the fields of a struct are filled -/
theorem run_fill (h : Sim w0 lim0 rb n st a w lim β) {ty : Ty} {place : Nat → Option (Nat × Nat)} (hplace : ∀ (x : ty.val) i d, getF ty x i = some d → place i = some (offs ty [i], d.1.size)) :
    ∀ (parts : List (Nat × Operand)) (z v : ty.val) (cells : Array Value), CRep w lim ty z cells.toList → noDup parts = true → fillP st ty z parts = some v →
    ∃ cells', Instr.fill place cells (parts.map fun p => (p.1, a.eval p.2)) = some cells' ∧ CRep w lim ty v cells'.toList ∧
      ∀ i q e, typeAt ty (i :: q) = some (.slice e) → match partOf i parts with
        | some x => ∃ u, (∃ y, AV.as u (st.ent x).av = some y) ∧ typeAt u q = some (.slice e) ∧ cells'[offs ty (i :: q)]? = (a.eval x).cells.toList[offs u q]?
        | none => cells'[offs ty (i :: q)]? = cells[offs ty (i :: q)]? := by
  intro parts
  induction parts with
  | nil =>
    intro z v cells hc _ hf
    simp only [fillP] at hf; injection hf with hf; subst hf
    exact ⟨cells, rfl, hc, fun i q e _ => rfl⟩
  | cons px parts ih =>
    intro z v cells hc hn hf
    obtain ⟨i, x⟩ := px
    simp only [fillP] at hf
    cases hg : getF ty z i with
    | none => rw [hg] at hf; cases hf
    | some d =>
      rw [hg] at hf; simp only [] at hf
      cases hv : AV.as d.1 (st.ent x).av with
      | none => rw [hv] at hf; cases hf
      | some y =>
        rw [hv] at hf; simp only [] at hf
        cases hs : setF ty z i ⟨d.1, y⟩ with
        | none => rw [hs] at hf; cases hf
        | some z' =>
          rw [hs] at hf; simp only [] at hf
          have hn' : noDup parts = true ∧ partOf i parts = none := by
            simp only [noDup] at hn
            cases hq : partOf i parts with
            | none => rw [hq] at hn; exact ⟨hn, rfl⟩
            | some _ => rw [hq] at hn; cases hn
          have hr := (as_rep hv (h.ent x)).cells
          obtain ⟨c1, c2, c3, k1, k2, k3, k4⟩ := hc.field hg
          have hcell := k4 y _ z' hr hs
          obtain ⟨cells', m1, m2, m3⟩ := ih z' v (c1 ++ ((a.eval x).cells.toList ++ c3)).toArray (by simpa using hcell) hn'.1 hf
          refine ⟨cells', ?_, m2, fun j q e hj => ?_⟩
          · simp only [List.map_cons]
            rw [fill_step (hplace z i d hg) (by have := hr.length; simpa using this) k1 k2 k3.length]; exact m1
          · have m3 := m3 j q e hj
            have hjl := (typeAt_lt hj)
            simp only [partOf]
            cases hb : Nat.beq j i with
            | true =>
              have := nbeq hb; subst this
              rw [hn'.2] at m3
              simp only [cnd_true]
              obtain ⟨g1, g2⟩ := getF_typeAt q hg
              rw [g1] at hj
              refine ⟨d.1, ⟨y, hv⟩, hj, ?_⟩
              rw [m3, g2]
              have hlt := typeAt_lt hj
              have hlen := hr.length
              have hs1 : (Ty.slice e).size = 1 := rfl
              simp only [List.getElem?_toArray]
              rw [List.getElem?_append_right (by omega), ← k2, show c1.length + offs d.1 q - c1.length = offs d.1 q by omega, List.getElem?_append_left (by omega)]
            | false =>
              simp only [cnd_false]
              cases hp : partOf j parts with
              | some x' => rw [hp] at m3; exact m3
              | none =>
                rw [hp] at m3
                simp only [] at m3 ⊢
                rw [m3]
                -- another field's cells
                have hti : typeAt ty [i] = some d.1 := by
                  have := (getF_typeAt [] hg).1; rw [this]; simp [typeAt]
                have hpc : pcomp (j :: q) [i] = false := by simp only [pcomp, hb, cnd_false]
                have hb2 := beside hj hti hpc
                have hlen := hr.length
                have hl2 := k3.length
                have hs1 : (Ty.slice e).size = 1 := rfl
                have e1 : cells[offs ty (j :: q)]? = cells.toList[offs ty (j :: q)]? := by simp
                simp only [List.getElem?_toArray]
                rw [e1, k1]
                rcases hb2 with hb2 | hb2
                · rw [List.getElem?_append_left (by omega), List.getElem?_append_left (by omega)]
                · rw [List.getElem?_append_right (by omega), List.getElem?_append_right (by omega), List.getElem?_append_right (by omega), List.getElem?_append_right (by omega), hlen, hl2]

theorem builtOwn_mem {parts : List (Nat × Operand)} {p : List Nat} : ∀ {ps : List (List Nat)}, p ∈ st.builtOwn parts ps → p ∈ ps ∧ ∃ i q, p = i :: q ∧ ∀ x, partOf i parts = some x → st.ownOp x q = true
  | [], h => by simp [St.builtOwn] at h
  | [] :: ps, h => by
    simp only [St.builtOwn] at h
    obtain ⟨h1, h2⟩ := builtOwn_mem h; exact ⟨by simp [h1], h2⟩
  | (i :: q) :: ps, h => by
    simp only [St.builtOwn] at h
    cases hp : partOf i parts with
    | none =>
      rw [hp] at h
      rcases List.mem_cons.1 h with rfl | h
      · exact ⟨by simp, i, q, rfl, fun x hx => by rw [hp] at hx; cases hx⟩
      · obtain ⟨h1, h2⟩ := builtOwn_mem h; exact ⟨by simp [h1], h2⟩
    | some x =>
      rw [hp] at h
      cases ho : st.ownOp x q with
      | true =>
        simp only [ho, cnd_true] at h
        rcases List.mem_cons.1 h with rfl | h
        · exact ⟨by simp, i, q, rfl, fun x' hx => by rw [hp] at hx; injection hx with hx; subst hx; exact ho⟩
        · obtain ⟨h1, h2⟩ := builtOwn_mem h; exact ⟨by simp [h1], h2⟩
      | false =>
        simp only [ho, cnd_false] at h
        obtain ⟨h1, h2⟩ := builtOwn_mem h; exact ⟨by simp [h1], h2⟩
theorem builtTakes_mem {parts : List (Nat × Operand)} {i : Nat} {q : List Nat} {t : Tmp} (hp : partOf i parts = some (.tmp t)) : ∀ {ps : List (List Nat)}, (i :: q) ∈ ps → Loc.tmp t q ∈ builtTakes parts ps
  | [], h => by cases h
  | [] :: ps, h => by
    simp only [builtTakes]
    rcases List.mem_cons.1 h with h | h
    · cases h
    · exact builtTakes_mem hp h
  | (j :: r) :: ps, h => by
    simp only [builtTakes]
    rcases List.mem_cons.1 h with h | h
    · injection h with h1 h2; subst h1; subst h2
      rw [hp]; simp
    · have := builtTakes_mem hp h
      cases hq : partOf j parts with
      | none => exact this
      | some x => cases x <;> simp [this]

theorem places_spec : ∀ (fs : List Field), (∀ f ∈ fs, ∃ ty, TyOk P tab (Field.type f) ty) →
    ∃ ps : List (Nat × Nat), (fs.mapM fun f => Prod.mk f.offset <$> sizeOf f.type).run P w = .ok ps w ∧ ∀ (i : Nat) (f : Field) ty, fs[i]? = some f → TyOk P tab f.type ty → ps[i]? = some (f.offset, ty.size) := by
  intro fs
  induction fs with
  | nil => intro _; exact ⟨[], by simp [List.mapM_nil], fun i f ty h => by simp at h⟩
  | cons f fs ih =>
    intro h
    obtain ⟨ty, hty⟩ := h f (by simp)
    obtain ⟨ps, h1, h2⟩ := ih (fun g hg => h g (by simp [hg]))
    refine ⟨(f.offset, ty.size) :: ps, ?_, fun i g t hi ht => ?_⟩
    · simp [List.mapM_cons, run_sizeOf hty, h1]
    · cases i with
      | zero =>
        simp at hi; subst hi
        have e1 := run_sizeOf (w := w) hty
        have e2 := run_sizeOf (w := w) ht
        rw [e1] at e2; injection e2 with e2
        simp [e2]
      | succ i => simp at hi; simpa using h2 i g t hi ht

theorem hasT_of : ∀ {ps : List (Nat × Operand)} {i : Nat} {t : Tmp}, partOf i ps = some (.tmp t) → hasT t ps = true
  | [], _, _, h => by cases h
  | (j, x) :: ps, i, t, h => by
    simp only [partOf] at h
    cases hb : Nat.beq i j with
    | true =>
      rw [hb] at h; simp only [cnd_true] at h; injection h with h; subst h
      simp [hasT]
    | false =>
      rw [hb] at h; simp only [cnd_false] at h
      have := hasT_of h
      cases x with
      | tmp u => cases hq : Nat.beq t u <;> simp [hasT, hq, this]
      | const _ => simpa [hasT] using this
      | global _ => simpa [hasT] using this
      | func _ => simpa [hasT] using this
theorem noDupT_inj : ∀ {ps : List (Nat × Operand)}, noDupT ps = true → ∀ {i j : Nat} {t : Tmp}, partOf i ps = some (.tmp t) → partOf j ps = some (.tmp t) → i = j
  | [], _, _, _, _, h, _ => by cases h
  | (k, x) :: ps, hn, i, j, t, hi, hj => by
    have hn' : noDupT ps = true ∧ ∀ u, x = .tmp u → hasT u ps = false := by
      cases x with
      | tmp u =>
        simp only [noDupT] at hn
        cases hu : hasT u ps with
        | true => rw [hu] at hn; cases hn
        | false => rw [hu] at hn; exact ⟨hn, fun v hv => by injection hv with hv; subst hv; exact hu⟩
      | const _ => exact ⟨hn, fun v hv => by cases hv⟩
      | global _ => exact ⟨hn, fun v hv => by cases hv⟩
      | func _ => exact ⟨hn, fun v hv => by cases hv⟩
    simp only [partOf] at hi hj
    cases hbi : Nat.beq i k with
    | true =>
      have := nbeq hbi; subst this
      rw [hbi] at hi; simp only [cnd_true] at hi; injection hi with hi
      cases hbj : Nat.beq j i with
      | true => exact (nbeq hbj).symm
      | false =>
        rw [hbj] at hj; simp only [cnd_false] at hj
        have := hn'.2 t hi
        rw [hasT_of hj] at this; cases this
    | false =>
      rw [hbi] at hi; simp only [cnd_false] at hi
      cases hbj : Nat.beq j k with
      | true =>
        rw [hbj] at hj; simp only [cnd_true] at hj; injection hj with hj
        have := hn'.2 t hj
        rw [hasT_of hi] at this; cases this
      | false =>
        rw [hbj] at hj; simp only [cnd_false] at hj
        exact noDupT_inj hn'.1 hi hj

theorem FieldsOk.all (hT : TabOk P tab) : ∀ {ty : Ty} {off : Nat} {fs : List Field}, FieldsOk tab ty off fs → ∀ f ∈ fs, ∃ t, TyOk P tab f.type t := by
  intro ty
  induction ty with
  | prod p q ihp ihq =>
    intro off fs h f hf
    cases fs with
    | nil => cases hf
    | cons g gs =>
      obtain ⟨h1, h2, h3, _, h4⟩ := h
      rcases List.mem_cons.1 hf with rfl | hf
      · exact ⟨p, hT _ _ h2⟩
      · exact ihq h4 f hf
  | unit => intro off fs h f hf; cases fs with
    | nil => cases hf
    | cons g gs => exact h.elim
  | int k => intro off fs h f hf; cases fs <;> exact h.elim
  | bool => intro off fs h f hf; cases fs <;> exact h.elim
  | str => intro off fs h f hf; cases fs <;> exact h.elim
  | slice t => intro off fs h f hf; cases fs <;> exact h.elim

def buildSrc (parts : List (Nat × Operand)) : List Nat → Loc
  | i :: q => match partOf i parts with
    | some (.tmp t) => .tmp t q
    | _ => .box 0 (i :: q)
  | [] => .box 0 []

theorem ok_build (hT : TabOk P tab) (h : Sim w0 lim0 rb n st a w lim β) (hd : ∀ d, o.dst = some d → d < n) {t : TypeId} {parts : Array (Nat × Operand)} (hop : o.op = .build t parts) (hc : stBuild tab o t parts.toList st = some c) (ho : c.out st = some st') : OpOk P w0 lim0 rb n o st' a w := by
  unfold stBuild at hc
  cases hty : tab t with
  | none => rw [hty] at hc; cases hc
  | some ty =>
    rw [hty] at hc; simp only [] at hc
    split at hc
    · rename_i v hpr hnd hfl
      injection hc with hc; subst hc
      obtain ⟨_, rfl⟩ := out_ret ho
      have hnd : noDup parts.toList = true ∧ noDupT parts.toList = true := by
        cases hq : noDup parts.toList with
        | true => rw [hq] at hnd; exact ⟨rfl, hnd⟩
        | false => rw [hq] at hnd; cases hnd
      have htok := hT _ _ hty
      obtain ⟨fs, hfs, hff⟩ : ∃ fs, P.underlying t = some (.struct fs) ∧ FieldsOk tab ty 0 fs.toList := by
        have := htok.desc
        cases ty <;> first | exact this | cases hpr
      obtain ⟨ps, hps1, hps2⟩ := places_spec (P := P) (w := w) fs.toList (FieldsOk.all hT hff)
      have hplace : ∀ (x : ty.val) i d, getF ty x i = some d → ps.toArray[i]? = some (offs ty [i], d.1.size) := by
        intro x i d hg
        obtain ⟨f, k1, k2, k3, k4⟩ := fields_at hff hg
        have := hps2 i f d.1 k1 (hT _ _ k3)
        simpa [k2] using this
      have hzc : (wrapV ty (zeroCells ty)).cells = (zeroCells ty).toArray := wrapV_cells (zero_rep w lim ty)
      obtain ⟨cells', m1, m2, m3⟩ := run_fill h (place := (ps.toArray[·]?)) hplace parts.toList ty.zero v (zeroCells ty).toArray (by simpa using zero_rep w lim ty) hnd.1 hfl
      have hr : TRep w lim ty v (.agg cells') := ⟨cells'.toList, m2, by cases ty <;> first | rfl | cases hpr⟩
      have hm1 : Instr.fill (fun i => ps[i]?) (zeroCells ty).toArray (parts.toList.map fun p => (p.1, a.eval p.2)) = some cells' := by simpa using m1
      have he : (execOp a.eval o).run P w = .ok (.value (.agg cells')) w := by
        simp [execOp, hop, Instr.build, run_zeroValue htok, underlying, hfs, Array.mapM_eq_mapM_toList, hps1, hzc, hm1]
      refine .value he (h.val { upd0 o.dst (.dat ty v) none with own := st.builtOwn parts.toList (slicePaths ty), takes := builtTakes parts.toList (st.builtOwn parts.toList (slicePaths ty)) } _ hd rfl rfl hr
        (buildSrc parts.toList) (fun p hp => ?_) (fun p hp q hq hpq => ?_) (fun l hl => by cases hl) (fun l hl => by cases hl))
      · obtain ⟨h1, i, q, rfl, h2⟩ := builtOwn_mem hp
        obtain ⟨⟨e, he1⟩, _⟩ := slicePaths_spec h1
        have hm := m3 i q e he1
        obtain ⟨bb, mm, kk, hk⟩ := hr.cells.sliceAt he1
        refine ⟨e, _, he1, by simp only [upd0, partAV]; rw [flat_TRep hr]; exact hk, ?_⟩
        have hk' : cells'[offs ty (i :: q)]? = some (.slice bb mm kk) := by simpa [Value.cells] using hk
        cases hpo : partOf i parts.toList with
        | none =>
          rw [hpo] at hm
          left
          have := zero_at he1
          rw [hk'] at hm
          simp only [List.getElem?_toArray] at hm
          rw [this] at hm
          injection hm
        | some x =>
          rw [hpo] at hm
          obtain ⟨u, ⟨y, hy⟩, k1, k2⟩ := hm
          have hxo := h2 x hpo
          have hr' := as_rep hy (h.ent x)
          rw [hk'] at k2
          cases x with
          | tmp s =>
            right
            obtain ⟨v', hav⟩ : ∃ v, (st.env s).av = .dat u v := by
              rcases (as_av hy).1 s rfl with hav | hav
              · exact hav
              · obtain ⟨e', y', g1, _⟩ := h.own (.tmp s q) hxo
                rw [locTy_tmp, hav] at g1; cases g1
            refine ⟨by simp only [buildSrc, hpo]; exact builtTakes_mem hpo hp, by simp only [buildSrc, hpo]; exact hxo, ?_, ?_⟩
            · simp only [buildSrc, hpo]
              rw [locV_tmp, hav]
              simp only [partAV]
              have : flatV (tmpOf a s) = (a.eval (.tmp s)).cells.toList := flat_TRep hr'
              rw [this]; exact k2.symm
            · simp only [buildSrc, hpo]
              rw [locTy_tmp, hav]; exact k1
          | const kk' =>
            left
            have hps : q ∈ slicePaths u ∨ True := .inr trivial
            rcases (as_av hy).2 kk' rfl with hn | hn
            · have hev := h.ent (.const kk')
              rw [hn] at hev
              have hev : a.eval (.const kk') = .slice none 0 0 := hev
              rw [hev] at k2
              have e0 : (Value.slice none 0 0).cells.toList = [.slice none 0 0] := rfl
              rw [e0] at k2
              cases ho : offs u q with
              | zero => rw [ho] at k2; simp at k2; obtain ⟨rfl, rfl, rfl⟩ := k2; rfl
              | succ j => rw [ho] at k2; simp at k2
            · exfalso
              -- a constant without slices
              have hq := hr'.cells.sliceAt k1
              have : ∀ {t : Ty} {p : List Nat} {e : Ty}, typeAt t p = some (.slice e) → isProd t = false → slicePaths t ≠ [] := by
                intro t p e ht hp
                cases t with
                | slice e => simp [slicePaths]
                | prod _ _ => cases hp
                | int k => cases p <;> simp [typeAt] at ht
                | bool => cases p <;> simp [typeAt] at ht
                | str => cases p <;> simp [typeAt] at ht
                | unit => cases hp
              cases hup : isProd u with
              | false => exact this k1 hup hn
              | true =>
                -- no constant is a struct
                cases hco : (st.ent (.const kk')).av with
                | dat t' y' =>
                  rw [hco] at hy
                  obtain ⟨e1, _⟩ := cast_some hy
                  subst e1
                  simp only [St.ent, constAV] at hco
                  split at hco <;> first | (injection hco with h3; subst h3; cases hup) | cases hco
                | nil =>
                  rw [hco] at hy
                  cases u <;> first | (simp [isProd] at hup; done) | (simp [AV.as] at hy; done)
                | _ => rw [hco] at hy; cases hy
          | global g => cases hxo
          | func f => cases hxo
      · obtain ⟨_, i, p', rfl, h2⟩ := builtOwn_mem hp
        obtain ⟨_, j, q', rfl, h2'⟩ := builtOwn_mem hq
        have hsrc : ∀ i q, (∃ s, partOf i parts.toList = some (.tmp s) ∧ buildSrc parts.toList (i :: q) = .tmp s q) ∨ buildSrc parts.toList (i :: q) = .box 0 (i :: q) := by
          intro i q
          simp only [buildSrc]
          cases hpi : partOf i parts.toList with
          | none => exact .inr rfl
          | some x => cases x <;> first | exact .inl ⟨_, rfl, rfl⟩ | exact .inr rfl
        rcases hsrc i p' with ⟨s, h1, h3⟩ | h1 <;> rcases hsrc j q' with ⟨s', h1', h3'⟩ | h1'
        · rw [h3, h3'] at hpq; injection hpq with h4 h5; subst h4; subst h5
          rw [noDupT_inj hnd.2 h1 h1']
        · rw [h3, h1'] at hpq; cases hpq
        · rw [h1, h3'] at hpq; cases hpq
        · rw [h1, h1'] at hpq; injection hpq
    · cases hc
end
end Go.Den
