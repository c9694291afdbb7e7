/- What an operation looks at, and that operations that do not touch each other may change places. -/
import Derived.Deep.LoopGhost
import Derived.Test.YtfdgpkhofjdejaaXDm3
set_option linter.unusedVariables false
set_option linter.unusedSimpArgs false
namespace Go.Den
section
variable {P : Program} {tab : Tab} {G : Gam}
variable {st st' : St} {o : Oper} {c : Comp}

structure Look (st st' : St) (x : Operand) : Prop where
  ent : st'.ent x = st.ent x
  own : ∀ p, st'.ownOp x p = st.ownOp x p
  box : ∀ b p, (st.ent x).av = .cel b p → st'.box b = st.box b ∧ ∀ q, st'.own (.box b q) = st.own (.box b q)
  rd : ∀ p, (st.ent x).av = .rdr p → st'.rd = st.rd
  tag : ∀ k l, (st.ent x).tag = some (k, l) → st'.own l = st.own l ∧ st'.own (starL l) = st.own (starL l)
  tr : ∀ r, Res.box r ∈ avRes (st.ent x).av → st'.io r = st.io r
  tb : ∀ b p, (st.ent x).av = .cx b p → st'.xb b = st.xb b
  tr2 : ∀ b p, (st.ent x).av = .cx b p → st'.rb b = st.rb b
  tx2 : ∀ b p d ps r, (st.ent x).av = .cx b p → st.rb b = some (d, ps) → Res.box r ∈ mxRes ps → st'.io r = st.io r
  tx : ∀ b p t r q, (st.ent x).av = .cx b p → st.xb b = some (t, some (r, q)) → st'.io r = st.io r
theorem atX_eq {r : Tmp} (h : st'.io r = st.io r) (p : List Nat) : st'.atX r p = st.atX r p := by unfold St.atX; rw [h]
theorem Look.argX {x : Operand} (h : Look st st' x) : Den.argX st' (st.ent x).av = Den.argX st (st.ent x).av := by
  cases hav : (st.ent x).av with
  | xf r p => simp only [Den.argX, atX_eq (h.tr r (by rw [hav]; simp [avRes])) p]
  | _ => rfl
theorem anyX_local : ∀ {l : List Operand}, (∀ x ∈ l, Look st st' x) → anyX st' l = anyX st l
  | [], _ => rfl
  | x :: l, h => by
    have hl := anyX_local (l := l) fun y hy => h y (List.mem_cons_of_mem _ hy)
    simp only [anyX, (h x (by simp)).ent, hl]

theorem Look.owned {x : Operand} (h : Look st st' x) : ∀ ps, st'.owned x ps = st.owned x ps
  | [] => rfl
  | p :: ps => by simp only [St.owned, h.own, h.owned ps]
theorem Look.owner {x : Operand} (h : Look st st' x) : st'.owner x = st.owner x := by
  cases x with
  | tmp t =>
    have h1 := h.own []
    have h2 : st'.env t = st.env t := h.ent
    simp only [St.ownOp] at h1
    simp only [St.owner, h1, h2]
    cases hq : (st.env t).tag with
    | none => rfl
    | some kl =>
      obtain ⟨k, l⟩ := kl
      have := (h.tag k l hq).1
      cases k <;> simp [this]
  | const _ => rfl
  | global _ => rfl
  | func _ => rfl

theorem Look.starOf {x : Operand} (h : Look st st' x) (em : mkD st' o.dst = mkD st o.dst) (u : Ty) : Den.starOf st' o x u = Den.starOf st o x u := by
  unfold Den.starOf
  rw [em, h.ent]
  cases hq : (st.ent x).tag with
  | none => rfl
  | some kl =>
    obtain ⟨k, l⟩ := kl
    have := (h.tag k l hq).1
    cases k <;> simp [this]
theorem Look.starTag {x : Operand} (h : Look st st' x) (em : mkD st' o.dst = mkD st o.dst) (e : Ty) : Den.starTag st' o x e = Den.starTag st o x e := by
  unfold Den.starTag
  rw [em, h.own]
theorem Look.ownerStar {x : Operand} (h : Look st st' x) {l : Loc} (hl : st.owner x = some (some l)) : st'.own (starL l) = st.own (starL l) := by
  cases x with
  | tmp t =>
    simp only [St.owner] at hl
    cases hot : st.own (.tmp t []) with
    | true =>
      rw [hot] at hl; simp only [cnd_true] at hl
      injection hl with hl; injection hl with hl; subst hl
      exact h.own [0]
    | false =>
      rw [hot] at hl; simp only [cnd_false] at hl
      cases hq : (st.env t).tag with
      | none => rw [hq] at hl; cases hl
      | some kl =>
        obtain ⟨k, l'⟩ := kl
        rw [hq] at hl
        cases k with
        | false => cases hl
        | true =>
          simp only [] at hl
          cases hol : st.own l' with
          | false => rw [hol] at hl; cases hl
          | true =>
            rw [hol] at hl; simp only [cnd_true] at hl
            injection hl with hl; injection hl with hl; subst hl
            exact (h.tag true l' hq).2
  | const _ => simp [St.owner] at hl
  | global _ => cases hl
  | func _ => cases hl
theorem stAssignM_local {x : Operand} (h : Look st st' x) {c : Comp} : stAssignM o x st' c = stAssignM o x st c := by
  unfold stAssignM
  rw [h.ent, h.owner]
  simp only [h.owned]
  split
  · rename_i l _ hl
    rw [h.ownerStar hl]
  · rfl
  · rfl
theorem allOwn_local {f : List Nat → Loc} (h : ∀ p, st'.own (f p) = st.own (f p)) : ∀ ps, allOwn st'.own f ps = allOwn st.own f ps
  | [] => rfl
  | p :: ps => by simp only [allOwn, h, allOwn_local h ps]
theorem starPart_local {e : Ty} : ∀ {parts : List (Nat × Operand)} {l : List Tmp}, (∀ p ∈ parts, Look st st' p.2) → starPart st' e parts l = starPart st e parts l
  | [], _, _ => rfl
  | (i, .tmp s) :: ps, l, h => by
    have hx := (h (i, .tmp s) (by simp)).own
    simp only [starPart]
    rw [allOwn_local (f := (.tmp s ·)) (fun p => hx p), starPart_local (parts := ps) fun p hp => h p (List.mem_cons_of_mem _ hp)]
  | (_, .const _) :: _, _, _ => rfl
  | (_, .global _) :: _, _, _ => rfl
  | (_, .func _) :: _, _, _ => rfl
theorem starParts_local {e : Ty} {parts : List (Nat × Operand)} (h : ∀ p ∈ parts, Look st st' p.2) : starParts st' e parts = starParts st e parts := by
  unfold starParts; rw [starPart_local h]
theorem starApp_local {e : Ty} {x y : Operand} {ol : Option Loc} (hx : Look st st' x) (hy : Look st st' y) (hl : st.owner x = some ol) : starApp st' e ol y = starApp st e ol y := by
  unfold starApp
  cases y with
  | tmp t =>
    have h1 : st'.own (.tmp t [0]) = st.own (.tmp t [0]) := hy.own [0]
    simp only [h1]
    cases ol with
    | none => rfl
    | some l => simp only [hx.ownerStar hl]
  | _ => rfl

theorem stAppend_local {tab : Tab} {t : TypeId} {x y : Operand} (hx : Look st st' x) (hy : Look st st' y) : stAppend tab o t x y st' = stAppend tab o t x y st := by
  unfold stAppend
  rw [hx.ent, hy.ent, hx.owner]
  cases tab t with
  | none => rfl
  | some ty =>
    cases ty with
    | slice e =>
      cases h : st.owner x with
      | none =>
        simp only []
        cases AV.as (.slice e) (st.ent x).av <;> cases AV.as (.slice e) (st.ent y).av <;> rfl
      | some ol =>
        have hs := starApp_local (e := e) hx hy h
        simp only []
        generalize AV.as (.slice e) (st.ent x).av = ax
        generalize AV.as (.slice e) (st.ent y).av = ay
        cases ax with
        | none => rfl
        | some xs => cases ay with
          | none => rfl
          | some ys => simp only [hs]
    | _ => rfl
theorem fillP_local : ∀ {parts : List (Nat × Operand)} {t : Ty} {z : t.val}, (∀ p ∈ parts, Look st st' p.2) → fillP st' t z parts = fillP st t z parts
  | [], _, _, _ => rfl
  | (i, x) :: ps, t, z, h => by
    have hx := (h (i, x) (by simp)).ent
    simp only [fillP, hx]
    cases getF t z i with
    | none => rfl
    | some d =>
      simp only []
      cases AV.as d.1 (st.ent x).av with
      | none => rfl
      | some v =>
        simp only []
        cases setF t z i ⟨d.1, v⟩ with
        | none => rfl
        | some z' => exact fillP_local fun p hp => h p (by simp [hp])
theorem fillX_local : ∀ {parts : List (Nat × Operand)} {t : Ty} {z : t.val} {k : Option Tmp}, (∀ p ∈ parts, Look st st' p.2) → fillX st' t z parts k = fillX st t z parts k
  | [], _, _, _, _ => rfl
  | (i, x) :: ps, t, z, k, h => by
    have hx := h (i, x) (by simp)
    have ih : ∀ z k, fillX st' t z ps k = fillX st t z ps k := fun z k => fillX_local fun p hp => h p (by simp [hp])
    simp only [fillX, hx.ent, ih]
    cases hav : (st.ent x).av with
    | xf r p => cases p with
      | nil => simp only [atX_eq (hx.tr r (by rw [hav]; simp [avRes]))]
      | cons i p => rfl
    | _ => rfl
theorem fillR_local : ∀ {parts : List (Nat × Operand)} {t : Ty} {z : t.val} {k : List (List Nat × Tmp × List Nat)}, (∀ p ∈ parts, Look st st' p.2) → fillR st' t z parts k = fillR st t z parts k
  | [], _, _, _, _ => rfl
  | (i, x) :: ps, t, z, k, h => by
    have hx := h (i, x) (by simp)
    have ih : ∀ z k, fillR st' t z ps k = fillR st t z ps k := fun z k => fillR_local fun p hp => h p (by simp [hp])
    simp only [fillR, hx.ent, ih]
    cases hav : (st.ent x).av with
    | xf r p => simp only [atX_eq (hx.tr r (by rw [hav]; simp [avRes]))]
    | _ => rfl
theorem fillS_local : ∀ {parts : List (Nat × Operand)} {e : Ty} {z : List e.val}, (∀ p ∈ parts, Look st st' p.2) → fillS st' e z parts = fillS st e z parts
  | [], _, _, _ => rfl
  | (i, x) :: ps, e, z, h => by
    have hx := (h (i, x) (by simp)).ent
    simp only [fillS, hx]
    cases AV.as e (st.ent x).av with
    | none => rfl
    | some v => exact fillS_local fun p hp => h p (by simp [hp])
theorem partOf_mem : ∀ {parts : List (Nat × Operand)} {i : Nat} {x : Operand}, partOf i parts = some x → ∃ j, (j, x) ∈ parts
  | [], _, _, h => by cases h
  | (j, y) :: ps, i, x, h => by
    simp only [partOf] at h
    cases hb : Nat.beq i j with
    | true => rw [hb] at h; simp only [cnd_true] at h; injection h with h; subst h; exact ⟨j, by simp⟩
    | false =>
      rw [hb] at h
      obtain ⟨k, hk⟩ := partOf_mem h
      exact ⟨k, by simp [hk]⟩
theorem builtOwn_local {parts : List (Nat × Operand)} (h : ∀ p ∈ parts, Look st st' p.2) : ∀ ps, st'.builtOwn parts ps = st.builtOwn parts ps
  | [] => rfl
  | [] :: ps => by simp only [St.builtOwn]; exact builtOwn_local h ps
  | (i :: p) :: ps => by
    simp only [St.builtOwn, builtOwn_local h ps]
    cases hq : partOf i parts with
    | none => rfl
    | some x =>
      obtain ⟨j, hj⟩ := partOf_mem hq
      simp only [(h _ hj).own]
theorem avOpt_local {x : Option Operand} (h : ∀ y, x = some y → Look st st' y) : avOpt st' x = avOpt st x := by
  cases x with
  | none => rfl
  | some y => simp only [avOpt, (h y rfl).ent]

theorem ownedB_local {b : Tmp} {p : List Nat} (h : ∀ q, st'.own (.box b q) = st.own (.box b q)) : ∀ qs, st'.ownedB b p qs = st.ownedB b p qs
  | [] => rfl
  | q :: qs => by simp only [St.ownedB, h, ownedB_local h qs]

theorem mxRes_mem : ∀ {ps : List (List Nat × Tmp × List Nat)} {p : List Nat} {r : Tmp} {q : List Nat}, (p, r, q) ∈ ps → Res.box r ∈ mxRes ps
  | (p', r', q') :: ps, p, r, q, h => by
    simp only [mxRes]
    rcases List.mem_cons.1 h with h | h
    · injection h with _ h; injection h with h _; subst h; exact List.mem_cons_self
    · exact List.mem_cons_of_mem _ (mxRes_mem h)
/-- AN OPERATION'S READING DEPENDS ON WHAT IT LOOKS AT ALONE. -/
theorem step_local (h : ∀ x ∈ o.op.operands.toList, Look st st' x) (hdx : ∀ d, o.dst = some d → st'.box d = st.box d ∧ st'.io d = st.io d ∧ st'.xb d = st.xb d) (hmk : st'.mkt = st.mkt) : stepC tab G o st' = stepC tab G o st := by
  have hd : ∀ d, o.dst = some d → st'.box d = st.box d := fun d h => (hdx d h).1
  have em : mkD st' o.dst = mkD st o.dst := by cases o.dst <;> simp only [mkD, hmk]
  have ef : freeD st' o.dst = freeD st o.dst := by
    cases hq : o.dst with
    | none => rfl
    | some d => obtain ⟨h1, h2, h3⟩ := hdx d hq; simp only [freeD, h1, h2, h3]
  unfold stepC
  cases hop : o.op with
  | move x =>
    have hx := h x (by simp [hop, Op.operands])
    simp only [stAssignM_local hx, em]
    have : stMove tab o x st' = stMove tab o x st := by
      simp only [stMove, hx.ent]
      cases x with
      | tmp t => have := hx.own []; simp only [St.ownOp] at this; simp only [this]
      | _ => rfl
    rw [this]
  | assign x =>
    have hx := h x (by simp [hop, Op.operands])
    simp only [stAssignM_local hx, stAssign, hx.ent, hx.owned, em]
  | pick x y z =>
    have hx := h x (by simp [hop, Op.operands])
    have hy := h y (by simp [hop, Op.operands])
    have hz := h z (by simp [hop, Op.operands])
    simp only [stPick, hx.ent, hy.ent, hz.ent]
  | alloc e =>
    simp only [em, stAllocX, ef]
    congr 1
    simp only [stAlloc]
    cases tab e with
    | none => rfl
    | some ty =>
      cases hq : o.dst with
      | none => rfl
      | some d => simp only [hd d hq]
  | box e x =>
    have hx := h x (by simp [hop, Op.operands])
    have hb : stBox tab o e x st' = stBox tab o e x st := by
      simp only [stBox]
      cases tab e with
      | none => rfl
      | some ty =>
        cases hq : o.dst with
        | none => rfl
        | some d => simp only [hd d hq, hx.ent, hx.owned]
    simp only [hx.ent, hb]
    cases hav : (st.ent x).av with
    | xf r p => simp only [stBoxX, ef, atX_eq (hx.tr r (by rw [hav]; simp [avRes])) p]
    | _ => rfl
  | build t ps =>
    have hp : ∀ p ∈ ps.toList, Look st st' p.2 := fun p hp => h p.2 (by simp only [hop, Op.operands]; exact List.mem_map.2 ⟨p, hp, rfl⟩)
    have ha := anyX_local (l := ps.toList.map fun p => p.2) (fun x hx => by obtain ⟨p, h1, h2⟩ := List.mem_map.1 hx; rw [← h2]; exact hp p h1)
    simp only [stBuild, stBuildX, stBuildR, fillP_local hp, builtOwn_local hp, fillX_local hp, fillR_local hp, em, ef, ha]
  | buildSlice t k ps =>
    have hp : ∀ p ∈ ps.toList, Look st st' p.2 := fun p hp => h p.2 (by simp only [hop, Op.operands]; exact List.mem_map.2 ⟨p, hp, rfl⟩)
    simp only [stBuildSlice, fillS_local hp, starParts_local hp]
  | load t x =>
    have hx := h x (by simp [hop, Op.operands])
    simp only [stLoad, hx.ent, hx.starOf em]
    cases hav : (st.ent x).av with
    | cel b p =>
      obtain ⟨h1, h2⟩ := hx.box b p hav
      simp only [h1, h2, em, ownedB_local h2]
    | rdr p => simp only [hx.rd p hav]
    | xp r p k q => simp only [stLoadP, hx.tr r (by rw [hav]; simp [avRes])]
    | cx b p =>
      simp only [stLoadX, hx.tb b p hav]
      split
      · rename_i ty r q hq
        simp only [atX_eq (hx.tx b p ty r q hav hq) q]
      · simp only [stLoadR, hx.tr2 b p hav]
        cases hq : st.rb b with
        | none => rfl
        | some dp =>
          obtain ⟨d, ps⟩ := dp
          simp only []
          cases hp : partAtX p ps with
          | none => rfl
          | some rq =>
            obtain ⟨r, q⟩ := rq
            simp only []
            rw [atX_eq (hx.tx2 b p d ps r hav hq (mxRes_mem (partAtX_mem hp))) q]
      · rfl
    | _ => rfl
  | store t x v =>
    have hx := h x (by simp [hop, Op.operands])
    have hv := h v (by simp [hop, Op.operands])
    simp only [stStore, hx.ent, hv.ent, hv.owned]
    cases hav : (st.ent x).av with
    | cel b p => obtain ⟨h1, h2⟩ := hx.box b p hav; simp only [h1]
    | rdr p => simp only [hx.rd p hav]
    | xp r p k q =>
      have e := hx.tr r (by rw [hav]; simp [avRes])
      have hg : ∀ r2 m, (st.ent v).av = .xf r2 m → stGraftX tab o t r p k q r2 st' = stGraftX tab o t r p k q r2 st := fun r2 m hvv => by
        have e2 := hv.tr r2 (by rw [hvv]; simp [avRes])
        simp only [stGraftX, e, atX_eq e p, atX_eq e2 []]
      have hs : stStoreX tab o t r p k q v st' = stStoreX tab o t r p k q v st := by simp only [stStoreX, e, atX_eq e p, hv.ent]
      cases hvv : (st.ent v).av with
      | xf r2 m => cases m with
        | nil => exact hg r2 [] hvv
        | cons i m => exact hs
      | _ => exact hs
    | cx b p =>
      cases p with
      | cons i p =>
        cases hvv : (st.ent v).av with
        | xf r q => simp only [stPartR, hx.tb b _ hav, hx.tr2 b _ hav, atX_eq (hv.tr r (by rw [hvv]; simp [avRes])) q]
        | _ => rfl
      | nil =>
        cases hvv : (st.ent v).av with
        | xf r q => simp only [stPutX, hx.tb b [] hav, hx.tr2 b [] hav, atX_eq (hv.tr r (by rw [hvv]; simp [avRes])) q]
        | mx ty x ps => simp only [stPutR, hx.tb b [] hav]
        | _ => rfl
    | _ => rfl
  | nilCheck x => simp only [(h x (by simp [hop, Op.operands])).ent]
  | binOp op xt x y yt => simp only [stBin, (h x (by simp [hop, Op.operands])).ent, (h y (by simp [hop, Op.operands])).ent]
  | unOp op t x => simp only [stUn, (h x (by simp [hop, Op.operands])).ent]
  | convert s t x =>
    have hx := h x (by simp [hop, Op.operands])
    simp only [stConv, hx.ent]
    cases hav : (st.ent x).av with
    | xf r p => simp only [stConvX, atX_eq (hx.tr r (by rw [hav]; simp [avRes])) p]
    | _ => rfl
  | makeSlice t x y => simp only [em, stMakeX, ef, stMakeSlice, (h x (by simp [hop, Op.operands])).ent, (h y (by simp [hop, Op.operands])).ent]
  | slice t x lo hi mx =>
    have h1 : ∀ y, lo = some y → Look st st' y := fun y hy => h y (by simp [hop, Op.operands, hy])
    have h2 : ∀ y, hi = some y → Look st st' y := fun y hy => h y (by simp [hop, Op.operands, hy])
    have hx := h x (by simp [hop, Op.operands])
    simp only [hx.ent]
    cases hav : (st.ent x).av with
    | xf r p =>
      have hio : st'.io r = st.io r := hx.tr r (by rw [hav]; simp [avRes])
      cases p <;> cases mx <;> cases lo <;> simp only [stSliceX, hx.ent, hav, hio, ef, avOpt_local h2]
    | _ => simp only [stSlice, hx.ent, avOpt_local h1, avOpt_local h2]
  | fieldAddr s x f =>
    have hx := h x (by simp [hop, Op.operands])
    simp only [stFieldAddr, hx.ent]
    cases hav : (st.ent x).av with
    | cel b p => obtain ⟨h1, h2⟩ := hx.box b p hav; simp only [h1]
    | rdr p => simp only [hx.rd p hav]
    | xp r p k q => simp only [stFieldAddrX, atX_eq (hx.tr r (by rw [hav]; simp [avRes])) p]
    | cx b p =>
      simp only [stFieldAddrC, hx.tb b p hav]
      split
      · rename_i ty r q hq
        simp only [atX_eq (hx.tx b p ty r q hav hq) q]
      · simp only [stFieldAddrR, hx.tr2 b p hav]
      · rfl
    | _ => rfl
  | field s x f => simp only [stField, (h x (by simp [hop, Op.operands])).ent]
  | indexAddr t x i =>
    have hx := h x (by simp [hop, Op.operands])
    simp only [stIndexAddr, hx.ent, hx.starTag em, (h i (by simp [hop, Op.operands])).ent]
    cases hav : (st.ent x).av with
    | xf r p => simp only [stIndexAddrX, atX_eq (hx.tr r (by rw [hav]; simp [avRes])) p, (h i (by simp [hop, Op.operands])).ent]
    | _ => rfl
  | index t x i => simp only [stIndex, (h x (by simp [hop, Op.operands])).ent, (h i (by simp [hop, Op.operands])).ent]
  | extract x i =>
    have hx := h x (by simp [hop, Op.operands])
    simp only [stExtract, hx.ent, hx.owned, em]
    cases hav : (st.ent x).av with
    | xt r => simp only [stExtractX, hx.tr r (by rw [hav]; simp [avRes])]
    | _ => rfl
  | call cl =>
    have ha : ∀ x ∈ cl.args.toList, Look st st' x := fun x hx => h x (by simp only [hop, Op.operands, Call.operands]; simp; right; simpa using hx)
    have hm : (cl.args.toList.map fun x => (st'.ent x).av) = cl.args.toList.map fun x => (st.ent x).av := List.map_congr_left fun x hx => by rw [(ha x hx).ent]
    have hrdv : ∀ (l : List Operand), (∀ x ∈ l, Look st st' x) → (∀ p, rdrOf (l.map fun x => (st.ent x).av) = some (.rdr p) → st'.rd = st.rd) ∧ (∀ b p, rdrOf (l.map fun x => (st.ent x).av) = some (.cel b p) → st'.box b = st.box b) := by
      intro l
      induction l with
      | nil => intro _; exact ⟨fun p hh => (by cases hh), fun b p hh => (by cases hh)⟩
      | cons y l ih =>
        intro hl
        obtain ⟨i1, i2⟩ := ih (fun x hx => hl x (by simp [hx]))
        simp only [List.map_cons]
        cases hav : (st.ent y).av with
        | rdr p => exact ⟨fun q hh => (hl y (by simp)).rd p hav, fun b q hh => (by injection hh with hh; cases hh)⟩
        | cel b p => exact ⟨fun q hh => (by injection hh with hh; cases hh), fun c q hh => (by injection hh with hh; injection hh with hh _; subst hh; exact ((hl y (by simp)).box b p hav).1)⟩
        | _ => exact ⟨i1, i2⟩
    have hCall : ∀ f, stCall G o f cl.args.toList st' = stCall G o f cl.args.toList st := by
      intro f
      simp only [stCall, hm]
      cases G f with
      | none => rfl
      | some s =>
        simp only []
        cases hmu : s.muts with
        | true => rfl
        | false =>
        simp only [cnd_false]
        cases hfv : isF s.fv with
        | true => rfl
        | false =>
        simp only [cnd_false]
        obtain ⟨q1, q2⟩ := hrdv _ ha
        cases s.usesRd with
        | true =>
          cases s.opens with
          | true => rfl
          | false =>
            simp only []
            cases hr : rdrOf (cl.args.toList.map fun x => (st.ent x).av) with
            | none => rfl
            | some rv =>
              cases rv with
              | rdr p => cases p <;> simp only [q1 _ hr]
              | cel b p => cases p <;> simp only [q2 b _ hr]
              | _ => rfl
        | false =>
          cases s.opens with
          | false => rfl
          | true =>
            simp only []
            cases hq : o.dst with
            | none => cases packArgs none s.aty (cl.args.toList.map fun x => (st.ent x).av) <;> cases Ty.unit.cast s.rdty () <;> rfl
            | some d =>
              have e := hd d hq
              cases packArgs none s.aty (cl.args.toList.map fun x => (st.ent x).av) with
              | none => rfl
              | some x =>
                cases Ty.cast .unit s.rdty () with
                | none => rfl
                | some rd =>
                  show (match st'.box d with | none => _ | some _ => none) = (match st.box d with | none => _ | some _ => none)
                  rw [e]
    simp only []
    split
    · rename_i f hcal
      have hmx : (cl.args.toList.map fun x => argX st' (st'.ent x).av) = cl.args.toList.map fun x => argX st (st.ent x).av := List.map_congr_left fun x hx => by rw [(ha x hx).ent, (ha x hx).argX]
      have hFF : stCallF G o f cl.args.toList st' = stCallF G o f cl.args.toList st := by simp only [stCallF, hm]
      have hC : stCallC G o f cl.args.toList st' = stCallC G o f cl.args.toList st := by
        simp only [stCallC]
        cases G f with
        | none => rfl
        | some s =>
          simp only []
          cases hfv : isF s.fv with
          | true => rfl
          | false =>
          simp only [cnd_false]
          cases hl : cl.args.toList with
          | nil => rfl
          | cons x0 xs =>
            cases s.opens with
            | true => rfl
            | false =>
            have hx0 := ha x0 (by rw [hl]; simp)
            have hms : (xs.map fun x => (st'.ent x).av) = xs.map fun x => (st.ent x).av := List.map_congr_left fun x hx => by rw [(ha x (by rw [hl]; simp [hx])).ent]
            simp only [hx0.ent, hms]
            cases hav : (st.ent x0).av with
            | xf r p =>
              have e := hx0.tr r (by rw [hav]; simp [avRes])
              cases p with
              | nil => simp only [atX_eq e []]
              | cons _ _ => rfl
            | _ => rfl
      have hXR : stCallXR G o f cl.args.toList st' = stCallXR G o f cl.args.toList st := by
        simp only [stCallXR, hm, ef]
        cases G f with
        | none => rfl
        | some s =>
          simp only []
          cases hfv : isF s.fv with
          | true => rfl
          | false =>
          simp only [cnd_false]
          obtain ⟨q1, _⟩ := hrdv _ ha
          split
          · rename_i hr
            rw [q1 _ hr]
          · rfl
      rw [anyX_local ha, em, hFF, hC, hXR]
      congr 1
      congr 1
      congr 1
      have hX : stCallX G o f cl.args.toList st' = stCallX G o f cl.args.toList st := by
        simp only [stCallX, hmx, em, ef]
        cases G f with
        | none => rfl
        | some s =>
          simp only []
          cases hfv : isF s.fv with
          | true => rfl
          | false =>
          simp only [cnd_false]
          split
          · rfl
          · cases hl : cl.args.toList with
            | nil => rfl
            | cons x0 xs =>
              have hx0 := ha x0 (by rw [hl]; simp)
              have hms : (xs.map fun x => (st'.ent x).av) = xs.map fun x => (st.ent x).av := List.map_congr_left fun x hx => by rw [(ha x (by rw [hl]; simp [hx])).ent]
              simp only [hx0.ent, hms]
              cases hav : (st.ent x0).av with
              | xf r p =>
                have e := hx0.tr r (by rw [hav]; simp [avRes])
                simp only [e, atX_eq e p]
              | xe k q =>
                have e := hx0.tr 0 (by rw [hav]; simp [avRes])
                simp only [e]
              | _ => rfl
          · rfl
      rw [hX]
      congr 1
      exact hCall f
    · rename_i t hcal
      have e : st'.env t = st.env t := (h (.tmp t) (by simp [hop, Op.operands, Call.operands, hcal])).ent
      rw [e]
      split
      · rename_i f _; exact hCall f
      · rfl
    · split
      · rename_i x t hx ht
        have hxx := ha x (by simp [hx])
        simp only [stLen, hxx.ent]
        cases hav : (st.ent x).av with
        | xf r p => simp only [stLenX, atX_eq (hxx.tr r (by rw [hav]; simp [avRes])) p]
        | _ => rfl
      · rfl
    · split
      · rename_i x y t t' hx ht
        have hxx := ha x (by simp [hx])
        simp only [hxx.ent]
        cases hav : (st.ent x).av with
        | xf r p =>
          have hio : st'.io r = st.io r := hxx.tr r (by rw [hav]; simp [avRes])
          cases p with
          | nil =>
            unfold stAppendT
            rw [hxx.ent, hav]
            dsimp only
            rw [hio, ef, (ha y (by simp [hx])).ent, (ha y (by simp [hx])).argX]
          | cons => simp only [stAppendT, hxx.ent, hav]
        | _ => simp only [stAppend_local hxx (ha y (by simp [hx])), stAppendX, em, ef, (ha y (by simp [hx])).argX, hxx.ent, (ha y (by simp [hx])).ent, hxx.owner]
      · rfl
    · split
      · rename_i x y hx
        simp only [stMinMax, (ha x (by simp [hx])).ent, (ha y (by simp [hx])).ent]
      · rfl
    · split
      · rename_i x y hx
        simp only [stMinMax, (ha x (by simp [hx])).ent, (ha y (by simp [hx])).ent]
      · rfl
    · rfl
  | _ => rfl

/-! ### operations that do not touch each other -/
theorem Res.beq_iff {r s : Res} : Res.beq r s = true ↔ r = s := by
  cases r <;> cases s <;> simp [Res.beq, Nat.beq_eq]
theorem hit_iff {r : Res} : ∀ {ss : List Res}, hit r ss = true ↔ r ∈ ss
  | [] => by simp [hit]
  | s :: ss => by
    cases h : Res.beq r s with
    | true => simp only [hit, h, cnd_true, true_iff]; rw [Res.beq_iff.1 h]; exact List.mem_cons_self
    | false =>
      have : r ≠ s := fun e => by rw [Res.beq_iff.2 e] at h; cases h
      simp [hit, h, this, hit_iff (ss := ss)]
theorem hits_false : ∀ {rs ss : List Res}, hits rs ss = false → ∀ r ∈ rs, r ∉ ss
  | [], _, _, r, hr => by cases hr
  | x :: rs, ss, h, r, hr => by
    simp only [hits] at h
    cases hx : hit x ss with
    | true => rw [hx] at h; cases h
    | false =>
      rw [hx] at h
      rcases List.mem_cons.1 hr with rfl | hr
      · intro hm; rw [hit_iff.2 hm] at hx; cases hx
      · exact hits_false h r hr
theorem indep_iff {f g : FP} (h : indep f g = true) : (∀ r ∈ f.writes, r ∉ g.reads) ∧ (∀ r ∈ f.writes, r ∉ g.writes) ∧ (∀ r ∈ g.writes, r ∉ f.reads) := by
  unfold indep at h
  cases h1 : hits f.writes g.reads with
  | true => rw [h1] at h; cases h
  | false =>
    cases h2 : hits f.writes g.writes with
    | true => rw [h1, h2] at h; cases h
    | false =>
      cases h3 : hits g.writes f.reads with
      | true => rw [h1, h2, h3] at h; cases h
      | false => exact ⟨hits_false h1, hits_false h2, hits_false h3⟩

theorem mem_dst {u : Upd} {t : Tmp} (h : u.dst = some t) : Res.tmp t ∈ u.writes ∧ Res.box t ∈ u.writes := by
  unfold Upd.writes dstRes; rw [h]; simp
theorem mem_dstO {u : Upd} {t : Tmp} (h : u.dst = some t) : Res.own t ∈ u.writes := by
  unfold Upd.writes dstRes; rw [h]; simp
theorem mem_takes {u : Upd} {l : Loc} (h : l ∈ u.takes) : l.res ∈ u.writes := by
  unfold Upd.writes; simp; right; left; exact ⟨l, h, rfl⟩
theorem mem_bw {u : Upd} {b : Tmp} {d : Dat} {o' : List (List Nat)} {q : List Nat} (h : u.bw = some (b, d, o', q)) : Res.box b ∈ u.writes := by
  unfold Upd.writes; rw [h]; simp
theorem mem_rd {u : Upd} {d : Dat} (h : u.rd = some d) : Res.rd ∈ u.writes := by
  unfold Upd.writes; rw [h]; simp

theorem apply_av {u : Upd} {t : Tmp} (h : Res.tmp t ∉ u.writes) : (apply st u).env t = ⟨(st.env t).av, keepTag u (st.env t).tag⟩ := by
  have : u.dst ≠ some t := fun e => h (mem_dst e).1
  simp [apply, isT_ne.2 this]
theorem keepTag_off {u : Upd} {k : Bool} {l : Loc} (h : l.res ∉ u.writes) : keepTag u (some (k, l)) = some (k, l) := by
  cases l with
  | tmp t p =>
    have : u.dst ≠ some t := fun e => h (mem_dstO e)
    simp [keepTag, isT_ne.2 this]
  | box b p =>
    simp only [keepTag]
    cases hb : u.bw with
    | none => rfl
    | some x =>
      obtain ⟨c, d, o', q⟩ := x
      have : Nat.beq b c = false := by
        cases hq : Nat.beq b c with
        | true => exact absurd (mem_bw (by rw [nbeq hq]; exact hb)) h
        | false => rfl
      simp only [this, cnd_false]
theorem keepTag_loc {u : Upd} {x : Option (Bool × Loc)} {k : Bool} {l : Loc} (h : x = some (k, l)) : ∃ k', keepTag u x = some (k', l) := by
  subst h
  cases l with
  | tmp t p => exact ⟨_, rfl⟩
  | box b p => exact ⟨_, rfl⟩
theorem not_takes {u : Upd} {l : Loc} (h : l.res ∉ u.writes) : inLocs l u.takes = false := by
  cases hq : inLocs l u.takes with
  | true => exact absurd (mem_takes (inLocs_iff.1 hq)) h
  | false => rfl
theorem own_off {u : Upd} {l : Loc} (h : l.res ∉ u.writes) : (apply st u).own l = st.own l := by
  have ht := not_takes h
  cases l with
  | tmp t p =>
    have : u.dst ≠ some t := fun e => h (mem_dstO e)
    simp [apply, isT_ne.2 this, ht]
  | box b p =>
    simp only [apply]
    cases hb : u.bw with
    | none => simp [ht]
    | some x =>
      obtain ⟨c, d, o', q⟩ := x
      have : Nat.beq b c = false := by
        cases hq : Nat.beq b c with
        | true => exact absurd (mem_bw (by rw [nbeq hq]; exact hb)) h
        | false => rfl
      simp [this, ht]
theorem box_off {u : Upd} {b : Tmp} (h : Res.box b ∉ u.writes) : (apply st u).box b = st.box b := by
  simp only [apply]
  cases hb : u.bw with
  | none => rfl
  | some x =>
    obtain ⟨c, d, o', q⟩ := x
    have : Nat.beq b c = false := by
      cases hq : Nat.beq b c with
      | true => exact absurd (mem_bw (by rw [nbeq hq]; exact hb)) h
      | false => rfl
    simp [this]
theorem rd_off {u : Upd} (h : Res.rd ∉ u.writes) : (apply st u).rd = st.rd := by
  simp only [apply]
  cases hr : u.rd with
  | none => rfl
  | some d => exact absurd (mem_rd hr) h

theorem mem_xw {u : Upd} {r : Tmp} {d : Dat} (h : u.xw = some (r, d)) : Res.box r ∈ u.writes := by
  unfold Upd.writes; rw [h]; simp
theorem mem_xbw {u : Upd} {b : Tmp} {x : Ty × Option (Tmp × List Nat)} (h : u.xbw = some (b, x)) : Res.box b ∈ u.writes := by
  unfold Upd.writes; rw [h]; simp
theorem mem_xk {u : Upd} {r : Tmp} (h : u.xk = some r) : Res.box r ∈ u.writes := by
  unfold Upd.writes; rw [h]; simp
theorem mem_rw {u : Upd} {b : Tmp} {x : Dat × List (List Nat × Tmp × List Nat)} (h : u.rw = some (b, x)) : Res.box b ∈ u.writes := by
  unfold Upd.writes; rw [h]; simp
theorem rb_off {u : Upd} {b : Tmp} (h : Res.box b ∉ u.writes) : (apply st u).rb b = st.rb b := by
  simp only [apply]
  cases hb : u.rw with
  | none => rfl
  | some x =>
    obtain ⟨c, d⟩ := x
    have : Nat.beq b c = false := by
      cases hq : Nat.beq b c with
      | true => exact absurd (mem_rw (by rw [nbeq hq]; exact hb)) h
      | false => rfl
    simp [this]
theorem io_off {u : Upd} {b : Tmp} (h : Res.box b ∉ u.writes) : (apply st u).io b = st.io b := by
  have hk : ∀ k, u.xk = some k → Nat.beq b k = false := fun k hk => by
    cases hq : Nat.beq b k with
    | true => exact absurd (mem_xk (by rw [nbeq hq]; exact hk)) h
    | false => rfl
  have hw : ∀ c d, u.xw = some (c, d) → Nat.beq b c = false := fun c d hw => by
    cases hq : Nat.beq b c with
    | true => exact absurd (mem_xw (by rw [nbeq hq]; exact hw)) h
    | false => rfl
  unfold apply
  cases hb : u.xw with
  | none =>
    cases hx : u.xk with
    | none => rfl
    | some k => simp only [hk k hx, cnd_false]
  | some x =>
    obtain ⟨c, d⟩ := x
    cases hx : u.xk with
    | none => simp only [hw c d hb, cnd_false]
    | some k => simp only [hw c d hb, hk k hx, cnd_false]
theorem xb_off {u : Upd} {b : Tmp} (h : Res.box b ∉ u.writes) : (apply st u).xb b = st.xb b := by
  simp only [apply]
  cases hb : u.xbw with
  | none => rfl
  | some x =>
    obtain ⟨c, d⟩ := x
    have : Nat.beq b c = false := by
      cases hq : Nat.beq b c with
      | true => exact absurd (mem_xbw (by rw [nbeq hq]; exact hb)) h
      | false => rfl
    simp [this]
/-- what an operand looks at is seen alike before and behind a change that leaves it alone -/
theorem readsX_off {u : Upd} {x : Operand} (h : ∀ r ∈ readsX (apply st u) x, r ∉ u.writes) : readsX (apply st u) x = readsX st x := by
  cases x with
  | tmp t =>
    have ht : Res.tmp t ∉ u.writes := h _ (by simp [readsX])
    have he := apply_av (st := st) ht
    have hx : xbRes (apply st u) (st.env t).av = xbRes st (st.env t).av := by
      cases hav : (st.env t).av with
      | cx b p =>
        have : Res.box b ∉ u.writes := h _ (by simp [readsX, he, hav, avRes])
        simp only [xbRes, xb_off this, rb_off this]
      | _ => rfl
    simp only [readsX, he, hx]
    cases hq : (st.env t).tag with
    | none => rfl
    | some kl =>
      obtain ⟨k, l⟩ := kl
      obtain ⟨k', hk⟩ := keepTag_loc (u := u) hq
      rw [hq] at hk
      rw [hk]
  | _ => rfl
theorem look_off {u : Upd} {x : Operand} (h : ∀ r ∈ readsX st x, r ∉ u.writes) : Look st (apply st u) x := by
  cases x with
  | tmp t =>
    have ht : Res.tmp t ∉ u.writes := h _ (by simp [readsX])
    have he : (apply st u).env t = st.env t := by
      rw [apply_av ht]
      cases hq : (st.env t).tag with
      | none =>
        have : st.env t = ⟨(st.env t).av, (st.env t).tag⟩ := rfl
        rw [this, hq]; rfl
      | some kl =>
        obtain ⟨k, l⟩ := kl
        have hl : l.res ∉ u.writes := h _ (by simp [readsX, hq])
        rw [keepTag_off hl]
        have : st.env t = ⟨(st.env t).av, (st.env t).tag⟩ := rfl
        rw [this, hq]
    have hto : Res.own t ∉ u.writes := h _ (by simp [readsX])
    refine ⟨he, fun p => own_off (l := .tmp t p) hto, fun b p hav => ?_, fun p hav => ?_, fun k l hl => ?_, fun r hr => ?_, fun b p hav => ?_, fun b p hav => ?_, fun b p d ps r hav hb hr => ?_, fun b p ty r q hav hb => ?_⟩
    · have hav : (st.env t).av = .cel b p := hav
      have hb : Res.box b ∉ u.writes := h _ (by simp [readsX, hav, avRes])
      exact ⟨box_off hb, fun q => own_off (l := .box b q) hb⟩
    · have hav : (st.env t).av = .rdr p := hav
      exact rd_off (h _ (by simp [readsX, hav, avRes]))
    · have hl : (st.env t).tag = some (k, l) := hl
      have hr : l.res ∉ u.writes := h _ (by simp [readsX, hl])
      exact ⟨own_off hr, own_off (by cases l <;> exact hr)⟩
    · have hr : Res.box r ∈ avRes (st.env t).av := hr
      exact io_off (h _ (by simp [readsX, hr]))
    · have hav : (st.env t).av = .cx b p := hav
      exact xb_off (h _ (by simp [readsX, hav, avRes]))
    · have hav : (st.env t).av = .cx b p := hav
      exact rb_off (h _ (by simp [readsX, hav, avRes]))
    · have hav : (st.env t).av = .cx b p := hav
      exact io_off (h _ (by simp [readsX, hav, avRes, xbRes, hb, hr]))
    · have hav : (st.env t).av = .cx b p := hav
      exact io_off (h _ (by simp [readsX, hav, avRes, xbRes, hb]))
  | const v =>
    refine ⟨rfl, fun _ => rfl, fun b p hav => ?_, fun p hav => ?_, fun k l hl => (by cases hl), fun r hr => ?_, fun b p hav => ?_, fun b p hav => ?_, fun b p d ps r hav => ?_, fun b p ty r q hav => ?_⟩
    · simp only [St.ent] at hav; unfold constAV at hav; split at hav <;> cases hav
    · simp only [St.ent] at hav; unfold constAV at hav; split at hav <;> cases hav
    · simp only [St.ent] at hr; unfold constAV at hr; split at hr <;> simp [avRes] at hr
    · simp only [St.ent] at hav; unfold constAV at hav; split at hav <;> cases hav
    · simp only [St.ent] at hav; unfold constAV at hav; split at hav <;> cases hav
    · simp only [St.ent] at hav; unfold constAV at hav; split at hav <;> cases hav
    · simp only [St.ent] at hav; unfold constAV at hav; split at hav <;> cases hav
  | global g => exact ⟨rfl, fun _ => rfl, fun _ _ hav => (by cases hav), fun _ hav => (by cases hav), fun _ _ hl => (by cases hl), fun _ hr => (by simp [St.ent, avRes] at hr), fun _ _ hav => (by cases hav), fun _ _ hav => (by cases hav), fun _ _ _ _ _ hav => (by cases hav), fun _ _ _ _ _ hav => (by cases hav)⟩
  | func f => exact ⟨rfl, fun _ => rfl, fun _ _ hav => (by cases hav), fun _ hav => (by cases hav), fun _ _ hl => (by cases hl), fun _ hr => (by simp [St.ent, avRes] at hr), fun _ _ hav => (by cases hav), fun _ _ hav => (by cases hav), fun _ _ _ _ _ hav => (by cases hav), fun _ _ _ _ _ hav => (by cases hav)⟩

theorem readsL_mem : ∀ {l : List Operand} {x : Operand} {r : Res}, x ∈ l → r ∈ readsX st x → r ∈ readsL st l
  | [], _, _, h, _ => by cases h
  | y :: l, x, r, h, hr => by
    simp only [readsL, List.mem_append]
    rcases List.mem_cons.1 h with rfl | h
    · exact .inl hr
    · exact .inr (readsL_mem h hr)
theorem readsL_off {u : Upd} : ∀ {l : List Operand}, (∀ r ∈ readsL (apply st u) l, r ∉ u.writes) → readsL (apply st u) l = readsL st l
  | [], _ => rfl
  | x :: l, h => by
    simp only [readsL] at h ⊢
    rw [readsX_off fun r hr => h r (by simp [hr]), readsL_off fun r hr => h r (by simp [hr])]
theorem mkD_apply (u : Upd) (d : Option Tmp) : mkD (apply st u) d = mkD st d := by cases d <;> rfl
theorem exNo_eq {p : Op} {dd : Option Tmp} (hm : mkD st' dd = mkD st dd) (h : ∀ t i, p = .extract (.tmp t) i → (st'.env t).av = (st.env t).av) : exNo st' dd p = exNo st dd p := by
  cases p with
  | extract x i =>
    cases x with
    | tmp t => simp only [exNo, h t i rfl, hm]
    | _ => rfl
  | _ => rfl
theorem exNo_some {p : Op} {dd : Option Tmp} {t : Tmp} (h : exNo st dd p = some t) : ∃ i ty v d, p = .extract (.tmp t) i ∧ (st.env t).av = .tup ty v ∧ getF ty v i = some d ∧ (slicePaths d.1 = [] ∨ mkD st dd = true) := by
  cases p with
  | extract x i =>
    cases x with
    | tmp s =>
      simp only [exNo] at h
      cases hav : (st.env s).av with
      | tup ty v =>
        rw [hav] at h; simp only [] at h
        cases hf : getF ty v i with
        | none => rw [hf] at h; cases h
        | some d =>
          rw [hf] at h; simp only [] at h
          cases hm : mkD st dd with
          | true => simp only [hm, cnd_true] at h; injection h with h; subst h; exact ⟨i, ty, v, d, rfl, hav, hf, .inr rfl⟩
          | false =>
            simp only [hm, cnd_false] at h
            cases hp : slicePaths d.1 with
            | nil => rw [hp] at h; injection h with h; subst h; exact ⟨i, ty, v, d, rfl, hav, hf, .inl hp⟩
            | cons a b => rw [hp] at h; cases h
      | _ => rw [hav] at h; cases h
    | _ => cases h
  | _ => cases h
theorem mvNo_eq {p : Op} (h : ∀ t, p = .move (.tmp t) → (st'.env t).av = (st.env t).av) : mvNo st' p = mvNo st p := by
  cases p with
  | move x =>
    cases x with
    | tmp t => simp only [mvNo, h t rfl]
    | _ => rfl
  | _ => rfl
theorem mvNo_some {p : Op} {t : Tmp} (h : mvNo st p = some t) : ∃ q : AV, p = .move (.tmp t) ∧ (st.env t).av = q ∧ ((∃ r, q = .rdr r) ∨ ∃ b r, q = .cel b r) := by
  cases p with
  | move x =>
    cases x with
    | tmp s =>
      simp only [mvNo] at h
      cases hav : (st.env s).av with
      | rdr q => rw [hav] at h; injection h with h; subst h; exact ⟨_, rfl, hav, .inl ⟨q, rfl⟩⟩
      | cel b q => rw [hav] at h; injection h with h; subst h; exact ⟨_, rfl, hav, .inr ⟨b, q, rfl⟩⟩
      | _ => rw [hav] at h; cases h
    | _ => cases h
  | _ => cases h
theorem exNo_reads {t : Tmp} {i : Nat} (h : o.op = .extract (.tmp t) i) : Res.tmp t ∈ reads st o := by
  unfold reads
  simp only [List.mem_append]
  right
  cases hq : exNo st o.dst o.op with
  | some s =>
    obtain ⟨j, ty, v, d, e, _⟩ := exNo_some hq
    rw [h] at e; injection e with e _; injection e with e; subst e; simp
  | none =>
    have : mvNo st o.op = none := by rw [h]; rfl
    rw [this]
    exact readsL_mem (x := .tmp t) (by simp [h, Op.operands]) (by simp [readsX])
theorem mvNo_reads {t : Tmp} (h : o.op = .move (.tmp t)) : Res.tmp t ∈ reads st o := by
  unfold reads
  simp only [List.mem_append]
  right
  have : exNo st o.dst o.op = none := by rw [h]; rfl
  rw [this]
  cases hq : mvNo st o.op with
  | some s =>
    obtain ⟨q, e, _⟩ := mvNo_some hq
    rw [h] at e; injection e with e; injection e with e; subst e; simp [readsM]
  | none => exact readsL_mem (x := .tmp t) (by simp [h, Op.operands]) (by simp [readsX])
theorem readsM_off {u : Upd} {t : Tmp} (h : Res.tmp t ∉ u.writes) : readsM (apply st u) t = readsM st t := by
  simp only [readsM, apply_av h]
  cases hq : (st.env t).tag with
  | none => rfl
  | some kl =>
    obtain ⟨k, l⟩ := kl
    obtain ⟨k', hk⟩ := keepTag_loc (u := u) hq
    rw [hq] at hk
    rw [hk]
theorem mv_off {u : Upd} {t : Tmp} (h : ∀ r ∈ readsM st t, r ∉ u.writes) : (apply st u).env t = st.env t ∧ (apply st u).own (.tmp t []) = st.own (.tmp t []) := by
  have ht : Res.tmp t ∉ u.writes := h _ (by simp [readsM])
  refine ⟨?_, own_off (l := .tmp t []) (h _ (by simp [readsM, Loc.res]))⟩
  rw [apply_av ht]
  cases hq : (st.env t).tag with
  | none =>
    have : st.env t = ⟨(st.env t).av, (st.env t).tag⟩ := rfl
    rw [this, hq]; rfl
  | some kl =>
    obtain ⟨k, l⟩ := kl
    have hl : l.res ∉ u.writes := h _ (by simp [readsM, hq])
    rw [keepTag_off hl]
    have : st.env t = ⟨(st.env t).av, (st.env t).tag⟩ := rfl
    rw [this, hq]
theorem reads_off {u : Upd} (h : ∀ r ∈ reads (apply st u) o, r ∉ u.writes) : reads (apply st u) o = reads st o := by
  have e : exNo (apply st u) o.dst o.op = exNo st o.dst o.op := exNo_eq (mkD_apply _ _) fun t i hp => by rw [apply_av (h _ (exNo_reads hp))]
  have e2 : mvNo (apply st u) o.op = mvNo st o.op := mvNo_eq fun t hp => by rw [apply_av (h _ (mvNo_reads hp))]
  have e3 : ∀ t, mvNo st o.op = some t → Res.tmp t ∉ u.writes := fun t hq => by
    obtain ⟨q, hp, _⟩ := mvNo_some hq
    exact h _ (mvNo_reads hp)
  unfold reads at h ⊢
  rw [e, e2] at h ⊢
  cases hq : exNo st o.dst o.op with
  | some t => rfl
  | none =>
    rw [hq] at h
    simp only [] at h ⊢
    cases hm : mvNo st o.op with
    | some t => simp only []; rw [readsM_off (e3 t hm)]
    | none =>
      rw [hm] at h
      simp only [] at h ⊢
      rw [readsL_off fun r hr => h r (by simp [hr])]
theorem step_same {u : Upd} (h : ∀ r ∈ reads st o, r ∉ u.writes) : stepC tab G o (apply st u) = stepC tab G o st := by
  have hdm : ∀ d, o.dst = some d → Res.box d ∉ u.writes := fun d hd => h _ (by unfold reads dstRes; rw [hd]; simp)
  cases hq : exNo st o.dst o.op with
  | some t =>
    obtain ⟨i, ty, v, d, hp, hav, hf, hs⟩ := exNo_some hq
    have hav' : ((apply st u).env t).av = .tup ty v := by rw [apply_av (h _ (exNo_reads hp))]; exact hav
    have e1 : (st.ent (.tmp t)).av = .tup ty v := hav
    have e2 : ((apply st u).ent (.tmp t)).av = .tup ty v := hav'
    rcases hs with hs | hs
    · simp only [stepC, hp, e1, e2, stExtract, hf, hs, List.map_nil, St.owned, mkD_apply]
    · have hs' : mkD (apply st u) o.dst = true := by rw [mkD_apply]; exact hs
      simp only [stepC, hp, e1, e2, stExtract, hf, hs, hs', cnd_true]
  | none =>
    cases hm : mvNo st o.op with
    | some t =>
      obtain ⟨q, hp, hav, hq'⟩ := mvNo_some hm
      have hr : ∀ r ∈ readsM st t, r ∉ u.writes := fun r hr => h r (by unfold reads; rw [hq, hm]; simp [hr])
      obtain ⟨k1, k2⟩ := mv_off hr
      have e1 : (st.ent (.tmp t)) = st.env t := rfl
      have e2 : ((apply st u).ent (.tmp t)) = st.env t := k1
      have e3 : mkD (apply st u) o.dst = mkD st o.dst := by cases o.dst <;> rfl
      rcases hq' with ⟨r, rfl⟩ | ⟨b, r, rfl⟩ <;> simp only [stepC, hp, stAssignM, stMove, isSlV, cnd_false, e1, e2, e3, k2, hav]
    | none =>
      refine step_local (fun x hx => look_off fun r hr => h r ?_) (fun d hd => ⟨box_off (hdm d hd), io_off (hdm d hd), xb_off (hdm d hd)⟩) rfl
      unfold reads; rw [hq, hm]; simp only [List.mem_append]; exact .inr (readsL_mem hx hr)
theorem step_off {u : Upd} (h : ∀ r ∈ reads (apply st u) o, r ∉ u.writes) : stepC tab G o (apply st u) = stepC tab G o st := by
  rw [reads_off h] at h
  exact step_same h

theorem one_off {ops : List Oper} {u' u : Upd} {rs : List Res} (h : oneU tab G ops o (apply st u') = some (u, rs)) (hr : ∀ r ∈ rs, r ∉ u'.writes) : oneU tab G ops o st = some (u, rs) := by
  have rsOf : ∀ {st : St} {rs' : List Res}, (match stepC tab G o st with
      | some (.ret c u) => cond (chkB c) (some (u, rs')) none
      | some (.call _ _ F u) => F.map fun r => (u r, rs')
      | none => none : Option (Upd × List Res)) = some (u, rs) → rs' = rs := by
    intro st rs' hgo
    cases hc : stepC tab G o st with
    | none => rw [hc] at hgo; cases hgo
    | some c =>
      rw [hc] at hgo
      cases c with
      | ret c u2 =>
        cases hck : chkB c with
        | false => simp only [hck] at hgo; cases hgo
        | true => simp only [hck] at hgo; injection hgo with hgo; injection hgo
      | call rt rdt F u2 =>
        cases F with
        | none => cases hgo
        | some r => injection hgo with hgo; injection hgo
  unfold oneU at h ⊢
  cases hg : o.guard with
  | none =>
    rw [hg] at h
    simp only [] at h ⊢
    have := rsOf h
    subst this
    rw [← reads_off hr, ← step_off (tab := tab) (G := G) hr]; exact h
  | some gw =>
    obtain ⟨g, want⟩ := gw
    rw [hg] at h
    simp only [] at h ⊢
    cases hgt : guardT ops g with
    | none => rw [hgt] at h; cases h
    | some t =>
      rw [hgt] at h
      simp only [] at h ⊢
      have hav : Res.tmp t ∈ rs → ((apply st u').env t).av = (st.env t).av := fun hm => by rw [apply_av (hr _ hm)]
      cases hq : ((apply st u').env t).av with
      | dat ty b =>
        rw [hq] at h
        cases ty <;> try (simp only [] at h; cases h; done)
        simp only [] at h
        cases hw : eqW b want with
        | true =>
          rw [hw] at h
          have h : (match stepC tab G o (apply st u') with
            | some (.ret c u) => cond (chkB c) (some (u, Res.tmp t :: reads (apply st u') o)) none
            | some (.call _ _ F u) => F.map fun r => (u r, Res.tmp t :: reads (apply st u') o)
            | none => none : Option (Upd × List Res)) = some (u, rs) := h
          have := rsOf h
          subst this
          have hr' : ∀ r ∈ reads (apply st u') o, r ∉ u'.writes := fun r hm => hr r (by simp [hm])
          have ha := hav (by simp)
          rw [← ha, hq]
          simp only [hw]
          rw [← reads_off hr', ← step_off (tab := tab) (G := G) hr']; exact h
        | false =>
          rw [hw] at h
          have h : some (skipU o, [Res.tmp t]) = some (u, rs) := h
          have hrs : rs = [Res.tmp t] := by injection h with h; injection h with _ h; exact h.symm
          have ha := hav (by rw [hrs]; simp)
          rw [← ha, hq]
          simp only [hw]; exact h
      | skp =>
        rw [hq] at h
        have h : some (skipU o, [Res.tmp t]) = some (u, rs) := h
        have hrs : rs = [Res.tmp t] := by injection h with h; injection h with _ h; exact h.symm
        have ha := hav (by rw [hrs]; simp)
        rw [← ha, hq]; exact h
      | _ => rw [hq] at h; simp only [] at h; cases h

end
end Go.Den

namespace Go.Den
section
variable {P : Program} {tab : Tab} {G : Gam}
variable {st st' : St} {o : Oper}

theorem keepTag_comm (u1 u2 : Upd) (x : Option (Bool × Loc)) : keepTag u1 (keepTag u2 x) = keepTag u2 (keepTag u1 x) := by
  cases x with
  | none => rfl
  | some kl =>
    obtain ⟨k, l⟩ := kl
    cases l with
    | tmp t p =>
      simp only [keepTag]
      cases isT t u1.dst <;> cases isT t u2.dst <;> rfl
    | box b p =>
      simp only [keepTag]
      cases u1.bw with
      | none => rfl
      | some x1 =>
        cases u2.bw with
        | none => rfl
        | some x2 =>
          obtain ⟨c1, _⟩ := x1
          obtain ⟨c2, _⟩ := x2
          simp only []
          cases Nat.beq b c1 <;> cases Nat.beq b c2 <;> rfl
theorem tagRes_off {u u' : Upd} (h : ∀ r ∈ tagRes u, r ∉ u'.writes) : keepTag u' u.ent.tag = u.ent.tag := by
  unfold tagRes at h
  cases hq : u.ent.tag with
  | none => rfl
  | some kl =>
    obtain ⟨k, l⟩ := kl
    rw [hq] at h
    exact keepTag_off (h _ (by simp))
theorem isT_true {t : Tmp} {d : Option Tmp} (h : isT t d = true) : d = some t := by
  cases d with
  | none => cases h
  | some e => have := nbeq h; subst this; rfl

/-- TWO CHANGES THAT DO NOT TOUCH EACH OTHER -/
theorem apply_comm {u1 u2 : Upd} (hw : ∀ r ∈ u1.writes, r ∉ u2.writes) (h1 : ∀ r ∈ tagRes u1, r ∉ u2.writes) (h2 : ∀ r ∈ tagRes u2, r ∉ u1.writes) : apply (apply st u1) u2 = apply (apply st u2) u1 := by
  have hw' : ∀ r ∈ u2.writes, r ∉ u1.writes := fun r hr hq => hw r hq hr
  have henv : (apply (apply st u1) u2).env = (apply (apply st u2) u1).env := by
    funext t
    have e1 := tagRes_off h1
    have e2 := tagRes_off h2
    cases hq1 : isT t u1.dst with
    | true =>
      have hd := isT_true hq1
      have hn : isT t u2.dst = false := isT_ne.2 fun e => hw _ (mem_dst hd).1 (mem_dst e).1
      simp only [apply, hq1, hn, cnd_true, cnd_false, e1]
    | false =>
      cases hq2 : isT t u2.dst with
      | true => simp only [apply, hq1, hq2, cnd_true, cnd_false, e2]
      | false => simp only [apply, hq1, hq2, cnd_false, keepTag_comm u1 u2]
  have hrd : (apply (apply st u1) u2).rd = (apply (apply st u2) u1).rd := by
    simp only [apply]
    cases hq1 : u1.rd with
    | none => rfl
    | some d1 =>
      cases hq2 : u2.rd with
      | none => rfl
      | some d2 => exact absurd (mem_rd hq2) (hw _ (mem_rd hq1))
  have hbox : (apply (apply st u1) u2).box = (apply (apply st u2) u1).box := by
    funext b
    by_cases hb1 : Res.box b ∈ u1.writes
    · have hb2 := hw _ hb1
      rw [box_off hb2]
      simp only [apply]
      cases hq1 : u1.bw with
      | none =>
        simp only []
        cases hq2 : u2.bw with
        | none => rfl
        | some x2 =>
          obtain ⟨c, d, o', q⟩ := x2
          have : Nat.beq b c = false := by
            cases hq : Nat.beq b c with
            | true => exact absurd (mem_bw (by rw [nbeq hq]; exact hq2)) hb2
            | false => rfl
          simp [this]
      | some x1 =>
        obtain ⟨c1, d1, o1, q1⟩ := x1
        simp only []
        cases hq2 : u2.bw with
        | none => rfl
        | some x2 =>
          obtain ⟨c, d, o', q⟩ := x2
          have : Nat.beq b c = false := by
            cases hq : Nat.beq b c with
            | true => exact absurd (mem_bw (by rw [nbeq hq]; exact hq2)) hb2
            | false => rfl
          simp [this]
    · rw [box_off hb1]
      simp only [apply]
      cases hq2 : u2.bw with
      | none => exact box_off hb1
      | some x2 =>
        obtain ⟨c, d, o', q⟩ := x2
        simp only []
        have : _ = st.box b := box_off (st := st) hb1
        simp only [apply] at this
        rw [this]
  have hown : (apply (apply st u1) u2).own = (apply (apply st u2) u1).own := by
    funext l
    by_cases hb1 : l.res ∈ u1.writes
    · have hb2 := hw _ hb1
      rw [own_off hb2]
      have e2 := own_off (st := st) hb2
      have : ∀ {s s' : St}, s.own l = s'.own l → (apply s u1).own l = (apply s' u1).own l := by
        intro s s' he
        cases l with
        | tmp t p => simp only [apply, he]
        | box b p =>
          simp only [apply]
          cases u1.bw with
          | none => simp only [he]
          | some x => simp only [he]
      exact (this e2).symm
    · rw [own_off hb1]
      have e1 := own_off (st := st) hb1
      have : ∀ {s s' : St}, s.own l = s'.own l → (apply s u2).own l = (apply s' u2).own l := by
        intro s s' he
        cases l with
        | tmp t p => simp only [apply, he]
        | box b p =>
          simp only [apply]
          cases u2.bw with
          | none => simp only [he]
          | some x => simp only [he]
      exact this e1
  have hio : (apply (apply st u1) u2).io = (apply (apply st u2) u1).io := by
    have cong : ∀ (u : Upd) (b : Tmp) {s s' : St}, s.io b = s'.io b → (apply s u).io b = (apply s' u).io b := by
      intro u b s s' he
      unfold apply
      cases u.xw with
      | none => cases u.xk <;> simp only [he]
      | some x => cases u.xk <;> simp only [he]
    funext b
    by_cases hb1 : Res.box b ∈ u1.writes
    · have hb2 := hw _ hb1
      rw [io_off hb2]
      exact (cong u1 b (io_off hb2)).symm
    · rw [io_off hb1]
      exact cong u2 b (io_off hb1)
  have hxb : (apply (apply st u1) u2).xb = (apply (apply st u2) u1).xb := by
    have cong : ∀ (u : Upd) (b : Tmp) {s s' : St}, s.xb b = s'.xb b → (apply s u).xb b = (apply s' u).xb b := by
      intro u b s s' he
      simp only [apply]
      cases u.xbw with
      | none => exact he
      | some x => simp only [he]
    funext b
    by_cases hb1 : Res.box b ∈ u1.writes
    · have hb2 := hw _ hb1
      rw [xb_off hb2]
      exact (cong u1 b (xb_off hb2)).symm
    · rw [xb_off hb1]
      exact cong u2 b (xb_off hb1)
  have hrb : (apply (apply st u1) u2).rb = (apply (apply st u2) u1).rb := by
    have cong : ∀ (u : Upd) (b : Tmp) {s s' : St}, s.rb b = s'.rb b → (apply s u).rb b = (apply s' u).rb b := by
      intro u b s s' he
      simp only [apply]
      cases u.rw with
      | none => exact he
      | some x => simp only [he]
    funext b
    by_cases hb1 : Res.box b ∈ u1.writes
    · have hb2 := hw _ hb1
      rw [rb_off hb2]
      exact (cong u1 b (rb_off hb2)).symm
    · rw [rb_off hb1]
      exact cong u2 b (rb_off hb1)
  have ext : ∀ {s s' : St}, s.env = s'.env → s.box = s'.box → s.own = s'.own → s.rd = s'.rd → s.kn = s'.kn → s.io = s'.io → s.xb = s'.xb → s.mkt = s'.mkt → s.rb = s'.rb → s = s' := by
    intro s s' a b c d e f g k l
    cases s; cases s'
    simp only at a b c d e f g k l
    subst a; subst b; subst c; subst d; subst e; subst f; subst g; subst k; subst l; rfl
  exact ext henv hbox hown hrd rfl hio hxb rfl hrb

/-- what an operand looks at, seen from before -/
theorem readsX_on {u : Upd} {x : Operand} (h : ∀ r ∈ readsX st x, r ∉ u.writes) : readsX (apply st u) x = readsX st x := by
  cases x with
  | tmp t =>
    have he : (apply st u).env t = st.env t := (look_off (x := .tmp t) h).ent
    have hx : xbRes (apply st u) (st.env t).av = xbRes st (st.env t).av := by
      cases hav : (st.env t).av with
      | cx b p =>
        have : Res.box b ∉ u.writes := h _ (by simp [readsX, hav, avRes])
        simp only [xbRes, xb_off this, rb_off this]
      | _ => rfl
    simp only [readsX, he, hx]
  | _ => rfl
theorem readsL_on {u : Upd} : ∀ {l : List Operand}, (∀ r ∈ readsL st l, r ∉ u.writes) → readsL (apply st u) l = readsL st l
  | [], _ => rfl
  | x :: l, h => by
    simp only [readsL] at h ⊢
    rw [readsX_on fun r hr => h r (by simp [hr]), readsL_on fun r hr => h r (by simp [hr])]
theorem reads_on {u : Upd} (h : ∀ r ∈ reads st o, r ∉ u.writes) : reads (apply st u) o = reads st o := by
  have e : exNo (apply st u) o.dst o.op = exNo st o.dst o.op := exNo_eq (mkD_apply _ _) fun t i hp => by rw [apply_av (h _ (exNo_reads hp))]
  have e2 : mvNo (apply st u) o.op = mvNo st o.op := mvNo_eq fun t hp => by rw [apply_av (h _ (mvNo_reads hp))]
  have e3 : ∀ t, mvNo st o.op = some t → Res.tmp t ∉ u.writes := fun t hq => by
    obtain ⟨q, hp, _⟩ := mvNo_some hq
    exact h _ (mvNo_reads hp)
  unfold reads at h ⊢
  rw [e, e2]
  cases hq : exNo st o.dst o.op with
  | some t => rfl
  | none =>
    rw [hq] at h
    simp only [] at h ⊢
    cases hm : mvNo st o.op with
    | some t => simp only []; rw [readsM_off (e3 t hm)]
    | none =>
      rw [hm] at h
      simp only [] at h ⊢
      rw [readsL_on fun r hr => h r (by simp [hr])]
theorem step_on {u : Upd} (h : ∀ r ∈ reads st o, r ∉ u.writes) : stepC tab G o (apply st u) = stepC tab G o st := step_same h

theorem one_on {ops : List Oper} {u' u : Upd} {rs : List Res} (h : oneU tab G ops o st = some (u, rs)) (hr : ∀ r ∈ rs, r ∉ u'.writes) : oneU tab G ops o (apply st u') = some (u, rs) := by
  have rsOf : ∀ {st : St} {rs' : List Res}, (match stepC tab G o st with
      | some (.ret c u) => cond (chkB c) (some (u, rs')) none
      | some (.call _ _ F u) => F.map fun r => (u r, rs')
      | none => none : Option (Upd × List Res)) = some (u, rs) → rs' = rs := by
    intro st rs' hgo
    cases hc : stepC tab G o st with
    | none => rw [hc] at hgo; cases hgo
    | some c =>
      rw [hc] at hgo
      cases c with
      | ret c u2 =>
        cases hck : chkB c with
        | false => simp only [hck] at hgo; cases hgo
        | true => simp only [hck] at hgo; injection hgo with hgo; injection hgo
      | call rt rdt F u2 =>
        cases F with
        | none => cases hgo
        | some r => injection hgo with hgo; injection hgo
  unfold oneU at h ⊢
  cases hg : o.guard with
  | none =>
    rw [hg] at h
    simp only [] at h ⊢
    have := rsOf h
    subst this
    rw [reads_on hr, step_on (tab := tab) (G := G) hr]; exact h
  | some gw =>
    obtain ⟨g, want⟩ := gw
    rw [hg] at h
    simp only [] at h ⊢
    cases hgt : guardT ops g with
    | none => rw [hgt] at h; cases h
    | some t =>
      rw [hgt] at h
      simp only [] at h ⊢
      have hav : Res.tmp t ∈ rs → ((apply st u').env t).av = (st.env t).av := fun hm => by rw [apply_av (hr _ hm)]
      cases hq : (st.env t).av with
      | dat ty b =>
        rw [hq] at h
        cases ty <;> try (simp only [] at h; cases h; done)
        simp only [] at h
        cases hw : eqW b want with
        | true =>
          rw [hw] at h
          have h : (match stepC tab G o st with
            | some (.ret c u) => cond (chkB c) (some (u, Res.tmp t :: reads st o)) none
            | some (.call _ _ F u) => F.map fun r => (u r, Res.tmp t :: reads st o)
            | none => none : Option (Upd × List Res)) = some (u, rs) := h
          have := rsOf h
          subst this
          have hr' : ∀ r ∈ reads st o, r ∉ u'.writes := fun r hm => hr r (by simp [hm])
          have ha := hav (by simp)
          rw [ha, hq]
          simp only [hw]
          rw [reads_on hr', step_on (tab := tab) (G := G) hr']; exact h
        | false =>
          rw [hw] at h
          have h : some (skipU o, [Res.tmp t]) = some (u, rs) := h
          have hrs : rs = [Res.tmp t] := by injection h with h; injection h with _ h; exact h.symm
          have ha := hav (by rw [hrs]; simp)
          rw [ha, hq]
          simp only [hw]; exact h
      | skp =>
        rw [hq] at h
        have h : some (skipU o, [Res.tmp t]) = some (u, rs) := h
        have hrs : rs = [Res.tmp t] := by injection h with h; injection h with _ h; exact h.symm
        have ha := hav (by rw [hrs]; simp)
        rw [ha, hq]; exact h
      | _ => rw [hq] at h; simp only [] at h; cases h

/-! ### a run, its operations listed with what they change -/
structure Item where
  i : Nat
  o : Oper
  u : Upd
  rs : List Res
def Item.fp (x : Item) : FP := ⟨tagRes x.u ++ x.rs, x.u.writes⟩
def RunI (tab : Tab) (G : Gam) (ops : List Oper) : List Item → St → St → Prop
  | [], st, st' => st = st'
  | x :: xs, st, st' => oneU tab G ops x.o st = some (x.u, x.rs) ∧ RunI tab G ops xs (apply st x.u) st'

theorem runI_swap {ops : List Oper} {x y : Item} {r : List Item} (hi : indep x.fp y.fp = true) (h : RunI tab G ops (x :: y :: r) st st') : RunI tab G ops (y :: x :: r) st st' := by
  obtain ⟨h1, h2, h3⟩ := h
  obtain ⟨i1, i2, i3⟩ := indep_iff hi
  have i3' : ∀ r ∈ x.fp.reads, r ∉ y.fp.writes := fun r hr hq => i3 r hq hr
  refine ⟨one_off h2 (fun r hr hq => i1 r hq (by simp [Item.fp, hr])), one_on h1 (fun r hr => i3' r (by simp [Item.fp, hr])), ?_⟩
  rw [apply_comm (fun r hr hq => i2 r hq hr) (fun r hr hq => i1 r hq (by simp [Item.fp, hr])) (fun r hr => i3' r (by simp [Item.fp, hr]))]
  exact h3
theorem runI_bubble {ops : List Oper} {y : Item} {post : List Item} : ∀ {pre : List Item} {st : St}, (∀ x ∈ pre, indep x.fp y.fp = true) → RunI tab G ops (pre ++ y :: post) st st' → RunI tab G ops (y :: (pre ++ post)) st st'
  | [], _, _, h => h
  | x :: pre, st, hi, h => by
    obtain ⟨h1, h2⟩ := h
    have := runI_bubble (fun z hz => hi z (by simp [hz])) h2
    exact runI_swap (hi x (by simp)) ⟨h1, this⟩

theorem runT_items {ops : List Oper} : ∀ {rest : List Oper} {i : Nat} {st : St} {fs : List FP}, runT tab G ops rest st = some (st', fs) →
    ∃ xs : List Item, RunI tab G ops xs st st' ∧ xs.map Item.fp = fs ∧ xs.map (·.o) = rest ∧ xs.map (·.i) = List.range' i rest.length := by
  intro rest
  induction rest with
  | nil => intro i st fs h; injection h with h; injection h with h1 h2; subst h1; subst h2; exact ⟨[], rfl, rfl, rfl, rfl⟩
  | cons o rest ih =>
    intro i st fs h
    simp only [runT] at h
    cases hu : oneU tab G ops o st with
    | none => rw [hu] at h; cases h
    | some ur =>
      obtain ⟨u, rs⟩ := ur
      rw [hu] at h; simp only [] at h
      cases hrest : runT tab G ops rest (apply st u) with
      | none => rw [hrest] at h; cases h
      | some sf =>
        obtain ⟨s', fs'⟩ := sf
        rw [hrest] at h
        injection h with h; injection h with h1 h2; subst h1; subst h2
        obtain ⟨xs, k1, k2, k3, k4⟩ := ih (i := i + 1) hrest
        exact ⟨⟨i, o, u, rs⟩ :: xs, ⟨hu, k1⟩, by simp [k2, Item.fp], by simp [k3], by simp [k4, List.range'_succ]⟩
end
end Go.Den

namespace Go.Den
section
variable {P : Program} {tab : Tab} {G : Gam} {w0 : Base} {lim0 : Lim} {rb : Option Nat} {n : Nat}
variable {st st' : St} {a : Act} {w : World} {lim : Lim} {β : Mp}

theorem bget_bor : ∀ {k : Nat} {xs ys : List Bool}, bget k (bor xs ys) = true → bget k xs = true ∨ bget k ys = true
  | _, [], _, h => .inr h
  | 0, true :: _, [], _ => .inl rfl
  | 0, false :: _, [], h => by cases h
  | _ + 1, _ :: _, [], h => .inl h
  | 0, x :: xs, y :: ys, h => by
    cases x with
    | true => exact .inl rfl
    | false => exact .inr h
  | k + 1, x :: xs, y :: ys, h => bget_bor (k := k) (xs := xs) (ys := ys) h
theorem bget_bset : ∀ {k m : Nat} {xs : List Bool}, bget k (bset m xs) = true → k = m ∨ bget k xs = true
  | 0, 0, _, _ => .inl rfl
  | k + 1, 0, [], h => by cases k <;> cases h
  | k + 1, 0, _ :: _, h => .inr h
  | 0, m + 1, [], h => by cases h
  | 0, m + 1, _ :: _, h => .inr h
  | k + 1, m + 1, [], h => by
    rcases bget_bset (k := k) (m := m) (xs := []) h with h | h
    · exact .inl (by rw [h])
    · cases k <;> cases h
  | k + 1, m + 1, _ :: xs, h => by
    rcases bget_bset (k := k) (m := m) (xs := xs) h with h | h
    · exact .inl (by rw [h])
    · exact .inr h
theorem bget_maskOf {acc : List (List Bool)} {k : Nat} : ∀ {es : List Edge}, bget k (maskOf acc es) = true → ∃ e ∈ es, bindsAny e = true ∧ (k = e.on ∨ bget k (nthM e.on acc) = true)
  | [], h => by cases k <;> cases h
  | e :: es, h => by
    simp only [maskOf] at h
    cases hb : bindsAny e with
    | true =>
      rw [hb] at h
      rcases bget_bor h with h | h
      · exact ⟨e, by simp, hb, bget_bset h⟩
      · obtain ⟨e', h1, h2⟩ := bget_maskOf h
        exact ⟨e', by simp [h1], h2⟩
    | false =>
      rw [hb] at h
      obtain ⟨e', h1, h2⟩ := bget_maskOf h
      exact ⟨e', by simp [h1], h2⟩
theorem nthM_app : ∀ {acc more : List (List Bool)} {k j : Nat}, bget j (nthM k acc) = true → nthM k (acc ++ more) = nthM k acc
  | [], _, k, j, h => by cases k <;> cases j <;> cases h
  | m :: acc, more, 0, _, _ => rfl
  | m :: acc, more, k + 1, j, h => nthM_app (acc := acc) (k := k) (j := j) h
theorem nthM_at : ∀ {acc more : List (List Bool)} {m : List Bool}, nthM acc.length (acc ++ m :: more) = m
  | [], _, _ => rfl
  | _ :: acc, more, m => nthM_at (acc := acc)
theorem masks_ext : ∀ {os : List Oper} {acc : List (List Bool)}, ∃ more, masks os acc = acc ++ more
  | [], acc => ⟨[], by simp [masks]⟩
  | o :: os, acc => by
    obtain ⟨more, h⟩ := masks_ext (os := os) (acc := acc ++ [maskOf acc o.after.toList])
    exact ⟨maskOf acc o.after.toList :: more, by simp [masks, h]⟩
/-- what comes before an operation in every order: an edge leads to it -/
theorem masks_spec : ∀ {os : List Oper} {acc : List (List Bool)} {i k : Nat} {o : Oper}, os[i]? = some o → bget k (nthM (acc.length + i) (masks os acc)) = true →
    ∃ e ∈ o.after.toList, bindsAny e = true ∧ (k = e.on ∨ bget k (nthM e.on (masks os acc)) = true)
  | [], _, _, _, _, h, _ => by cases h
  | x :: os, acc, 0, k, o, h, hb => by
    injection h with h; subst h
    simp only [masks] at hb ⊢
    obtain ⟨more, hm⟩ := masks_ext (os := os) (acc := acc ++ [maskOf acc x.after.toList])
    rw [hm] at hb ⊢
    rw [List.append_assoc] at hb ⊢
    have : nthM (acc.length + 0) (acc ++ ([maskOf acc x.after.toList] ++ more)) = maskOf acc x.after.toList := nthM_at
    rw [this] at hb
    obtain ⟨e, h1, h2, h3⟩ := bget_maskOf hb
    refine ⟨e, h1, h2, h3.imp id fun h => ?_⟩
    rw [nthM_app h]; exact h
  | x :: os, acc, i + 1, k, o, h, hb => by
    simp only [masks] at hb ⊢
    refine masks_spec (os := os) (i := i) (by simpa using h) ?_
    have : (acc ++ [maskOf acc x.after.toList]).length + i = acc.length + (i + 1) := by simp; omega
    rw [this]; exact hb

theorem edgesBack_spec {i : Nat} : ∀ {es : List Edge}, edgesBack i es = true → ∀ e ∈ es, bindsAny e = true → e.on < i
  | [], _, e, he, _ => by cases he
  | x :: es, h, e, he, hb => by
    simp only [edgesBack] at h
    cases hq : cnd (bindsAny x) (Nat.blt x.on i) true with
    | false => rw [hq] at h; cases h
    | true =>
      rw [hq] at h
      rcases List.mem_cons.1 he with rfl | he
      · rw [hb] at hq; simpa [Nat.blt_eq] using hq
      · exact edgesBack_spec h e he hb
theorem edgesOk_spec : ∀ {os : List Oper} {i j : Nat} {o : Oper}, edgesOk os i = true → os[j]? = some o → ∀ e ∈ o.after.toList, bindsAny e = true → e.on < i + j
  | [], _, _, _, _, h => by cases h
  | x :: os, i, j, o, h, hj => by
    simp only [edgesOk] at h
    cases hq : edgesBack i x.after.toList with
    | false => rw [hq] at h; cases h
    | true =>
      rw [hq] at h
      cases j with
      | zero => injection hj with hj; subst hj; exact edgesBack_spec hq
      | succ j =>
        have := edgesOk_spec (os := os) (i := i + 1) (j := j) h (by simpa using hj)
        intro e he hb
        have := this e he hb
        omega

theorem pairOk_spec {m : List Bool} {f : FP} : ∀ {gs : List FP} {j : Nat}, pairOk m f gs j = true → ∀ (k : Nat) g, gs[k]? = some g → bget (j + k) m = true ∨ indep g f = true
  | [], _, _, _, _, h => by cases h
  | x :: gs, j, h, k, g, hk => by
    simp only [pairOk] at h
    cases hq : cnd (bget j m) true (indep x f) with
    | false => rw [hq] at h; cases h
    | true =>
      rw [hq] at h
      cases k with
      | zero =>
        injection hk with hk; subst hk
        rw [Nat.add_zero]
        cases hb : bget j m with
        | true => exact .inl rfl
        | false => rw [hb] at hq; exact .inr hq
      | succ k =>
        have := pairOk_spec (j := j + 1) h k g (by simpa using hk)
        rwa [Nat.add_assoc, Nat.add_comm 1 k] at this
theorem pairsOk_spec {ms : List (List Bool)} : ∀ {fs seen : List FP}, pairsOk ms seen fs seen.length = true → ∀ (k j : Nat) g f, k < j → (seen ++ fs)[k]? = some g → (seen ++ fs)[j]? = some f → seen.length ≤ j → bget k (nthM j ms) = true ∨ indep g f = true
  | [], seen, _, k, j, g, f, _, _, hj, hl => by
    rw [List.append_nil] at hj
    have := (List.getElem?_eq_some_iff.1 hj).1; omega
  | x :: fs, seen, h, k, j, g, f, hkj, hk, hj, hl => by
    simp only [pairsOk] at h
    cases hq : pairOk (nthM seen.length ms) x seen 0 with
    | false => rw [hq] at h; cases h
    | true =>
      rw [hq] at h
      have h : pairsOk ms (seen ++ [x]) fs (seen ++ [x]).length = true := by simpa using h
      by_cases he : j = seen.length
      · subst he
        have hf : f = x := by
          rw [List.getElem?_append_right (Nat.le_refl _)] at hj
          simpa using hj.symm
        subst hf
        rw [List.getElem?_append_left hkj] at hk
        have := pairOk_spec hq k g hk
        rwa [Nat.zero_add] at this
      · refine pairsOk_spec h k j g f hkj (by simpa using hk) (by simpa using hj) (by simp; omega)

theorem binds_any (e : Edge) : Region.binds .any e = bindsAny e := by
  unfold Region.binds bindsAny
  cases e.ground <;> rfl
theorem ready_mem {ops : Array Oper} {L : Array Bool} {i : Nat} (h : i ∈ Region.ready .any ops L) : i < ops.size ∧ L.getD i true = false ∧ ∃ o, ops[i]? = some o ∧ ∀ e ∈ o.after.toList, bindsAny e = true → L.getD e.on false = true := by
  unfold Region.ready at h
  simp only [List.mem_filter, List.mem_range, Bool.and_eq_true] at h
  obtain ⟨h1, h2, h3⟩ := h
  refine ⟨h1, by simpa using h2, ops[i], by simp [h1], fun e he hb => ?_⟩
  have : (ops[i]?).map (·.after.all fun e => !Region.binds .any e || L.getD e.on false) = some (ops[i].after.all fun e => !Region.binds .any e || L.getD e.on false) := by simp [h1]
  rw [this] at h3
  simp only [Option.getD_some] at h3
  rw [← Array.all_toList, List.all_eq_true] at h3
  have := h3 e he
  rw [binds_any, hb] at this
  simpa using this
theorem ready_of {ops : Array Oper} {L : Array Bool} {i : Nat} {o : Oper} (h1 : L.getD i true = false) (h2 : ops[i]? = some o) (h3 : ∀ e ∈ o.after.toList, bindsAny e = true → L.getD e.on false = true) : i ∈ Region.ready .any ops L := by
  unfold Region.ready
  have hi := (Array.getElem?_eq_some_iff.1 h2).1
  simp only [List.mem_filter, List.mem_range, Bool.and_eq_true]
  refine ⟨hi, by simpa using h1, ?_⟩
  rw [h2]
  simp only [Option.map_some, Option.getD_some]
  rw [← Array.all_toList, List.all_eq_true]
  intro e he
  rw [binds_any]
  cases hb : bindsAny e with
  | false => rfl
  | true => simpa using h3 e he hb

/-- what is still to be done -/
structure Left (ops : Array Oper) (ms : List (List Bool)) (L : Array Bool) (xs : List Item) : Prop where
  size : L.size = ops.size
  at' : ∀ x ∈ xs, ops[x.i]? = some x.o
  inc : xs.Pairwise fun x y => x.i < y.i
  pairs : xs.Pairwise fun x y => bget x.i (nthM y.i ms) = true ∨ indep x.fp y.fp = true
  all : ∀ i, i < ops.size → L.getD i true = false → ∃ x ∈ xs, x.i = i
  not : ∀ x ∈ xs, L.getD x.i true = false
  closed : ∀ (i k : Nat), L.getD i false = true → bget k (nthM i ms) = true → L.getD k false = true

theorem getD_set {L : Array Bool} {i j : Nat} {d : Bool} : (L.setIfInBounds i true).getD j d = if i = j ∧ j < L.size then true else L.getD j d := by
  rw [Array.getD_eq_getD_getElem?, Array.getD_eq_getD_getElem?, Array.getElem?_setIfInBounds]
  by_cases h : i = j
  · subst h
    by_cases hl : i < L.size
    · simp [hl]
    · simp [hl, Array.getElem?_eq_none (Nat.le_of_not_lt hl)]
  · simp [h]

theorem any_sound (hT : TabOk P tab) (hG : GamOk P G) {ops : Array Oper} {ms : List (List Bool)} (hms : ms = masks ops.toList []) (hE : edgesOk ops.toList 0 = true) {Q : Exit → Act → World → Prop} (hrb : ∀ k, some k = rb → k < w0.heap.size)
    (hd : ∀ o ∈ ops.toList, ∀ d, o.dst = some d → d < n) (hQ : ∀ a' w' lim' β', Sim w0 lim0 rb n st' a' w' lim' β' → Q .normal a' w') :
    ∀ (fuel : Nat) (L : Array Bool) (xs : List Item) (st : St) (a : Act) (w : World) (lim : Lim) (β : Mp), xs.length = fuel → Left ops ms L xs → RunI tab G ops.toList xs st st' → Sim w0 lim0 rb n st a w lim β → wpAny P .any ops Q fuel L a w := by
  intro fuel
  induction fuel with
  | zero =>
    intro L xs st a w lim β hl hx hr h
    have : xs = [] := List.length_eq_zero_iff.1 hl
    subst this
    have hr : st = st' := hr
    subst hr
    refine ⟨?_, hQ _ _ _ _ h⟩
    cases hq : Region.ready .any ops L with
    | nil => rfl
    | cons i is =>
      obtain ⟨h1, h2, _⟩ := ready_mem (i := i) (by rw [hq]; simp)
      obtain ⟨x, hx', _⟩ := hx.all i h1 h2
      cases hx'
  | succ fuel ih =>
    intro L xs st a w lim β hl hx hr h
    refine ⟨fun hnil => ?_, fun i hi => ?_⟩
    · -- the first that is left is ready
      exfalso
      cases xs with
      | nil => simp at hl
      | cons x xs =>
        have : x.i ∈ Region.ready .any ops L := by
          refine ready_of (hx.not x (by simp)) (hx.at' x (by simp)) fun e he hb => ?_
          have hop : ops.toList[x.i]? = some x.o := by simpa using hx.at' x (by simp)
          have hlt := edgesOk_spec hE hop e he hb
          rw [Nat.zero_add] at hlt
          have hxs := (Array.getElem?_eq_some_iff.1 (hx.at' x (by simp))).1
          have hsz : e.on < L.size := by rw [hx.size]; omega
          cases hq : L.getD e.on true with
          | true =>
            rw [Array.getD_eq_getD_getElem?, Array.getElem?_eq_getElem hsz] at hq ⊢
            simpa using hq
          | false =>
            obtain ⟨y, hy, hyi⟩ := hx.all e.on (by rw [← hx.size]; exact hsz) hq
            rcases List.mem_cons.1 hy with rfl | hy
            · omega
            · have := (List.pairwise_cons.1 hx.inc).1 y hy
              omega
        rw [hnil] at this; cases this
    · obtain ⟨h1, h2, o, h3, h4⟩ := ready_mem hi
      obtain ⟨y, hy, hyi⟩ := hx.all i h1 h2
      have hyo : y.o = o := by
        have := hx.at' y hy
        rw [hyi, h3] at this; injection this with this; exact this.symm
      obtain ⟨pre, post, rfl⟩ := List.append_of_mem hy
      -- what comes before it in every order is done
      have hmask : ∀ k, bget k (nthM i ms) = true → L.getD k false = true := by
        intro k hk
        rw [hms] at hk
        have hop : ops.toList[i]? = some o := by simpa using h3
        obtain ⟨e, he, hb, hk'⟩ := masks_spec (acc := []) hop (by simpa using hk)
        have hon := h4 e he hb
        rcases hk' with rfl | hk'
        · exact hon
        · exact hx.closed e.on k hon (by rw [hms]; exact hk')
      have hpre : ∀ x ∈ pre, indep x.fp y.fp = true := by
        intro x hxm
        have hp := (List.pairwise_append.1 hx.pairs).2.2 x hxm y (by simp)
        rcases hp with hp | hp
        · exfalso
          rw [hyi] at hp
          have h5 := hmask _ hp
          have h6 := hx.not x (by simp [hxm])
          have : x.i < L.size := by rw [hx.size]; exact (Array.getElem?_eq_some_iff.1 (hx.at' x (by simp [hxm]))).1
          rw [Array.getD_eq_getD_getElem?, Array.getElem?_eq_getElem this] at h5 h6
          simp at h5 h6
          rw [h5] at h6; cases h6
        · exact hp
      obtain ⟨r1, r2⟩ := runI_bubble hpre hr
      have hL : Left ops ms (L.setIfInBounds i true) (pre ++ post) := by
        refine ⟨by simp [hx.size], fun x hxm => hx.at' x (by simp at hxm ⊢; rcases hxm with h | h <;> simp [h]), ?_, ?_, fun j hj hq => ?_, fun x hxm => ?_, fun j k hj hk => ?_⟩
        · exact List.Pairwise.sublist (List.Sublist.append (List.Sublist.refl _) (List.sublist_cons_self _ _)) hx.inc
        · exact List.Pairwise.sublist (List.Sublist.append (List.Sublist.refl _) (List.sublist_cons_self _ _)) hx.pairs
        · rw [getD_set] at hq
          split at hq
          · cases hq
          · rename_i hne
            obtain ⟨x, hxm, hxi⟩ := hx.all j hj hq
            refine ⟨x, ?_, hxi⟩
            simp only [List.mem_append, List.mem_cons] at hxm ⊢
            rcases hxm with h | h | h
            · exact .inl h
            · exfalso; subst h; exact hne ⟨by omega, by rw [hx.size]; exact hj⟩
            · exact .inr h
        · rw [getD_set]
          have hlt : x.i ≠ i := by
            intro he
            rcases List.mem_append.1 hxm with h | h
            · have := (List.pairwise_append.1 hx.inc).2.2 x h y (by simp); omega
            · have := (List.pairwise_cons.1 (List.pairwise_append.1 hx.inc).2.1).1 x h; omega
          rw [if_neg (fun hc => hlt hc.1.symm)]
          exact hx.not x (by simp at hxm ⊢; rcases hxm with h | h <;> simp [h])
        · rw [getD_set] at hj ⊢
          split
          · rfl
          · split at hj
            · rename_i hij
              rw [← hij.1] at hk
              exact hmask k hk
            · exact hx.closed j k hj hk
      unfold wpOp
      rw [h3]
      simp only []
      have hyu : oneU tab G ops.toList o st = some (y.u, y.rs) := by rw [← hyo]; exact r1
      have hdo : ∀ d, o.dst = some d → d < n := hd o (by have := Array.mem_of_getElem? h3; simpa using this)
      have := one_sound (ops := ops) hT hG h hrb hdo hyu (wpAny P .any ops Q fuel (L.setIfInBounds i true)) Q
        (fun a' w' lim' β' hs => ih _ _ _ _ _ _ _ (by simp at hl ⊢; omega) hL r2 hs)
      split
      · rename_i hw; rw [if_pos hw] at this; exact .inl this
      · rename_i hw; rw [if_neg hw] at this; exact this

theorem Sim.drew (h : Sim w0 lim0 rb n st a w lim β) : Sim w0 lim0 rb n st a { w with drawn := w.drawn + 1 } lim β := by
  have he : Ext w lim { w with drawn := w.drawn + 1 } lim := ⟨Nat.le_refl _, fun _ _ _ _ _ h => h, fun _ _ _ h => h⟩
  have locv : ∀ l, locV st a { w with drawn := w.drawn + 1 } β l = locV st a w β l := fun l => by cases l <;> rfl
  have has : ∀ l g, HasL st a { w with drawn := w.drawn + 1 } β l g → HasL st a w β l g := by
    rintro l g ⟨T, v, h1, h2, h3⟩
    rw [locv] at h2
    obtain ⟨e, hT, xs, hc⟩ := h.vis h1 h2 h3.oty
    exact ⟨T, v, h1, h2, (Blk_ext he hT hc).1 h3⟩
  refine ⟨h.size, h.defers, ⟨h.grow.os, h.grow.tape, h.grow.output, h.grow.size, h.grow.block⟩, h.limOld, h.xrb, h.rdk, fun t => ?_, fun b d hb => ?_, h.inj, fun l hl => ?_, fun l g hl hg => h.ownb l g hl (has l g hg), fun l l' g h1 h2 h3 h4 => h.sep l l' g h1 h2 (has l g h3) (has l' g h4), fun t l h1 h2 => ?_, fun d hd => ?_, ?_⟩
  · have := h.env t
    cases hav : (st.env t).av <;> rw [hav] at this
    case any => trivial
    case skp => exact this
    case nil => exact this
    case dat ty x => exact TRep.mono he this
    case cel => exact this
    case ref ty x =>
      obtain ⟨b, o, cs, h1, h2, h3, h4, h5⟩ := this
      exact ⟨b, o, cs, h1, h2, h3.mono he, h4, h5⟩
    case tup ty x =>
      obtain ⟨vs, h1, h2⟩ := this
      exact ⟨vs, h1, h2.mono he⟩
    case rdr => exact this
    case xf => exact this
    case xp => exact this
    case xt => exact this
    case cx => exact this
    case fn => exact this
    case xe => exact this
    case mx => exact this
  · obtain ⟨cells, e, h1, h2, h3, h4⟩ := h.box b d hb
    exact ⟨cells, e, h1, h2.mono he, h3, h4⟩
  · obtain ⟨T, v, h1, h2, h3⟩ := h.own l hl
    obtain ⟨e, hT, xs, hc⟩ := h.vis h1 h2 h3.oty
    exact ⟨T, v, h1, by rw [locv]; exact h2, OwnT_ext he hT hc h3 (fun _ _ => ⟨rfl, rfl⟩)⟩
  · rw [locv]; exact h.tag t l h1 h2
  · obtain ⟨b, cells, e, h1, h2, h3, h4, h5⟩ := h.rd d hd
    exact ⟨b, cells, e, h1, h2, h3, h4.mono he, h5⟩
  · exact h.xs.keep rfl rfl (fun _ _ _ => ⟨rfl, rfl⟩) (fun _ _ _ _ => rfl) (fun _ _ => ⟨rfl, rfl⟩) (fun b d hb => h.xs.offb hb) (fun l g hl hg => h.xs.off hl (has l g hg))

theorem draw_sound (hT : TabOk P tab) (hG : GamOk P G) (hm : P.follows .mixedOrders = true) {id : Nat} {ops : Array Oper} {Q : Exit → Act → World → Prop} (hrb : ∀ k, some k = rb → k < w0.heap.size)
    (hd : ∀ o ∈ ops.toList, ∀ d, o.dst = some d → d < n) {fs : List FP} (hr : runT tab G ops.toList ops.toList st = some (st', fs)) (hE : edgesOk ops.toList 0 = true) (hP : pairsOk (masks ops.toList []) [] fs 0 = true)
    (h : Sim w0 lim0 rb n st a w lim β) (hQ : ∀ a' w' lim' β', Sim w0 lim0 rb n st' a' w' lim' β' → Q .normal a' w') : (Code.region id ops true).wp P Q a w := by
  refine wp_region_any hm ?_
  obtain ⟨xs, k1, k2, k3, k4⟩ := runT_items (i := 0) hr
  have hlen : xs.length = ops.size := by have := congrArg List.length k3; simpa using this
  have hi : ∀ (j : Nat) (x : Item), xs[j]? = some x → x.i = j := by
    intro j x hj
    have h1 : (xs.map (·.i))[j]? = some x.i := by simp [hj]
    rw [k4] at h1
    have hlt := (List.getElem?_eq_some_iff.1 h1).1
    simp at hlt
    rw [List.getElem?_range' (by simpa using hlt)] at h1
    injection h1 with h1; omega
  have hpw : ∀ (R : Item → Item → Prop), (∀ (k j : Nat) x y, k < j → xs[k]? = some x → xs[j]? = some y → R x y) → xs.Pairwise R := by
    intro R hR
    rw [List.pairwise_iff_getElem]
    intro i j hi' hj' hij
    exact hR i j _ _ hij (List.getElem?_eq_getElem hi') (List.getElem?_eq_getElem hj')
  refine any_sound hT hG rfl hE hrb hd hQ ops.size _ xs _ _ _ _ _ hlen ⟨by simp, fun x hx => ?_, ?_, ?_, fun i hi' _ => ?_, fun x hx => ?_, fun i k hL _ => ?_⟩ k1 h.drew
  · obtain ⟨j, hj⟩ := List.getElem?_of_mem hx
    have h1 : (xs.map (·.o))[j]? = some x.o := by simp [hj]
    rw [k3] at h1
    rw [hi j x hj]
    simpa using h1
  · exact hpw _ fun k j x y hkj hx hy => by rw [hi k x hx, hi j y hy]; exact hkj
  · refine hpw _ fun k j x y hkj hx hy => ?_
    rw [hi k x hx, hi j y hy]
    have hfs : ∀ (j : Nat) x, xs[j]? = some x → fs[j]? = some x.fp := fun j x hj => by rw [← k2]; simp [hj]
    exact pairsOk_spec (seen := []) hP k j x.fp y.fp hkj (by simpa using hfs k x hx) (by simpa using hfs j y hy) (by simp)
  · have : i < xs.length := by omega
    exact ⟨xs[i], by simp, hi i _ (List.getElem?_eq_getElem this)⟩
  · obtain ⟨j, hj⟩ := List.getElem?_of_mem hx
    have hlt := (List.getElem?_eq_some_iff.1 hj).1
    rw [hi j x hj, Array.getD_eq_getD_getElem?]
    simp [show j < ops.size by omega]
  · exfalso
    rw [Array.getD_eq_getD_getElem?] at hL
    by_cases hlt : i < ops.size <;> simp [hlt] at hL
end
end Go.Den

namespace Go.Den
section
variable {P : Program} {tab : Tab} {G : Gam} {w0 : Base} {lim0 : Lim} {rb : Option Nat} {n : Nat}
variable {st st' : St} {a : Act} {w : World} {lim : Lim} {β : Mp}

/-- a state that knows less -/
structure Weak (st' st : St) : Prop where
  env : ∀ t, ((st'.env t).av = .any ∨ ∃ f, (st'.env t).av = .fn f ∧ (st.env t).av = .fn f) ∨ (∃ ty x, (st'.env t).av = .dat ty x ∧ AV.as ty (st.env t).av = some x) ∨
    (∃ b p d, (st'.env t).av = .cel b p ∧ (st.env t).av = .cel b p ∧ st'.box b = some d) ∨ (∃ d, (st'.env t).av = .rdr [] ∧ (st.env t).av = .rdr [] ∧ st'.rd = some d) ∨
    (∃ r p d, (st'.env t).av = .xf r p ∧ (st.env t).av = .xf r p ∧ st'.io r = some d) ∨ (∃ b p d, (st'.env t).av = .cx b p ∧ (st.env t).av = .cx b p ∧ st'.xb b = some d)
  tag : ∀ t, (st'.env t).tag = none
  box : ∀ b d, st'.box b = some d → st.box b = some d
  own : ∀ l, st'.own l = true → st.own l = true
  ownT : ∀ t p, st'.own (.tmp t p) = true → ∃ ty x, (st'.env t).av = .dat ty x
  ownB : ∀ b p, st'.own (.box b p) = true → ∃ d, st'.box b = some d
  rd : ∀ d, st'.rd = some d → st.rd = some d
  io : ∀ r d, st'.io r = some d → st.io r = some d
  xb : ∀ b t o, st'.xb b = some (t, o) → st.xb b = some (t, o) ∧ ∀ r q, o = some (r, q) → ∃ d, st'.io r = some d

theorem as_dat {t : Ty} {av : AV} {x : t.val} (h : AV.as t av = some x) : av = .dat t x ∨ av = .nil := by
  cases av with
  | dat u y =>
    obtain ⟨h1, h2⟩ := cast_some h
    subst h1; subst h2; exact .inl rfl
  | nil => exact .inr rfl
  | _ => cases h

theorem unpackRd_rb {st : St} : ∀ {r : Option Ty} {x : (rdTy r).val}, (unpackRd st r x).rb = st.rb
  | none, _ => rfl
  | some _, _ => rfl
theorem unpackIo_rb {st : St} {r : Option Ty} : ∀ {is : List (Tmp × Ty)} {x : (ioTy is (rdTy r)).val}, (unpackIo st r is x).rb = st.rb
  | [], _ => unpackRd_rb
  | (_, _) :: is, x => unpackIo_rb (is := is) (x := x.2)
theorem unpackBox_rb {st : St} {S : Shp} : ∀ {bs : List (Tmp × Ty × List (List Nat))} {x : (boxTy bs S.low).val}, (unpackBox st S bs x).rb = st.rb
  | [], x => unpackIo_rb (is := S.io) (x := x)
  | (_, _, _) :: bs, x => unpackBox_rb (bs := bs) (x := x.2)
theorem unpackEnv_rb {st : St} {S : Shp} : ∀ {es : List (Tmp × ShE)} {x : (envTy es (boxTy S.box S.low)).val}, (unpackEnv st S es x).rb = st.rb
  | [], x => unpackBox_rb (bs := S.box) (x := x)
  | (_, .dat _ _) :: es, x => unpackEnv_rb (es := es) (x := x.2)
  | (_, .cel _ _) :: es, x => unpackEnv_rb (es := es) (x := x)
  | (_, .rdr) :: es, x => unpackEnv_rb (es := es) (x := x)
  | (_, .xf _ _) :: es, x => unpackEnv_rb (es := es) (x := x)
  | (_, .cx _ _) :: es, x => unpackEnv_rb (es := es) (x := x)
  | (_, .fn _) :: es, x => unpackEnv_rb (es := es) (x := x)
theorem unpack_rb {S : Shp} {x : S.ty.val} (b : Tmp) : (unpack S x).rb b = none := by
  have : (unpack S x).rb = st00.rb := unpackEnv_rb (es := S.env) (x := x)
  rw [this]; rfl
theorem Sim.weak (h : Sim w0 lim0 rb n st a w lim β) (hw : Weak st' st) (hrw : ∀ b, st'.rb b = none) : Sim w0 lim0 rb n st' a w lim β := by
  have loc : ∀ l, st'.own l = true → locTy st' l = locTy st l ∧ locV st' a w β l = locV st a w β l := by
    intro l hl
    have ho := hw.own l hl
    cases l with
    | tmp t p =>
      obtain ⟨ty, x, h1⟩ := hw.ownT t p hl
      obtain ⟨e, v, k1, k2, _⟩ := h.own _ ho
      have : (st.env t).av = .dat ty x := by
        rcases hw.env t with (h2 | ⟨_, h2, _⟩) | ⟨ty', x', h2, h3⟩ | ⟨b, q, d, h2, _⟩ | ⟨d, h2, _⟩ | ⟨_, _, _, h2, _⟩ | ⟨_, _, _, h2, _⟩
        · rw [h1] at h2; cases h2
        · rw [h1] at h2; cases h2
        · rw [h1] at h2; injection h2 with h4 h5; subst h4; have h5 := eq_of_heq h5; subst h5
          rcases as_dat h3 with h6 | h6
          · exact h6
          · simp only [locTy, h6] at k1; cases k1
        · rw [h1] at h2; cases h2
        · rw [h1] at h2; cases h2
        · rw [h1] at h2; cases h2
        · rw [h1] at h2; cases h2
      simp only [locTy, locV, h1, this, and_self]
    | box b p =>
      obtain ⟨d, h1⟩ := hw.ownB b p hl
      have := hw.box b d h1
      simp only [locTy, locV, h1, this, and_self]
  have has : ∀ l g, st'.own l = true → HasL st' a w β l g → HasL st a w β l g := by
    rintro l g hl ⟨T, v, h1, h2, h3⟩
    obtain ⟨m1, m2⟩ := loc l hl
    exact ⟨T, v, by rw [← m1]; exact h1, by rw [← m2]; exact h2, h3⟩
  refine ⟨h.size, h.defers, h.grow, h.limOld, h.xrb, (fun d b hd => h.rdk d b (hw.rd d hd)), fun t => ?_, fun b d hb => h.box b d (hw.box b d hb), fun b c d d' h1 h2 h3 => h.inj b c d d' (hw.box b d h1) (hw.box c d' h2) h3, fun l hl => ?_, fun l g hl hg b d hb => h.ownb l g (hw.own l hl) (has l g hl hg) b d (hw.box b d hb), fun l l' g h1 h2 h3 h4 => h.sep l l' g (hw.own l h1) (hw.own l' h2) (has l g h1 h3) (has l' g h2 h4), fun t l h1 h2 => ?_, fun d hd => h.rd d (hw.rd d hd), ?_⟩
  · have ht := h.env t
    rcases hw.env t with (h2 | ⟨f, h2, h3⟩) | ⟨ty, x, h2, h3⟩ | ⟨b, q, d, h2, h3, h4⟩ | ⟨d, h2, h3, h4⟩ | ⟨r, p, d, h2, h3, h4⟩ | ⟨b, p, d, h2, h3, h4⟩
    · rw [h2]; trivial
    · rw [h3] at ht; rw [h2]; exact ht
    · rw [h2]; exact as_rep h3 ht
    · rw [h3] at ht; rw [h2]
      obtain ⟨d', k1, k2⟩ := ht
      have := hw.box b d h4
      rw [k1] at this; injection this with this; subst this
      exact ⟨d', h4, k2⟩
    · rw [h3] at ht; rw [h2]
      obtain ⟨d', b, k1, k2, k3⟩ := ht
      have := hw.rd d h4
      rw [k1] at this; injection this with this; subst this
      exact ⟨d', b, h4, k2, k3⟩
    · rw [h3] at ht; rw [h2]
      obtain ⟨d', k1, k2⟩ := ht
      have := hw.io r d h4
      rw [k1] at this; injection this with this; subst this
      exact ⟨d', h4, k2⟩
    · rw [h3] at ht; rw [h2]
      obtain ⟨t', o', k1, k2⟩ := ht
      obtain ⟨dt, dO⟩ := d
      have := (hw.xb b dt dO h4).1
      rw [k1] at this; injection this with this; injection this with e1 e2; subst e1
      exact ⟨t', dO, h4, k2⟩
  · obtain ⟨e, v, k1, k2, k3⟩ := h.own l (hw.own l hl)
    obtain ⟨m1, m2⟩ := loc l hl
    exact ⟨e, v, m1.trans k1, m2.trans k2, k3⟩
  · rw [hw.tag t] at h1; cases h1
  · have hown : ∀ l g, st'.own l = true → HasL st' a w β l g → st.own l = true ∧ HasL st a w β l g := fun l g hl hv => ⟨hw.own l hl, has l g hl hv⟩
    refine ⟨fun r d hr => h.xs.io r d (hw.io r d hr), fun r d g hr hg => h.xs.base r d g (hw.io r d hr) hg, fun r d g hr hg b d' hb => h.xs.box r d g (hw.io r d hr) hg b d' (hw.box b d' hb),
      fun r d g hr hg l hl hv => h.xs.own r d g (hw.io r d hr) hg l (hown l g hl hv).1 (hown l g hl hv).2, fun r d r' d' g hr hr' => h.xs.dis r d r' d' g (hw.io r d hr) (hw.io r' d' hr'), fun b t o hb => ?_, fun b t o hb => ?_,
      fun b c t o t' o' hb hc => h.xs.xinj b c t o t' o' (hw.xb b t o hb).1 (hw.xb c t' o' hc).1, fun d hd => h.xs.fix d (hw.io 0 d hd), fun d hd => h.xs.kx d (hw.io 0 d hd), fun b d ps hb => (by rw [hrw] at hb; cases hb)⟩
    · obtain ⟨k1, k2⟩ := hw.xb b t o hb
      obtain ⟨cells, e, m1, m2, m3, m4, m5⟩ := h.xs.xb b t o k1
      refine ⟨cells, e, m1, m2, m3, m4, fun r q ho => ?_⟩
      obtain ⟨d, n1, n2⟩ := m5 r q ho
      obtain ⟨d', n4⟩ := k2 r q ho
      have := hw.io r d' n4
      rw [n1] at this; injection this with this; subst this
      exact ⟨d, n4, n2⟩
    · obtain ⟨k1, _⟩ := hw.xb b t o hb
      obtain ⟨m1, m2, m3⟩ := h.xs.xbox b t o k1
      exact ⟨fun c d hc => m1 c d (hw.box c d hc), fun l hl hv => m2 l (hown l _ hl hv).1 (hown l _ hl hv).2, fun r d hr => m3 r d (hw.io r d hr)⟩

theorem swT_swT (r c k : Tmp) : swT r c (swT r c k) = k := by
  unfold swT
  by_cases h1 : k = r
  · subst h1
    rw [Nat.beq_refl, cnd_true]
    by_cases h2 : c = k
    · subst h2; rw [Nat.beq_refl, cnd_true]
    · have : Nat.beq c k = false := by
        cases hq : Nat.beq c k with
        | true => exact absurd (nbeq hq) h2
        | false => rfl
      rw [this, cnd_false, Nat.beq_refl, cnd_true]
  · have e1 : Nat.beq k r = false := by
      cases hq : Nat.beq k r with
      | true => exact absurd (nbeq hq) h1
      | false => rfl
    rw [e1, cnd_false]
    by_cases h2 : k = c
    · subst h2
      rw [Nat.beq_refl, cnd_true, Nat.beq_refl, cnd_true]
    · have e2 : Nat.beq k c = false := by
        cases hq : Nat.beq k c with
        | true => exact absurd (nbeq hq) h2
        | false => rfl
      rw [e2, cnd_false, e1, cnd_false, e2, cnd_false]
theorem swT_zero {r c : Tmp} (hr : r ≠ 0) (hc : c ≠ 0) : swT r c 0 = 0 := by
  have e1 : Nat.beq 0 r = false := by
    cases hq : Nat.beq 0 r with
    | true => exact absurd (nbeq hq).symm hr
    | false => rfl
  have e2 : Nat.beq 0 c = false := by
    cases hq : Nat.beq 0 c with
    | true => exact absurd (nbeq hq).symm hc
    | false => rfl
  simp only [swT, e1, e2, cnd_false]
def swM (r c : Tmp) (β : Mp) : Mp := { β with V := fun k => β.V (swT r c k), B := fun k => β.B (swT r c k) }
theorem swPs_mem {r c : Tmp} : ∀ {ps : List (List Nat × Tmp × List Nat)} {p : List Nat} {k : Tmp} {q : List Nat}, (p, k, q) ∈ swPs r c ps → (p, swT r c k, q) ∈ ps
  | [], _, _, _, h => by cases h
  | (p', k', q') :: ps, p, k, q, h => by
    simp only [swPs] at h
    rcases List.mem_cons.1 h with h | h
    · injection h with h1 h2; injection h2 with h2 h3
      subst h1; subst h2; subst h3
      rw [swT_swT]; exact List.mem_cons_self
    · exact List.mem_cons_of_mem _ (swPs_mem h)
theorem swPs_mem' {r c : Tmp} : ∀ {ps : List (List Nat × Tmp × List Nat)} {p : List Nat} {k : Tmp} {q : List Nat}, (p, k, q) ∈ ps → (p, swT r c k, q) ∈ swPs r c ps
  | (p', k', q') :: ps, p, k, q, h => by
    simp only [swPs]
    rcases List.mem_cons.1 h with h | h
    · injection h with h1 h2; injection h2 with h2 h3
      subst h1; subst h2; subst h3
      exact List.mem_cons_self
    · exact List.mem_cons_of_mem _ (swPs_mem' h)
theorem MixOk.swap {r c : Tmp} {d : Dat} {ps : List (List Nat × Tmp × List Nat)} {cs : List Value} (h : MixOk st β d ps cs) : MixOk (swSt r c st) (swM r c β) d (swPs r c ps) cs := by
  obtain ⟨⟨vc, k1, k2, k3⟩, h2⟩ := h
  refine ⟨⟨vc, k1, k2, fun j hj => k3 j fun p k q u hp => hj p (swT r c k) q u (swPs_mem' hp)⟩, fun p k q hp => ?_⟩
  obtain ⟨dr, m1, m2⟩ := h2 p _ q (swPs_mem hp)
  exact ⟨dr, m1, m2⟩
theorem Sim.swap (h : Sim w0 lim0 rb n st a w lim β) {r c : Tmp} (hr : r ≠ 0) (hc : c ≠ 0) : Sim w0 lim0 rb n (swSt r c st) a w lim (swM r c β) := by
  have lt : ∀ l, locTy (swSt r c st) l = locTy st l := fun l => by
    cases l with
    | tmp t p => simp only [locTy, swSt]; cases (st.env t).av <;> rfl
    | box b p => rfl
  have lv : ∀ l, locV (swSt r c st) a w (swM r c β) l = locV st a w β l := fun l => by
    cases l with
    | tmp t p => simp only [locV, swSt]; cases (st.env t).av <;> rfl
    | box b p => rfl
  have lh : ∀ l g, HasL (swSt r c st) a w (swM r c β) l g ↔ HasL st a w β l g := fun l g => by unfold HasL; rw [lt, lv]
  have xb0 : ∀ {b t o}, (swSt r c st).xb b = some (t, o) → ∃ o', st.xb b = some (t, o') ∧ ∀ k q, o = some (k, q) → o' = some (swT r c k, q) := fun {b t o} hb => by
    have hb : swXb r c (st.xb b) = some (t, o) := hb
    cases hx : st.xb b with
    | none => rw [hx] at hb; cases hb
    | some y =>
      obtain ⟨t', o'⟩ := y
      rw [hx] at hb
      cases o' with
      | none =>
        injection hb with hb; injection hb with e1 e2
        subst e1; subst e2
        exact ⟨none, rfl, fun k q hk => by cases hk⟩
      | some kq =>
        obtain ⟨k, q⟩ := kq
        injection hb with hb; injection hb with e1 e2
        subst e1; subst e2
        refine ⟨_, rfl, fun k' q' hk => ?_⟩
        injection hk with hk; injection hk with e1 e2
        subst e1; subst e2
        rw [swT_swT]
  refine ⟨h.size, h.defers, h.grow, h.limOld, h.xrb, h.rdk, fun t => ?_, h.box, h.inj, fun l hl => ?_, fun l g hl hg => h.ownb l g hl ((lh l g).1 hg), fun l l' g h1 h2 h3 h4 => h.sep l l' g h1 h2 ((lh l g).1 h3) ((lh l' g).1 h4), fun t l h1 h2 => ?_, h.rd, ?_⟩
  · have ht := h.env t
    show ERep (swSt r c st) w lim (swM r c β) rb (swAV r c (st.env t).av) (tmpOf a t)
    cases hav : (st.env t).av with
    | xf k p =>
      rw [hav] at ht
      obtain ⟨x, k1, k2⟩ := ht
      exact ⟨x, by show st.io (swT r c (swT r c k)) = some x; rw [swT_swT]; exact k1, by simp only [swM, swT_swT]; exact k2⟩
    | xp k p m q =>
      rw [hav] at ht
      obtain ⟨x, k1, k2⟩ := ht
      exact ⟨x, by show st.io (swT r c (swT r c k)) = some x; rw [swT_swT]; exact k1, by simp only [swM, swT_swT]; exact k2⟩
    | xt k =>
      rw [hav] at ht
      obtain ⟨x, k1, k2⟩ := ht
      exact ⟨x, by show st.io (swT r c (swT r c k)) = some x; rw [swT_swT]; exact k1, by simp only [swM, swT_swT]; exact k2⟩
    | cx b p =>
      rw [hav] at ht
      obtain ⟨t', o, k1, k2⟩ := ht
      have : ∃ o', (swSt r c st).xb b = some (t', o') := by
        show ∃ o', swXb r c (st.xb b) = some (t', o')
        rw [k1]
        cases o with
        | none => exact ⟨_, rfl⟩
        | some kq => exact ⟨_, rfl⟩
      obtain ⟨o', k3⟩ := this
      exact ⟨t', o', k3, k2⟩
    | xe m q =>
      rw [hav] at ht
      obtain ⟨x, k1, k2⟩ := ht
      exact ⟨x, by show st.io (swT r c 0) = some x; rw [swT_zero hr hc]; exact k1, by simp only [swM, swT_zero hr hc]; exact k2⟩
    | mx ty x ps =>
      rw [hav] at ht
      obtain ⟨cs, k1, k2, k3, k5, k4⟩ := ht
      exact ⟨cs, k1, k2, k3, k5, k4.swap⟩
    | _ => rw [hav] at ht; exact ht
  · rw [lt, lv]; exact h.own l hl
  · have h1 : (st.env t).tag = some (true, l) := h1
    rw [lv, lt]
    rcases h.tag t l h1 h2 with ⟨k1, e, x, k2, k3⟩ | ⟨e, x, g, o, m, cc, i, k2, k3⟩
    · refine .inl ⟨k1, e, x, ?_, k3⟩
      show swAV r c (st.env t).av = _
      rw [k2]; rfl
    · refine .inr ⟨e, x, g, o, m, cc, i, ?_, k3⟩
      show swAV r c (st.env t).av = _
      rw [k2]; rfl
  · refine ⟨fun k x hk => h.xs.io _ x hk, fun k x g hk hg => h.xs.base _ x g hk hg, fun k x g hk hg b d' hb => h.xs.box _ x g hk hg b d' hb, fun k x g hk hg l hl hv => ?_, fun k x k' x' g hk hk' hg hg' => ?_, fun b t o hb => ?_, fun b t o hb => ?_, fun b b' t o t' o' hb hb' => ?_, fun x hx hm => ?_, fun x hx => ?_, fun b d ps hb => ?_⟩
    · rw [lh] at hv
      exact h.xs.own _ x g hk hg l hl hv
    · have := h.xs.dis _ x _ x' g hk hk' hg hg'
      have e := congrArg (swT r c) this
      rwa [swT_swT, swT_swT] at e
    · obtain ⟨o', k1, k2⟩ := xb0 hb
      obtain ⟨cells, e, m1, m2, m3, m4, m5⟩ := h.xs.xb b t o' k1
      refine ⟨cells, e, m1, m2, m3, m4, fun k q ho => ?_⟩
      obtain ⟨x, n1, n2⟩ := m5 _ q (k2 k q ho)
      exact ⟨x, n1, n2⟩
    · obtain ⟨o', k1, _⟩ := xb0 hb
      obtain ⟨m1, m2, m3⟩ := h.xs.xbox b t o' k1
      exact ⟨m1, fun l hl hv => by rw [lh] at hv; exact m2 l hl hv, fun k x hk => m3 _ x hk⟩
    · obtain ⟨o1, k1, _⟩ := xb0 hb
      obtain ⟨o2, k2, _⟩ := xb0 hb'
      exact h.xs.xinj b b' t o1 t' o2 k1 k2
    · have e0 := swT_zero hr hc
      have hx : st.io (swT r c 0) = some x := hx
      rw [e0] at hx
      simp only [swM, e0]
      exact h.xs.fix x hx hm
    · have e0 := swT_zero hr hc
      have hx : st.io (swT r c 0) = some x := hx
      rw [e0] at hx
      simp only [swM, e0]
      exact h.xs.kx x hx
    · have hb : (match st.rb b with | some (d, ps) => some (d, swPs r c ps) | none => none) = some (d, ps) := hb
      cases hq : st.rb b with
      | none => rw [hq] at hb; cases hb
      | some y =>
        obtain ⟨d0, ps0⟩ := y
        rw [hq] at hb
        injection hb with hb; injection hb with e1 e2
        subst e1; subst e2
        obtain ⟨k1, cells, e, k2, k3⟩ := h.xs.rbx b d0 ps0 hq
        refine ⟨?_, cells, e, k2, k3.swap⟩
        show swXb r c (st.xb b) = _
        rw [k1]; rfl
theorem Sim.ren : ∀ (es : List (Tmp × ShE)) {st : St} {β : Mp}, Sim w0 lim0 rb n st a w lim β → ∃ β', Sim w0 lim0 rb n (renS st es) a w lim β'
  | [], _, β, h => ⟨β, h⟩
  | (t, .xf r p) :: es, st, β, h => by
    simp only [renS]
    split
    · rename_i c q hav
      cases h1 : Nat.beq r c with
      | true => exact h.ren es
      | false =>
      cases h2 : Nat.beq r 0 with
      | true => exact h.ren es
      | false =>
      cases h3 : Nat.beq c 0 with
      | true => exact h.ren es
      | false =>
        have hr : r ≠ 0 := fun e => by subst e; cases h2
        have hc : c ≠ 0 := fun e => by subst e; cases h3
        exact (h.swap hr hc).ren es
    · exact h.ren es
  | (t, .dat _ _) :: es, _, _, h => h.ren es
  | (t, .cel _ _) :: es, _, _, h => h.ren es
  | (t, .rdr) :: es, _, _, h => h.ren es
  | (t, .cx _ _) :: es, _, _, h => h.ren es
  | (t, .fn _) :: es, _, _, h => h.ren es

theorem allOwn_spec {own : Loc → Bool} {f : List Nat → Loc} : ∀ {ps : List (List Nat)}, allOwn own f ps = true → ∀ p, inPaths p ps = true → own (f p) = true
  | [], _, p, hp => by cases hp
  | q :: ps, h, p, hp => by
    simp only [allOwn] at h
    cases ho : own (f q) with
    | false => rw [ho] at h; cases h
    | true =>
      rw [ho] at h
      simp only [inPaths] at hp
      cases hb : pbeq p q with
      | true => rw [pbeq_iff.1 hb]; exact ho
      | false => rw [hb] at hp; exact allOwn_spec h p hp

theorem weak_rd : ∀ {r : Option Ty} {x : (rdTy r).val}, packRd st r = some x → Weak (unpackRd st00 r x) st ∧ (∀ b d, (unpackRd st00 r x).box b = some d → False) ∧ (isSomeTy r = true → ∃ d, (unpackRd st00 r x).rd = some d) := by
  intro r x h
  cases r with
  | none => exact ⟨⟨fun t => .inl (.inl rfl), fun t => rfl, fun _ _ h => (by cases h), fun _ h => (by cases h), fun _ _ h => (by cases h), fun _ _ h => (by cases h), fun _ h => (by cases h), fun _ _ h => (by cases h), fun _ _ _ h => (by cases h)⟩, fun _ _ h => (by cases h), fun h => (by cases h)⟩
  | some t =>
    unfold packRd at h
    cases hd : st.rd with
    | none => rw [hd] at h; cases h
    | some d =>
      rw [hd] at h
      obtain ⟨h1, h2⟩ := cast_some h
      obtain ⟨dt, dv⟩ := d
      simp only at h1 h2
      subst h1; subst h2
      refine ⟨⟨fun t => .inl (.inl rfl), fun t => rfl, fun _ _ h => (by cases h), fun _ h => (by cases h), fun _ _ h => (by cases h), fun _ _ h => (by cases h), fun d' h => ?_, fun _ _ h => (by cases h), fun _ _ _ h => (by cases h)⟩, fun _ _ h => (by cases h), fun _ => ⟨_, rfl⟩⟩
      injection h with h; subst h; exact hd

theorem weak_io {r : Option Ty} : ∀ {is : List (Tmp × Ty)} {x : (ioTy is (rdTy r)).val}, packIo st r is = some x →
    Weak (unpackIo st00 r is x) st ∧ (∀ b d, (unpackIo st00 r is x).box b = some d → False) ∧ (isSomeTy r = true → ∃ d, (unpackIo st00 r is x).rd = some d) ∧ (∀ c, ioIn c is = true → ∃ d, (unpackIo st00 r is x).io c = some d) ∧ (∀ b, (unpackIo st00 r is x).xb b = none)
  | [], x, h => by
    obtain ⟨h1, h2, h3⟩ := weak_rd h
    exact ⟨h1, h2, h3, fun c hc => (by cases hc), fun b => by cases r <;> rfl⟩
  | (c, t) :: is, x, h => by
    simp only [packIo] at h
    cases hb : st.io c with
    | none => rw [hb] at h; cases h
    | some d =>
      rw [hb] at h; simp only [] at h
      cases hc : Ty.cast d.1 t d.2 with
      | none => rw [hc] at h; cases h
      | some y =>
        cases hp : packIo st r is with
        | none => rw [hc, hp] at h; cases h
        | some z =>
          rw [hc, hp] at h
          injection h with h; subst h
          obtain ⟨h1, h2⟩ := cast_some hc
          obtain ⟨dt, dv⟩ := d
          simp only at h1 h2
          subst h1; subst h2
          obtain ⟨k1, k2, k3, k4, k5⟩ := weak_io (is := is) hp
          have hio : ∀ k, (unpackIo st00 r ((c, dt) :: is) (y, z)).io k = cnd (Nat.beq k c) (some ⟨dt, y⟩) ((unpackIo st00 r is z).io k) := fun k => rfl
          have keep : ∀ k, (∃ d, (unpackIo st00 r is z).io k = some d) → ∃ d, (unpackIo st00 r ((c, dt) :: is) (y, z)).io k = some d := by
            intro k hk
            rw [hio]
            cases Nat.beq k c with
            | true => exact ⟨_, rfl⟩
            | false => exact hk
          refine ⟨⟨fun t => ?_, k1.tag, k1.box, k1.own, k1.ownT, k1.ownB, k1.rd, fun k d hk => ?_, fun b t o hb' => ?_⟩, k2, k3, fun k hk => ?_, k5⟩
          · rcases k1.env t with h2 | h2 | h2 | h2 | ⟨k, p, d, h2, h3, h4⟩ | h2
            · exact .inl h2
            · exact .inr (.inl h2)
            · exact .inr (.inr (.inl h2))
            · exact .inr (.inr (.inr (.inl h2)))
            · obtain ⟨d', hd'⟩ := keep k ⟨d, h4⟩
              exact .inr (.inr (.inr (.inr (.inl ⟨k, p, d', h2, h3, hd'⟩))))
            · exact .inr (.inr (.inr (.inr (.inr h2))))
          · rw [hio] at hk
            cases hq : Nat.beq k c with
            | true => rw [hq] at hk; rw [nbeq hq, hb]; exact hk
            | false => rw [hq] at hk; exact k1.io k d hk
          · have hb' : (unpackIo st00 r is z).xb b = some (t, o) := hb'
            rw [k5] at hb'; cases hb'
          · simp only [ioIn] at hk
            cases hq : Nat.beq k c with
            | true => rw [hio, hq]; exact ⟨_, rfl⟩
            | false => rw [hq] at hk; exact keep k (k4 k hk)
theorem xbAll_spec {is : List (Tmp × Ty)} : ∀ {bs : List (Tmp × Ty × Tmp × List Nat)}, xbAll st is bs = true →
    (∀ b t o, unpackXb bs b = some (t, o) → st.xb b = some (t, o) ∧ ∀ r q, o = some (r, q) → ioIn r is = true) ∧ ∀ b, xbIn b bs = true → ∃ d, unpackXb bs b = some d
  | [], _ => ⟨fun _ _ _ h => (by cases h), fun _ h => (by cases h)⟩
  | (b, t, r, q) :: bs, h => by
    simp only [xbAll] at h
    split at h
    · rename_i u r' q' hx
      cases h1 : Ty.beq u t with
      | false => rw [h1] at h; cases h
      | true =>
      cases h2 : Nat.beq r' r with
      | false => rw [h1, h2] at h; cases h
      | true =>
      cases h3 : pbeq q' q with
      | false => rw [h1, h2, h3] at h; cases h
      | true =>
      cases h4 : ioIn r is with
      | false => rw [h1, h2, h3, h4] at h; cases h
      | true =>
        rw [h1, h2, h3, h4] at h
        have h1 := Ty.of_beq h1
        have h2 := nbeq h2
        have h3 := pbeq_iff.1 h3
        subst h1; subst h2; subst h3
        obtain ⟨k1, k2⟩ := xbAll_spec (bs := bs) h
        refine ⟨fun c t' o hc => ?_, fun c hc => ?_⟩
        · simp only [unpackXb] at hc
          cases hq : Nat.beq c b with
          | true =>
            rw [hq] at hc
            injection hc with hc; injection hc with e1 e2; subst e1; subst e2
            rw [nbeq hq]
            exact ⟨hx, fun r2 q2 he => by injection he with he; injection he with he _; rw [← he]; exact h4⟩
          | false => rw [hq] at hc; exact k1 c t' o hc
        · simp only [xbIn] at hc
          simp only [unpackXb]
          cases hq : Nat.beq c b with
          | true => exact ⟨_, rfl⟩
          | false => rw [hq] at hc; exact k2 c hc
    · cases h

/-- what a shape names is there -/
structure Has (S : Shp) (s : St) : Prop where
  rd : isSomeTy S.rd = true → ∃ d, s.rd = some d
  io : ∀ c, ioIn c S.io = true → ∃ d, s.io c = some d
  xb : ∀ b, xbIn b S.xb = true → ∃ d, s.xb b = some d
theorem weak_box {S : Shp} : ∀ {bs : List (Tmp × Ty × List (List Nat))} {x : (boxTy bs S.low).val}, packBox st S bs = some x →
    Weak (unpackBox st00 S bs x) st ∧ (∀ b, boxIn b bs = true → ∃ d, (unpackBox st00 S bs x).box b = some d) ∧ Has S (unpackBox st00 S bs x)
  | [], x, h => by
    simp only [packBox] at h
    cases hx : xbAll st S.io S.xb with
    | false => rw [hx] at h; cases h
    | true =>
      rw [hx] at h
      obtain ⟨h1, h2, h3, h4, h5⟩ := weak_io (x := x) h
      obtain ⟨g1, g2⟩ := xbAll_spec hx
      refine ⟨⟨fun t => ?_, h1.tag, h1.box, h1.own, h1.ownT, h1.ownB, h1.rd, h1.io, fun b t o hb => ?_⟩, fun b hb => (by cases hb), h3, h4, g2⟩
      · rcases h1.env t with k | k | k | k | k | ⟨b, p, d, _, _, k⟩
        · exact .inl k
        · exact .inr (.inl k)
        · exact .inr (.inr (.inl k))
        · exact .inr (.inr (.inr (.inl k)))
        · exact .inr (.inr (.inr (.inr (.inl k))))
        · rw [h5] at k; cases k
      · obtain ⟨k1, k2⟩ := g1 b t o hb
        exact ⟨k1, fun r q ho => h4 r (k2 r q ho)⟩
  | (b, t, ps) :: bs, x, h => by
    simp only [packBox] at h
    cases hb : st.box b with
    | none => rw [hb] at h; cases h
    | some d =>
      rw [hb] at h; simp only [] at h
      cases hc : Ty.cast d.1 t d.2 with
      | none => rw [hc] at h; cases h
      | some y =>
        cases ho : allOwn st.own (.box b ·) ps with
        | false => rw [hc, ho] at h; cases h
        | true =>
          cases hp : packBox st S bs with
          | none => rw [hc, ho, hp] at h; cases h
          | some z =>
            rw [hc, ho, hp] at h
            injection h with h; subst h
            obtain ⟨h1, h2⟩ := cast_some hc
            obtain ⟨dt, dv⟩ := d
            simp only at h1 h2
            subst h1; subst h2
            obtain ⟨k1, k2, k3⟩ := weak_box (bs := bs) hp
            have hbox : ∀ c, (unpackBox st00 S ((b, dt, ps) :: bs) (y, z)).box c = cnd (Nat.beq c b) (some ⟨dt, y⟩) ((unpackBox st00 S bs z).box c) := fun c => rfl
            have keep : ∀ c, (∃ d, (unpackBox st00 S bs z).box c = some d) → ∃ d, (unpackBox st00 S ((b, dt, ps) :: bs) (y, z)).box c = some d := by
              intro c hc
              rw [hbox]
              cases Nat.beq c b with
              | true => exact ⟨_, rfl⟩
              | false => exact hc
            refine ⟨⟨fun t => ?_, k1.tag, fun c d hc => ?_, fun l hl => ?_, k1.ownT, fun c p hc => ?_, k1.rd, k1.io, k1.xb⟩, fun c hc => ?_, ⟨k3.rd, k3.io, k3.xb⟩⟩
            · rcases k1.env t with h2 | h2 | ⟨c, q, d, h2, h3, h4⟩ | h2
              · exact .inl h2
              · exact .inr (.inl h2)
              · obtain ⟨d', hd'⟩ := keep c ⟨d, h4⟩
                exact .inr (.inr (.inl ⟨c, q, d', h2, h3, hd'⟩))
              · exact .inr (.inr (.inr h2))
            · rw [hbox] at hc
              cases hq : Nat.beq c b with
              | true => rw [hq] at hc; rw [nbeq hq, hb]; exact hc
              | false => rw [hq] at hc; exact k1.box c d hc
            · cases l with
              | tmp t p => exact k1.own _ hl
              | box c p =>
                have hl : cnd (Nat.beq c b) (inPaths p ps) ((unpackBox st00 S bs z).own (.box c p)) = true := hl
                cases hq : Nat.beq c b with
                | true => rw [hq] at hl; rw [nbeq hq]; exact allOwn_spec ho p hl
                | false => rw [hq] at hl; exact k1.own _ hl
            · have hc : cnd (Nat.beq c b) (inPaths p ps) ((unpackBox st00 S bs z).own (.box c p)) = true := hc
              rw [hbox]
              cases hq : Nat.beq c b with
              | true => exact ⟨_, rfl⟩
              | false => rw [hq] at hc; exact k1.ownB c p hc
            · simp only [boxIn] at hc
              cases hq : Nat.beq c b with
              | true => rw [hbox, hq]; exact ⟨_, rfl⟩
              | false => rw [hq] at hc; exact keep c (k2 c hc)

theorem weak_putE {s : St} {t : Tmp} {v : AV} {ps : List (List Nat)} (h : Weak s st) (hv : (∃ ty x, v = .dat ty x ∧ AV.as ty (st.env t).av = some x ∧ allOwn st.own (.tmp t ·) ps = true) ∨
    (ps = [] ∧ ((∃ b p d, v = .cel b p ∧ (st.env t).av = .cel b p ∧ s.box b = some d) ∨ (∃ d, v = .rdr [] ∧ (st.env t).av = .rdr [] ∧ s.rd = some d) ∨ (∃ r p d, v = .xf r p ∧ (st.env t).av = .xf r p ∧ s.io r = some d) ∨ (∃ b p d, v = .cx b p ∧ (st.env t).av = .cx b p ∧ s.xb b = some d)))) : Weak (putE s t v ps) st := by
  have he : ∀ u, (putE s t v ps).env u = cnd (Nat.beq u t) ⟨v, none⟩ (s.env u) := fun u => rfl
  have ho : ∀ u p, (putE s t v ps).own (.tmp u p) = cnd (Nat.beq u t) (inPaths p ps) (s.own (.tmp u p)) := fun u p => rfl
  refine ⟨fun u => ?_, fun u => ?_, h.box, fun l hl => ?_, fun u p hu => ?_, h.ownB, h.rd, h.io, h.xb⟩
  · rw [he]
    cases hq : Nat.beq u t with
    | false => exact h.env u
    | true =>
      rw [nbeq hq]
      rcases hv with ⟨ty, x, h1, h2, _⟩ | ⟨_, ⟨b, p, d, h1, h2, h3⟩ | ⟨d, h1, h2, h3⟩ | ⟨r, p, d, h1, h2, h3⟩ | ⟨b, p, d, h1, h2, h3⟩⟩
      · exact .inr (.inl ⟨ty, x, h1, h2⟩)
      · exact .inr (.inr (.inl ⟨b, p, d, h1, h2, h3⟩))
      · exact .inr (.inr (.inr (.inl ⟨d, h1, h2, h3⟩)))
      · exact .inr (.inr (.inr (.inr (.inl ⟨r, p, d, h1, h2, h3⟩))))
      · exact .inr (.inr (.inr (.inr (.inr ⟨b, p, d, h1, h2, h3⟩))))
  · rw [he]
    cases Nat.beq u t with
    | false => exact h.tag u
    | true => rfl
  · cases l with
    | box c p => exact h.own _ hl
    | tmp u p =>
      rw [ho] at hl
      cases hq : Nat.beq u t with
      | false => rw [hq] at hl; exact h.own _ hl
      | true =>
        rw [hq] at hl; rw [nbeq hq]
        rcases hv with ⟨ty, x, _, _, h3⟩ | ⟨rfl, _⟩
        · exact allOwn_spec h3 p hl
        · cases hl
  · rw [ho] at hu
    rw [he]
    cases hq : Nat.beq u t with
    | false => rw [hq] at hu; exact h.ownT u p hu
    | true =>
      rw [hq] at hu
      rcases hv with ⟨ty, x, h1, _, _⟩ | ⟨rfl, _⟩
      · exact ⟨ty, x, h1⟩
      · cases hu

theorem weak_putF {s : St} {t : Tmp} {f : FuncId} (h : Weak s st) (hv : (st.env t).av = .fn f) : Weak (putE s t (.fn f) []) st := by
  have he : ∀ u, (putE s t (.fn f) []).env u = cnd (Nat.beq u t) ⟨.fn f, none⟩ (s.env u) := fun u => rfl
  have ho : ∀ u p, (putE s t (.fn f) []).own (.tmp u p) = cnd (Nat.beq u t) (inPaths p []) (s.own (.tmp u p)) := fun u p => rfl
  refine ⟨fun u => ?_, fun u => ?_, h.box, fun l hl => ?_, fun u p hu => ?_, h.ownB, h.rd, h.io, h.xb⟩
  · rw [he]
    cases hq : Nat.beq u t with
    | false => exact h.env u
    | true => rw [nbeq hq]; exact .inl (.inr ⟨f, rfl, hv⟩)
  · rw [he]
    cases Nat.beq u t with
    | false => exact h.tag u
    | true => rfl
  · cases l with
    | box c p => exact h.own _ hl
    | tmp u p =>
      rw [ho] at hl
      cases hq : Nat.beq u t with
      | false => rw [hq] at hl; exact h.own _ hl
      | true => rw [hq] at hl; cases hl
  · rw [ho] at hu
    rw [he]
    cases hq : Nat.beq u t with
    | false => rw [hq] at hu; exact h.ownT u p hu
    | true => rw [hq] at hu; cases hu
theorem weak_env {S : Shp} : ∀ {es : List (Tmp × ShE)} {x : (envTy es (boxTy S.box S.low)).val}, packEnv st S es = some x →
    Weak (unpackEnv st00 S es x) st ∧ (∀ b, boxIn b S.box = true → ∃ d, (unpackEnv st00 S es x).box b = some d) ∧ Has S (unpackEnv st00 S es x)
  | [], x, h => weak_box h
  | (t, .dat ty ps) :: es, x, h => by
    simp only [packEnv] at h
    cases hc : AV.as ty (st.env t).av with
    | none => rw [hc] at h; cases h
    | some y =>
      cases ho : allOwn st.own (.tmp t ·) ps with
      | false => rw [hc, ho] at h; cases h
      | true =>
        cases hp : packEnv st S es with
        | none => rw [hc, ho, hp] at h; cases h
        | some z =>
          rw [hc, ho, hp] at h
          injection h with h; subst h
          obtain ⟨k1, k2, k3⟩ := weak_env (es := es) hp
          exact ⟨weak_putE k1 (.inl ⟨ty, y, rfl, hc, ho⟩), k2, ⟨k3.rd, k3.io, k3.xb⟩⟩
  | (t, .cel b p) :: es, x, h => by
    simp only [packEnv] at h
    split at h
    · rename_i c q hav
      cases hq : cnd (Nat.beq b c) (cnd (pbeq p q) (boxIn b S.box) false) false with
      | false => rw [hq] at h; cases h
      | true =>
        rw [hq] at h
        cases h1 : Nat.beq b c with
        | false => rw [h1] at hq; cases hq
        | true =>
          rw [h1] at hq
          cases h2 : pbeq p q with
          | false => rw [h2] at hq; cases hq
          | true =>
            rw [h2] at hq
            have := nbeq h1; subst this
            have := pbeq_iff.1 h2; subst this
            obtain ⟨k1, k2, k3⟩ := weak_env (es := es) (x := x) h
            obtain ⟨d, hd⟩ := k2 b hq
            exact ⟨weak_putE k1 (.inr ⟨rfl, .inl ⟨b, p, d, rfl, hav, hd⟩⟩), k2, ⟨k3.rd, k3.io, k3.xb⟩⟩
    · cases h
  | (t, .rdr) :: es, x, h => by
    simp only [packEnv] at h
    split at h
    · rename_i hav
      cases hq : isSomeTy S.rd with
      | false => rw [hq] at h; cases h
      | true =>
        rw [hq] at h
        obtain ⟨k1, k2, k3⟩ := weak_env (es := es) (x := x) h
        obtain ⟨d, hd⟩ := k3.rd hq
        exact ⟨weak_putE k1 (.inr ⟨rfl, .inr (.inl ⟨d, rfl, hav, hd⟩)⟩), k2, ⟨k3.rd, k3.io, k3.xb⟩⟩
    · cases h
  | (t, .xf r p) :: es, x, h => by
    simp only [packEnv] at h
    split at h
    · rename_i c q hav
      cases hq : cnd (Nat.beq r c) (cnd (pbeq p q) (ioIn r S.io) false) false with
      | false => rw [hq] at h; cases h
      | true =>
        rw [hq] at h
        cases h1 : Nat.beq r c with
        | false => rw [h1] at hq; cases hq
        | true =>
          rw [h1] at hq
          cases h2 : pbeq p q with
          | false => rw [h2] at hq; cases hq
          | true =>
            rw [h2] at hq
            have := nbeq h1; subst this
            have := pbeq_iff.1 h2; subst this
            obtain ⟨k1, k2, k3⟩ := weak_env (es := es) (x := x) h
            obtain ⟨d, hd⟩ := k3.io r hq
            exact ⟨weak_putE k1 (.inr ⟨rfl, .inr (.inr (.inl ⟨r, p, d, rfl, hav, hd⟩))⟩), k2, ⟨k3.rd, k3.io, k3.xb⟩⟩
    · cases h
  | (t, .cx r p) :: es, x, h => by
    simp only [packEnv] at h
    split at h
    · rename_i c q hav
      cases hq : cnd (Nat.beq r c) (cnd (pbeq p q) (xbIn r S.xb) false) false with
      | false => rw [hq] at h; cases h
      | true =>
        rw [hq] at h
        cases h1 : Nat.beq r c with
        | false => rw [h1] at hq; cases hq
        | true =>
          rw [h1] at hq
          cases h2 : pbeq p q with
          | false => rw [h2] at hq; cases hq
          | true =>
            rw [h2] at hq
            have := nbeq h1; subst this
            have := pbeq_iff.1 h2; subst this
            obtain ⟨k1, k2, k3⟩ := weak_env (es := es) (x := x) h
            obtain ⟨d, hd⟩ := k3.xb r hq
            exact ⟨weak_putE k1 (.inr ⟨rfl, .inr (.inr (.inr ⟨r, p, d, rfl, hav, hd⟩))⟩), k2, ⟨k3.rd, k3.io, k3.xb⟩⟩
    · cases h
  | (t, .fn f) :: es, x, h => by
    simp only [packEnv] at h
    split at h
    · rename_i g hav
      cases h1 : Nat.beq f g with
      | false => rw [h1] at h; cases h
      | true =>
        rw [h1] at h
        have := nbeq h1; subst this
        obtain ⟨k1, k2, k3⟩ := weak_env (es := es) (x := x) h
        exact ⟨weak_putF k1 hav, k2, ⟨k3.rd, k3.io, k3.xb⟩⟩
    · cases h
theorem pack_weak {S : Shp} {x : S.ty.val} (h : pack S st = some x) : Weak (unpack S x) (renS st S.env) := (weak_env h).1
theorem Sim.packed {S : Shp} {x : S.ty.val} (h : Sim w0 lim0 rb n st a w lim β) (hp : pack S st = some x) : ∃ β', Sim w0 lim0 rb n (unpack S x) a w lim β' := by
  obtain ⟨β', h'⟩ := h.ren S.env
  exact ⟨β', h'.weak (pack_weak hp) unpack_rb⟩

theorem map_inl {α β γ : Type} {o : Option α} {e : α ⊕ β} (h : o.map (Sum.inl (β := β)) = some e) : ∃ x, o = some x ∧ e = .inl x := by
  cases o with
  | none => cases h
  | some x => injection h with h; exact ⟨x, rfl, h.symm⟩
theorem map_inr {α β : Type} {o : Option β} {e : α ⊕ β} (h : o.map (Sum.inr (α := α)) = some e) : ∃ x, o = some x ∧ e = .inr x := by
  cases o with
  | none => cases h
  | some x => injection h with h; exact ⟨x, rfl, h.symm⟩
theorem obind_some {α β : Type} {o : Option α} {f : α → Option β} {r : β} (h : obind o f = some r) : ∃ x, o = some x ∧ f x = some r := by
  cases o with
  | none => cases h
  | some x => exact ⟨x, rfl, h⟩

theorem loop_sound {b : Code} {σ ρ : Type} {f : σ → Option (σ ⊕ ρ)} {U : σ → St} {Q : Exit → Act → World → Prop} {r : ρ}
    (hb : ∀ s e, f s = some e → ∀ (k : σ → Prop) a w lim β, Sim w0 lim0 rb n (U s) a w lim β → (∀ s', e = .inl s' → k s') → (∀ r', e = .inr r' → r' = r) →
      b.wp P (Exit.then (fun a' w' => ∃ s' lim' β', k s' ∧ Sim w0 lim0 rb n (U s') a' w' lim' β') Q) a w) {fuel : Nat} {s0 : σ} (hi : iter fuel f s0 = some r)
    (h : Sim w0 lim0 rb n (U s0) a w lim β) : (Code.loop b).wp P Q a w := by
  refine wp_loop_ghost (fun k a w => ∃ s lim β, iter k f s = some r ∧ Sim w0 lim0 rb n (U s) a w lim β) fuel ⟨s0, lim, β, hi, h⟩ ?_
  intro k a w ⟨s, lim, β, hk, hs⟩
  cases k with
  | zero => cases hk
  | succ k =>
    simp only [iter] at hk
    cases hf : f s with
    | none => rw [hf] at hk; cases hk
    | some e =>
      rw [hf] at hk
      refine Code.wp_mono ?_ (hb s e hf (fun s' => iter k f s' = some r) a w lim β hs (fun s' he => ?_) (fun r' he => ?_))
      · intro x a' w' hx
        cases x <;> try exact hx
        obtain ⟨s', lim', β', h1, h2⟩ := hx
        exact ⟨k, Nat.lt_succ_self k, s', lim', β', h1, h2⟩
      · subst he; exact hk
      · subst he; injection hk

theorem cnd_cond {α : Type} (k b : Bool) (x y : α) : cnd k (cnd b x y) (cndS b x y) = cond b x y := by cases k <;> cases b <;> rfl
theorem ERep_kn {st : St} {f : Tmp → Bool} {w : World} {lim : Lim} {β : Mp} {rb : Option Nat} {av : AV} {v : Value} (h : ERep st w lim β rb av v) : ERep { st with kn := f } w lim β rb av v := by cases av <;> exact h
theorem Sim.alike {st3 st' : St} (h : Sim w0 lim0 rb n st' a w lim β) (hA : Alike st3 st') : Sim w0 lim0 rb n st3 a w lim β := by
  obtain ⟨f, rfl⟩ := hA
  exact ⟨h.size, h.defers, h.grow, h.limOld, h.xrb, h.rdk, fun t => ERep_kn (h.env t), h.box, h.inj, fun l hl => (by cases l <;> exact h.own _ hl), fun l g hl hg => (by cases l <;> exact h.ownb _ g hl hg), fun l l' g h1 h2 h3 h4 => (by cases l <;> cases l' <;> exact h.sep _ _ g h1 h2 h3 h4), fun t l h1 h2 => (by cases l <;> exact h.tag t _ h1 h2), h.rd, h.xs.keep rfl rfl (fun _ _ _ => ⟨rfl, rfl⟩) (fun _ _ _ _ => rfl) (fun _ _ => ⟨rfl, rfl⟩) (fun b d hb => h.xs.offb hb) (fun l g hl hg => by cases l <;> exact h.xs.off (m := _) hl hg)⟩
theorem ERep_mk {st : St} {f : Tmp → Bool} {w : World} {lim : Lim} {β : Mp} {rb : Option Nat} {av : AV} {v : Value} (h : ERep st w lim β rb av v) : ERep { st with mkt := f } w lim β rb av v := by cases av <;> exact h
theorem Sim.marks (h : Sim w0 lim0 rb n st a w lim β) (f : Tmp → Bool) : Sim w0 lim0 rb n { st with mkt := f } a w lim β :=
  ⟨h.size, h.defers, h.grow, h.limOld, h.xrb, h.rdk, fun t => ERep_mk (h.env t), h.box, h.inj, fun l hl => (by cases l <;> exact h.own _ hl), fun l g hl hg => (by cases l <;> exact h.ownb _ g hl hg), fun l l' g h1 h2 h3 h4 => (by cases l <;> cases l' <;> exact h.sep _ _ g h1 h2 h3 h4), fun t l h1 h2 => (by cases l <;> exact h.tag t _ h1 h2), h.rd,
    h.xs.keep rfl rfl (fun _ _ _ => ⟨rfl, rfl⟩) (fun _ _ _ _ => rfl) (fun _ _ => ⟨rfl, rfl⟩) (fun b d hb => h.xs.offb hb) (fun l g hl hg => by cases l <;> exact h.xs.off (m := _) hl hg)⟩
end
end Go.Den

namespace Go.Den
section
variable {P : Program} {tab : Tab} {G : Gam} {w0 : Base} {lim0 : Lim} {rb : Option Nat} {n : Nat}
variable {st st' : St} {a : Act} {w : World} {lim : Lim} {β : Mp}

/-- a slice in a tree has its block there -/
theorem XRep.blk : ∀ {t : Ty} {x : t.val} {cs : List Value} {B : Nat → Prop} {p : List Nat} {e : Ty} {v : Value} {g : Nat}, XRep w t x cs B → typeAt t p = some (.slice e) → cs[offs t p]? = some v → blockOf v = some g → B g := by
  intro t
  induction t with
  | slice u _ =>
    intro x cs B p e v g h ht hv hg
    cases p with
    | cons i p => cases (typeAt_slice_slice ht).1
    | nil =>
      rcases h with ⟨h1, _, _⟩ | ⟨g', c, arr, e', fr, Bs, h1, _, _, _, _, h5, _⟩
      · rw [h1] at hv; simp [offs] at hv; subst hv; cases hg
      · rw [h1] at hv; simp [offs] at hv; subst hv; injection hg with hg; exact (h5 g).2 (.inl hg.symm)
  | prod p' q' ihp ihq =>
    intro x cs B p e v g h ht hv hg
    obtain ⟨c1, c2, B1, B2, rfl, h2, h3, h4, h5⟩ := h
    have l1 := h4.length
    cases p with
    | nil => simp [typeAt] at ht
    | cons i p =>
      cases i with
      | zero =>
        simp only [typeAt] at ht
        simp only [offs] at hv
        have hlt := typeAt_lt ht
        have hs : (Ty.slice e).size = 1 := rfl
        rw [List.getElem?_append_left (by omega)] at hv
        exact (h2 g).2 (.inl (ihp h4 ht hv hg))
      | succ i =>
        simp only [typeAt] at ht
        simp only [offs] at hv
        rw [List.getElem?_append_right (by omega), l1, show p'.size + offs q' (i :: p) - p'.size = offs q' (i :: p) by omega] at hv
        exact (h2 g).2 (.inr (ihq h5 ht hv hg))
  | int k => intro x cs B p e v g h ht; cases p <;> simp [typeAt] at ht
  | bool => intro x cs B p e v g h ht; cases p <;> simp [typeAt] at ht
  | str => intro x cs B p e v g h ht; cases p <;> simp [typeAt] at ht
  | unit => intro x cs B p e v g h ht; cases p <;> simp [typeAt] at ht
/-- two slices of a tree at one block are one -/
theorem XRep.inj : ∀ {t : Ty} {x : t.val} {cs : List Value} {B : Nat → Prop} {p q : List Nat} {e e' : Ty} {u v : Value} {g : Nat}, XRep w t x cs B → typeAt t p = some (.slice e) → typeAt t q = some (.slice e') →
    cs[offs t p]? = some u → cs[offs t q]? = some v → blockOf u = some g → blockOf v = some g → p = q := by
  intro t
  induction t with
  | slice d _ =>
    intro x cs B p q e e' u v g h hp hq _ _ _ _
    rw [(typeAt_slice_slice hp).1, (typeAt_slice_slice hq).1]
  | prod p' q' ihp ihq =>
    intro x cs B p q e e' u v g h hp hq hu hv hgu hgv
    obtain ⟨c1, c2, B1, B2, rfl, h2, h3, h4, h5⟩ := h
    have l1 := h4.length
    have left : ∀ {r : List Nat} {f : Ty} {z : Value}, typeAt (.prod p' q') (0 :: r) = some (.slice f) → (c1 ++ c2)[offs (.prod p' q') (0 :: r)]? = some z → typeAt p' r = some (.slice f) ∧ c1[offs p' r]? = some z := by
      intro r f z ht hz
      simp only [typeAt] at ht
      simp only [offs] at hz
      have hlt := typeAt_lt ht
      have hs : (Ty.slice f).size = 1 := rfl
      rw [List.getElem?_append_left (by omega)] at hz
      exact ⟨ht, hz⟩
    have right : ∀ {i : Nat} {r : List Nat} {f : Ty} {z : Value}, typeAt (.prod p' q') ((i + 1) :: r) = some (.slice f) → (c1 ++ c2)[offs (.prod p' q') ((i + 1) :: r)]? = some z → typeAt q' (i :: r) = some (.slice f) ∧ c2[offs q' (i :: r)]? = some z := by
      intro i r f z ht hz
      simp only [typeAt] at ht
      simp only [offs] at hz
      rw [List.getElem?_append_right (by omega), l1, show p'.size + offs q' (i :: r) - p'.size = offs q' (i :: r) by omega] at hz
      exact ⟨ht, hz⟩
    cases p with
    | nil => simp [typeAt] at hp
    | cons i p =>
      cases q with
      | nil => simp [typeAt] at hq
      | cons j q =>
        cases i with
        | zero =>
          obtain ⟨a1, a2⟩ := left hp hu
          cases j with
          | zero =>
            obtain ⟨b1, b2⟩ := left hq hv
            rw [ihp h4 a1 b1 a2 b2 hgu hgv]
          | succ j =>
            obtain ⟨b1, b2⟩ := right hq hv
            exact absurd (h5.blk b1 b2 hgv) (h3 g (h4.blk a1 a2 hgu))
        | succ i =>
          obtain ⟨a1, a2⟩ := right hp hu
          cases j with
          | zero =>
            obtain ⟨b1, b2⟩ := left hq hv
            exact absurd (h5.blk a1 a2 hgu) (h3 g (h4.blk b1 b2 hgv))
          | succ j =>
            obtain ⟨b1, b2⟩ := right hq hv
            have := ihq h5 a1 b1 a2 b2 hgu hgv
            injection this with e1 e2
            rw [e1, e2]
  | int k => intro x cs B p q e e' u v g h hp; cases p <;> simp [typeAt] at hp
  | bool => intro x cs B p q e e' u v g h hp; cases p <;> simp [typeAt] at hp
  | str => intro x cs B p q e e' u v g h hp; cases p <;> simp [typeAt] at hp
  | unit => intro x cs B p q e e' u v g h hp; cases p <;> simp [typeAt] at hp
/-- an array of a tree, and how far it is filled -/
def SeenIn (w : World) : (t : Ty) → List Value → Nat → Nat → Prop
  | .prod a b, cs, g, k => SeenIn w a (cs.take a.size) g k ∨ SeenIn w b (cs.drop a.size) g k
  | .slice t, cs, g, k => ∃ g' m c arr el fr, cs = [.slice (some ⟨g', 0, none⟩) m c] ∧ w.heap[g']? = some (.cells arr el fr) ∧ ((g = g' ∧ k = m * t.size) ∨ ∃ i, i < m ∧ SeenIn w t ((arr.toList.drop (i * t.size)).take t.size) g k)
  | _, _, _, _ => False
theorem seg {ds : List Value} {arr : Array Value} {i s : Nat} (hl : ds.length = s) (h : ∀ j v, ds[j]? = some v → arr[i * s + j]? = some v) : (arr.toList.drop (i * s)).take s = ds := by
  apply List.ext_getElem?
  intro j
  by_cases hj : j < s
  · rw [List.getElem?_take_of_lt hj, List.getElem?_drop, Array.getElem?_toList, h j _ (List.getElem?_eq_getElem (by omega)), List.getElem?_eq_getElem (by omega)]
  · rw [List.getElem?_eq_none (by rw [List.length_take]; omega), List.getElem?_eq_none (by omega)]
theorem XRep.seen_blk : ∀ {t : Ty} {x : t.val} {cs : List Value} {B : Nat → Prop} {g k : Nat}, XRep w t x cs B → SeenIn w t cs g k → B g
  | .int _, _, _, _, _, _, _, hs => hs.elim
  | .bool, _, _, _, _, _, _, hs => hs.elim
  | .str, _, _, _, _, _, _, hs => hs.elim
  | .unit, _, _, _, _, _, _, hs => hs.elim
  | .prod a b, _, _, _, _, _, h, hs => by
    obtain ⟨c1, c2, B1, B2, rfl, h2, h3, h4, h5⟩ := h
    have l1 := h4.length
    rcases hs with hs | hs
    · rw [← l1, List.take_left] at hs
      exact (h2 _).2 (.inl (XRep.seen_blk h4 hs))
    · rw [← l1, List.drop_left] at hs
      exact (h2 _).2 (.inr (XRep.seen_blk h5 hs))
  | .slice t, xs, _, _, _, _, h, hs => by
    obtain ⟨g', m, c', arr', el', fr', q1, q2, q3⟩ := hs
    rcases h with ⟨h1, _, _⟩ | ⟨g0, c, arr, e, fr, Bs, h1, h2, h3, h4, hf, h5, h6, h7, h8⟩
    · rw [h1] at q1; cases q1
    · rw [h1] at q1; injection q1 with q1 _; injection q1 with e1 e2 e3; injection e1 with e1; injection e1 with e1 _
      subst e1
      rw [h4] at q2; injection q2 with q2; injection q2 with e4 _ _; subst e4
      rcases q3 with ⟨q3, _⟩ | ⟨i, hi, q3⟩
      · exact (h5 _).2 (.inl q3)
      · obtain ⟨ds, k1, k2⟩ := h8 i _ (List.getElem?_eq_getElem (by show i < List.length (α := t.val) xs; omega))
        rw [seg k1.length k2] at q3
        exact (h5 _).2 (.inr ⟨i, XRep.seen_blk k1 q3⟩)
theorem XRep.seen_inj : ∀ {t : Ty} {x : t.val} {cs : List Value} {B : Nat → Prop} {g k k' : Nat}, XRep w t x cs B → SeenIn w t cs g k → SeenIn w t cs g k' → k = k'
  | .int _, _, _, _, _, _, _, _, hs, _ => hs.elim
  | .bool, _, _, _, _, _, _, _, hs, _ => hs.elim
  | .str, _, _, _, _, _, _, _, hs, _ => hs.elim
  | .unit, _, _, _, _, _, _, _, hs, _ => hs.elim
  | .prod a b, _, _, _, _, _, _, h, hs, hs' => by
    obtain ⟨c1, c2, B1, B2, rfl, h2, h3, h4, h5⟩ := h
    have l1 := h4.length
    simp only [SeenIn] at hs hs'
    rw [← l1, List.take_left, List.drop_left] at hs hs'
    rcases hs with hs | hs <;> rcases hs' with hs' | hs'
    · exact XRep.seen_inj h4 hs hs'
    · exact absurd (XRep.seen_blk h5 hs') (h3 _ (XRep.seen_blk h4 hs))
    · exact absurd (XRep.seen_blk h5 hs) (h3 _ (XRep.seen_blk h4 hs'))
    · exact XRep.seen_inj h5 hs hs'
  | .slice t, xs, _, _, _, _, _, h, hs, hs' => by
    obtain ⟨g', m, c', arr', el', fr', q1, q2, q3⟩ := hs
    obtain ⟨g2, m2, c2, arr2, el2, fr2, p1, p2, p3⟩ := hs'
    rcases h with ⟨h1, _, _⟩ | ⟨g0, c, arr, e, fr, Bs, h1, h2, h3, h4, hf, h5, h6, h7, h8⟩
    · rw [h1] at q1; cases q1
    · rw [h1] at q1; injection q1 with q1 _; injection q1 with e1 e2 e3; injection e1 with e1; injection e1 with e1 _
      rw [h1] at p1; injection p1 with p1 _; injection p1 with f1 f2 f3; injection f1 with f1; injection f1 with f1 _
      subst e1; subst f1
      rw [h4] at q2; injection q2 with q2; injection q2 with e4 _ _; subst e4
      rw [h4] at p2; injection p2 with p2; injection p2 with f4 _ _; subst f4
      rcases q3 with ⟨q3, q4⟩ | ⟨i, hi, q3⟩ <;> rcases p3 with ⟨p3, p4⟩ | ⟨i', hi', p3⟩
      · rw [q4, p4, ← e2, ← f2]
      · obtain ⟨ds, k1, k2⟩ := h8 i' _ (List.getElem?_eq_getElem (by show i' < List.length (α := t.val) xs; omega))
        rw [seg k1.length k2] at p3
        exact absurd q3 (h6 i' _ (XRep.seen_blk k1 p3)).2
      · obtain ⟨ds, k1, k2⟩ := h8 i _ (List.getElem?_eq_getElem (by show i < List.length (α := t.val) xs; omega))
        rw [seg k1.length k2] at q3
        exact absurd p3 (h6 i _ (XRep.seen_blk k1 q3)).2
      · obtain ⟨ds, k1, k2⟩ := h8 i _ (List.getElem?_eq_getElem (by show i < List.length (α := t.val) xs; omega))
        rw [seg k1.length k2] at q3
        obtain ⟨ds', k1', k2'⟩ := h8 i' _ (List.getElem?_eq_getElem (by show i' < List.length (α := t.val) xs; omega))
        rw [seg k1'.length k2'] at p3
        have := h7 i i' _ (XRep.seen_blk k1 q3) (XRep.seen_blk k1' p3)
        subst this
        have hd : ds' = ds := by rw [← seg k1.length k2, ← seg k1'.length k2']
        subst hd
        exact XRep.seen_inj k1 q3 p3
/-- a tree as others read it, its arrays seen as far as they reach -/
theorem XRep.crep2 : ∀ {t : Ty} {x : t.val} {cs : List Value} {B : Nat → Prop}, XRep w t x cs B → (∀ g k, SeenIn w t cs g k → lim g = some k) → CRep w lim t x cs
  | .int _, _, _, _, h, _ => h.1
  | .bool, _, _, _, h, _ => h.1
  | .str, _, _, _, h, _ => h.1
  | .unit, _, _, _, h, _ => h.1
  | .prod a b, _, _, _, h, hl => by
    obtain ⟨c1, c2, B1, B2, rfl, h2, _, h4, h5⟩ := h
    have l1 := h4.length
    exact ⟨c1, c2, rfl, XRep.crep2 h4 (fun g k hs => hl g k (.inl (by rw [← l1, List.take_left]; exact hs))), XRep.crep2 h5 (fun g k hs => hl g k (.inr (by rw [← l1, List.drop_left]; exact hs)))⟩
  | .slice t, xs, cs, B, h, hl => by
    rcases h with ⟨h1, h2, _⟩ | ⟨g, c, arr, e, fr, Bs, h1, h2, h3, h4, _, h5, h6, h7, h8⟩
    · exact ⟨none, 0, by rw [h1, h2], by omega, .inl (List.eq_nil_of_length_eq_zero h2)⟩
    · refine ⟨some ⟨g, 0, none⟩, c, h1, h2, .inr ⟨g, 0, rfl, (Array.getElem?_eq_some_iff.1 h4).1, (by
        intro m hm
        have := hl g (List.length (α := t.val) xs * t.size) ⟨g, _, c, arr, e, fr, h1, h4, .inl ⟨rfl, rfl⟩⟩
        rw [hm] at this; injection this with this; rw [this]; omega), fun i x hx => ?_⟩⟩
      obtain ⟨ds, k1, k2⟩ := h8 i x hx
      refine ⟨ds, XRep.crep2 k1 (fun g' k' hs => hl g' k' ⟨g, _, c, arr, e, fr, h1, h4, .inr ⟨i, (List.getElem?_eq_some_iff.1 hx).1, by rw [seg k1.length k2]; exact hs⟩⟩), fun j v hv => ?_⟩
      have := k2 j v hv
      simp only [World.cell?, h4]
      simpa using this
theorem XRep.seen_at : ∀ {t : Ty} {x : t.val} {cs : List Value} {B : Nat → Prop} {p : List Nat} {e : Ty} {g m c : Nat}, XRep w t x cs B → typeAt t p = some (.slice e) → cs[offs t p]? = some (.slice (some ⟨g, 0, none⟩) m c) → SeenIn w t cs g (m * e.size) := by
  intro t
  induction t with
  | slice u _ =>
    intro x cs B p e g m c h ht hv
    cases p with
    | cons i p => cases (typeAt_slice_slice ht).1
    | nil =>
      simp only [typeAt] at ht; injection ht with ht; injection ht with ht; subst ht
      rcases h with ⟨h1, _, _⟩ | ⟨g', c', arr, e', fr, Bs, h1, _, _, h4, _⟩
      · rw [h1] at hv; simp [offs] at hv
      · rw [h1] at hv; simp [offs] at hv
        obtain ⟨e1, e2, e3⟩ := hv
        subst e1
        exact ⟨g', _, c', arr, e', fr, h1, h4, .inl ⟨rfl, by rw [← e2]⟩⟩
  | prod p' q' ihp ihq =>
    intro x cs B p e g m c h ht hv
    obtain ⟨c1, c2, B1, B2, rfl, h2, h3, h4, h5⟩ := h
    have l1 := h4.length
    cases p with
    | nil => simp [typeAt] at ht
    | cons i p =>
      cases i with
      | zero =>
        simp only [typeAt] at ht
        simp only [offs] at hv
        have hlt := typeAt_lt ht
        have hs : (Ty.slice e).size = 1 := rfl
        rw [List.getElem?_append_left (by omega)] at hv
        exact .inl (by rw [← l1, List.take_left]; exact ihp h4 ht hv)
      | succ i =>
        simp only [typeAt] at ht
        simp only [offs] at hv
        rw [List.getElem?_append_right (by omega), l1, show p'.size + offs q' (i :: p) - p'.size = offs q' (i :: p) by omega] at hv
        exact .inr (by rw [← l1, List.drop_left]; exact ihq h5 ht hv)
  | int k => intro x cs B p e g m c h ht; cases p <;> simp [typeAt] at ht
  | bool => intro x cs B p e g m c h ht; cases p <;> simp [typeAt] at ht
  | str => intro x cs B p e g m c h ht; cases p <;> simp [typeAt] at ht
  | unit => intro x cs B p e g m c h ht; cases p <;> simp [typeAt] at ht
/-- how a slice of a tree lies -/
theorem XRep.tip : ∀ {t : Ty} {x : t.val} {cs : List Value} {B : Nat → Prop} {p : List Nat} {e : Ty}, XRep w t x cs B → typeAt t p = some (.slice e) → ∃ v, cs[offs t p]? = some v ∧
    (v = .slice none 0 0 ∨ ∃ g m c arr el fr, v = .slice (some ⟨g, 0, none⟩) m c ∧ w.heap[g]? = some (.cells arr el fr) ∧ (∀ o, o < arr.size → ¬ (fr.1 ≤ o ∧ o < fr.2)) ∧ m ≤ c ∧ c * e.size ≤ arr.size ∧ B g) := by
  intro t
  induction t with
  | slice u _ =>
    intro x cs B p e h ht
    cases p with
    | cons i p => cases (typeAt_slice_slice ht).1
    | nil =>
      simp only [typeAt] at ht; injection ht with ht; injection ht with ht; subst ht
      rcases h with ⟨h1, h2, _⟩ | ⟨g', c, arr, e', fr, Bs, h1, h2, h3, h4, hf, h5, _⟩
      · exact ⟨_, by rw [h1]; simp [offs], .inl rfl⟩
      · exact ⟨_, by rw [h1]; simp [offs], .inr ⟨g', _, c, arr, e', fr, rfl, h4, hf, h2, h3, (h5 g').2 (.inl rfl)⟩⟩
  | prod p' q' ihp ihq =>
    intro x cs B p e h ht
    obtain ⟨c1, c2, B1, B2, rfl, h2, h3, h4, h5⟩ := h
    have l1 := h4.length
    cases p with
    | nil => simp [typeAt] at ht
    | cons i p =>
      cases i with
      | zero =>
        simp only [typeAt] at ht
        obtain ⟨v, k1, k2⟩ := ihp h4 ht
        refine ⟨v, by simp only [offs]; rw [List.getElem?_append_left (List.getElem?_eq_some_iff.1 k1).1]; exact k1, ?_⟩
        rcases k2 with k2 | ⟨g, m, c, arr, el, fr, k2, k3, k4, k5, k6, k7⟩
        · exact .inl k2
        · exact .inr ⟨g, m, c, arr, el, fr, k2, k3, k4, k5, k6, (h2 g).2 (.inl k7)⟩
      | succ i =>
        simp only [typeAt] at ht
        obtain ⟨v, k1, k2⟩ := ihq h5 ht
        refine ⟨v, by simp only [offs]; rw [List.getElem?_append_right (by omega), l1, show p'.size + offs q' (i :: p) - p'.size = offs q' (i :: p) by omega]; exact k1, ?_⟩
        rcases k2 with k2 | ⟨g, m, c, arr, el, fr, k2, k3, k4, k5, k6, k7⟩
        · exact .inl k2
        · exact .inr ⟨g, m, c, arr, el, fr, k2, k3, k4, k5, k6, (h2 g).2 (.inr k7)⟩
  | int k => intro x cs B p e h ht; cases p <;> simp [typeAt] at ht
  | bool => intro x cs B p e h ht; cases p <;> simp [typeAt] at ht
  | str => intro x cs B p e h ht; cases p <;> simp [typeAt] at ht
  | unit => intro x cs B p e h ht; cases p <;> simp [typeAt] at ht

theorem getF_paths : ∀ {t : Ty} {x : t.val} {i : Nat} {d : Dat} {p : List Nat}, getF t x i = some d → p ∈ slicePaths d.1 → (i :: p) ∈ slicePaths t := by
  intro t
  induction t with
  | prod a b _ ihb =>
    intro x i d p hf hp
    cases i with
    | zero =>
      simp only [getF] at hf; injection hf with hf; subst hf
      simp only [slicePaths]
      exact List.mem_append_left _ (List.mem_map.2 ⟨p, hp, rfl⟩)
    | succ i =>
      simp only [getF] at hf
      have := ihb hf hp
      cases b with
      | prod u v => rw [slicePaths]; exact List.mem_append_right _ (List.mem_map.2 ⟨i :: p, this, rfl⟩)
      | _ => cases hf
  | _ => intro x i d p hf; cases hf
theorem getP_paths : ∀ {q : List Nat} {t : Ty} {x : t.val} {y : Dat} {p : List Nat}, getP t x q = some y → p ∈ slicePaths y.1 → (q ++ p) ∈ slicePaths t
  | [], t, x, y, p, h, hp => by simp only [getP] at h; injection h with h; subst h; exact hp
  | i :: q, t, x, y, p, h, hp => by
    simp only [getP] at h
    cases hf : getF t x i with
    | none => rw [hf] at h; cases h
    | some d =>
      rw [hf] at h
      exact getF_paths hf (getP_paths h hp)
/-- an element of a tree's array -/
theorem XRep.el : ∀ {u : Ty} {xs : (Ty.slice u).val} {cs : List Value} {B : Nat → Prop} {v : Value}, XRep w (.slice u) xs cs B → cs[0]? = some v → ∀ {i : Nat} {q : List Nat} {e' : Ty} {z : Value}, typeAt u q = some (.slice e') → elemAt w u v i q = some z →
    ∃ (x : u.val) (ds : List Value) (Bi : Nat → Prop), XRep w u x ds Bi ∧ ds[offs u q]? = some z ∧ (∀ g, Bi g → B g ∧ blockOf v ≠ some g) ∧ (∀ g k, SeenIn w u ds g k → SeenIn w (.slice u) cs g k) ∧
      ∀ {j : Nat} {r : List Nat} {e'' : Ty} {z' : Value}, typeAt u r = some (.slice e'') → elemAt w u v j r = some z' → ∀ g, Bi g → blockOf z' = some g → i = j ∧ ds[offs u r]? = some z' := by
  intro u xs cs B v h hv i q e' z hq hz
  rcases h with ⟨h1, _, _⟩ | ⟨g, c, arr, el, fr, Bs, h1, h2, h3, h4, hf, h5, h6, h7, h8⟩
  · rw [h1] at hv; simp at hv; subst hv; cases hz
  · rw [h1] at hv; simp at hv; subst hv
    have get : ∀ {j : Nat} {r : List Nat} {e'' : Ty} {z' : Value}, typeAt u r = some (.slice e'') → elemAt w u (.slice (some ⟨g, 0, none⟩) (List.length (α := u.val) xs) c) j r = some z' → ∃ (x : u.val) (ds : List Value), XRep w u x ds (Bs j) ∧ ds[offs u r]? = some z' ∧ j < List.length (α := u.val) xs ∧ (arr.toList.drop (j * u.size)).take u.size = ds := by
      intro j r e'' z' hr hz'
      have hlt := typeAt_lt hr
      have hs1 : (Ty.slice e'').size = 1 := rfl
      simp only [elemAt] at hz'
      split at hz'
      · rename_i hj
        obtain ⟨ds, k1, k2⟩ := h8 j _ (List.getElem?_eq_getElem (by show j < List.length (α := u.val) xs; exact hj))
        have hdl := k1.length
        have k3 := k2 (offs u r) _ (List.getElem?_eq_getElem (by omega))
        refine ⟨_, ds, k1, ?_, hj, seg k1.length k2⟩
        simp only [World.cell?, h4, Option.isSome_none, Bool.false_eq_true, if_false, Nat.zero_add] at hz'
        rw [hz'] at k3; injection k3 with k3
        rw [List.getElem?_eq_getElem (by omega), ← k3]
      · cases hz'
    obtain ⟨x, ds, a1, a2, a3, a4⟩ := get hq hz
    refine ⟨x, ds, Bs i, a1, a2, fun g' hg' => ⟨(h5 g').2 (.inr ⟨i, hg'⟩), fun hb => (h6 i g' hg').2 (by injection hb with hb; exact hb.symm)⟩, fun g' k hs => ⟨g, _, c, arr, el, fr, h1, h4, .inr ⟨i, a3, by rw [a4]; exact hs⟩⟩, fun {j r e'' z'} hr hz' g' hg' hb => ?_⟩
    obtain ⟨x', ds', b1, b2, b3, b4⟩ := get hr hz'
    have := h7 i j g' hg' (b1.blk hr b2 hb)
    subst this
    rw [a4] at b4; subst b4
    exact ⟨rfl, b2⟩
/-- what stands behind a place of a tree is the tree's -/
theorem XRep.blkT : ∀ {t : Ty} {x : t.val} {cs : List Value} {B : Nat → Prop} {p : List Nat} {T : Ty} {v : Value} {g : Nat}, XRep w t x cs B → typeAt t p = some T → cs[offs t p]? = some v → Blk w T v g → B g := by
  intro t
  induction t with
  | slice u _ =>
    intro x cs B p T v g h ht hv hg
    rcases typeAt_slice ht with ⟨rfl, rfl⟩ | ⟨rfl, rfl⟩
    · exact h.blk (p := []) rfl hv hg
    · have hv : cs[0]? = some v := hv
      obtain ⟨i, q, e', z, a1, a2, a3⟩ := hg
      obtain ⟨y, ds, Bi, b1, b2, b3, _, _⟩ := h.el hv a1 a2
      exact (b3 g (b1.blk a1 b2 a3)).1
  | prod p' q' ihp ihq =>
    intro x cs B p T v g h ht hv hg
    obtain ⟨c1, c2, B1, B2, rfl, h2, h3, h4, h5⟩ := h
    have l1 := h4.length
    cases p with
    | nil =>
      simp only [typeAt] at ht; injection ht with ht; subst ht
      have ho := hg.oty
      cases p' with
      | slice e =>
        cases q' with
        | unit =>
          have hs : (Ty.slice e).size = 1 := rfl
          rw [show offs (.prod (.slice e) .unit) [] = 0 from rfl, List.getElem?_append_left (by omega)] at hv
          exact (h2 g).2 (.inl (ihp (p := [0]) h4 rfl hv hg))
        | _ => cases ho
      | _ => cases ho
    | cons i p =>
      cases i with
      | zero =>
        simp only [typeAt] at ht
        simp only [offs] at hv
        have hlt := typeAt_lt ht
        have hs : T.size = 1 := oty_size hg.oty
        rw [List.getElem?_append_left (by omega)] at hv
        exact (h2 g).2 (.inl (ihp h4 ht hv hg))
      | succ i =>
        simp only [typeAt] at ht
        simp only [offs] at hv
        rw [List.getElem?_append_right (by omega), l1, show p'.size + offs q' (i :: p) - p'.size = offs q' (i :: p) by omega] at hv
        exact (h2 g).2 (.inr (ihq h5 ht hv hg))
  | int k => intro x cs B p T v g h ht hv hg; cases p <;> simp [typeAt] at ht; subst ht; cases hg
  | bool => intro x cs B p T v g h ht hv hg; cases p <;> simp [typeAt] at ht; subst ht; cases hg
  | str => intro x cs B p T v g h ht hv hg; cases p <;> simp [typeAt] at ht; subst ht; cases hg
  | unit => intro x cs B p T v g h ht hv hg; cases p <;> simp [typeAt] at ht; subst ht; cases hg
/-- two places of a tree at one block are one -/
theorem XRep.sepT : ∀ {t : Ty} {x : t.val} {cs : List Value} {B : Nat → Prop} {p q : List Nat} {T T' : Ty} {u v : Value} {g : Nat}, XRep w t x cs B → p ∈ slicePaths t → q ∈ slicePaths t → typeAt t p = some T → typeAt t q = some T' →
    cs[offs t p]? = some u → cs[offs t q]? = some v → Blk w T u g → Blk w T' v g → p = q := by
  intro t
  induction t with
  | slice d _ =>
    intro x cs B p q T T' u v g h hp hq ht ht' hu hv hgu hgv
    have key : ∀ {u v : Value}, cs[0]? = some u → cs[0]? = some v → Blk w (.slice d) u g → Blk w (.prod (.slice d) .unit) v g → False := by
      intro u v hu hv hgu hgv
      rw [hu] at hv; injection hv with hv; subst hv
      obtain ⟨i, q, e', z, a1, a2, a3⟩ := hgv
      obtain ⟨y, ds, Bi, b1, b2, b3, _, _⟩ := h.el hu a1 a2
      exact (b3 g (b1.blk a1 b2 a3)).2 hgu
    rcases typeAt_slice ht with ⟨rfl, rfl⟩ | ⟨rfl, rfl⟩ <;> rcases typeAt_slice ht' with ⟨rfl, rfl⟩ | ⟨rfl, rfl⟩
    · rfl
    · exact (key hu hv hgu hgv).elim
    · exact (key hv hu hgv hgu).elim
    · rfl
  | prod p' q' ihp ihq =>
    intro x cs B p q T T' u v g h hp hq ht ht' hu hv hgu hgv
    obtain ⟨c1, c2, B1, B2, rfl, h2, h3, h4, h5⟩ := h
    have l1 := h4.length
    have part : ∀ {r : List Nat}, r ∈ slicePaths (.prod p' q') → (∃ s, r = 0 :: s ∧ s ∈ slicePaths p') ∨ ∃ i s, r = (i + 1) :: s ∧ (i :: s) ∈ slicePaths q' := by
      intro r hr
      simp only [slicePaths, List.mem_append, List.mem_map] at hr
      rcases hr with ⟨s, hs, rfl⟩ | hr
      · exact .inl ⟨s, rfl, hs⟩
      · cases q' with
        | prod c d =>
          obtain ⟨i, s, e, hs⟩ := mem_bump hr (fun s hs => (slicePaths_spec hs).2 rfl)
          exact .inr ⟨i, s, e, hs⟩
        | _ => simp at hr
    have left : ∀ {r : List Nat} {S : Ty} {z : Value}, Blk w S z g → typeAt (.prod p' q') (0 :: r) = some S → (c1 ++ c2)[offs (.prod p' q') (0 :: r)]? = some z → typeAt p' r = some S ∧ c1[offs p' r]? = some z := by
      intro r S z hg ht hz
      simp only [typeAt] at ht
      simp only [offs] at hz
      have hlt := typeAt_lt ht
      have hs : S.size = 1 := oty_size hg.oty
      rw [List.getElem?_append_left (by omega)] at hz
      exact ⟨ht, hz⟩
    have right : ∀ {i : Nat} {r : List Nat} {S : Ty} {z : Value}, typeAt (.prod p' q') ((i + 1) :: r) = some S → (c1 ++ c2)[offs (.prod p' q') ((i + 1) :: r)]? = some z → typeAt q' (i :: r) = some S ∧ c2[offs q' (i :: r)]? = some z := by
      intro i r S z ht hz
      simp only [typeAt] at ht
      simp only [offs] at hz
      rw [List.getElem?_append_right (by omega), l1, show p'.size + offs q' (i :: r) - p'.size = offs q' (i :: r) by omega] at hz
      exact ⟨ht, hz⟩
    rcases part hp with ⟨s, rfl, hs⟩ | ⟨i, s, rfl, hs⟩ <;> rcases part hq with ⟨s', rfl, hs'⟩ | ⟨j, s', rfl, hs'⟩
    · obtain ⟨a1, a2⟩ := left hgu ht hu
      obtain ⟨b1, b2⟩ := left hgv ht' hv
      rw [ihp h4 hs hs' a1 b1 a2 b2 hgu hgv]
    · obtain ⟨a1, a2⟩ := left hgu ht hu
      obtain ⟨b1, b2⟩ := right ht' hv
      exact absurd (h5.blkT b1 b2 hgv) (h3 g (h4.blkT a1 a2 hgu))
    · obtain ⟨a1, a2⟩ := right ht hu
      obtain ⟨b1, b2⟩ := left hgv ht' hv
      exact absurd (h5.blkT a1 a2 hgu) (h3 g (h4.blkT b1 b2 hgv))
    · obtain ⟨a1, a2⟩ := right ht hu
      obtain ⟨b1, b2⟩ := right ht' hv
      have := ihq h5 hs hs' a1 b1 a2 b2 hgu hgv
      injection this with e1 e2
      rw [e1, e2]
  | int k => intro x cs B p q T T' u v g h hp; simp [slicePaths] at hp
  | bool => intro x cs B p q T T' u v g h hp; simp [slicePaths] at hp
  | str => intro x cs B p q T T' u v g h hp; simp [slicePaths] at hp
  | unit => intro x cs B p q T T' u v g h hp; simp [slicePaths] at hp
/-- the places of a tree that is given up are owned -/
theorem XRep.ownT {base : Nat → Prop} : ∀ {t : Ty} {x : t.val} {cs : List Value} {B : Nat → Prop} {p : List Nat} {T : Ty}, XRep w t x cs B → (∀ g k, SeenIn w t cs g k → lim g = some k) → (∀ g, B g → base g) → typeAt t p = some T → OTy T = true →
    ∃ v, cs[offs t p]? = some v ∧ OwnT w lim base T v := by
  intro t
  induction t with
  | slice u ihu =>
    intro x cs B p T h hl hb ht ho
    rcases typeAt_slice ht with ⟨rfl, rfl⟩ | ⟨rfl, rfl⟩
    · obtain ⟨v, k1, k2⟩ := h.tip (p := []) rfl
      refine ⟨v, k1, ?_⟩
      rcases k2 with k2 | ⟨g, m, c, arr, el, fr, q1, q2, q3, q4, q5, q6⟩
      · exact .inl k2
      · exact .inr ⟨g, m, c, arr, el, fr, q1, hb g q6, q2, q3, q4, q5, hl g _ (h.seen_at (p := []) rfl (by rw [k1, q1]))⟩
    · obtain ⟨v, k1, k2⟩ := h.tip (p := []) rfl
      have hv : cs[0]? = some v := k1
      refine ⟨v, k1, fun i q e' z hq hz => ?_, fun i q e' z j r e'' z' g hq hr hz hz' hg hg' => ?_⟩
      · obtain ⟨y, ds, Bi, b1, b2, b3, b4, _⟩ := h.el hv hq hz
        obtain ⟨v', c1, c2⟩ := ihu b1 (fun g k hs => hl g k (b4 g k hs)) (fun g hg => hb g (b3 g hg).1) hq rfl
        rw [b2] at c1; injection c1 with c1; subst c1
        exact c2
      · obtain ⟨y, ds, Bi, b1, b2, b3, b4, b5⟩ := h.el hv hq hz
        obtain ⟨c1, c2⟩ := b5 hr hz' g (b1.blk hq b2 hg) hg'
        exact ⟨c1, b1.inj hq hr b2 c2 hg hg'⟩
  | prod p' q' ihp ihq =>
    intro x cs B p T h hl hb ht ho
    obtain ⟨c1, c2, B1, B2, rfl, h2, h3, h4, h5⟩ := h
    have l1 := h4.length
    have hl1 : ∀ g k, SeenIn w p' c1 g k → lim g = some k := fun g k hs => hl g k (.inl (by rw [← l1, List.take_left]; exact hs))
    have hl2 : ∀ g k, SeenIn w q' c2 g k → lim g = some k := fun g k hs => hl g k (.inr (by rw [← l1, List.drop_left]; exact hs))
    cases p with
    | nil =>
      simp only [typeAt] at ht; injection ht with ht; subst ht
      cases p' with
      | slice e =>
        cases q' with
        | unit =>
          obtain ⟨v, k1, k2⟩ := ihp (p := [0]) h4 hl1 (fun g hg => hb g ((h2 g).2 (.inl hg))) rfl rfl
          have k1 : c1[0]? = some v := k1
          exact ⟨v, by rw [show offs (.prod (.slice e) .unit) [] = 0 from rfl, List.getElem?_append_left (List.getElem?_eq_some_iff.1 k1).1]; exact k1, k2⟩
        | _ => cases ho
      | _ => cases ho
    | cons i p =>
      cases i with
      | zero =>
        simp only [typeAt] at ht
        obtain ⟨v, k1, k2⟩ := ihp h4 hl1 (fun g hg => hb g ((h2 g).2 (.inl hg))) ht ho
        exact ⟨v, by simp only [offs]; rw [List.getElem?_append_left (List.getElem?_eq_some_iff.1 k1).1]; exact k1, k2⟩
      | succ i =>
        simp only [typeAt] at ht
        obtain ⟨v, k1, k2⟩ := ihq h5 hl2 (fun g hg => hb g ((h2 g).2 (.inr hg))) ht ho
        refine ⟨v, ?_, k2⟩
        simp only [offs]
        rw [List.getElem?_append_right (by omega), l1, show p'.size + offs q' (i :: p) - p'.size = offs q' (i :: p) by omega]; exact k1
  | int k => intro x cs B p T h _ _ ht ho; cases p <;> simp [typeAt] at ht; subst ht; cases ho
  | bool => intro x cs B p T h _ _ ht ho; cases p <;> simp [typeAt] at ht; subst ht; cases ho
  | str => intro x cs B p T h _ _ ht ho; cases p <;> simp [typeAt] at ht; subst ht; cases ho
  | unit => intro x cs B p T h _ _ ht ho; cases p <;> simp [typeAt] at ht; subst ht; cases ho

theorem soleIn_inj {r t u : Tmp} {q q' : List Nat} (h1 : (st.env t).av = .xf r q) (h2 : (st.env u).av = .xf r q') : ∀ {rs : List ResultVar}, soleIn st r t rs = true → soleIn st r u rs = true → t = u
  | [], h, _ => by cases h
  | .cell _ _ :: rs, h, k => soleIn_inj h1 h2 (rs := rs) h k
  | .tmp x :: rs, h, k => by
    simp only [soleIn] at h k
    cases ht : Nat.beq x t with
    | true =>
      have et := nbeq ht
      rw [ht] at h; simp only [cnd_true] at h
      have hr : rootIn st r rs = false := by cases hq : rootIn st r rs with
        | false => rfl
        | true => rw [hq] at h; cases h
      cases hu : Nat.beq x u with
      | true => rw [← et, nbeq hu]
      | false =>
        rw [hu] at k; simp only [cnd_false] at k
        rw [et, h1] at k
        simp only [] at k
        have : Nat.beq r r = true := Nat.beq_refl r
        rw [this] at k; cases k
    | false =>
      rw [ht] at h; simp only [cnd_false] at h
      cases hu : Nat.beq x u with
      | true =>
        have eu := nbeq hu
        rw [eu, h2] at h
        simp only [] at h
        have : Nat.beq r r = true := Nat.beq_refl r
        rw [this] at h; cases h
      | false =>
        rw [hu] at k; simp only [cnd_false] at k
        split at h
        · rename_i c p hav
          rw [hav] at k; simp only [] at k
          cases hc : Nat.beq c r with
          | true => rw [hc] at h; cases h
          | false => rw [hc] at h k; exact soleIn_inj h1 h2 (rs := rs) h k
        · rename_i hno
          split at k
          · rename_i c p hav; exact absurd hav (hno c p)
          · exact soleIn_inj h1 h2 (rs := rs) h k

/-- how far a tree's array is seen once the tree is given up -/
def seenTo (st : St) (β : Mp) (w : World) (g k : Nat) : Prop := ∃ r d, st.io r = some d ∧ SeenIn w d.1 (flatV (β.V r)) g k
open Classical in
noncomputable def limF (st : St) (β : Mp) (w : World) (lim : Lim) : Lim := fun g => if h : ∃ k, seenTo st β w g k then some h.choose else lim g
theorem seen_tree (h : Sim w0 lim0 rb n st a w lim β) {g k : Nat} (hs : seenTo st β w g k) : isTree st β g := by
  obtain ⟨r, d, h1, h2⟩ := hs
  exact .inl ⟨r, d, h1, (h.xs.io r d h1).seen_blk h2⟩
theorem limF_of (h : Sim w0 lim0 rb n st a w lim β) {g k : Nat} (hs : seenTo st β w g k) : limF st β w lim g = some k := by
  unfold limF
  have hex : ∃ k, seenTo st β w g k := ⟨k, hs⟩
  rw [dif_pos hex]
  obtain ⟨r, d, h1, h2⟩ := hs
  obtain ⟨r', d', k1, k2⟩ := hex.choose_spec
  have X := h.xs.io r d h1
  have X' := h.xs.io r' d' k1
  have := h.xs.dis r d r' d' g h1 k1 (X.seen_blk h2) (X'.seen_blk k2)
  subst this
  rw [h1] at k1; injection k1 with k1; subst k1
  rw [X.seen_inj k2 h2]
theorem limF_off (h : Sim w0 lim0 rb n st a w lim β) {g : Nat} (hs : ¬ isTree st β g) : limF st β w lim g = lim g := by
  unfold limF
  rw [dif_neg (fun ⟨k, hk⟩ => hs (seen_tree h hk))]
theorem ext_limF (h : Sim w0 lim0 rb n st a w lim β) : Ext w lim w (limF st β w lim) :=
  ⟨Nat.le_refl _, fun _ _ _ _ _ h => h, fun b m _ hu k hk => by
    by_cases ht : isTree st β b
    · have := hu 0 (h.xs.lt ht).2.2
      omega
    · rw [limF_off h ht] at hk; exact hu k hk⟩
theorem flat_wrap {t : Ty} {x : t.val} {cs : List Value} (h : CRep w lim t x cs) : flatV (wrapV t cs) = cs := by
  rw [flat_TRep (t := t) (x := x) (w := w) (lim := lim) ⟨cs, h, rfl⟩, wrapV_cells h]

/-- THE TREES ARE GIVEN UP. -/
theorem Sim.frz (h : Sim w0 lim0 rb n st a w lim β) (rs : List ResultVar) (hrb : ∀ k, some k = rb → k < w0.heap.size) : Sim w0 lim0 rb n (Den.frz rs st) a w (limF st β w lim) β := by
  have hnr : ∀ g, isTree st β g → w0.fr g := fun g hg => (h.xs.lt hg).2.1
  have hext := ext_limF h
  have xval : ∀ t r q, (st.env t).av = .xf r q → ∀ y, st.atX r q = some y → ∃ d cs, st.io r = some d ∧ getP d.1 d.2 q = some y ∧ CRep w (limF st β w lim) y.1 y.2 cs ∧ tmpOf a t = wrapV y.1 cs ∧ ∀ k v, cs[k]? = some v → (flatV (β.V r))[offs d.1 q + k]? = some v := by
    intro t r q hav y hy
    obtain ⟨d, hio, hv⟩ := xf_val h (x := .tmp t) hav hy
    obtain ⟨d2, Bu, m1, m2, m3, m6, m7, m8⟩ := h.atX hy
    rw [hio] at m1; injection m1 with m1; subst m1
    have hw := ((h.xs.io r d hio).crep2 (lim := limF st β w lim) (fun g k hs => limF_of h ⟨r, d, hio, hs⟩))
    obtain ⟨c1, c2, c3, q1, q2, q3, _⟩ := hw.part m2
    have hc2 : ((flatV (β.V r)).drop (offs d.1 q)).take y.1.size = c2 := by
      rw [q1, ← q2, List.drop_left, ← q3.length, List.take_left]
    refine ⟨d, c2, hio, m2, q3, by rw [← hc2]; exact hv, fun k v hk => ?_⟩
    rw [q1, ← q2, List.getElem?_append_right (by omega), show c1.length + k - c1.length = k by omega, List.getElem?_append_left (List.getElem?_eq_some_iff.1 hk).1]; exact hk
  -- what is owned then
  have ownc : ∀ l, (Den.frz rs st).own l = true → (st.own l = true ∧ locTy (Den.frz rs st) l = locTy st l ∧ locV (Den.frz rs st) a w β l = locV st a w β l) ∨
      ∃ t p r q y d, l = .tmp t p ∧ (st.env t).av = .xf r q ∧ st.atX r q = some y ∧ st.io r = some d ∧ soleIn st r t rs = true ∧ (q ++ p) ∈ slicePaths d.1 ∧ (∃ T v, typeAt d.1 (q ++ p) = some T ∧ OTy T = true ∧ (flatV (β.V r))[offs d.1 (q ++ p)]? = some v ∧ locTy (Den.frz rs st) l = some T ∧ locV (Den.frz rs st) a w β l = some v) := by
    intro l hl
    cases l with
    | box b p => exact .inl ⟨hl, rfl, rfl⟩
    | tmp t p =>
      simp only [Den.frz] at hl
      split at hl
      · rename_i r q hav
        split at hl
        · rename_i y hy
          cases hso : soleIn st r t rs with
          | false => rw [hso] at hl; cases hl
          | true =>
            rw [hso] at hl
            have hp := inPaths_iff.1 hl
            obtain ⟨⟨e, he, hoe⟩, _⟩ := slicePaths_spec hp
            obtain ⟨d, cs, k1, k2, k3, k4, k5⟩ := xval t r q hav y hy
            obtain ⟨g1, g2⟩ := getP_app k2 p he
            obtain ⟨v, hv, _⟩ := (h.xs.io r d k1).ownT (lim := limF st β w lim) (base := w0.fr) (fun g k hs => limF_of h ⟨r, d, k1, hs⟩) (fun g hg => hnr g (.inl ⟨r, d, k1, hg⟩)) g1 hoe
            have hcv : cs[offs y.1 p]? = some v := by
              have hlt := typeAt_lt he
              have hs : e.size = 1 := oty_size hoe
              have hl' := k3.length
              have := k5 (offs y.1 p) _ (List.getElem?_eq_getElem (by omega))
              rw [← g2, hv] at this; injection this with this
              rw [List.getElem?_eq_getElem (by omega), ← this]
            refine .inr ⟨t, p, r, q, y, d, rfl, hav, hy, k1, hso, getP_paths k2 hp, e, v, g1, hoe, hv, ?_, ?_⟩
            · have : ((Den.frz rs st).env t).av = .dat y.1 y.2 := by simp only [Den.frz, frzAV, hav, hy]
              simp only [locTy, this]; exact he
            · have : ((Den.frz rs st).env t).av = .dat y.1 y.2 := by simp only [Den.frz, frzAV, hav, hy]
              simp only [locV, this, k4, flat_wrap k3]; exact hcv
        · cases hl
      · rename_i hno
        obtain ⟨e, v, k1, _⟩ := h.own _ hl
        have hav : ((Den.frz rs st).env t).av = (st.env t).av := by
          simp only [Den.frz]
          simp only [locTy] at k1
          cases hq : (st.env t).av with
          | xf r q => exact absurd hq (hno r q)
          | xp _ _ _ _ => rw [hq] at k1; cases k1
          | xt _ => rw [hq] at k1; cases k1
          | xe _ _ => rw [hq] at k1; cases k1
          | mx _ _ _ => rw [hq] at k1; cases k1
          | cx _ _ => rw [hq] at k1; cases k1
          | _ => rfl
        exact .inl ⟨hl, by simp only [locTy, hav], by simp only [locV, hav]⟩
  -- and what stands behind it
  have hasc : ∀ l g, (Den.frz rs st).own l = true → HasL (Den.frz rs st) a w β l g → (st.own l = true ∧ HasL st a w β l g) ∨
      ∃ t p r q d T v, l = .tmp t p ∧ (st.env t).av = .xf r q ∧ st.io r = some d ∧ soleIn st r t rs = true ∧ (q ++ p) ∈ slicePaths d.1 ∧ typeAt d.1 (q ++ p) = some T ∧ (flatV (β.V r))[offs d.1 (q ++ p)]? = some v ∧ Blk w T v g ∧ β.B r g := by
    intro l g hl hg
    obtain ⟨T, v, m1, m2, m3⟩ := hg
    rcases ownc l hl with ⟨k1, k2, k3⟩ | ⟨t, p, r, q, y, d, rfl, k1, k2, k3, k4, kp, T', v', k5, ko, k6, k7, k8⟩
    · exact .inl ⟨k1, T, v, by rw [← k2]; exact m1, by rw [← k3]; exact m2, m3⟩
    · rw [k7] at m1; injection m1 with m1; subst m1
      rw [k8] at m2; injection m2 with m2; subst m2
      exact .inr ⟨t, p, r, q, d, T', v', rfl, k1, k3, k4, kp, k5, k6, m3, (h.xs.io r d k3).blkT k5 k6 m3⟩
  refine ⟨h.size, h.defers, h.grow, fun b hb hX => ?_, h.xrb, h.rdk, fun t => ?_, fun b d hb => ?_, h.inj, fun l hl => ?_, fun l g hl hg b d' hb => ?_, fun l l' g hl hl' hg hg' => ?_, fun t l ht => (by cases ht), fun d hd => ?_, ?_⟩
  · rw [limF_off h (fun ht => by
      rcases hnr b ht with h1 | h1
      · omega
      · exact hX h1)]
    exact h.limOld b hb hX
  · have ht := h.env t
    have hm : ∀ {av : AV}, (∀ r p, av ≠ .xf r p) → (∀ r p k q, av ≠ .xp r p k q) → (∀ k q, av ≠ .xe k q) → (∀ t x ps, av ≠ .mx t x ps) → (∀ r, av ≠ .xt r) → (∀ b p, av ≠ .cx b p) → ERep st w lim β rb av (tmpOf a t) → ERep (Den.frz rs st) w (limF st β w lim) β rb av (tmpOf a t) := by
      intro av n1 n2 n5 n6 n3 n4 hv
      cases av with
      | xf r p => exact absurd rfl (n1 r p)
      | xp r p k q => exact absurd rfl (n2 r p k q)
      | xe k q => exact absurd rfl (n5 k q)
      | mx t x ps => exact absurd rfl (n6 t x ps)
      | xt r => exact absurd rfl (n3 r)
      | cx b p => exact absurd rfl (n4 b p)
      | dat ty x => exact TRep.mono hext hv
      | ref ty x =>
        obtain ⟨b, o, cs, e1, e2, e3, e4, e5⟩ := hv
        exact ⟨b, o, cs, e1, e2, e3.mono hext, hext.lim _ _ e2 e4, e5⟩
      | tup ty x =>
        obtain ⟨vs, e1, e2⟩ := hv
        exact ⟨vs, e1, e2.mono hext⟩
      | _ => exact hv
    have hav : ((Den.frz rs st).env t).av = frzAV st (st.env t).av := rfl
    rw [hav]
    cases hq : (st.env t).av with
    | xf r q =>
      simp only [frzAV]
      cases hy : st.atX r q with
      | none => trivial
      | some y =>
        obtain ⟨d, cs, _, _, k3, k4, _⟩ := xval t r q hq y hy
        exact ⟨cs, k3, k4⟩
    | xp _ _ _ _ => trivial
    | xe _ _ => trivial
    | mx _ _ _ => trivial
    | xt _ => trivial
    | cx _ _ => trivial
    | _ => rw [hq] at ht; exact hm (fun _ _ e => by cases e) (fun _ _ _ _ e => by cases e) (fun _ _ e => by cases e) (fun _ _ _ e => by cases e) (fun _ e => by cases e) (fun _ _ e => by cases e) ht
  · obtain ⟨cells, e, h1, h2, h3, h4⟩ := h.box b d hb
    exact ⟨cells, e, h1, h2.mono hext, h3, (limF_off h (h.xs.offb hb)).trans h4⟩
  · rcases ownc l hl with ⟨k1, k2, k3⟩ | ⟨t, p, r, q, y, d, rfl, k1, k2, k3, k4, kp, T, v, k5, ko, k6, k7, k8⟩
    · obtain ⟨T, v, m1, m2, m3⟩ := h.own l k1
      exact ⟨T, v, k2.trans m1, k3.trans m2, m3.relim fun g hg => limF_off h (h.xs.off k1 ⟨T, v, m1, m2, hg⟩)⟩
    · obtain ⟨v', m1, m2⟩ := (h.xs.io r d k3).ownT (lim := limF st β w lim) (base := w0.fr) (fun g k hs => limF_of h ⟨r, d, k3, hs⟩) (fun g hg => hnr g (.inl ⟨r, d, k3, hg⟩)) k5 ko
      rw [k6] at m1; injection m1 with m1; subst m1
      exact ⟨T, v, k7, k8, m2⟩
  · rcases hasc l g hl hg with ⟨k1, k2⟩ | ⟨t, p, r, q, d, T, v, rfl, k1, k2, k3, k4, k5, k6, k7, k8⟩
    · exact h.ownb l g k1 k2 b d' hb
    · exact h.xs.box r d g k2 k8 b d' hb
  · rcases hasc l g hl hg with ⟨k1, k2⟩ | ⟨t, p, r, q, d, T, v, rfl, k1, k2, k3, k4, k5, k6, k7, k8⟩ <;> rcases hasc l' g hl' hg' with ⟨j1, j2⟩ | ⟨t', p', r', q', d', T', v', rfl, j1, j2, j3, j4, j5, j6, j7, j8⟩
    · exact h.sep l l' g k1 j1 k2 j2
    · exact absurd k2 (h.xs.own r' d' g j2 j8 l k1)
    · exact absurd j2 (h.xs.own r d g k2 k8 l' j1)
    · have er := h.xs.dis r d r' d' g k2 j2 k8 j8
      subst er
      have et := soleIn_inj k1 j1 k3 j3
      subst et
      rw [k1] at j1; injection j1 with _ j1; subst j1
      rw [k2] at j2; injection j2 with j2; subst j2
      have := (h.xs.io r d k2).sepT k4 j4 k5 j5 k6 j6 k7 j7
      rw [List.append_cancel_left this]
  · obtain ⟨b, cells, e, k1, k2, k3, k4, k5⟩ := h.rd d hd
    exact ⟨b, cells, e, k1, k2, k3, k4.mono hext, (limF_off h (fun ht => h.fr_rb (hnr b ht) k1.symm (hrb b k1.symm))).trans k5⟩
  · exact ⟨fun _ _ hr => (by cases hr), fun _ _ _ hr => (by cases hr), fun _ _ _ hr => (by cases hr), fun _ _ _ hr => (by cases hr), fun _ _ _ _ _ hr => (by cases hr), fun _ _ _ hb => (by cases hb), fun _ _ _ hb => (by cases hb), fun _ _ _ _ _ _ hb => (by cases hb), fun _ hd => (by cases hd), fun _ hd => (by cases hd), fun _ _ _ hb => (by cases hb)⟩
end
end Go.Den

namespace Go.Den
section
variable {P : Program} {tab : Tab} {G : Gam} {w0 : Base} {lim0 : Lim} {rb : Option Nat} {n : Nat}
variable {st st' : St} {a : Act} {w : World} {lim : Lim} {β β' : Mp}

theorem dropX_cases (e : Ent) : (dropX e = e ∧ (∀ r p, e.av ≠ .xf r p) ∧ (∀ r p k q, e.av ≠ .xp r p k q) ∧ (∀ r, e.av ≠ .xt r) ∧ (∀ k q, e.av ≠ .xe k q) ∧ ∀ t x ps, e.av ≠ .mx t x ps) ∨
    (dropX e = ⟨.any, none⟩ ∧ ∀ p v, typeAV p e.av = none ∧ partAV v p e.av = none) := by
  unfold dropX
  cases h : e.av <;> first
    | exact .inr ⟨rfl, fun _ _ => ⟨rfl, rfl⟩⟩
    | exact .inl ⟨rfl, fun _ _ e => (by cases e), fun _ _ _ _ e => (by cases e), fun _ e => (by cases e), fun _ _ e => (by cases e), fun _ _ _ e => (by cases e)⟩
/-- trees change their names and their places; nothing else does -/
theorem Sim.retree (h : Sim w0 lim0 rb n st a w lim β) (hbox : st'.box = st.box) (hown : st'.own = st.own) (hrd : st'.rd = st.rd) (hb : β'.b = β.b) (henv : ∀ t, st'.env t = dropX (st.env t))
    (hcx : ∀ b t o, st.xb b = some (t, o) → (∃ o', st'.xb b = some (t, o')) ∧ β'.c b = β.c b)
    (hxs : (∀ l g, HasL st' a w β' l g ↔ HasL st a w β l g) → Own w0 rb st' a w lim β') : Sim w0 lim0 rb n st' a w lim β' := by
  have lt : ∀ l, locTy st' l = locTy st l := fun l => by
    cases l with
    | tmp t p =>
      rw [locTy_tmp, locTy_tmp, henv]
      rcases dropX_cases (st.env t) with ⟨h1, _⟩ | ⟨h1, h2⟩
      · rw [h1]
      · rw [h1, (h2 p undef).1]; rfl
    | box b p => simp only [locTy, hbox]
  have lv : ∀ l, locV st' a w β' l = locV st a w β l := fun l => by
    cases l with
    | tmp t p =>
      rw [locV_tmp, locV_tmp, henv]
      rcases dropX_cases (st.env t) with ⟨h1, _⟩ | ⟨h1, h2⟩
      · rw [h1]
      · rw [h1, (h2 p (tmpOf a t)).2]; rfl
    | box b p => simp only [locV, hbox, hb]
  have lh : ∀ l g, HasL st' a w β' l g ↔ HasL st a w β l g := fun l g => by unfold HasL; rw [lt, lv]
  refine ⟨h.size, h.defers, h.grow, h.limOld, h.xrb, hrd ▸ h.rdk, fun t => ?_, fun b d hbd => ?_, fun b c d d' h1 h2 he => ?_, fun l hl => ?_, fun l g hl hg b d hbd => ?_, fun l l' g h1 h2 h3 h4 => ?_, fun t l ht hl => ?_, fun d hd => ?_, hxs lh⟩
  · rw [henv]
    rcases dropX_cases (st.env t) with ⟨h1, n1, n2, n3, n4, n5⟩ | ⟨h1, h2⟩
    · rw [h1]
      have ht := h.env t
      cases hav : (st.env t).av with
      | xf r p => exact absurd hav (n1 r p)
      | xp r p k q => exact absurd hav (n2 r p k q)
      | xt r => exact absurd hav (n3 r)
      | xe k q => exact absurd hav (n4 k q)
      | mx t x ps => exact absurd hav (n5 t x ps)
      | cel b p =>
        rw [hav] at ht
        obtain ⟨d, k1, k2⟩ := ht
        exact ⟨d, by rw [hbox]; exact k1, by rw [hb]; exact k2⟩
      | rdr p =>
        rw [hav] at ht
        obtain ⟨d, b, k1, k2⟩ := ht
        exact ⟨d, b, by rw [hrd]; exact k1, k2⟩
      | cx b p =>
        rw [hav] at ht
        obtain ⟨t', o, k1, k2⟩ := ht
        obtain ⟨⟨o', m1⟩, m2⟩ := hcx b t' o k1
        exact ⟨t', o', m1, by rw [m2]; exact k2⟩
      | _ => rw [hav] at ht; exact ht
    · rw [h1]; trivial
  · rw [hbox] at hbd; rw [hb]; exact h.box b d hbd
  · rw [hbox] at h1 h2; rw [hb] at he; exact h.inj b c d d' h1 h2 he
  · rw [hown] at hl; rw [lt, lv]; exact h.own l hl
  · rw [hown] at hl; rw [hbox] at hbd; rw [hb]; exact h.ownb l g hl ((lh l g).1 hg) b d hbd
  · rw [hown] at h1 h2; exact h.sep l l' g h1 h2 ((lh l g).1 h3) ((lh l' g).1 h4)
  · rw [hown] at hl
    rw [henv] at ht ⊢
    rcases dropX_cases (st.env t) with ⟨h1, _⟩ | ⟨h1, _⟩
    · rw [h1] at ht ⊢; rw [lt, lv]; exact h.tag t l ht hl
    · rw [h1] at ht; cases ht
  · rw [hrd] at hd; exact h.rd d hd

/-! ### a record becomes one tree -/
theorem hasR_mem {r : Tmp} : ∀ {ps : List (List Nat × Tmp × List Nat)}, hasR r ps = true ↔ ∃ p q, (p, r, q) ∈ ps
  | [] => by simp [hasR]
  | (p', k, q') :: ps => by
    simp only [hasR]
    cases hq : Nat.beq r k with
    | true => have := nbeq hq; subst this; simp only [cnd_true, true_iff]; exact ⟨p', q', by simp⟩
    | false =>
      have hne : r ≠ k := fun e => by subst e; simp at hq
      simp only [cnd_false]
      rw [hasR_mem (ps := ps)]
      constructor
      · rintro ⟨p, q, h⟩; exact ⟨p, q, List.mem_cons_of_mem _ h⟩
      · rintro ⟨p, q, h⟩
        rcases List.mem_cons.1 h with h | h
        · injection h with _ h; injection h with h _; exact absurd h hne
        · exact ⟨p, q, h⟩
theorem wholePs_spec : ∀ {ps : List (List Nat × Tmp × List Nat)}, wholePs ps = true → (∀ p r q, (p, r, q) ∈ ps → r ≠ 0 ∧ q = [] ∧ ∃ i, p = [i] ∧ partAtX [i] ps = some (r, []) ∧ fieldOf r ps = some i) ∧
    (∀ i j r q q', partAtX [i] ps = some (r, q) → partAtX [j] ps = some (r, q') → i = j) := by
  intro ps
  induction ps with
  | nil => intro _; exact ⟨fun p r q h => (by cases h), fun i j r q q' h => (by cases h)⟩
  | cons x ps ih =>
    obtain ⟨p0, r0, q0⟩ := x
    intro h
    unfold wholePs at h
    split at h
    · rename_i heq; cases heq
    · rename_i i r ps' heq
      injection heq with e1 e2; injection e1 with e1 e3; injection e3 with e3 e4
      subst e1; subst e2; subst e3; subst e4
      cases h0 : Nat.beq r0 0 with
      | true => rw [h0] at h; cases h
      | false =>
      cases h1 : hasR r0 ps with
      | true => rw [h0, h1] at h; cases h
      | false =>
      cases h2 : partAtX [i] ps with
      | some z => rw [h0, h1, h2] at h; cases h
      | none =>
        rw [h0, h1, h2] at h
        simp only [cnd_false] at h
        obtain ⟨k1, k2⟩ := ih h
        have nor : ∀ p q, (p, r0, q) ∉ ps := fun p q hm => by
          have := hasR_mem.2 ⟨p, q, hm⟩; rw [h1] at this; cases this
        refine ⟨fun p r q hm => ?_, fun j k r q q' hj hk => ?_⟩
        · rcases List.mem_cons.1 hm with hm1 | hm1
          · injection hm1 with e1 e2; injection e2 with e2 e3; subst e1; subst e2; subst e3
            refine ⟨fun e => (by subst e; cases h0), rfl, i, rfl, by simp [partAtX, pbeq], by simp [fieldOf]⟩
          · obtain ⟨m1, m2, j, m3, m4, m5⟩ := k1 p r q hm1
            have hne : r ≠ r0 := fun e => nor p q (e ▸ hm1)
            have hb : Nat.beq r r0 = false := by
              cases hq : Nat.beq r r0 with
              | true => exact absurd (nbeq hq) hne
              | false => rfl
            have hji : pbeq [j] [i] = false := by
              cases hq : pbeq [j] [i] with
              | true => have := pbeq_iff.1 hq; injection this with this _; subst this; rw [h2] at m4; cases m4
              | false => rfl
            exact ⟨m1, m2, j, m3, by simp only [partAtX, hji, cnd_false]; exact m4, by simp only [fieldOf, hb, cnd_false]; exact m5⟩
        · simp only [partAtX] at hj hk
          cases hqj : pbeq [j] [i] with
          | true =>
            rw [hqj] at hj
            injection hj with hj; injection hj with e1 e2; subst e1
            cases hqk : pbeq [k] [i] with
            | true => have := pbeq_iff.1 hqj; have t2 := pbeq_iff.1 hqk; rw [← t2] at this; injection this
            | false =>
              rw [hqk] at hk
              exact absurd (partAtX_mem hk) (nor _ _)
          | false =>
            rw [hqj] at hj
            cases hqk : pbeq [k] [i] with
            | true =>
              rw [hqk] at hk
              injection hk with hk; injection hk with e1 e2; subst e1
              exact absurd (partAtX_mem hj) (nor _ _)
            | false => rw [hqk] at hk; exact k2 j k r q q' hj hk
    · cases h
theorem liveAll_spec : ∀ {ps : List (List Nat × Tmp × List Nat)}, liveAll st ps = true → ∀ p r q, (p, r, q) ∈ ps → ∃ d, st.atX r [] = some d
  | [], _, p, r, q, h => by cases h
  | (p', r', q') :: ps, hl, p, r, q, h => by
    simp only [liveAll] at hl
    cases hx : st.atX r' [] with
    | none => rw [hx] at hl; cases hl
    | some d =>
      rw [hx] at hl
      rcases List.mem_cons.1 h with h | h
      · injection h with _ h; injection h with h _; subst h; exact ⟨d, hx⟩
      · exact liveAll_spec hl p r q h
theorem joinV_spec {ps : List (List Nat × Tmp × List Nat)} : ∀ {t : Ty} {x z : t.val} {i : Nat}, joinV st ps t x i = some z → isStr t = true ∧ ∀ k y, getF t z k = some y →
    (∃ r q, partAtX [i + k] ps = some (r, q) ∧ st.atX r [] = some y) ∨ (partAtX [i + k] ps = none ∧ getF t x k = some y) := by
  intro t
  induction t with
  | unit => intro x z i _; exact ⟨rfl, fun k y hy => by cases hy⟩
  | prod a b _ ihb =>
    intro x z i h
    simp only [joinV] at h
    cases hb : joinV st ps b x.2 (Nat.succ i) with
    | none => rw [hb] at h; rcases hp : partAtX [i] ps with _ | ⟨r, q⟩ <;> rw [hp] at h <;> cases h
    | some z2 =>
      obtain ⟨k1, k2⟩ := ihb hb
      rw [hb] at h
      have shift : ∀ k, Nat.succ i + k = i + (k + 1) := fun k => by omega
      cases hp : partAtX [i] ps with
      | none =>
        rw [hp] at h
        simp only [] at h
        injection h with h; subst h
        refine ⟨k1, fun k y hy => ?_⟩
        cases k with
        | zero => simp only [getF] at hy; injection hy with hy; exact .inr ⟨hp, by simp only [getF]; rw [hy]⟩
        | succ k => have := k2 k y hy; rw [shift] at this; exact this
      | some rq =>
        obtain ⟨r, q⟩ := rq
        rw [hp] at h
        simp only [] at h
        cases hx : st.atX r [] with
        | none => rw [hx] at h; cases h
        | some d =>
          rw [hx] at h
          simp only [] at h
          cases hc : Ty.cast d.1 a d.2 with
          | none => rw [hc] at h; cases h
          | some y' =>
            rw [hc] at h
            injection h with h; subst h
            obtain ⟨e1, e2⟩ := cast_some hc
            obtain ⟨dt, dv⟩ := d
            simp only at e1 e2
            subst e1; subst e2
            refine ⟨k1, fun k y hy => ?_⟩
            cases k with
            | zero => simp only [getF] at hy; injection hy with hy; subst hy; exact .inl ⟨r, q, hp, hx⟩
            | succ k => have := k2 k y hy; rw [shift] at this; exact this
  | int k => intro x z i h; cases h
  | bool => intro x z i h; cases h
  | str => intro x z i h; cases h
  | slice e => intro x z i h; cases h
theorem trJoin_ok (h : Sim w0 lim0 rb n st a w lim β) {b R : Tmp} (ht : trJoin b R st = some st') : ∃ lim' β', Sim w0 lim0 rb n st' a w lim' β' := by
  unfold trJoin at ht
  split at ht
  · rename_i ty d ps hxb hrb hR
    cases hR0 : Nat.beq R 0 with
    | true => rw [hR0] at ht; cases ht
    | false =>
    cases hwp : wholePs ps with
    | false => rw [hR0, hwp] at ht; cases ht
    | true =>
    cases hlv : liveAll st ps with
    | false => rw [hR0, hwp, hlv] at ht; cases ht
    | true =>
    rw [hR0, hwp, hlv] at ht
    simp only [cnd_true, cnd_false] at ht
    cases hjv : joinV st ps d.1 d.2 0 with
    | none => rw [hjv] at ht; cases ht
    | some x =>
    rw [hjv] at ht
    injection ht with ht
    have hR0' : R ≠ 0 := fun e => by subst e; cases hR0
    obtain ⟨hstr, hjs⟩ := joinV_spec hjv
    obtain ⟨wp1, wp2⟩ := wholePs_spec hwp
    obtain ⟨hxb2, bcells, be, hbh, hmix⟩ := h.xs.rbx b d ps hrb
    obtain ⟨cells', e', hbh', hcsz, hbge, hblim, _⟩ := h.xs.xb b d.1 none hxb2
    rw [hbh] at hbh'; injection hbh' with hbh'; injection hbh' with hbh'; subst hbh'
    have hlen : bcells.toList.length = d.1.size := by simpa using hcsz
    -- a part's tree
    have part : ∀ p r q, (p, r, q) ∈ ps → ∃ i dr, p = [i] ∧ q = [] ∧ r ≠ 0 ∧ r ≠ R ∧ partAtX [i] ps = some (r, []) ∧ fieldOf r ps = some i ∧ st.atX r [] = some dr ∧ st.io r = some dr ∧ typeAt d.1 [i] = some dr.1 ∧
        (bcells.toList.drop (offs d.1 [i])).take dr.1.size = flatV (β.V r) ∧ XRep w dr.1 dr.2 (flatV (β.V r)) (β.B r) := by
      intro p r q hm
      obtain ⟨m1, m2, i, m3, m4, m5⟩ := wp1 p r q hm
      obtain ⟨dr, m6⟩ := liveAll_spec hlv p r q hm
      obtain ⟨dr', m7, m8⟩ := atX_some m6
      have m8 : dr' = dr := Option.some.inj (show some dr' = some dr from m8)
      subst m8
      have hlive := atX_live m6 m7
      obtain ⟨dr2, m9, m10⟩ := hmix.2 p r q hm
      rw [m7] at m9; injection m9 with m9; subst m9
      obtain ⟨u, m11, m12, m13⟩ := m10.resolve_left hlive
      subst m2; subst m3
      have hu : u = dr'.1 := by
        have : typeAt dr'.1 [] = some dr'.1 := by cases dr'.1 <;> rfl
        rw [this] at m12; injection m12 with m12; exact m12.symm
      subst hu
      have hX := h.xs.io r _ m7
      refine ⟨i, dr', rfl, rfl, m1, fun e => (by subst e; exact absurd (hR.symm.trans m7) (by simp)), m4, m5, m6, m7, m11, ?_, hX⟩
      rw [m13, offs0, List.drop_zero, ← hX.length, List.take_length]
    let Bf : Nat → Nat → Prop := fun i => match partAtX [i] ps with
      | some (r, _) => β.B r
      | none => fun _ => False
    have hBf : ∀ i g, Bf i g → ∃ r dr, partAtX [i] ps = some (r, []) ∧ hasR r ps = true ∧ st.io r = some dr ∧ r ≠ 0 ∧ r ≠ R ∧ β.B r g := by
      intro i g hg
      rcases hp : partAtX [i] ps with _ | ⟨r, q⟩
      · simp only [Bf, hp] at hg
      · simp only [Bf, hp] at hg
        have hm := partAtX_mem hp
        obtain ⟨j, dr, e1, e2, k1, k2, k3, k4, k5, k6, _⟩ := part _ _ _ hm
        injection e1 with e1 _; subst e1; subst e2
        exact ⟨r, dr, rfl, hasR_mem.2 ⟨_, _, hm⟩, k6, k1, k2, hg⟩
    have hX : XRep w d.1 x bcells.toList (fun g => ∃ i y, getF d.1 x i = some y ∧ Bf i g) := by
      refine XRep.ofFields hstr hlen (fun i y hy => ?_) (fun i j g h1 h2 => ?_)
      · rcases hjs i y hy with ⟨r, q, k1, k2⟩ | ⟨k1, k2⟩
        · rw [Nat.zero_add] at k1
          obtain ⟨j, dr, e1, e2, _, _, _, _, k5, k6, k7, k8, k9⟩ := part _ _ _ (partAtX_mem k1)
          injection e1 with e1 _; subst e1
          rw [k2] at k5; injection k5 with k5; subst k5
          simp only [Bf, k1]
          rw [k8]; exact k9
        · rw [Nat.zero_add] at k1
          simp only [Bf, k1]
          obtain ⟨vc, m1, m2, m3⟩ := hmix.1
          have hn := m1.fieldAt k2
          have hti := str_typeAt k2
          have : (bcells.toList.drop (offs d.1 [i])).take y.1.size = (vc.drop (offs d.1 [i])).take y.1.size := by
            refine seg_ext fun j hj1 hj2 => m3 j fun p r q u hm hu => ?_
            obtain ⟨i', dr, e1, _, _, _, k3, _⟩ := part _ _ _ hm
            subst e1
            have hii : i ≠ i' := fun e => by subst e; rw [k1] at k3; cases k3
            have hpc : pcomp [i] [i'] = false := by
              have : Nat.beq i i' = false := by
                cases hq : Nat.beq i i' with
                | true => exact absurd (nbeq hq) hii
                | false => rfl
              simp [pcomp, this]
            rcases beside hti hu hpc with hb | hb
            · omega
            · omega
          rw [this]
          exact hn.xrep
      · obtain ⟨r, _, k1, _, k3, _, _, k6⟩ := hBf i g h1
        obtain ⟨r', _, m1, _, m3, _, _, m6⟩ := hBf j g h2
        have := h.xs.dis r _ r' _ g k3 m3 k6 m6
        subst this
        exact wp2 i j r _ _ k1 m1
    have hcr : CRep w (fun _ => none) d.1 x bcells.toList := hX.crep (fun _ _ => rfl)
    have hfl : flatV (wrapV d.1 bcells.toList) = bcells.toList := flat_wrap hcr
    refine ⟨lim, { β with V := fun r => if r = R then wrapV d.1 bcells.toList else β.V r, B := fun r => if r = R then (fun g => ∃ i y, getF d.1 x i = some y ∧ Bf i g) else β.B r }, ?_⟩
    subst ht
    have cas : ∀ k z, cnd (Nat.beq k R) (some (⟨d.1, x⟩ : Dat)) (cnd (hasR k ps) none (st.io k)) = some z → (k = R ∧ z = ⟨d.1, x⟩) ∨ (k ≠ R ∧ hasR k ps = false ∧ st.io k = some z) := by
      intro k z hz
      cases hk : Nat.beq k R with
      | true => rw [hk] at hz; injection hz with hz; exact .inl ⟨nbeq hk, hz.symm⟩
      | false =>
        rw [hk] at hz
        cases hh : hasR k ps with
        | true => rw [hh] at hz; cases hz
        | false => rw [hh] at hz; exact .inr ⟨fun e => (by subst e; simp at hk), rfl, hz⟩
    have ioK : ∀ k, k ≠ R → hasR k ps = false → cnd (Nat.beq k R) (some (⟨d.1, x⟩ : Dat)) (cnd (hasR k ps) none (st.io k)) = st.io k := by
      intro k hk hh
      have : Nat.beq k R = false := by
        cases hq : Nat.beq k R with
        | true => exact absurd (nbeq hq) hk
        | false => rfl
      rw [this, hh]; rfl
    have ioR : cnd (Nat.beq R R) (some (⟨d.1, x⟩ : Dat)) (cnd (hasR R ps) none (st.io R)) = some ⟨d.1, x⟩ := by simp
    have r0 : hasR 0 ps = false := by
      cases hq : hasR 0 ps with
      | false => rfl
      | true =>
        obtain ⟨p, q, hm⟩ := hasR_mem.1 hq
        exact absurd rfl (wp1 p 0 q hm).1
    -- where the boxes' values stand
    have xcas : ∀ c t o, cnd (Nat.beq c b) (some (d.1, some (R, []))) (joinXb R ps (st.xb c)) = some (t, o) → (c = b ∧ t = d.1 ∧ o = some (R, [])) ∨
        (c ≠ b ∧ ∃ o0, st.xb c = some (t, o0) ∧ ((o = o0 ∧ ∀ r q, o0 = some (r, q) → hasR r ps = false) ∨ ∃ r q i, o0 = some (r, q) ∧ ([i], r, []) ∈ ps ∧ o = some (R, i :: q))) := by
      intro c t o hc
      cases hk : Nat.beq c b with
      | true => rw [hk] at hc; injection hc with hc; injection hc with e1 e2; exact .inl ⟨nbeq hk, e1.symm, e2.symm⟩
      | false =>
        rw [hk] at hc
        simp only [cnd_false] at hc
        refine .inr ⟨fun e => (by subst e; simp at hk), ?_⟩
        cases hx : st.xb c with
        | none => rw [hx] at hc; cases hc
        | some z =>
          obtain ⟨t0, o0⟩ := z
          rw [hx] at hc
          cases o0 with
          | none => simp only [joinXb] at hc; injection hc with hc; injection hc with e1 e2; subst e1; subst e2; exact ⟨none, rfl, .inl ⟨rfl, fun _ _ e => by cases e⟩⟩
          | some rq =>
            obtain ⟨r, q⟩ := rq
            simp only [joinXb] at hc
            cases hf : fieldOf r ps with
            | none =>
              rw [hf] at hc; simp only [] at hc
              injection hc with hc; injection hc with e1 e2; subst e1; subst e2
              refine ⟨_, rfl, .inl ⟨rfl, fun r' q' e => ?_⟩⟩
              injection e with e; injection e with e1 e2; subst e1
              cases hh : hasR r ps with
              | false => rfl
              | true =>
                obtain ⟨p, q2, hm⟩ := hasR_mem.1 hh
                obtain ⟨_, _, i, _, _, k5⟩ := wp1 p r q2 hm
                rw [hf] at k5; cases k5
            | some i =>
              rw [hf] at hc; simp only [] at hc
              injection hc with hc; injection hc with e1 e2; subst e1; subst e2
              refine ⟨_, rfl, .inr ⟨r, q, i, rfl, ?_, rfl⟩⟩
              have hh : hasR r ps = true := by
                cases hh : hasR r ps with
                | true => rfl
                | false =>
                  exfalso
                  have : ∀ {ps : List (List Nat × Tmp × List Nat)}, hasR r ps = false → fieldOf r ps = none := by
                    intro ps
                    induction ps with
                    | nil => intro _; rfl
                    | cons z ps ih =>
                      obtain ⟨p, k, q⟩ := z
                      intro hz
                      simp only [hasR] at hz
                      simp only [fieldOf]
                      cases hq : Nat.beq r k with
                      | true => rw [hq] at hz; cases hz
                      | false => rw [hq] at hz; exact ih hz
                  rw [this hh] at hf; cases hf
              obtain ⟨p, q2, hm⟩ := hasR_mem.1 hh
              obtain ⟨_, e2, j, e3, k4, k5⟩ := wp1 p r q2 hm
              rw [hf] at k5; injection k5 with k5; subst k5; subst e2; subst e3
              exact hm
    have xold : ∀ c t o, cnd (Nat.beq c b) (some (d.1, some (R, []))) (joinXb R ps (st.xb c)) = some (t, o) → ∃ o0, st.xb c = some (t, o0) := by
      intro c t o hc
      rcases xcas c t o hc with ⟨e1, e2, _⟩ | ⟨_, o0, k, _⟩
      · subst e1; subst e2; exact ⟨none, hxb2⟩
      · exact ⟨o0, k⟩
    refine h.retree rfl rfl rfl rfl (fun _ => rfl) (fun c t o hc => ⟨?_, rfl⟩) (fun lh => ?_)
    · by_cases e : c = b
      · subst e
        rw [hxb2] at hc; injection hc with hc; injection hc with e1 e2; subst e1
        exact ⟨some (R, []), by simp⟩
      · have : Nat.beq c b = false := by
          cases hq : Nat.beq c b with
          | true => exact absurd (nbeq hq) e
          | false => rfl
        simp only [this, cnd_false, hc]
        cases o with
        | none => exact ⟨none, rfl⟩
        | some rq =>
          obtain ⟨r, q⟩ := rq
          simp only [joinXb]
          cases fieldOf r ps with
          | none => exact ⟨_, rfl⟩
          | some i => exact ⟨_, rfl⟩
    · refine ⟨fun k z hz => ?_, fun k z g hz hg => ?_, fun k z g hz hg c d' hc he => ?_, fun k z g hz hg l hl hgz => ?_, fun k z k' z' g hz hz' hg hg' => ?_, fun c t o hc => ?_, fun c t o hc => ?_, fun c c' t o t' o' hc hc' he => ?_, fun z hz hm => ?_, ?_, fun c d' ps' hc => (by cases hc)⟩
      · rcases cas k z hz with ⟨rfl, rfl⟩ | ⟨k1, k2, k3⟩
        · simp only [if_true, hfl]; exact hX
        · simp only [k1, if_false]; exact h.xs.io k z k3
      · rcases cas k z hz with ⟨rfl, rfl⟩ | ⟨k1, k2, k3⟩
        · simp only [if_true] at hg
          obtain ⟨i, y, _, hg⟩ := hg
          obtain ⟨r, dr, _, _, m3, _, _, m6⟩ := hBf i g hg
          exact h.xs.base r dr g m3 m6
        · simp only [k1, if_false] at hg; exact h.xs.base k z g k3 hg
      · rcases cas k z hz with ⟨rfl, rfl⟩ | ⟨k1, k2, k3⟩
        · simp only [if_true] at hg
          obtain ⟨i, y, _, hg⟩ := hg
          obtain ⟨r, dr, _, _, m3, _, _, m6⟩ := hBf i g hg
          exact h.xs.box r dr g m3 m6 c d' hc he
        · simp only [k1, if_false] at hg; exact h.xs.box k z g k3 hg c d' hc he
      · rw [lh] at hgz
        rcases cas k z hz with ⟨rfl, rfl⟩ | ⟨k1, k2, k3⟩
        · simp only [if_true] at hg
          obtain ⟨i, y, _, hg⟩ := hg
          obtain ⟨r, dr, _, _, m3, _, _, m6⟩ := hBf i g hg
          exact h.xs.own r dr g m3 m6 l hl hgz
        · simp only [k1, if_false] at hg; exact h.xs.own k z g k3 hg l hl hgz
      · rcases cas k z hz with ⟨rfl, rfl⟩ | ⟨k1, k2, k3⟩ <;> rcases cas k' z' hz' with ⟨rfl, rfl⟩ | ⟨k1', k2', k3'⟩
        · rfl
        · simp only [if_true] at hg
          simp only [k1', if_false] at hg'
          obtain ⟨i, y, _, hg⟩ := hg
          obtain ⟨r, dr, _, m2, m3, _, _, m6⟩ := hBf i g hg
          have := h.xs.dis r dr k' z' g m3 k3' m6 hg'
          subst this; rw [m2] at k2'; cases k2'
        · simp only [if_true] at hg'
          simp only [k1, if_false] at hg
          obtain ⟨i, y, _, hg'⟩ := hg'
          obtain ⟨r, dr, _, m2, m3, _, _, m6⟩ := hBf i g hg'
          have := h.xs.dis r dr k z g m3 k3 m6 hg
          subst this; rw [m2] at k2; cases k2
        · simp only [k1, if_false] at hg
          simp only [k1', if_false] at hg'
          exact h.xs.dis k z k' z' g k3 k3' hg hg'
      · rcases xcas c t o hc with ⟨e1, e2, e3⟩ | ⟨hne, o0, hx0, hcase⟩
        · subst e1; subst e2; subst e3
          refine ⟨bcells, be, hbh, hcsz, hbge, hblim, fun r q hrq => ?_⟩
          injection hrq with hrq; injection hrq with e1 e2; subst e1; subst e2
          refine ⟨⟨d.1, x⟩, ioR, .inr ⟨by cases d.1 <;> rfl, ?_⟩⟩
          simp only [if_true, hfl, offs0, List.drop_zero]
          rw [← hlen, List.take_length]
        · obtain ⟨cells, e, k1, k2, k3, k4, k5⟩ := h.xs.xb c t o0 hx0
          refine ⟨cells, e, k1, k2, k3, k4, fun r q hrq => ?_⟩
          rcases hcase with ⟨e1, hno⟩ | ⟨r0', q0, i, e1, hm, e2⟩
          · subst e1
            obtain ⟨dr, m1, m2⟩ := k5 r q hrq
            have hrR : r ≠ R := fun e => by subst e; rw [hR] at m1; cases m1
            refine ⟨dr, (ioK r hrR (hno r q hrq)).trans m1, ?_⟩
            simp only [hrR, if_false]; exact m2
          · rw [e2] at hrq; injection hrq with hrq; injection hrq with e3 e4; subst e3; subst e4
            obtain ⟨dr, m1, m2⟩ := k5 r0' q0 e1
            obtain ⟨i', dr', e3, _, _, _, _, _, n1, n2, n3, n4, n5⟩ := part _ _ _ hm
            injection e3 with e3 _; subst e3
            rw [m1] at n2; injection n2 with n2; subst n2
            obtain ⟨m3, m4⟩ := m2.resolve_left (atX_live n1 m1)
            refine ⟨⟨d.1, x⟩, ioR, .inr ?_⟩
            have hg : ∃ y, getF d.1 d.2 i = some y ∧ y.1 = dr.1 := by
              have : ∀ {t : Ty} {x : t.val} {i : Nat} {u : Ty}, isStr t = true → typeAt t [i] = some u → ∃ y, getF t x i = some y ∧ y.1 = u := by
                intro t
                induction t with
                | prod a b _ ihb =>
                  intro x i u hs hu
                  cases i with
                  | zero => simp only [typeAt] at hu; injection hu with hu; exact ⟨_, rfl, hu⟩
                  | succ i => exact ihb (x := x.2) hs (by simpa [typeAt] using hu)
                | unit => intro x i u _ hu; simp [typeAt] at hu
                | int k => intro x i u hs; cases hs
                | bool => intro x i u hs; cases hs
                | str => intro x i u hs; cases hs
                | slice e => intro x i u hs; cases hs
              exact this hstr n3
            obtain ⟨y, g1, g2⟩ := hg
            obtain ⟨f1, f2⟩ := getF_typeAt q0 g1
            rw [g2] at f1 f2
            refine ⟨f1.trans m3, ?_⟩
            simp only [if_true, hfl]
            rw [m4, f2, ← n4]
            have hlt := typeAt_lt m3
            apply List.ext_getElem?
            intro j
            simp only [seg_get]
            by_cases hj : j < t.size
            · rw [if_pos hj, if_pos (by omega), if_pos hj]; congr 1; omega
            · rw [if_neg hj, if_neg hj]
      · obtain ⟨o0, hx0⟩ := xold c t o hc
        obtain ⟨k1, k2, k3⟩ := h.xs.xbox c t o0 hx0
        refine ⟨k1, fun l hl hgz => k2 l hl ((lh l _).1 hgz), fun k z hz hg => ?_⟩
        rcases cas k z hz with ⟨rfl, rfl⟩ | ⟨m1, m2, m3⟩
        · simp only [if_true] at hg
          obtain ⟨i, y, _, hg⟩ := hg
          obtain ⟨r, dr, _, _, n3, _, _, n6⟩ := hBf i _ hg
          exact k3 r dr n3 n6
        · simp only [m1, if_false] at hg; exact k3 k z m3 hg
      · obtain ⟨o0, hx0⟩ := xold c t o hc
        obtain ⟨o1, hx1⟩ := xold c' t' o' hc'
        exact h.xs.xinj c c' t o0 t' o1 hx0 hx1 he
      · have e0 : (0 : Tmp) ≠ R := fun e => hR0' e.symm
        have hz : st.io 0 = some z := by rw [← ioK 0 e0 r0]; exact hz
        simp only [e0, if_false]; exact h.xs.fix z hz hm
      · have e0 : (0 : Tmp) ≠ R := fun e => hR0' e.symm
        exact h.xs.kx.keep (fun z hz => h.xs.io 0 z hz) (fun z hz _ => ⟨z, by have hz : cnd (Nat.beq 0 R) (some (⟨d.1, x⟩ : Dat)) (cnd (hasR 0 ps) none (st.io 0)) = some z := hz
                                                                              rw [ioK 0 e0 r0] at hz; exact hz, rfl, by simp [e0]⟩) rfl (fun _ _ _ _ => rfl)
  · cases ht
/-! ### a tree becomes a record -/
theorem splitPs_mem {N : Tmp} : ∀ {t : Ty} {i : Nat} {p : List Nat} {r : Tmp} {q : List Nat}, (p, r, q) ∈ splitPs N t i → ∃ k u, p = [i + k] ∧ r = N + (i + k) ∧ q = [] ∧ typeAt t [k] = some u ∧ noSl u = false := by
  intro t
  induction t with
  | prod a b _ ihb =>
    intro i p r q h
    have shift : ∀ k, Nat.succ i + k = i + (k + 1) := fun k => by omega
    have rec_ : (p, r, q) ∈ splitPs N b (Nat.succ i) → ∃ k u, p = [i + k] ∧ r = N + (i + k) ∧ q = [] ∧ typeAt (.prod a b) [k] = some u ∧ noSl u = false := fun h => by
      obtain ⟨k, u, e1, e2, e3, k1, k2⟩ := ihb h
      rw [shift] at e1 e2
      exact ⟨k + 1, u, e1, e2, e3, k1, k2⟩
    simp only [splitPs] at h
    cases hn : noSl a with
    | true => rw [hn] at h; exact rec_ h
    | false =>
      rw [hn] at h
      rcases List.mem_cons.1 h with h | h
      · injection h with e1 e2; injection e2 with e2 e3
        exact ⟨0, a, e1, e2, e3, by simp [typeAt], hn⟩
      · exact rec_ h
  | _ => intro i p r q h; cases h
theorem splitPs_of {N : Tmp} : ∀ {t : Ty} {i k : Nat} {u : Ty}, typeAt t [k] = some u → isStr t = true → noSl u = false → ([i + k], N + (i + k), []) ∈ splitPs N t i := by
  intro t
  induction t with
  | prod a b _ ihb =>
    intro i k u h hs hn
    have shift : ∀ k, Nat.succ i + k = i + (k + 1) := fun k => by omega
    simp only [splitPs]
    cases k with
    | zero =>
      simp only [typeAt] at h; injection h with h; subst h
      rw [hn]; exact List.mem_cons_self
    | succ k =>
      have := ihb (i := Nat.succ i) (k := k) h hs hn
      rw [shift] at this
      cases noSl a
      · exact List.mem_cons_of_mem _ this
      · exact this
  | _ => intro i k u h hs; simp [isStr, typeAt] at hs h
theorem splitIo_name {N : Tmp} : ∀ {t : Ty} {x : t.val} {i k : Nat} {y : Dat}, getF t x k = some y → noSl y.1 = false → splitIo N st t x i (N + (i + k)) = some y := by
  intro t
  induction t with
  | prod a b _ ihb =>
    intro x i k y h hn
    have shift : ∀ k, Nat.succ i + k = i + (k + 1) := fun k => by omega
    simp only [splitIo]
    cases k with
    | zero =>
      simp only [getF] at h; injection h with h; subst h
      have : Nat.beq (N + (i + 0)) (Nat.add N i) = true := by rw [Nat.beq_eq]; rfl
      rw [hn, this]; rfl
    | succ k =>
      have hk := ihb (i := Nat.succ i) (x := x.2) h hn
      rw [shift] at hk
      have : Nat.beq (N + (i + (k + 1))) (Nat.add N i) = false := by
        cases hq : Nat.beq (N + (i + (k + 1))) (Nat.add N i) with
        | false => rfl
        | true => have e1 := nbeq hq; have e2 : Nat.add N i = N + i := rfl; omega
      rw [this, hk]
      cases noSl a <;> rfl
  | _ => intro x i k y h; cases h
theorem splitIo_some {N : Tmp} : ∀ {t : Ty} {x : t.val} {i : Nat} {r : Tmp} {z : Dat}, splitIo N st t x i r = some z → (∃ k, getF t x k = some z ∧ noSl z.1 = false ∧ r = N + (i + k)) ∨
    ((∀ k y, getF t x k = some y → noSl y.1 = false → r ≠ N + (i + k)) ∧ st.io r = some z) := by
  intro t
  induction t with
  | prod a b _ ihb =>
    intro x i r z h
    have shift : ∀ k, Nat.succ i + k = i + (k + 1) := fun k => by omega
    simp only [splitIo] at h
    cases hq : cnd (noSl a) false (Nat.beq r (Nat.add N i)) with
    | true =>
      rw [hq] at h
      injection h with h; subst h
      cases hn : noSl a with
      | true => rw [hn] at hq; cases hq
      | false => rw [hn] at hq; exact .inl ⟨0, rfl, rfl, nbeq hq⟩
    | false =>
      rw [hq] at h
      rcases ihb h with ⟨k, k1, k2, k3⟩ | ⟨k1, k2⟩
      · rw [shift] at k3; exact .inl ⟨k + 1, k1, k2, k3⟩
      · refine .inr ⟨fun k y hy hn => ?_, k2⟩
        cases k with
        | zero =>
          simp only [getF] at hy; injection hy with hy; subst hy
          rw [hn] at hq
          intro e
          have : Nat.beq r (Nat.add N i) = true := by rw [Nat.beq_eq]; exact e
          rw [this] at hq; cases hq
        | succ k => have := k1 k y hy hn; rw [shift] at this; exact this
  | unit => intro x i r z h; exact .inr ⟨fun k y hy => (by cases hy), h⟩
  | int k => intro x i r z h; exact .inr ⟨fun k y hy => (by cases hy), h⟩
  | bool => intro x i r z h; exact .inr ⟨fun k y hy => (by cases hy), h⟩
  | str => intro x i r z h; exact .inr ⟨fun k y hy => (by cases hy), h⟩
  | slice e => intro x i r z h; exact .inr ⟨fun k y hy => (by cases hy), h⟩
theorem splitIo_other {N : Tmp} : ∀ {t : Ty} {x : t.val} {i : Nat} {r : Tmp}, (∀ k y, getF t x k = some y → noSl y.1 = false → r ≠ N + (i + k)) → splitIo N st t x i r = st.io r := by
  intro t
  induction t with
  | prod a b _ ihb =>
    intro x i r h
    have shift : ∀ k, Nat.succ i + k = i + (k + 1) := fun k => by omega
    simp only [splitIo]
    have : cnd (noSl a) false (Nat.beq r (Nat.add N i)) = false := by
      cases hn : noSl a with
      | true => rfl
      | false =>
        cases hq : Nat.beq r (Nat.add N i) with
        | false => rfl
        | true => exact absurd (nbeq hq) (h 0 ⟨a, x.1⟩ rfl hn)
    rw [this]
    exact ihb (fun k y hy hn => by rw [shift]; exact h (k + 1) y hy hn)
  | _ => intro x i r h; rfl
theorem allFree_spec : ∀ {ps : List (List Nat × Tmp × List Nat)}, allFree st ps = true → ∀ p r q, (p, r, q) ∈ ps → st.io r = none ∧ r ≠ 0
  | [], _, _, _, _, h => by cases h
  | (p', r', q') :: ps, hl, p, r, q, h => by
    simp only [allFree] at hl
    cases hx : st.io r' with
    | some d => rw [hx] at hl; cases hl
    | none =>
      rw [hx] at hl
      cases h0 : Nat.beq r' 0 with
      | true => rw [h0] at hl; cases hl
      | false =>
        rw [h0] at hl
        rcases List.mem_cons.1 h with h | h
        · injection h with _ h; injection h with h _; subst h; exact ⟨hx, fun e => by subst e; cases h0⟩
        · exact allFree_spec hl p r q h
def splitC : Ty → List Value → List Value
  | .prod a b, cs => cnd (noSl a) (cs.take a.size) (zeroCells a) ++ splitC b (cs.drop a.size)
  | _, cs => cs
theorem splitC_spec : ∀ {t : Ty} {x : t.val} {cs : List Value} {B : Nat → Prop}, isStr t = true → XRep w t x cs B → NRep t (splitZ t x) (splitC t cs) ∧ (splitC t cs).length = cs.length ∧
    ∀ i y, getF t x i = some y → noSl y.1 = true → (cs.drop (offs t [i])).take y.1.size = ((splitC t cs).drop (offs t [i])).take y.1.size := by
  intro t
  induction t with
  | unit => intro x cs B _ h; exact ⟨h.1, rfl, fun i y hy => by cases hy⟩
  | prod a b _ ihb =>
    intro x cs B hs h
    obtain ⟨c1, c2, B1, B2, rfl, h2, h3, h4, h5⟩ := h
    obtain ⟨k1, k2, k3⟩ := ihb hs h5
    have hl := h4.length
    have hd : (c1 ++ c2).drop a.size = c2 := by rw [← hl, List.drop_left]
    have ht : (c1 ++ c2).take a.size = c1 := by rw [← hl, List.take_left]
    have hz : (zeroCells a).length = a.size := by simpa using (zero_rep w (fun _ => none) a).length
    have hh : (cnd (noSl a) c1 (zeroCells a)).length = a.size := by cases noSl a <;> simp [hl, hz]
    refine ⟨?_, ?_, fun i y hy hn => ?_⟩
    · have e0 : splitC (.prod a b) (c1 ++ c2) = cnd (noSl a) c1 (zeroCells a) ++ splitC b c2 := by simp only [splitC, hd, ht]
      have hN : NRep a (cnd (noSl a) x.1 a.zero) (cnd (noSl a) c1 (zeroCells a)) := by
        cases hn : noSl a with
        | true =>
          simp only [cnd_true]
          rw [((XRep_noSl hn).1 h4).1]; exact NRep_noSl hn
        | false => exact NRep_zero a
      exact ⟨_, _, e0, hN, k1⟩
    · simp only [splitC, hd, ht, List.length_append, hh, k2, hl]
    · simp only [splitC, hd, ht]
      cases i with
      | zero =>
        simp only [getF] at hy; injection hy with hy; subst hy
        have hn : noSl a = true := hn
        simp only [offs, offs0, List.drop_zero, hn, cnd_true]
        rw [← hl, List.take_left, List.take_left]
      | succ i =>
        have := k3 i y hy hn
        simp only [offs]
        have e1 : (c1 ++ c2).drop (a.size + offs b [i]) = c2.drop (offs b [i]) := by
          rw [← hl, List.drop_append, List.drop_eq_nil_of_le (by omega), List.nil_append, Nat.add_sub_cancel_left]
        have e2 : (cnd (noSl a) c1 (zeroCells a) ++ splitC b c2).drop (a.size + offs b [i]) = (splitC b c2).drop (offs b [i]) := by
          rw [← hh, List.drop_append, List.drop_eq_nil_of_le (by omega), List.nil_append, Nat.add_sub_cancel_left]
        rw [e1, e2]; exact this
  | int k => intro x cs B hs; cases hs
  | bool => intro x cs B hs; cases hs
  | str => intro x cs B hs; cases hs
  | slice e => intro x cs B hs; cases hs
theorem trSplit_ok (h : Sim w0 lim0 rb n st a w lim β) {b N : Tmp} (ht : trSplit b N st = some st') : ∃ lim' β', Sim w0 lim0 rb n st' a w lim' β' := by
  unfold trSplit at ht
  split at ht
  · rename_i ty R hxb
    cases hX0 : st.atX R [] with
    | none => rw [hX0] at ht; cases ht
    | some d =>
    rw [hX0] at ht
    simp only [] at ht
    cases hR0 : Nat.beq R 0 with
    | true => rw [hR0] at ht; cases ht
    | false =>
    cases hstr : isStr d.1 with
    | false => rw [hR0, hstr] at ht; cases ht
    | true =>
    cases hbt : Ty.beq d.1 ty with
    | false => rw [hR0, hstr, hbt] at ht; cases ht
    | true =>
    cases haf : allFree st (splitPs N d.1 0) with
    | false => rw [hR0, hstr, hbt, haf] at ht; cases ht
    | true =>
    rw [hR0, hstr, hbt, haf] at ht
    simp only [cnd_true, cnd_false] at ht
    injection ht with ht
    have hR0' : R ≠ 0 := fun e => by subst e; cases hR0
    have hbt := Ty.of_beq hbt
    subst hbt
    obtain ⟨dr', hio, m8⟩ := atX_some hX0
    have m8 : dr' = d := Option.some.inj (show some dr' = some d from m8)
    subst m8
    have hlive := atX_live hX0 hio
    have hXR := h.xs.io R _ hio
    obtain ⟨Bf, f1, f2, f3, f4⟩ := XRep.fields hstr hXR
    obtain ⟨z1, z2, z3⟩ := splitC_spec hstr hXR
    -- a new tree's name
    have nm : ∀ i y, getF dr'.1 dr'.2 i = some y → noSl y.1 = false → st.io (N + i) = none ∧ N + i ≠ 0 ∧ N + i ≠ R ∧ hasR (N + i) (splitPs N dr'.1 0) = true := by
      intro i y hy hn
      have := splitPs_of (N := N) (i := 0) (str_typeAt hy) hstr hn
      rw [Nat.zero_add] at this
      obtain ⟨k1, k2⟩ := allFree_spec haf _ _ _ this
      exact ⟨k1, k2, fun e => (by rw [e, hio] at k1; cases k1), hasR_mem.2 ⟨_, _, this⟩⟩
    have mn : ∀ {p r q}, (p, r, q) ∈ splitPs N dr'.1 0 → ∃ i y, p = [i] ∧ r = N + i ∧ q = [] ∧ getF dr'.1 dr'.2 i = some y ∧ noSl y.1 = false ∧ typeAt dr'.1 [i] = some y.1 := by
      intro p r q hm
      obtain ⟨k, u, e1, e2, e3, k1, k2⟩ := splitPs_mem hm
      rw [Nat.zero_add] at e1 e2
      have : ∀ {t : Ty} {x : t.val} {i : Nat} {u : Ty}, isStr t = true → typeAt t [i] = some u → ∃ y, getF t x i = some y ∧ y.1 = u := by
        intro t
        induction t with
        | prod a b _ ihb =>
          intro x i u hs hu
          cases i with
          | zero => simp only [typeAt] at hu; injection hu with hu; exact ⟨_, rfl, hu⟩
          | succ i => exact ihb (x := x.2) hs (by simpa [typeAt] using hu)
        | unit => intro x i u _ hu; simp [typeAt] at hu
        | int k => intro x i u hs; cases hs
        | bool => intro x i u hs; cases hs
        | str => intro x i u hs; cases hs
        | slice e => intro x i u hs; cases hs
      obtain ⟨y, g1, g2⟩ := this (x := dr'.2) hstr k1
      subst g2
      exact ⟨k, y, e1, e2, e3, g1, k2, k1⟩
    let nmd : Tmp → Prop := fun r => ∃ i y, getF dr'.1 dr'.2 i = some y ∧ noSl y.1 = false ∧ r = N + i
    let V' : Tmp → Value := fun r => match getF dr'.1 dr'.2 (r - N) with
      | some y => if noSl y.1 = false ∧ N ≤ r then wrapV y.1 (((flatV (β.V R)).drop (offs dr'.1 [r - N])).take y.1.size) else β.V r
      | none => β.V r
    let B' : Tmp → Nat → Prop := fun r => match getF dr'.1 dr'.2 (r - N) with
      | some y => if noSl y.1 = false ∧ N ≤ r then Bf (r - N) else β.B r
      | none => β.B r
    have VB : ∀ i y, getF dr'.1 dr'.2 i = some y → noSl y.1 = false → V' (N + i) = wrapV y.1 (((flatV (β.V R)).drop (offs dr'.1 [i])).take y.1.size) ∧ B' (N + i) = Bf i := by
      intro i y hy hn
      have e1 : N + i - N = i := Nat.add_sub_cancel_left ..
      simp only [V', B', e1, hy, hn, true_and, Nat.le_add_right, if_true, and_self]
    have VBo : ∀ r, ¬ nmd r → V' r = β.V r ∧ B' r = β.B r := by
      intro r hr
      simp only [V', B']
      cases hg : getF dr'.1 dr'.2 (r - N) with
      | none => exact ⟨rfl, rfl⟩
      | some y =>
        have : ¬ (noSl y.1 = false ∧ N ≤ r) := fun ⟨k1, k2⟩ => hr ⟨r - N, y, hg, k1, (Nat.add_sub_cancel' k2).symm⟩
        simp only [this, if_false, and_self]
    have Vf : ∀ i y, getF dr'.1 dr'.2 i = some y → noSl y.1 = false → flatV (V' (N + i)) = ((flatV (β.V R)).drop (offs dr'.1 [i])).take y.1.size := by
      intro i y hy hn
      rw [(VB i y hy hn).1]
      exact flat_wrap ((f1 i y hy).crep (lim := fun _ => none) (fun _ _ => rfl))
    refine ⟨lim, { β with V := V', B := B' }, ?_⟩
    subst ht
    have cas : ∀ k z, cnd (Nat.beq k R) none (splitIo N st dr'.1 dr'.2 0 k) = some z → k ≠ R ∧ ((∃ i, getF dr'.1 dr'.2 i = some z ∧ noSl z.1 = false ∧ k = N + i) ∨ (¬ nmd k ∧ st.io k = some z)) := by
      intro k z hz
      cases hk : Nat.beq k R with
      | true => rw [hk] at hz; cases hz
      | false =>
        rw [hk] at hz
        refine ⟨fun e => (by subst e; simp at hk), ?_⟩
        rcases splitIo_some hz with ⟨i, k1, k2, k3⟩ | ⟨k1, k2⟩
        · rw [Nat.zero_add] at k3; exact .inl ⟨i, k1, k2, k3⟩
        · refine .inr ⟨fun ⟨i, y, g1, g2, g3⟩ => ?_, k2⟩
          have := k1 i y g1 g2
          rw [Nat.zero_add] at this; exact this g3
    have ioN : ∀ i y, getF dr'.1 dr'.2 i = some y → noSl y.1 = false → cnd (Nat.beq (N + i) R) none (splitIo N st dr'.1 dr'.2 0 (N + i)) = some y := by
      intro i y hy hn
      have hne := (nm i y hy hn).2.2.1
      have : Nat.beq (N + i) R = false := by
        cases hq : Nat.beq (N + i) R with
        | true => exact absurd (nbeq hq) hne
        | false => rfl
      have h2 := splitIo_name (st := st) (N := N) (i := 0) hy hn
      rw [Nat.zero_add] at h2
      rw [this]; exact h2
    have ioO : ∀ k, k ≠ R → ¬ nmd k → cnd (Nat.beq k R) none (splitIo N st dr'.1 dr'.2 0 k) = st.io k := by
      intro k hk hn
      have : Nat.beq k R = false := by
        cases hq : Nat.beq k R with
        | true => exact absurd (nbeq hq) hk
        | false => rfl
      rw [this]
      exact splitIo_other fun i y hy hs e => hn ⟨i, y, hy, hs, by rw [Nat.zero_add] at e; exact e⟩
    have n0 : ¬ nmd 0 := fun ⟨i, y, g1, g2, g3⟩ => (nm i y g1 g2).2.1 g3.symm
    -- the new trees' blocks are the old tree's
    have back : ∀ k z g, cnd (Nat.beq k R) none (splitIo N st dr'.1 dr'.2 0 k) = some z → B' k g → ∃ r0 d0, st.io r0 = some d0 ∧ β.B r0 g ∧ ((r0 = R ∧ ∃ i, k = N + i ∧ Bf i g) ∨ (r0 = k ∧ k ≠ R ∧ ¬ nmd k)) := by
      intro k z g hz hg
      obtain ⟨hk, hc⟩ := cas k z hz
      rcases hc with ⟨i, g1, g2, rfl⟩ | ⟨g1, g2⟩
      · rw [(VB i z g1 g2).2] at hg
        exact ⟨R, dr', hio, (f2 g).2 ⟨i, hg⟩, .inl ⟨rfl, i, rfl, hg⟩⟩
      · rw [(VBo k g1).2] at hg
        exact ⟨k, z, g2, hg, .inr ⟨rfl, hk, g1⟩⟩
    have xcas : ∀ c t o, splitXb R N (splitPs N dr'.1 0) (st.xb c) = some (t, o) → ∃ o0, st.xb c = some (t, o0) ∧ (o = none ∨ (∃ r q, o = some (r, q) ∧ o0 = o ∧ r ≠ R) ∨ ∃ i q, o0 = some (R, i :: q) ∧ o = some (N + i, q) ∧ hasR (N + i) (splitPs N dr'.1 0) = true) := by
      intro c t o hc
      cases hx : st.xb c with
      | none => rw [hx] at hc; cases hc
      | some z =>
        obtain ⟨t0, o0⟩ := z
        rw [hx] at hc
        cases o0 with
        | none => simp only [splitXb] at hc; injection hc with hc; injection hc with e1 e2; subst e1; exact ⟨none, rfl, .inl e2.symm⟩
        | some rq =>
          obtain ⟨r, q⟩ := rq
          simp only [splitXb] at hc
          cases hq : Nat.beq r R with
          | false =>
            rw [hq] at hc
            injection hc with hc; injection hc with e1 e2; subst e1
            exact ⟨_, rfl, .inr (.inl ⟨r, q, e2.symm, e2, fun e => by subst e; simp at hq⟩)⟩
          | true =>
            rw [hq] at hc
            have := nbeq hq; subst this
            simp only [cnd_true] at hc
            cases q with
            | nil => injection hc with hc; injection hc with e1 e2; subst e1; exact ⟨_, rfl, .inl e2.symm⟩
            | cons i q =>
              simp only [] at hc
              cases hh : hasR (Nat.add N i) (splitPs N dr'.1 0) with
              | false => rw [hh] at hc; injection hc with hc; injection hc with e1 e2; subst e1; exact ⟨_, rfl, .inl e2.symm⟩
              | true => rw [hh] at hc; injection hc with hc; injection hc with e1 e2; subst e1; exact ⟨_, rfl, .inr (.inr ⟨i, q, rfl, e2.symm, hh⟩)⟩
    refine h.retree rfl rfl rfl rfl (fun _ => rfl) (fun c t o hc => ⟨?_, rfl⟩) (fun lh => ?_)
    · show ∃ o', splitXb R N (splitPs N dr'.1 0) (st.xb c) = some (t, o')
      rw [hc]
      cases o with
      | none => exact ⟨none, rfl⟩
      | some rq =>
        obtain ⟨r, q⟩ := rq
        simp only [splitXb]
        cases Nat.beq r R with
        | false => exact ⟨_, rfl⟩
        | true =>
          cases q with
          | nil => exact ⟨_, rfl⟩
          | cons i q => simp only [cnd_true]; cases hasR (Nat.add N i) (splitPs N dr'.1 0) <;> exact ⟨_, rfl⟩
    · refine ⟨fun k z hz => ?_, fun k z g hz hg => ?_, fun k z g hz hg c d' hc he => ?_, fun k z g hz hg l hl hgz => ?_, fun k z k' z' g hz hz' hg hg' => ?_, fun c t o hc => ?_, fun c t o hc => ?_, fun c c' t o t' o' hc hc' he => ?_, fun z hz hm => ?_, ?_, fun c d' ps' hc => ?_⟩
      · obtain ⟨hk, hcs⟩ := cas k z hz
        show XRep w z.1 z.2 (flatV (V' k)) (B' k)
        rcases hcs with ⟨i, g1, g2, rfl⟩ | ⟨g1, g2⟩
        · rw [Vf i z g1 g2, (VB i z g1 g2).2]; exact f1 i z g1
        · rw [(VBo k g1).1, (VBo k g1).2]; exact h.xs.io k z g2
      · obtain ⟨r0, d0, k1, k2, _⟩ := back k z g hz hg
        exact h.xs.base r0 d0 g k1 k2
      · obtain ⟨r0, d0, k1, k2, _⟩ := back k z g hz hg
        exact h.xs.box r0 d0 g k1 k2 c d' hc he
      · rw [lh] at hgz
        obtain ⟨r0, d0, k1, k2, _⟩ := back k z g hz hg
        exact h.xs.own r0 d0 g k1 k2 l hl hgz
      · obtain ⟨r0, d0, k1, k2, k3⟩ := back k z g hz hg
        obtain ⟨r1, d1, j1, j2, j3⟩ := back k' z' g hz' hg'
        have e := h.xs.dis r0 d0 r1 d1 g k1 j1 k2 j2
        subst e
        rcases k3 with ⟨e1, i, e2, b1⟩ | ⟨e1, e2, e3⟩ <;> rcases j3 with ⟨e1', i', e2', b1'⟩ | ⟨e1', e2', e3'⟩
        · rw [e2, e2', f3 i i' g b1 b1']
        · rw [← e1', e1] at e2'; exact absurd rfl e2'
        · rw [← e1, e1'] at e2; exact absurd rfl e2
        · rw [← e1, ← e1']
      · obtain ⟨o0, hx0, hcase⟩ := xcas c t o hc
        obtain ⟨cells, e, k1, k2, k3, k4, k5⟩ := h.xs.xb c t o0 hx0
        refine ⟨cells, e, k1, k2, k3, k4, fun r q hrq => ?_⟩
        rcases hcase with e1 | ⟨r0, q0, e1, e2, e3⟩ | ⟨i, q0, e1, e2, e3⟩
        · rw [e1] at hrq; cases hrq
        · rw [e1] at hrq; injection hrq with hrq; injection hrq with g1 g2; subst g1; subst g2
          obtain ⟨d0, m1, m2⟩ := k5 r0 q0 (e2.trans e1)
          have hn : ¬ nmd r0 := fun ⟨i, y, g1, g2, g3⟩ => by rw [g3, (nm i y g1 g2).1] at m1; cases m1
          refine ⟨d0, (ioO r0 e3 hn).trans m1, ?_⟩
          show d0.1 = .unit ∨ _ ∧ cells.toList = ((flatV (V' r0)).drop _).take _
          rw [(VBo r0 hn).1]; exact m2
        · rw [e2] at hrq; injection hrq with hrq; injection hrq with g1 g2; subst g1; subst g2
          obtain ⟨d0, m1, m2⟩ := k5 R (i :: q0) e1
          rw [hio] at m1; injection m1 with m1; subst m1
          obtain ⟨m3, m4⟩ := m2.resolve_left hlive
          obtain ⟨p, q2, hm⟩ := hasR_mem.1 e3
          obtain ⟨i', y, _, g2, _, g4, g5, g6⟩ := mn hm
          have : i' = i := (Nat.add_left_cancel g2).symm
          subst this
          obtain ⟨a1, a2⟩ := getF_typeAt q0 g4
          rw [a1] at m3
          refine ⟨y, ioN i' y g4 g5, .inr ⟨m3, ?_⟩⟩
          show cells.toList = ((flatV (V' (N + i'))).drop _).take _
          rw [Vf i' y g4 g5, m4, a2]
          have hlt := typeAt_lt m3
          apply List.ext_getElem?
          intro j
          simp only [seg_get]
          by_cases hj : j < t.size
          · rw [if_pos hj, if_pos hj, if_pos (by omega)]; congr 1; omega
          · rw [if_neg hj, if_neg hj]
      · obtain ⟨o0, hx0, _⟩ := xcas c t o hc
        obtain ⟨k1, k2, k3⟩ := h.xs.xbox c t o0 hx0
        refine ⟨k1, fun l hl hgz => k2 l hl ((lh l _).1 hgz), fun k z hz hg => ?_⟩
        obtain ⟨r0, d0, m1, m2, _⟩ := back k z _ hz hg
        exact k3 r0 d0 m1 m2
      · obtain ⟨o0, hx0, _⟩ := xcas c t o hc
        obtain ⟨o1, hx1, _⟩ := xcas c' t' o' hc'
        exact h.xs.xinj c c' t o0 t' o1 hx0 hx1 he
      · have e0 : (0 : Tmp) ≠ R := fun e => hR0' e.symm
        have hz : st.io 0 = some z := (ioO 0 e0 n0).symm.trans hz
        show V' 0 = _ ∧ B' 0 = _
        rw [(VBo 0 n0).1, (VBo 0 n0).2]; exact h.xs.fix z hz hm
      · have e0 : (0 : Tmp) ≠ R := fun e => hR0' e.symm
        exact h.xs.kx.keep (fun z hz => h.xs.io 0 z hz) (fun z hz _ => ⟨z, (ioO 0 e0 n0).symm.trans hz, rfl, (VBo 0 n0).1⟩) rfl (fun _ _ _ _ => rfl)
      · have hc : cnd (Nat.beq c b) (some ((⟨dr'.1, splitZ dr'.1 dr'.2⟩ : Dat), splitPs N dr'.1 0)) none = some (d', ps') := hc
        cases hq : Nat.beq c b with
        | false => rw [hq] at hc; cases hc
        | true =>
          have := nbeq hq; subst this
          rw [hq] at hc
          injection hc with hc; injection hc with e1 e2; subst e1; subst e2
          obtain ⟨cells, e, k1, k2, k3, k4, k5⟩ := h.xs.xb c _ _ hxb
          obtain ⟨d0, m1, m2⟩ := k5 R [] rfl
          rw [hio] at m1; injection m1 with m1; subst m1
          obtain ⟨_, m4⟩ := m2.resolve_left hlive
          have hcl : cells.toList = flatV (β.V R) := by rw [m4, offs0, List.drop_zero, ← hXR.length, List.take_length]
          refine ⟨?_, cells, e, k1, ?_⟩
          · show splitXb R N (splitPs N dr'.1 0) (st.xb c) = some (dr'.1, none)
            rw [hxb]; simp [splitXb]
          · rw [hcl]
            refine ⟨⟨splitC dr'.1 (flatV (β.V R)), z1, z2, fun j hj => ?_⟩, fun p r q hm => ?_⟩
            · by_cases hjl : j < dr'.1.size
              · obtain ⟨i, y, g1, g2, g3⟩ := str_cover (x := dr'.2) hstr j hjl
                cases hn : noSl y.1 with
                | true => exact seg_at (z3 i y g1 hn) j g2 g3
                | false =>
                  have hm := splitPs_of (N := N) (i := 0) (str_typeAt g1) hstr hn
                  rw [Nat.zero_add] at hm
                  exact absurd ⟨g2, g3⟩ (hj _ _ _ _ hm (str_typeAt g1))
              · have := hXR.length
                rw [List.getElem?_eq_none (by omega), List.getElem?_eq_none (by omega)]
            · obtain ⟨i, y, e1, e2, e3, g4, g5, g6⟩ := mn hm
              subst e1; subst e2; subst e3
              refine ⟨y, ioN i y g4 g5, .inr ⟨y.1, g6, by cases y.1 <;> rfl, ?_⟩⟩
              show _ = ((flatV (V' (N + i))).drop _).take _
              rw [Vf i y g4 g5, offs0, List.drop_zero, List.take_take, Nat.min_self]
  · cases ht
/-! ### all trees are given up -/
theorem limF_not (h : Sim w0 lim0 rb n st a w lim β) {g : Nat} (hs : ∀ r d, st.io r = some d → ¬ β.B r g) : limF st β w lim g = lim g := by
  unfold limF
  rw [dif_neg (fun ⟨k, r, d, h1, h2⟩ => hs r d h1 ((h.xs.io r d h1).seen_blk h2))]
theorem whole_cells' {w : World} {g : Nat} {cells : Array Value} {e : TypeId} (hg : w.heap[g]? = some (.cells cells e (0, 0))) (j : Nat) : w.cell? ⟨g, j, none⟩ = cells.toList[j]? := by
  simp [World.cell?, hg]
theorem no_trees {w0 : Base} {rb : Option Nat} {st : St} {a : Act} {w : World} {lim : Lim} {β : Mp} (h1 : ∀ r, st.io r = none) (h2 : ∀ b, st.xb b = none) (h3 : ∀ b, st.rb b = none) : Own w0 rb st a w lim β :=
  ⟨fun r _ hr => (by rw [h1] at hr; cases hr), fun r _ _ hr => (by rw [h1] at hr; cases hr), fun r _ _ hr => (by rw [h1] at hr; cases hr), fun r _ _ hr => (by rw [h1] at hr; cases hr), fun r _ _ _ _ hr => (by rw [h1] at hr; cases hr), fun b _ _ hb => (by rw [h2] at hb; cases hb), fun b _ _ hb => (by rw [h2] at hb; cases hb), fun b _ _ _ _ _ hb => (by rw [h2] at hb; cases hb), fun _ hd => (by rw [h1] at hd; cases hd), fun _ hd => (by rw [h1] at hd; cases hd), fun b d ps hb => (by rw [h3] at hb; cases hb)⟩
theorem frzBox_some {c : Tmp} {y : Dat} (hy : frzBox st c = some y) : (∃ r q, st.xb c = some (y.1, some (r, q)) ∧ st.atX r q = some y) ∨ (st.xb c = none ∧ st.box c = some y) := by
  unfold frzBox at hy
  split at hy
  · rename_i t r q hx
    cases ha : st.atX r q with
    | none => rw [ha] at hy; cases hy
    | some z =>
      rw [ha] at hy
      simp only [] at hy
      cases hb : Ty.beq z.1 t with
      | false => rw [hb] at hy; cases hy
      | true =>
        rw [hb] at hy
        injection hy with hy; subst hy
        have := Ty.of_beq hb
        subst this
        exact .inl ⟨r, q, hx, ha⟩
  · cases hy
  · rename_i hx; exact .inr ⟨hx, hy⟩
def frzM (st : St) (β : Mp) : Mp := { β with b := fun c => match st.xb c with | some _ => β.c c | none => β.b c }
theorem trFrz_ok (h : Sim w0 lim0 rb n st a w lim β) (hrb : ∀ k, some k = rb → k < w0.heap.size) {b : Tmp} (ht : trFrz b st = some st') : ∃ lim' β', Sim w0 lim0 rb n st' a w lim' β' := by
  unfold trFrz at ht
  split at ht
  rotate_left
  · injection ht with ht; subst ht; exact ⟨lim, β, h⟩
  rotate_left
  · rename_i ty R yb hxb hyb
    injection ht with ht
    have hnr : ∀ g, isTree st β g → w0.fr g := fun g hg => (h.xs.lt hg).2.1
    have hext := ext_limF h
    obtain ⟨hxb2, hX0⟩ : st.xb b = some (yb.1, some (R, [])) ∧ st.atX R [] = some yb := by
      rcases frzBox_some hyb with ⟨r, q, k1, k2⟩ | ⟨k1, _⟩
      · rw [hxb] at k1; injection k1 with k1; injection k1 with e1 e2; injection e2 with e2; injection e2 with e2 e3
        subst e1; subst e2; subst e3
        exact ⟨hxb, k2⟩
      · rw [hxb] at k1; cases k1
    rw [hxb] at hxb2; injection hxb2 with hxb2; injection hxb2 with ety _
    subst ety
    obtain ⟨dR, hio, m8⟩ := atX_some hX0
    have m8 : dR = yb := Option.some.inj (show some dR = some yb from m8)
    subst m8
    have hlive := atX_live hX0 hio
    have hXR := h.xs.io R _ hio
    -- a box's value, seen
    have bval : ∀ c y r q, st.xb c = some (y.1, some (r, q)) → st.atX r q = some y → ∃ cells e, w.heap[β.c c]? = some (.cells cells e (0, 0)) ∧ CRep w (limF st β w lim) y.1 y.2 cells.toList ∧ w0.heap.size ≤ β.c c ∧ limF st β w lim (β.c c) = some 0 := by
      intro c y r q hx hy
      obtain ⟨cells, e, k1, k2, k3, k4, k5⟩ := h.xs.xb c _ _ hx
      obtain ⟨d, m1, m2⟩ := k5 r q rfl
      obtain ⟨d2, n1, n2⟩ := atX_some hy
      rw [m1] at n1; injection n1 with n1; subst n1
      obtain ⟨m3, m4⟩ := m2.resolve_left (atX_live hy m1)
      have hw := ((h.xs.io r d m1).crep2 (lim := limF st β w lim) (fun g k hs => limF_of h ⟨r, d, m1, hs⟩))
      obtain ⟨c1, c2, c3, q1, q2, q3, _⟩ := hw.part n2
      have hc2 : ((flatV (β.V r)).drop (offs d.1 q)).take y.1.size = c2 := by
        rw [q1, ← q2, List.drop_left, ← q3.length, List.take_left]
      refine ⟨cells, e, k1, by rw [m4, hc2]; exact q3, k3, ?_⟩
      rw [limF_not h (h.xs.xbox c _ _ hx).2.2]; exact k4
    have hβ1 : ∀ c t o, st.xb c = some (t, o) → (frzM st β).b c = β.c c := fun c t o hx => by simp only [frzM, hx]
    have hβ2 : ∀ c, st.xb c = none → (frzM st β).b c = β.b c := fun c hx => by simp only [frzM, hx]
    refine ⟨limF st β w lim, (frzM st β), ?_⟩
    subst ht
    -- what is owned then
    have oc : ∀ l, frzOwn b dR.1 st l = true → (st.own l = true ∧ ∀ c p, l = .box c p → st.xb c = none) ∨ ∃ p, l = .box b p ∧ p ∈ slicePaths dR.1 := by
      intro l hl
      cases l with
      | tmp t p => exact .inl ⟨hl, fun c p' e => by cases e⟩
      | box c p =>
        simp only [frzOwn] at hl
        cases hx : st.xb c with
        | none => rw [hx] at hl; exact .inl ⟨hl, fun c' p' e => by injection e with e1 e2; subst e1; exact hx⟩
        | some z =>
          rw [hx] at hl
          cases hq : Nat.beq c b with
          | false => rw [hq] at hl; cases hl
          | true =>
            rw [hq] at hl
            have := nbeq hq; subst this
            exact .inr ⟨p, rfl, inPaths_iff.1 hl⟩
    obtain ⟨bcells, be, bh, bcr, bge, blim⟩ := bval b dR R [] hxb hX0
    have hcl : bcells.toList = flatV (β.V R) := by
      obtain ⟨cells, e, k1, k2, k3, k4, k5⟩ := h.xs.xb b _ _ hxb
      rw [bh] at k1; injection k1 with k1; injection k1 with k1; subst k1
      obtain ⟨d0, m1, m2⟩ := k5 R [] rfl
      rw [hio] at m1; injection m1 with m1; subst m1
      obtain ⟨_, m4⟩ := m2.resolve_left hlive
      rw [m4, offs0, List.drop_zero, ← hXR.length, List.take_length]
    have envd : ∀ t, (∃ p T, typeAV p (st.env t).av = some T) → ((frzEnt st (st.env t)).av = (st.env t).av) := by
      intro t ⟨p, T, hp⟩
      unfold frzEnt
      cases hav : (st.env t).av with
      | dat ty x => simp only [dropX, hav]
      | tup ty x => simp only [dropX, hav]
      | _ => rw [hav] at hp; cases hp
    -- places that were owned before
    have keepl : ∀ l, st.own l = true → (∀ c p, l = .box c p → st.xb c = none) → locTy (frzS b dR.1 st) l = locTy st l ∧ locV (frzS b dR.1 st) a w (frzM st β) l = locV st a w β l := by
      intro l hl hx
      obtain ⟨T, v, k1, _⟩ := h.own l hl
      cases l with
      | tmp t p =>
        rw [locTy_tmp] at k1
        have e := envd t ⟨p, T, k1⟩
        exact ⟨by rw [locTy_tmp, locTy_tmp]; show typeAV p (frzEnt st (st.env t)).av = _; rw [e], by rw [locV_tmp, locV_tmp]; show partAV _ p (frzEnt st (st.env t)).av = _; rw [e]⟩
      | box c p =>
        have hxc := hx c p rfl
        have e : frzBox st c = st.box c := by simp only [frzBox, hxc]
        refine ⟨by simp only [locTy, frzS, e], ?_⟩
        simp only [locV, frzS, frzM, e, hxc]
    have newl : ∀ p, p ∈ slicePaths dR.1 → ∃ T v, typeAt dR.1 p = some T ∧ OTy T = true ∧ (flatV (β.V R))[offs dR.1 p]? = some v ∧ locTy (frzS b dR.1 st) (.box b p) = some T ∧ locV (frzS b dR.1 st) a w (frzM st β) (.box b p) = some v ∧ OwnT w (limF st β w lim) w0.fr T v ∧ ∀ g, Blk w T v g → β.B R g := by
      intro p hp
      obtain ⟨⟨T, ht, ho⟩, _⟩ := slicePaths_spec hp
      obtain ⟨v, k1, k2⟩ := hXR.ownT (lim := limF st β w lim) (base := w0.fr) (fun g k hs => limF_of h ⟨R, dR, hio, hs⟩) (fun g hg => hnr g (.inl ⟨R, dR, hio, hg⟩)) ht ho
      refine ⟨T, v, ht, ho, k1, by simp only [locTy, frzS, hyb]; exact ht, ?_, k2, fun g hg => hXR.blkT ht k1 hg⟩
      simp only [locV, frzS, frzM, hyb, hxb]
      rw [whole_cells' bh, hcl]; exact k1
    have hasc : ∀ l g, frzOwn b dR.1 st l = true → HasL (frzS b dR.1 st) a w (frzM st β) l g → (st.own l = true ∧ HasL st a w β l g) ∨
        ∃ p T v, l = .box b p ∧ p ∈ slicePaths dR.1 ∧ typeAt dR.1 p = some T ∧ (flatV (β.V R))[offs dR.1 p]? = some v ∧ Blk w T v g ∧ β.B R g := by
      intro l g hl hg
      obtain ⟨T, v, m1, m2, m3⟩ := hg
      rcases oc l hl with ⟨k1, k2⟩ | ⟨p, rfl, hp⟩
      · obtain ⟨e1, e2⟩ := keepl l k1 k2
        exact .inl ⟨k1, T, v, e1.symm.trans m1, e2.symm.trans m2, m3⟩
      · obtain ⟨T', v', j1, j2, j3, j4, j5, j6, j7⟩ := newl p hp
        rw [j4] at m1; injection m1 with m1; subst m1
        rw [j5] at m2; injection m2 with m2; subst m2
        exact .inr ⟨p, _, _, rfl, hp, j1, j3, m3, j7 g m3⟩
    refine ⟨h.size, h.defers, h.grow, fun k hk hX => ?_, h.xrb, h.rdk, fun t => ?_, fun c y hy => ?_, fun c c' y y' hy hy' he => ?_, fun l hl => ?_, fun l g hl hg c y hy he => ?_, fun l l' g hl hl' hg hg' => ?_, fun t l ht => ?_, fun d hd => ?_, no_trees (fun _ => rfl) (fun _ => rfl) (fun _ => rfl)⟩
    · rw [limF_off h (fun ht => by
        rcases hnr k ht with h1 | h1
        · omega
        · exact hX h1)]
      exact h.limOld k hk hX
    · have ht := h.env t
      show ERep _ w (limF st β w lim) _ rb (frzEnt st (st.env t)).av (tmpOf a t)
      cases hav : (st.env t).av with
      | cel c p =>
        rw [hav] at ht
        obtain ⟨d, k1, k2⟩ := ht
        simp only [frzEnt, hav]
        cases hx : st.xb c with
        | some _ => trivial
        | none =>
          exact ⟨d, by show frzBox st c = some d; simp only [frzBox, hx]; exact k1, by rw [k2]; show _ = Value.pointer (some ⟨(frzM st β).b c, _, _⟩); rw [hβ2 c hx]⟩
      | cx c p =>
        rw [hav] at ht
        obtain ⟨t', o, k1, k2⟩ := ht
        simp only [frzEnt, hav]
        cases hy : frzBox st c with
        | none => rw [k1]; trivial
        | some y =>
          rw [k1]
          rcases frzBox_some hy with ⟨r, q, m1, m2⟩ | ⟨m1, _⟩
          · rw [k1] at m1; injection m1 with m1; injection m1 with e1 e2; subst e1
            exact ⟨y, hy, by rw [k2]; show _ = Value.pointer (some ⟨(frzM st β).b c, _, _⟩); rw [hβ1 c _ _ k1]⟩
          · rw [k1] at m1; cases m1
      | xf r p => simp only [frzEnt, dropX, hav]; trivial
      | xp r p k q => simp only [frzEnt, dropX, hav]; trivial
      | xt r => simp only [frzEnt, dropX, hav]; trivial
      | xe k q => simp only [frzEnt, dropX, hav]; trivial
      | mx ty x ps => simp only [frzEnt, dropX, hav]; trivial
      | dat ty x => rw [hav] at ht; simp only [frzEnt, dropX, hav]; exact TRep.mono hext ht
      | ref ty x =>
        rw [hav] at ht
        obtain ⟨b', o, cs, e1, e2, e3, e4, e5⟩ := ht
        simp only [frzEnt, dropX, hav]
        exact ⟨b', o, cs, e1, e2, e3.mono hext, hext.lim _ _ e2 e4, e5⟩
      | tup ty x =>
        rw [hav] at ht
        obtain ⟨vs, e1, e2⟩ := ht
        simp only [frzEnt, dropX, hav]
        exact ⟨vs, e1, e2.mono hext⟩
      | _ => rw [hav] at ht; simp only [frzEnt, dropX, hav]; exact ht
    · have hy : frzBox st c = some y := hy
      show ∃ cells e, w.heap[(frzM st β).b c]? = _ ∧ _ ∧ w0.heap.size ≤ (frzM st β).b c ∧ limF st β w lim ((frzM st β).b c) = _
      rcases frzBox_some hy with ⟨r, q, k1, k2⟩ | ⟨k1, k2⟩
      · rw [hβ1 c _ _ k1]; exact bval c y r q k1 k2
      · rw [hβ2 c k1]
        obtain ⟨cells, e, h1, h2, h3, h4⟩ := h.box c y k2
        exact ⟨cells, e, h1, h2.mono hext, h3, (limF_off h (h.xs.offb k2)).trans h4⟩
    · have hy : frzBox st c = some y := hy
      have hy' : frzBox st c' = some y' := hy'
      have he : (frzM st β).b c = (frzM st β).b c' := he
      rcases frzBox_some hy with ⟨r, q, k1, k2⟩ | ⟨k1, k2⟩ <;> rcases frzBox_some hy' with ⟨r', q', k1', k2'⟩ | ⟨k1', k2'⟩
      · rw [hβ1 c _ _ k1, hβ1 c' _ _ k1'] at he; exact h.xs.xinj c c' _ _ _ _ k1 k1' he
      · rw [hβ1 c _ _ k1, hβ2 c' k1'] at he; exact absurd he.symm ((h.xs.xbox c _ _ k1).1 c' y' k2')
      · rw [hβ2 c k1, hβ1 c' _ _ k1'] at he; exact absurd he ((h.xs.xbox c' _ _ k1').1 c y k2)
      · rw [hβ2 c k1, hβ2 c' k1'] at he; exact h.inj c c' y y' k2 k2' he
    · rcases oc l hl with ⟨k1, k2⟩ | ⟨p, rfl, hp⟩
      · obtain ⟨e1, e2⟩ := keepl l k1 k2
        obtain ⟨T, v, m1, m2, m3⟩ := h.own l k1
        exact ⟨T, v, e1.trans m1, e2.trans m2, m3.relim fun g hg => limF_off h (h.xs.off k1 ⟨T, v, m1, m2, hg⟩)⟩
      · obtain ⟨T', v', j1, j2, j3, j4, j5, j6, j7⟩ := newl p hp
        exact ⟨T', v', j4, j5, j6⟩
    · have hy : frzBox st c = some y := hy
      have he : (frzM st β).b c = g := he
      rcases hasc l g hl hg with ⟨k1, k2⟩ | ⟨p, T, v, _, _, _, _, _, hB⟩ <;> rcases frzBox_some hy with ⟨r', q', j1, j2⟩ | ⟨j1, j2⟩
      · rw [hβ1 c _ _ j1] at he; subst he; exact (h.xs.xbox c _ _ j1).2.1 l k1 k2
      · rw [hβ2 c j1] at he; exact h.ownb l g k1 k2 c y j2 he
      · rw [hβ1 c _ _ j1] at he; subst he; exact (h.xs.xbox c _ _ j1).2.2 R dR hio hB
      · rw [hβ2 c j1] at he; exact h.xs.box R dR g hio hB c y j2 he
    · rcases hasc l g hl hg with ⟨k1, k2⟩ | ⟨p, T, v, rfl, hp, q1, q2, q3, hB⟩ <;> rcases hasc l' g hl' hg' with ⟨j1, j2⟩ | ⟨p', T', v', rfl, hp', q1', q2', q3', hB'⟩
      · exact h.sep l l' g k1 j1 k2 j2
      · exact absurd k2 (h.xs.own R dR g hio hB' l k1)
      · exact absurd j2 (h.xs.own R dR g hio hB l' j1)
      · rw [hXR.sepT hp hp' q1 q1' q2 q2' q3 q3']
    · exfalso
      have ht : (frzEnt st (st.env t)).tag = some (true, l) := ht
      unfold frzEnt at ht
      split at ht
      · split at ht <;> cases ht
      · split at ht <;> cases ht
      · cases ht
    · obtain ⟨b', cells, e, k1, k2, k3, k4, k5⟩ := h.rd d hd
      exact ⟨b', cells, e, k1, k2, k3, k4.mono hext, (limF_off h (fun ht => h.fr_rb (hnr b' ht) k1.symm (hrb b' k1.symm))).trans k5⟩
  · cases ht
/-! ### what a box owns becomes a tree -/
/-- data whose arrays are seen as before -/
theorem CRep.relimFX {lim' : Lim} : ∀ {t : Ty} {x : t.val} {cs : List Value}, CRep w lim t x cs → flatT t = true → (∀ p e v g, typeAt t p = some (.slice e) → cs[offs t p]? = some v → blockOf v = some g → lim' g = lim g) → CRep w lim' t x cs := by
  intro t
  induction t with
  | int k => intro x cs h _ _; exact h
  | bool => intro x cs h _ _; exact h
  | str => intro x cs h _ _; exact h
  | unit => intro x cs h _ _; exact h
  | slice e _ =>
    intro x cs h hf hl
    obtain ⟨ad, c, h1, h2, h3⟩ := h
    subst h1
    refine ⟨ad, c, rfl, h2, ?_⟩
    rcases h3 with h3 | ⟨b, o, q1, q2, q3, q4⟩
    · exact .inl h3
    · subst q1
      have hb := hl [] e _ b rfl (by simp [offs]; rfl) rfl
      exact .inr ⟨b, o, rfl, q2, by unfold under; rw [hb]; exact q3, fun i y hy => by
        obtain ⟨ds, k1, k2⟩ := q4 i y hy
        exact ⟨ds, (CRep_noSl hf).2 ((CRep_noSl hf).1 k1), k2⟩⟩
  | prod a b iha ihb =>
    intro x cs h hf hl
    obtain ⟨c1, c2, rfl, h1, h2⟩ := h
    obtain ⟨f1, f2⟩ := flat_prod hf
    have l1 := h1.length
    refine ⟨c1, c2, rfl, iha h1 f1 (fun p e v g hp hv hg => hl (0 :: p) e v g (by simpa [typeAt] using hp) (by simp only [offs]; rw [List.getElem?_append_left (List.getElem?_eq_some_iff.1 hv).1]; exact hv) hg), ?_⟩
    rcases f2 with ⟨p', q', rfl, f2⟩ | rfl
    · refine ihb h2 f2 (fun p e v g hp hv hg => ?_)
      cases p with
      | nil => simp [typeAt] at hp
      | cons i p => exact hl ((i + 1) :: p) e v g (by simpa [typeAt] using hp) (by simp only [offs]; rw [List.getElem?_append_right (by omega), l1, show a.size + offs (.prod p' q') (i :: p) - a.size = offs (.prod p' q') (i :: p) by omega]; exact hv) hg
    · exact h2
theorem CRep.relimX {lim' : Lim} : ∀ {t : Ty} {x : t.val} {cs : List Value}, CRep w lim t x cs → nestT t = true → (∀ p ∈ slicePaths t, ∀ T v g, typeAt t p = some T → cs[offs t p]? = some v → Blk w T v g → lim' g = lim g) → CRep w lim' t x cs := by
  intro t
  induction t with
  | int k => intro x cs h _ _; exact h
  | bool => intro x cs h _ _; exact h
  | str => intro x cs h _ _; exact h
  | unit => intro x cs h _ _; exact h
  | slice e _ =>
    intro x cs h hf hl
    obtain ⟨ad, c, h1, h2, h3⟩ := h
    subst h1
    refine ⟨ad, c, rfl, h2, ?_⟩
    rcases h3 with h3 | ⟨b, o, q1, q2, q3, q4⟩
    · exact .inl h3
    · subst q1
      have hb := hl [] (slice_path0 e) (.slice e) (.slice (some ⟨b, o, none⟩) (List.length (α := e.val) x) c) b rfl (by simp [offs]) (show blockOf (.slice (some ⟨b, o, none⟩) (List.length (α := e.val) x) c) = some b from rfl)
      refine .inr ⟨b, o, rfl, q2, by unfold under; rw [hb]; exact q3, fun i y hy => ?_⟩
      obtain ⟨ds, k1, k2⟩ := q4 i y hy
      refine ⟨ds, ?_, k2⟩
      cases hns : noSl e with
      | true => exact (CRep_noSl hns).2 ((CRep_noSl hns).1 k1)
      | false =>
        have hfl : flatT e = true := by simp only [nestT, hns] at hf; exact hf
        refine k1.relimFX hfl (fun p e' v g hp hv hg => ?_)
        refine hl [0] (by simp [slicePaths, hns, hfl]) (.prod (.slice e) .unit) _ g rfl (by simp [offs]; rfl) ⟨i, p, e', v, hp, ?_, hg⟩
        have hi : i < List.length (α := e.val) x := (List.getElem?_eq_some_iff.1 hy).1
        simp only [elemAt, hi, if_true]
        exact k2 _ v hv
  | prod a b iha ihb =>
    intro x cs h hf hl
    obtain ⟨c1, c2, rfl, h1, h2⟩ := h
    obtain ⟨f1, f2⟩ := nest_prod hf
    have l1 := h1.length
    refine ⟨c1, c2, rfl, iha h1 f1 (fun p hp T v g ht hv hg => ?_), ?_⟩
    · refine hl (0 :: p) ?_ T v g (by simpa [typeAt] using ht) (by simp only [offs]; rw [List.getElem?_append_left (List.getElem?_eq_some_iff.1 hv).1]; exact hv) hg
      simp only [slicePaths]
      exact List.mem_append_left _ (List.mem_map.2 ⟨p, hp, rfl⟩)
    · rcases f2 with ⟨p', q', rfl, f2⟩ | rfl
      · refine ihb h2 f2 (fun p hp T v g ht hv hg => ?_)
        cases p with
        | nil => exact absurd rfl ((slicePaths_spec hp).2 rfl)
        | cons i p =>
          refine hl ((i + 1) :: p) ?_ T v g (by simpa [typeAt] using ht) (by simp only [offs]; rw [List.getElem?_append_right (by omega), l1, show a.size + offs (.prod p' q') (i :: p) - a.size = offs (.prod p' q') (i :: p) by omega]; exact hv) hg
          rw [show slicePaths (.prod a (.prod p' q')) = (slicePaths a).map (0 :: ·) ++ (slicePaths (.prod p' q')).map bump from rfl]
          exact List.mem_append_right _ (List.mem_map.2 ⟨i :: p, hp, rfl⟩)
      · exact h2
theorem deepOwn_spec {f : List Nat → Loc} {t : Ty} (h : deepOwn st f t = true) : noSl t = true ∨ (nestT t = true ∧ ∀ p ∈ slicePaths t, st.own (f p) = true) := by
  unfold deepOwn at h
  cases hn : noSl t with
  | true => exact .inl rfl
  | false =>
    rw [hn] at h
    cases hs : nestT t with
    | false => rw [hs] at h; cases h
    | true => rw [hs] at h; exact .inr ⟨rfl, fun p hp => allOwn_mem h p hp⟩
theorem thawBox_some {b c : Tmp} {d : Dat} (h : thawBox st b c = some d) : c ≠ b ∧ st.box c = some d ∧ deepOwn st (.box c ·) d.1 = true := by
  unfold thawBox at h
  cases hq : Nat.beq c b with
  | true => rw [hq] at h; cases h
  | false =>
    rw [hq] at h
    simp only [cnd_false] at h
    cases hb : st.box c with
    | none => rw [hb] at h; cases h
    | some d0 =>
      rw [hb] at h
      simp only [] at h
      cases hd : deepOwn st (.box c ·) d0.1 with
      | false => rw [hd] at h; cases h
      | true => rw [hd] at h; injection h with h; subst h; exact ⟨fun e => (by subst e; simp at hq), rfl, hd⟩
open Classical in
theorem trThaw_ok (h : Sim w0 lim0 rb n st a w lim β) (hrb : ∀ k, some k = rb → k < w0.heap.size) {b R : Tmp} (ht : trThaw b R st = some st') : ∃ lim' β', Sim w0 lim0 rb n st' a w lim' β' := by
  unfold trThaw at ht
  split at ht
  · rename_i d hbx hR hxbn
    cases hR0 : Nat.beq R 0 with
    | true => rw [hR0] at ht; cases ht
    | false =>
    cases hnt : nestT d.1 with
    | false => rw [hR0, hnt] at ht; cases ht
    | true =>
    cases hao : allOwn st.own (.box b ·) (slicePaths d.1) with
    | false => rw [hR0, hnt, hao] at ht; cases ht
    | true =>
    cases hrdn : rdNoSl st.rd with
    | false => rw [hR0, hnt, hao, hrdn] at ht; cases ht
    | true =>
    rw [hR0, hnt, hao, hrdn] at ht
    simp only [cnd_true, cnd_false] at ht
    injection ht with ht
    have hR0' : R ≠ 0 := fun e => by subst e; cases hR0
    have hown : ∀ p ∈ slicePaths d.1, st.own (.box b p) = true := fun p hp => allOwn_mem hao p hp
    obtain ⟨cells, e0, hh, hcr, hge, hl0⟩ := h.box b d hbx
    have hcell : ∀ j, w.cell? ⟨β b, j, none⟩ = cells.toList[j]? := fun j => whole_cells' hh j
    have oloc : ∀ p ∈ slicePaths d.1, ∃ T v, typeAt d.1 p = some T ∧ cells.toList[offs d.1 p]? = some v ∧ OwnT w lim w0.fr T v := by
      intro p hp
      obtain ⟨T, v, k1, k2, k3⟩ := h.own _ (hown p hp)
      simp only [locTy, hbx] at k1
      simp only [locV, hbx] at k2
      rw [hcell] at k2
      exact ⟨T, v, k1, k2, k3⟩
    have hasb : ∀ p T v g, typeAt d.1 p = some T → cells.toList[offs d.1 p]? = some v → Blk w T v g → HasL st a w β (.box b p) g := fun p T v g k1 k2 k3 =>
      ⟨T, v, by simp only [locTy, hbx]; exact k1, by simp only [locV, hbx]; rw [hcell]; exact k2, k3⟩
    have hX := XRep.of_own w0.fr hcr hnt oloc (fun p hp q hq T T' u v g h1 h2 h3 h4 h5 h6 => by
      have := h.sep _ _ g (hown p hp) (hown q hq) (hasb p T u g h1 h3 h5) (hasb q T' v g h2 h4 h6)
      injection this)
    let Bx : Nat → Prop := fun g => ∃ p ∈ slicePaths d.1, ∃ T v, typeAt d.1 p = some T ∧ cells.toList[offs d.1 p]? = some v ∧ Blk w T v g
    have hX : XRep w d.1 d.2 cells.toList Bx := hX
    have bxl : ∀ g, Bx g → ∃ p, st.own (.box b p) = true ∧ HasL st a w β (.box b p) g := fun g ⟨p, hp, T, v, k1, k2, k3⟩ => ⟨p, hown p hp, hasb p T v g k1 k2 k3⟩
    have bfr : ∀ g, Bx g → w0.fr g := fun g hg => by
      obtain ⟨p, k1, k2⟩ := bxl g hg
      exact (h.lt k1 k2).2
    let lim' : Lim := fun g => if Bx g then some 0 else lim g
    have l0 : ∀ g, lim g = some 0 → lim' g = some 0 := fun g hg => by simp only [lim']; split; rfl; exact hg
    have lb : ∀ g, Bx g → lim' g = some 0 := fun g hg => by simp only [lim', hg, if_true]
    have ln : ∀ g, ¬ Bx g → lim' g = lim g := fun g hg => by simp only [lim', hg, if_false]
    have nsl : ∀ {t : Ty} {x : t.val} {cs : List Value}, noSl t = true → CRep w lim t x cs → CRep w lim' t x cs := fun hn hc => (CRep_noSl hn).2 ((CRep_noSl hn).1 hc)
    have hfl : flatV (wrapV d.1 cells.toList) = cells.toList := flat_wrap hcr
    have other : ∀ l g, st.own l = true → (∀ p, l ≠ .box b p) → HasL st a w β l g → ¬ Bx g := by
      intro l g hl hne hg hb
      obtain ⟨p, k1, k2⟩ := bxl g hb
      exact hne p (h.sep _ _ g hl k1 hg k2)
    have bne : ∀ c, c ≠ b → Nat.beq c b = false := fun c hc => by
      cases hq : Nat.beq c b with
      | true => exact absurd (nbeq hq) hc
      | false => rfl
    have rne : ∀ r, r ≠ R → Nat.beq r R = false := fun r hr => by
      cases hq : Nat.beq r R with
      | true => exact absurd (nbeq hq) hr
      | false => rfl
    have ioO : ∀ r, r ≠ R → (thawS b R d st).io r = st.io r := fun r hr => by simp only [thawS, rne r hr, cnd_false]
    have ioR : (thawS b R d st).io R = some d := by simp [thawS]
    have xbO : ∀ c, c ≠ b → (thawS b R d st).xb c = st.xb c := fun c hc => by simp only [thawS, bne c hc, cnd_false]
    have xbB : (thawS b R d st).xb b = some (d.1, some (R, [])) := by simp [thawS]
    have xne : ∀ c t o, st.xb c = some (t, o) → c ≠ b := fun c t o hc e => by subst e; rw [hxbn] at hc; cases hc
    have ine : ∀ r x, st.io r = some x → r ≠ R := fun r x hr e => by subst e; rw [hR] at hr; cases hr
    refine ⟨lim', { β with c := fun k => if k = b then β.b b else β.c k, V := fun r => if r = R then wrapV d.1 cells.toList else β.V r, B := fun r => if r = R then Bx else β.B r }, ?_⟩
    subst ht
    have oc : ∀ l, (thawS b R d st).own l = true → ∃ c p d', l = .box c p ∧ c ≠ b ∧ st.box c = some d' ∧ (thawS b R d st).box c = some d' ∧ st.own l = true := by
      intro l hl
      cases l with
      | tmp t p => cases hl
      | box c p =>
        simp only [thawS] at hl
        cases hq : thawBox st b c with
        | none => rw [hq] at hl; cases hl
        | some d' =>
          rw [hq] at hl
          obtain ⟨k1, k2, k3⟩ := thawBox_some hq
          exact ⟨c, p, d', rfl, k1, k2, hq, hl⟩
    have lts : ∀ l, (thawS b R d st).own l = true → locTy (thawS b R d st) l = locTy st l ∧ locV (thawS b R d st) a w { β with c := fun k => if k = b then β.b b else β.c k, V := fun r => if r = R then wrapV d.1 cells.toList else β.V r, B := fun r => if r = R then Bx else β.B r } l = locV st a w β l := by
      intro l hl
      obtain ⟨c, p, d', rfl, k1, k2, k3, k4⟩ := oc l hl
      exact ⟨by simp only [locTy, k2, k3], by simp only [locV, k2, k3]⟩
    have lh : ∀ l g, (thawS b R d st).own l = true → HasL (thawS b R d st) a w { β with c := fun k => if k = b then β.b b else β.c k, V := fun r => if r = R then wrapV d.1 cells.toList else β.V r, B := fun r => if r = R then Bx else β.B r } l g → st.own l = true ∧ HasL st a w β l g ∧ ¬ Bx g := by
      intro l g hl hg
      obtain ⟨e1, e2⟩ := lts l hl
      obtain ⟨c, p, d', e, k1, k2, k3, k4⟩ := oc l hl
      have hg' : HasL st a w β l g := by unfold HasL at hg ⊢; rw [← e1, ← e2]; exact hg
      exact ⟨k4, hg', other l g k4 (fun q e' => by rw [e] at e'; injection e' with e' _; exact k1 e') hg'⟩
    have cas : ∀ r x, (thawS b R d st).io r = some x → (r = R ∧ x = d) ∨ (r ≠ R ∧ st.io r = some x) := fun r x hr => by
      by_cases e : r = R
      · subst e; rw [ioR] at hr; injection hr with hr; exact .inl ⟨rfl, hr.symm⟩
      · rw [ioO r e] at hr; exact .inr ⟨e, hr⟩
    have hxm : ∀ r x, st.io r = some x → ∃ x', (thawS b R d st).io r = some x' ∧ (x'.1 = .unit ∨ (x'.1 = x.1 ∧ (if r = R then wrapV d.1 cells.toList else β.V r) = β.V r)) := fun r x hr =>
      ⟨x, by rw [ioO r (ine r x hr)]; exact hr, .inr ⟨rfl, by simp [ine r x hr]⟩⟩
    refine ⟨h.size, h.defers, h.grow, fun k hk hXk => ?_, h.xrb, h.rdk, fun t => ?_, fun c d' hc => ?_, fun c c' d' d'' hc hc' he => ?_, fun l hl => ?_, fun l g hl hg c d' hc he => ?_, fun l l' g hl hl' hg hg' => ?_, fun t l htg => ?_, fun dr hdr => ?_, ?_⟩
    · rw [ln k (fun hb => by
        rcases bfr k hb with h1 | h1
        · omega
        · exact hXk h1)]
      exact h.limOld k hk hXk
    · have ht := h.env t
      show ERep _ w lim' _ rb (thawEnt st b (st.env t)).av (tmpOf a t)
      cases hav : (st.env t).av with
      | dat ty x =>
        rw [hav] at ht
        simp only [thawEnt, hav]
        cases hn : noSl ty with
        | false => trivial
        | true =>
          obtain ⟨cs, k1, k2⟩ := ht
          exact ⟨cs, nsl hn k1, k2⟩
      | tup ty x => simp only [thawEnt, hav]; trivial
      | ref ty x => simp only [thawEnt, hav]; trivial
      | cel c p =>
        rw [hav] at ht
        obtain ⟨d', k1, k2⟩ := ht
        simp only [thawEnt, hav]
        cases hq : Nat.beq c b with
        | true =>
          have := nbeq hq; subst this
          rw [hbx] at k1; injection k1 with k1; subst k1
          exact ⟨d.1, _, xbB, by rw [k2]; simp⟩
        | false =>
          simp only [cnd_false]
          cases hb : thawBox st b c with
          | none => trivial
          | some d2 =>
            obtain ⟨m1, m2, m3⟩ := thawBox_some hb
            rw [k1] at m2; injection m2 with m2; subst m2
            exact ⟨d', hb, k2⟩
      | cx c p =>
        rw [hav] at ht
        simp only [thawEnt, hav]
        obtain ⟨t', o, k1, k2⟩ := ht
        have hne := xne c t' o k1
        exact ⟨t', o, by rw [xbO c hne]; exact k1, by rw [k2]; simp [hne]⟩
      | xf r p =>
        rw [hav] at ht
        simp only [thawEnt, hav]
        obtain ⟨x, k1, k2⟩ := ht
        exact ⟨x, by rw [ioO r (ine r x k1)]; exact k1, by simp only [ine r x k1, if_false]; exact k2⟩
      | xp r p m q =>
        rw [hav] at ht
        simp only [thawEnt, hav]
        obtain ⟨x, k1, k2⟩ := ht
        exact ⟨x, by rw [ioO r (ine r x k1)]; exact k1, by simp only [ine r x k1, if_false]; exact k2⟩
      | xt r =>
        rw [hav] at ht
        simp only [thawEnt, hav]
        obtain ⟨x, k1, k2⟩ := ht
        exact ⟨x, by rw [ioO r (ine r x k1)]; exact k1, by simp only [ine r x k1, if_false]; exact k2⟩
      | xe m q =>
        rw [hav] at ht
        simp only [thawEnt, hav]
        obtain ⟨x, k1, k2, k3, k4⟩ := ht
        exact ⟨x, by rw [ioO 0 (ine 0 x k1)]; exact k1, k2, k3, by simp only [ine 0 x k1, if_false]; exact k4⟩
      | mx ty x ps =>
        rw [hav] at ht
        simp only [thawEnt, hav]
        obtain ⟨cs, k1, k2, k3, k5, k4⟩ := ht
        exact ⟨cs, k1, k2, k3, k5, k4.mono hxm⟩
      | _ => rw [hav] at ht; simp only [thawEnt, hav]; exact ht
    · obtain ⟨k1, k2, k3⟩ := thawBox_some hc
      obtain ⟨cs, e, m1, m2, m3, m4⟩ := h.box c d' k2
      refine ⟨cs, e, m1, ?_, m3, l0 _ m4⟩
      rcases deepOwn_spec k3 with k3 | ⟨k3, k4⟩
      · exact nsl k3 m2
      · refine m2.relimX k3 (fun p hp T v g hT hv hg => ln g ?_)
        refine other (.box c p) g (k4 p hp) (fun q e => by injection e with e _; exact k1 e) ⟨T, v, by simp only [locTy, k2]; exact hT, by simp only [locV, k2]; rw [whole_cells' m1]; exact hv, hg⟩
    · exact h.inj c c' d' d'' (thawBox_some hc).2.1 (thawBox_some hc').2.1 he
    · obtain ⟨e1, e2⟩ := lts l hl
      obtain ⟨c, p, d', e, k1, k2, k3, k4⟩ := oc l hl
      obtain ⟨T, v, m1, m2, m3⟩ := h.own l k4
      refine ⟨T, v, e1.trans m1, e2.trans m2, m3.relim fun g hg => ln g ?_⟩
      exact other l g k4 (fun q e' => by rw [e] at e'; injection e' with e' _; exact k1 e') ⟨T, v, m1, m2, hg⟩
    · obtain ⟨k1, k2, k3⟩ := lh l g hl hg
      exact h.ownb l g k1 k2 c d' (thawBox_some hc).2.1 he
    · obtain ⟨k1, k2, k3⟩ := lh l g hl hg
      obtain ⟨j1, j2, j3⟩ := lh l' g hl' hg'
      exact h.sep l l' g k1 j1 k2 j2
    · exfalso
      have htg : (thawEnt st b (st.env t)).tag = some (true, l) := htg
      unfold thawEnt at htg
      split at htg
      · rename_i ty x _; cases hn : noSl ty <;> rw [hn] at htg <;> cases htg
      · cases htg
      · cases htg
      · rename_i c p _
        cases hq : Nat.beq c b with
        | true => rw [hq] at htg; cases htg
        | false => rw [hq] at htg; simp only [cnd_false] at htg; split at htg <;> cases htg
      · cases htg
    · obtain ⟨b', cs, e, k1, k2, k3, k4, k5⟩ := h.rd dr hdr
      have hn : noSl dr.1 = true := by
        have hdr : st.rd = some dr := hdr
        rw [hdr] at hrdn; exact hrdn
      exact ⟨b', cs, e, k1, k2, k3, nsl hn k4, l0 _ k5⟩
    · refine ⟨fun k z hz => ?_, fun k z g hz hg => ?_, fun k z g hz hg c d' hc he => ?_, fun k z g hz hg l hl hgz => ?_, fun k z k' z' g hz hz' hg hg' => ?_, fun c t o hc => ?_, fun c t o hc => ?_, fun c c' t o t' o' hc hc' he => ?_, fun z hz hm => ?_, ?_, fun c d' ps hc => ?_⟩
      · rcases cas k z hz with ⟨rfl, rfl⟩ | ⟨k1, k2⟩
        · simp only [if_true, hfl]; exact hX
        · simp only [k1, if_false]; exact h.xs.io k z k2
      · rcases cas k z hz with ⟨rfl, rfl⟩ | ⟨k1, k2⟩
        · simp only [if_true] at hg
          exact ⟨bfr g hg, fun hr => h.fr_rb (bfr g hg) hr (hrb g hr), lb g hg⟩
        · simp only [k1, if_false] at hg
          obtain ⟨m1, m2, m3⟩ := h.xs.base k z g k2 hg
          exact ⟨m1, m2, l0 g m3⟩
      · have hc2 := (thawBox_some hc).2.1
        rcases cas k z hz with ⟨rfl, rfl⟩ | ⟨k1, k2⟩
        · simp only [if_true] at hg
          obtain ⟨p, m1, m2⟩ := bxl g hg
          exact h.ownb _ g m1 m2 c d' hc2 he
        · simp only [k1, if_false] at hg; exact h.xs.box k z g k2 hg c d' hc2 he
      · obtain ⟨j1, j2, j3⟩ := lh l g hl hgz
        rcases cas k z hz with ⟨rfl, rfl⟩ | ⟨k1, k2⟩
        · simp only [if_true] at hg; exact j3 hg
        · simp only [k1, if_false] at hg; exact h.xs.own k z g k2 hg l j1 j2
      · rcases cas k z hz with ⟨rfl, rfl⟩ | ⟨k1, k2⟩ <;> rcases cas k' z' hz' with ⟨rfl, rfl⟩ | ⟨k1', k2'⟩
        · rfl
        · simp only [if_true] at hg
          simp only [k1', if_false] at hg'
          obtain ⟨p, m1, m2⟩ := bxl g hg
          exact absurd m2 (h.xs.own k' z' g k2' hg' _ m1)
        · simp only [if_true] at hg'
          simp only [k1, if_false] at hg
          obtain ⟨p, m1, m2⟩ := bxl g hg'
          exact absurd m2 (h.xs.own k z g k2 hg _ m1)
        · simp only [k1, if_false] at hg
          simp only [k1', if_false] at hg'
          exact h.xs.dis k z k' z' g k2 k2' hg hg'
      · by_cases e : c = b
        · subst e
          rw [xbB] at hc; injection hc with hc; injection hc with e1 e2; subst e1; subst e2
          simp only [if_true]
          refine ⟨cells, e0, hh, by simpa using hcr.length, hge, l0 _ hl0, fun r q hrq => ?_⟩
          injection hrq with hrq; injection hrq with e1 e2; subst e1; subst e2
          refine ⟨d, ioR, .inr ⟨by cases d.1 <;> rfl, ?_⟩⟩
          simp only [if_true, hfl, offs0, List.drop_zero]
          rw [← hcr.length, List.take_length]
        · rw [xbO c e] at hc
          obtain ⟨cs, e1, k1, k2, k3, k4, k5⟩ := h.xs.xb c t o hc
          simp only [e, if_false]
          refine ⟨cs, e1, k1, k2, k3, l0 _ k4, fun r q hrq => ?_⟩
          obtain ⟨x, m1, m2⟩ := k5 r q hrq
          exact ⟨x, by rw [ioO r (ine r x m1)]; exact m1, by simp only [ine r x m1, if_false]; exact m2⟩
      · by_cases e : c = b
        · subst e
          simp only [if_true]
          refine ⟨fun c' d' hc' he => ?_, fun l hl hgz => ?_, fun k z hz hg => ?_⟩
          · obtain ⟨m1, m2, _⟩ := thawBox_some hc'
            exact m1 (h.inj c' c d' d m2 hbx he)
          · obtain ⟨j1, j2, _⟩ := lh l _ hl hgz
            exact h.ownb l _ j1 j2 c d hbx rfl
          · rcases cas k z hz with ⟨rfl, rfl⟩ | ⟨k1, k2⟩
            · simp only [if_true] at hg
              obtain ⟨p, m1, m2⟩ := bxl _ hg
              exact h.ownb _ _ m1 m2 c z hbx rfl
            · simp only [k1, if_false] at hg; exact h.xs.box k z _ k2 hg c d hbx rfl
        · rw [xbO c e] at hc
          obtain ⟨k1, k2, k3⟩ := h.xs.xbox c t o hc
          simp only [e, if_false]
          refine ⟨fun c' d' hc' => k1 c' d' (thawBox_some hc').2.1, fun l hl hgz => ?_, fun k z hz hg => ?_⟩
          · obtain ⟨j1, j2, _⟩ := lh l _ hl hgz
            exact k2 l j1 j2
          · rcases cas k z hz with ⟨rfl, rfl⟩ | ⟨m1, m2⟩
            · simp only [if_true] at hg
              obtain ⟨p, j1, j2⟩ := bxl _ hg
              exact k2 _ j1 j2
            · simp only [m1, if_false] at hg; exact k3 k z m2 hg
      · by_cases e : c = b <;> by_cases e' : c' = b
        · rw [e, e']
        · subst e
          rw [xbO c' e'] at hc'
          simp only [if_true, e', if_false] at he
          exact absurd he ((h.xs.xbox c' t' o' hc').1 c d hbx)
        · subst e'
          rw [xbO c e] at hc
          simp only [if_true, e, if_false] at he
          exact absurd he.symm ((h.xs.xbox c t o hc).1 c' d hbx)
        · rw [xbO c e] at hc
          rw [xbO c' e'] at hc'
          simp only [e, e', if_false] at he
          exact h.xs.xinj c c' t o t' o' hc hc' he
      · have e0' : (0 : Tmp) ≠ R := fun e => hR0' e.symm
        rw [ioO 0 e0'] at hz
        simp only [e0', if_false]; exact h.xs.fix z hz hm
      · have e0' : (0 : Tmp) ≠ R := fun e => hR0' e.symm
        exact h.xs.kx.keep (fun z hz => h.xs.io 0 z hz) (fun z hz _ => ⟨z, by rw [ioO 0 e0'] at hz; exact hz, rfl, by simp [e0']⟩) rfl (fun _ _ _ _ => rfl)
      · have hc : st.rb c = some (d', ps) := hc
        obtain ⟨k1, cs, e1, k2, k3⟩ := h.xs.rbx c d' ps hc
        have hne := xne c _ _ k1
        exact ⟨by rw [xbO c hne]; exact k1, cs, e1, by simp only [hne, if_false]; exact k2, k3.mono hxm⟩
  · cases ht
end
end Go.Den

namespace Go.Den
section
variable {P : Program} {tab : Tab} {G : Gam} {w0 : Base} {lim0 : Lim} {rb : Option Nat} {n : Nat}
variable {st st' : St} {a : Act} {w : World} {lim : Lim} {β : Mp}

theorem trAll_ok (hrb : ∀ k, some k = rb → k < w0.heap.size) : ∀ {ts : List Tr} {st st' : St} {lim : Lim} {β : Mp}, Sim w0 lim0 rb n st a w lim β → trAll st ts = some st' → ∃ lim' β', Sim w0 lim0 rb n st' a w lim' β'
  | [], st, st', lim, β, h, ht => by injection ht with ht; subst ht; exact ⟨lim, β, h⟩
  | t :: ts, st, st', lim, β, h, ht => by
    simp only [trAll] at ht
    cases h1 : trOne st t with
    | none => rw [h1] at ht; cases ht
    | some s =>
      rw [h1] at ht
      have : ∃ lim' β', Sim w0 lim0 rb n s a w lim' β' := by
        cases t with
        | join b R => exact trJoin_ok h h1
        | split b N => exact trSplit_ok h h1
        | frz b => exact trFrz_ok h hrb h1
        | thaw b R => exact trThaw_ok h hrb h1
      obtain ⟨l2, b2, h2⟩ := this
      exact trAll_ok hrb h2 ht
theorem Sim.packedT (h : Sim w0 lim0 rb n st a w lim β) (hrb : ∀ k, some k = rb → k < w0.heap.size) {ts : List Tr} {S : Shp} {x : S.ty.val} (hp : packT ts S st = some x) : ∃ lim' β', Sim w0 lim0 rb n (unpack S x) a w lim' β' := by
  unfold packT at hp
  cases ht : trAll st ts with
  | none => rw [ht] at hp; cases hp
  | some s =>
    rw [ht] at hp
    obtain ⟨l, b, hs⟩ := trAll_ok hrb h ht
    obtain ⟨b2, hs2⟩ := hs.packed hp
    exact ⟨l, b2, hs2⟩
def EvOk (P : Program) (tab : Tab) (G : Gam) (w0 : Base) (lim0 : Lim) (rb : Option Nat) (n : Nat) (ann : Ann) (fuel m : Nat) (c : Code) : Prop :=
    ∀ (R : Type) (st : St) (kn kr : St → Option R) (ke : Nat → St → Option R) (r : R), dstsOk m c = true → evalK tab G ann fuel c R st kn kr ke = some r →
    ∀ (Q : Exit → Act → World → Prop) a w lim β, Sim w0 lim0 rb n st a w lim β → (∀ st', kn st' = some r → ∀ a' w' lim' β', Sim w0 lim0 rb n st' a' w' lim' β' → Q .normal a' w') →
    (∀ st', kr st' = some r → ∀ a' w' lim' β', Sim w0 lim0 rb n st' a' w' lim' β' → Q .ret a' w') → (∀ i st', ke i st' = some r → ∀ a' w' lim' β', Sim w0 lim0 rb n st' a' w' lim' β' → Q (.exit i) a' w') → c.wp P Q a w

/-- CODE: what the reading gives, the machine does. -/
theorem eval_sound (hT : TabOk P tab) (hG : GamOk P G) (hm : P.follows .mixedOrders = true) (hrb : ∀ k, some k = rb → k < w0.heap.size) {ann : Ann} {fuel m : Nat} (hmn : m ≤ n) (c : Code) : EvOk P tab G w0 lim0 rb n ann fuel m c := by
  have both : EvOk P tab G w0 lim0 rb n ann fuel m c ∧ ∀ b, c = .loop b → EvOk P tab G w0 lim0 rb n ann fuel m b := by
    induction c with
    | skip =>
      refine ⟨?_, fun b hb => by cases hb⟩
      intro R st kn kr ke r hd he Q a w lim β h hn hr hx
      unfold evalK at he
      exact wp_skip (hn st he a w lim β h)
    | region id ops draw =>
      refine ⟨?_, fun b hb => by cases hb⟩
      intro R st kn kr ke r hd he Q a w lim β h hn hr hx
      unfold evalK at he
      have h := h.marks ann.mkt
      cases htr : trAll { st with mkt := ann.mkt } (ann.pre id) with
      | none => rw [htr] at he; cases he
      | some st1 =>
      rw [htr] at he
      obtain ⟨lim1, β1, h⟩ := trAll_ok hrb h htr
      simp only [] at he
      have hd' : ∀ o ∈ ops.toList, ∀ d, o.dst = some d → d < n := fun o ho d hod => Nat.lt_of_lt_of_le (opsDst_mem (m := m) hd o ho d hod) hmn
      cases draw with
      | true =>
        obtain ⟨st', fs, st3, h1, hal, h2⟩ := drawK_runT (Alike.refl st1) (by exact he)
        rw [List.nil_append] at h2
        cases hE : edgesOk ops.toList 0 with
        | false => rw [hE] at h2; cases h2
        | true =>
          cases hP : pairsOk (masks ops.toList []) [] fs 0 with
          | false => rw [hE, hP] at h2; cases h2
          | true =>
            rw [hE, hP] at h2
            exact draw_sound hT hG hm hrb hd' h1 hE hP h (fun a' w' lim' β' hs => hn st3 h2 a' w' lim' β' (hs.alike hal))
      | false =>
        obtain ⟨st', fs, st3, h1, hal, h2⟩ := opsK_runT (Alike.refl st1) (by exact he)
        exact wp_region_list (run_sound hT hG hrb h1 hd' h (fun a' w' lim' β' hs => hn st3 h2 a' w' lim' β' (hs.alike hal)))
    | seq x y ihx ihy =>
      refine ⟨?_, fun b hb => by cases hb⟩
      intro R st kn kr ke r hd he Q a w lim β h hn hr hx
      unfold evalK at he
      have hd1 : dstsOk m x = true ∧ dstsOk m y = true := by
        simp only [dstsOk] at hd
        cases hq : dstsOk m x with
        | false => rw [hq] at hd; cases hd
        | true => rw [hq] at hd; exact ⟨rfl, hd⟩
      split at he
      · refine wp_seq (ihx.1 R st _ kr ke r hd1.1 he _ a w lim β h (fun st' hk a' w' lim' β' hs => ?_) hr hx)
        exact ihy.1 R st' kn kr ke r hd1.2 hk Q a' w' lim' β' hs hn hr hx
      · rename_i S hcut
        obtain ⟨s, h1, h2⟩ := obind_some he
        refine wp_seq (ihx.1 S.ty.val st _ _ _ s hd1.1 h1 _ a w lim β h (fun st' hk a' w' lim' β' hs => ?_) (fun st' hk => by cases hk) (fun i st' hk => by cases hk))
        obtain ⟨lim2, β2, hs⟩ := hs.packedT hrb hk
        exact ihy.1 R (unpack S s) kn kr ke r hd1.2 h2 Q a' w' lim2 β2 hs hn hr hx
      · rename_i S hcut
        obtain ⟨e, h1, h2⟩ := obind_some he
        refine wp_seq (ihx.1 (S.ty.val ⊕ R) st _ _ _ e hd1.1 h1 _ a w lim β h (fun st' hk a' w' lim' β' hs => ?_) (fun st' hk a' w' lim' β' hs => ?_) (fun i st' hk a' w' lim' β' hs => ?_))
        · obtain ⟨s, k1, k2⟩ := map_inl (β := R) (γ := R) hk
          subst k2
          obtain ⟨lim2, β2, hs⟩ := hs.packedT hrb k1
          exact ihy.1 R (unpack S s) kn kr ke r hd1.2 h2 Q a' w' lim2 β2 hs hn hr hx
        · obtain ⟨s, k1, k2⟩ := map_inr hk
          subst k2
          injection h2 with h2; subst h2
          exact hr st' k1 a' w' lim' β' hs
        · obtain ⟨s, k1, k2⟩ := map_inr hk
          subst k2
          injection h2 with h2; subst h2
          exact hx i st' k1 a' w' lim' β' hs
    | cond c x y ihx ihy =>
      refine ⟨?_, fun b hb => by cases hb⟩
      intro R st kn kr ke r hd he Q a w lim β h hn hr hx
      unfold evalK at he
      have hd1 : dstsOk m x = true ∧ dstsOk m y = true := by
        simp only [dstsOk] at hd
        cases hq : dstsOk m x with
        | false => rw [hq] at hd; cases hd
        | true => rw [hq] at hd; exact ⟨rfl, hd⟩
      split at he
      · rename_i b hav
        have hc := h.ent c
        rw [hav] at hc
        have hc := bool_rep hc
        have b' : Bool := b
        have he : cond (α := Option R) b (evalK tab G ann fuel x R st kn kr ke) (evalK tab G ann fuel y R st kn kr ke) = some r := (cnd_cond (st.knX c) (show Bool from b) _ _).symm.trans he
        revert hc he
        generalize (show Bool from b) = t
        intro hc he
        refine wp_cond hc ?_
        cases t with
        | true => exact ihx.1 R st kn kr ke r hd1.1 he Q a w lim β h hn hr hx
        | false => exact ihy.1 R st kn kr ke r hd1.2 he Q a w lim β h hn hr hx
      · cases he
    | block id c ihc =>
      refine ⟨?_, fun b hb => by cases hb⟩
      intro R st kn kr ke r hd he Q a w lim β h hn hr hx
      by_cases hl : ∃ b, c = .loop b
      · obtain ⟨b, rfl⟩ := hl
        have ihb := ihc.2 b rfl
        unfold evalK at he
        have hdb : dstsOk m b = true := hd
        split at he
        · rename_i S T hann
          split at he
          · cases he
          · rename_i s0 hp
            obtain ⟨t, h1, h2⟩ := obind_some he
            obtain ⟨limp, βp, hsp⟩ := h.packedT hrb hp
            refine wp_block (loop_sound (U := unpack S) (r := t) ?_ h1 hsp)
            intro s e hf k a w lim β hs hk hrt
            refine ihb _ (unpack S s) _ _ _ e hdb hf _ a w lim β hs (fun st' hk' a' w' lim' β' hs' => ?_) (fun st' hk' => by cases hk') (fun i st' hk' a' w' lim' β' hs' => ?_)
            · obtain ⟨s', k1, k2⟩ := map_inl (β := T.ty.val) (γ := R) hk'
              obtain ⟨β2, hs2⟩ := hs'.packed k1
              exact ⟨s', lim', β2, hk s' k2, hs2⟩
            · cases hq : Nat.beq i id with
              | false => rw [hq] at hk'; cases hk'
              | true =>
                rw [hq] at hk'
                obtain ⟨t', k1, k2⟩ := map_inr hk'
                have := hrt t' k2; subst this
                show (if i = id then Q .normal a' w' else Q (.exit i) a' w')
                rw [if_pos (nbeq hq)]
                obtain ⟨β2, hs2⟩ := hs'.packed k1
                exact hn _ h2 a' w' lim' β2 hs2
        · rename_i S T hann
          split at he
          · cases he
          · rename_i s0 hp
            obtain ⟨t, h1, h2⟩ := obind_some he
            obtain ⟨limp, βp, hsp⟩ := h.packedT hrb hp
            refine wp_block (loop_sound (U := unpack S) (r := t) ?_ h1 hsp)
            intro s e hf k a w lim β hs hk hrt
            refine ihb _ (unpack S s) _ _ _ e hdb hf _ a w lim β hs (fun st' hk' a' w' lim' β' hs' => ?_) (fun st' hk' a' w' lim' β' hs' => ?_) (fun i st' hk' a' w' lim' β' hs' => ?_)
            · obtain ⟨s', k1, k2⟩ := map_inl (β := T.ty.val ⊕ R) (γ := R) hk'
              obtain ⟨β2, hs2⟩ := hs'.packed k1
              exact ⟨s', lim', β2, hk s' k2, hs2⟩
            · have hk' : (kr st').map (fun r => (Sum.inr (Sum.inr r) : S.ty.val ⊕ (T.ty.val ⊕ R))) = some e := hk'
              cases hq : kr st' with
              | none => rw [hq] at hk'; cases hk'
              | some r' =>
                rw [hq] at hk'
                injection hk' with hk'
                have := hrt _ hk'.symm
                subst this
                injection h2 with h2; subst h2
                exact hr st' hq a' w' lim' β' hs'
            · show (if i = id then Q .normal a' w' else Q (.exit i) a' w')
              cases hq : Nat.beq i id with
              | false =>
                have hne : ¬ i = id := by intro e; subst e; rw [Nat.beq_refl] at hq; cases hq
                rw [if_neg hne]
                have hk' : (ke i st').map (fun r => (Sum.inr (Sum.inr r) : S.ty.val ⊕ (T.ty.val ⊕ R))) = some e := by rw [hq] at hk'; exact hk'
                cases hq2 : ke i st' with
                | none => rw [hq2] at hk'; cases hk'
                | some r' =>
                  rw [hq2] at hk'
                  injection hk' with hk'
                  have := hrt _ hk'.symm
                  subst this
                  injection h2 with h2; subst h2
                  exact hx i st' hq2 a' w' lim' β' hs'
              | true =>
                rw [if_pos (nbeq hq)]
                have hk' : (pack T st').map (fun t => (Sum.inr (Sum.inl t) : S.ty.val ⊕ (T.ty.val ⊕ R))) = some e := by rw [hq] at hk'; exact hk'
                cases hq2 : pack T st' with
                | none => rw [hq2] at hk'; cases hk'
                | some t' =>
                  rw [hq2] at hk'
                  injection hk' with hk'
                  have := hrt _ hk'.symm
                  subst this
                  obtain ⟨β2, hs2⟩ := hs'.packed hq2
                  exact hn _ h2 a' w' lim' β2 hs2
        · cases he
      · have he : evalK tab G ann fuel c R st kn kr (fun i st' => cnd (Nat.beq i id) (kn st') (ke i st')) = some r := by
          cases c <;> first | exact he | (exfalso; exact hl ⟨_, rfl⟩)
        refine wp_block (ihc.1 R st kn kr _ r hd he _ a w lim β h hn hr (fun i st' hk a' w' lim' β' hs => ?_))
        show (if i = id then Q .normal a' w' else Q (.exit i) a' w')
        cases hq : Nat.beq i id with
        | true =>
          rw [hq] at hk
          rw [if_pos (nbeq hq)]
          exact hn st' hk a' w' lim' β' hs
        | false =>
          have hne : ¬ i = id := by intro e; subst e; rw [Nat.beq_refl] at hq; cases hq
          rw [hq] at hk
          rw [if_neg hne]
          exact hx i st' hk a' w' lim' β' hs
    | exit id =>
      refine ⟨?_, fun b hb => by cases hb⟩
      intro R st kn kr ke r hd he Q a w lim β h hn hr hx
      unfold evalK at he
      exact wp_exit (hx id st he a w lim β h)
    | ret =>
      refine ⟨?_, fun b hb => by cases hb⟩
      intro R st kn kr ke r hd he Q a w lim β h hn hr hx
      unfold evalK at he
      exact wp_ret (hr st he a w lim β h)
    | loop c ihc =>
      refine ⟨?_, fun b hb => by injection hb with hb; subst hb; exact ihc.1⟩
      intro R st kn kr ke r hd he Q a w lim β h hn hr hx
      unfold evalK at he; cases he
    | goto l =>
      refine ⟨?_, fun b hb => by cases hb⟩
      intro R st kn kr ke r hd he Q a w lim β h hn hr hx
      unfold evalK at he; cases he
    | label l =>
      refine ⟨?_, fun b hb => by cases hb⟩
      intro R st kn kr ke r hd he
      unfold evalK at he; cases he
    | refuse l =>
      refine ⟨?_, fun b hb => by cases hb⟩
      intro R st kn kr ke r hd he
      unfold evalK at he; cases he
    | scope c ihc =>
      refine ⟨?_, fun b hb => by cases hb⟩
      intro R st kn kr ke r hd he
      unfold evalK at he; cases he
    | rangeFunc f ps x y ihx ihy =>
      refine ⟨?_, fun b hb => by cases hb⟩
      intro R st kn kr ke r hd he
      unfold evalK at he; cases he
  exact both.1
end
end Go.Den
