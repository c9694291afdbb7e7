/- What an operation looks at, and that operations that do not touch each other may change places. -/
import Derived.Test.YtbfndjfjkkfaeaaXDenS
set_option linter.unusedVariables false
set_option linter.unusedSimpArgs false
namespace Go.Den
section
variable {P : Program} {tab : Tab} {G : Gam}
variable {st st' : St} {o : Oper} {c : Comp}

structure Look (st st' : St) (x : Operand) : Prop where
  ent : st'.ent x = st.ent x
  own : ∀ p, st'.ownOp x p = st.ownOp x p
  box : ∀ b p, (st.ent x).av = .cel b p → st'.box b = st.box b ∧ ∀ q, st'.own (.box b q) = st.own (.box b q)
  rd : ∀ p, (st.ent x).av = .rdr p → st'.rd = st.rd
  tag : ∀ k l, (st.ent x).tag = some (k, l) → st'.own l = st.own l
  tr : ∀ r, Res.box r ∈ avRes (st.ent x).av → st'.io r = st.io r
  tb : ∀ b p, (st.ent x).av = .cx b p → st'.xb b = st.xb b
  tx : ∀ b p t r q, (st.ent x).av = .cx b p → st.xb b = some (t, some (r, q)) → st'.io r = st.io r
theorem atX_eq {r : Tmp} (h : st'.io r = st.io r) (p : List Nat) : st'.atX r p = st.atX r p := by unfold St.atX; rw [h]
theorem Look.argX {x : Operand} (h : Look st st' x) : Den.argX st' (st.ent x).av = Den.argX st (st.ent x).av := by
  cases hav : (st.ent x).av with
  | xf r p => simp only [Den.argX, atX_eq (h.tr r (by rw [hav]; simp [avRes])) p]
  | _ => rfl
theorem anyX_local : ∀ {l : List Operand}, (∀ x ∈ l, Look st st' x) → anyX st' l = anyX st l
  | [], _ => rfl
  | x :: l, h => by
    have hl := anyX_local (l := l) fun y hy => h y (List.mem_cons_of_mem _ hy)
    simp only [anyX, (h x (by simp)).ent, hl]

theorem Look.owned {x : Operand} (h : Look st st' x) : ∀ ps, st'.owned x ps = st.owned x ps
  | [] => rfl
  | p :: ps => by simp only [St.owned, h.own, h.owned ps]
theorem Look.owner {x : Operand} (h : Look st st' x) : st'.owner x = st.owner x := by
  cases x with
  | tmp t =>
    have h1 := h.own []
    have h2 : st'.env t = st.env t := h.ent
    simp only [St.ownOp] at h1
    simp only [St.owner, h1, h2]
    cases hq : (st.env t).tag with
    | none => rfl
    | some kl =>
      obtain ⟨k, l⟩ := kl
      have := h.tag k l hq
      cases k <;> simp [this]
  | const _ => rfl
  | global _ => rfl
  | func _ => rfl

theorem fillP_local : ∀ {parts : List (Nat × Operand)} {t : Ty} {z : t.val}, (∀ p ∈ parts, Look st st' p.2) → fillP st' t z parts = fillP st t z parts
  | [], _, _, _ => rfl
  | (i, x) :: ps, t, z, h => by
    have hx := (h (i, x) (by simp)).ent
    simp only [fillP, hx]
    cases getF t z i with
    | none => rfl
    | some d =>
      simp only []
      cases AV.as d.1 (st.ent x).av with
      | none => rfl
      | some v =>
        simp only []
        cases setF t z i ⟨d.1, v⟩ with
        | none => rfl
        | some z' => exact fillP_local fun p hp => h p (by simp [hp])
theorem fillS_local : ∀ {parts : List (Nat × Operand)} {e : Ty} {z : List e.val}, (∀ p ∈ parts, Look st st' p.2) → fillS st' e z parts = fillS st e z parts
  | [], _, _, _ => rfl
  | (i, x) :: ps, e, z, h => by
    have hx := (h (i, x) (by simp)).ent
    simp only [fillS, hx]
    cases AV.as e (st.ent x).av with
    | none => rfl
    | some v => exact fillS_local fun p hp => h p (by simp [hp])
theorem partOf_mem : ∀ {parts : List (Nat × Operand)} {i : Nat} {x : Operand}, partOf i parts = some x → ∃ j, (j, x) ∈ parts
  | [], _, _, h => by cases h
  | (j, y) :: ps, i, x, h => by
    simp only [partOf] at h
    cases hb : Nat.beq i j with
    | true => rw [hb] at h; simp only [cnd_true] at h; injection h with h; subst h; exact ⟨j, by simp⟩
    | false =>
      rw [hb] at h
      obtain ⟨k, hk⟩ := partOf_mem h
      exact ⟨k, by simp [hk]⟩
theorem builtOwn_local {parts : List (Nat × Operand)} (h : ∀ p ∈ parts, Look st st' p.2) : ∀ ps, st'.builtOwn parts ps = st.builtOwn parts ps
  | [] => rfl
  | [] :: ps => by simp only [St.builtOwn]; exact builtOwn_local h ps
  | (i :: p) :: ps => by
    simp only [St.builtOwn, builtOwn_local h ps]
    cases hq : partOf i parts with
    | none => rfl
    | some x =>
      obtain ⟨j, hj⟩ := partOf_mem hq
      simp only [(h _ hj).own]
theorem avOpt_local {x : Option Operand} (h : ∀ y, x = some y → Look st st' y) : avOpt st' x = avOpt st x := by
  cases x with
  | none => rfl
  | some y => simp only [avOpt, (h y rfl).ent]

theorem ownedB_local {b : Tmp} {p : List Nat} (h : ∀ q, st'.own (.box b q) = st.own (.box b q)) : ∀ qs, st'.ownedB b p qs = st.ownedB b p qs
  | [] => rfl
  | q :: qs => by simp only [St.ownedB, h, ownedB_local h qs]

/-- AN OPERATION'S READING DEPENDS ON WHAT IT LOOKS AT ALONE. -/
theorem step_local (h : ∀ x ∈ o.op.operands.toList, Look st st' x) (hdx : ∀ d, o.dst = some d → st'.box d = st.box d ∧ st'.io d = st.io d ∧ st'.xb d = st.xb d) (hmk : st'.mkt = st.mkt) : stepC tab G o st' = stepC tab G o st := by
  have hd : ∀ d, o.dst = some d → st'.box d = st.box d := fun d h => (hdx d h).1
  have em : mkD st' o.dst = mkD st o.dst := by cases o.dst <;> simp only [mkD, hmk]
  have ef : freeD st' o.dst = freeD st o.dst := by
    cases hq : o.dst with
    | none => rfl
    | some d => obtain ⟨h1, h2, h3⟩ := hdx d hq; simp only [freeD, h1, h2, h3]
  unfold stepC
  cases hop : o.op with
  | move x =>
    have hx := h x (by simp [hop, Op.operands])
    simp only [stMove, hx.ent, stAssignM, hx.owner, hx.owned, em]
    cases x with
    | tmp t => have := hx.own []; simp only [St.ownOp] at this; simp only [this]
    | _ => rfl
  | assign x =>
    have hx := h x (by simp [hop, Op.operands])
    simp only [stAssignM, stAssign, hx.ent, hx.owned, hx.owner, em]
  | pick x y z =>
    have hx := h x (by simp [hop, Op.operands])
    have hy := h y (by simp [hop, Op.operands])
    have hz := h z (by simp [hop, Op.operands])
    simp only [stPick, hx.ent, hy.ent, hz.ent]
  | alloc e =>
    simp only [em, stAllocX, ef]
    congr 1
    simp only [stAlloc]
    cases tab e with
    | none => rfl
    | some ty =>
      cases hq : o.dst with
      | none => rfl
      | some d => simp only [hd d hq]
  | box e x =>
    have hx := h x (by simp [hop, Op.operands])
    have hb : stBox tab o e x st' = stBox tab o e x st := by
      simp only [stBox]
      cases tab e with
      | none => rfl
      | some ty =>
        cases hq : o.dst with
        | none => rfl
        | some d => simp only [hd d hq, hx.ent, hx.owned]
    simp only [hx.ent, hb]
    cases hav : (st.ent x).av with
    | xf r p => simp only [stBoxX, ef, atX_eq (hx.tr r (by rw [hav]; simp [avRes])) p]
    | _ => rfl
  | build t ps =>
    have hp : ∀ p ∈ ps.toList, Look st st' p.2 := fun p hp => h p.2 (by simp only [hop, Op.operands]; exact List.mem_map.2 ⟨p, hp, rfl⟩)
    simp only [stBuild, fillP_local hp, builtOwn_local hp]
  | buildSlice t k ps =>
    have hp : ∀ p ∈ ps.toList, Look st st' p.2 := fun p hp => h p.2 (by simp only [hop, Op.operands]; exact List.mem_map.2 ⟨p, hp, rfl⟩)
    simp only [stBuildSlice, fillS_local hp]
  | load t x =>
    have hx := h x (by simp [hop, Op.operands])
    simp only [stLoad, hx.ent]
    cases hav : (st.ent x).av with
    | cel b p =>
      obtain ⟨h1, h2⟩ := hx.box b p hav
      simp only [h1, h2, em, ownedB_local h2]
    | rdr p => simp only [hx.rd p hav]
    | cx b p =>
      simp only [stLoadX, hx.tb b p hav]
      split
      · rename_i ty r q hq
        simp only [atX_eq (hx.tx b p ty r q hav hq) q]
      · rfl
    | _ => rfl
  | store t x v =>
    have hx := h x (by simp [hop, Op.operands])
    have hv := h v (by simp [hop, Op.operands])
    simp only [stStore, hx.ent, hv.ent, hv.owned]
    cases hav : (st.ent x).av with
    | cel b p => obtain ⟨h1, h2⟩ := hx.box b p hav; simp only [h1]
    | rdr p => simp only [hx.rd p hav]
    | xp r p k q =>
      have e := hx.tr r (by rw [hav]; simp [avRes])
      simp only [stStoreX, e, atX_eq e p, hv.ent]
    | cx b p =>
      cases p with
      | cons i p => rfl
      | nil =>
        cases hvv : (st.ent v).av with
        | xf r q => simp only [stPutX, hx.tb b [] hav, atX_eq (hv.tr r (by rw [hvv]; simp [avRes])) q]
        | _ => rfl
    | _ => rfl
  | nilCheck x => simp only [(h x (by simp [hop, Op.operands])).ent]
  | binOp op xt x y yt => simp only [stBin, (h x (by simp [hop, Op.operands])).ent, (h y (by simp [hop, Op.operands])).ent]
  | unOp op t x => simp only [stUn, (h x (by simp [hop, Op.operands])).ent]
  | convert s t x => simp only [stConv, (h x (by simp [hop, Op.operands])).ent]
  | makeSlice t x y => simp only [em, stMakeX, ef, stMakeSlice, (h x (by simp [hop, Op.operands])).ent, (h y (by simp [hop, Op.operands])).ent]
  | slice t x lo hi mx =>
    have h1 : ∀ y, lo = some y → Look st st' y := fun y hy => h y (by simp [hop, Op.operands, hy])
    have h2 : ∀ y, hi = some y → Look st st' y := fun y hy => h y (by simp [hop, Op.operands, hy])
    simp only [stSlice, (h x (by simp [hop, Op.operands])).ent, avOpt_local h1, avOpt_local h2]
  | fieldAddr s x f =>
    have hx := h x (by simp [hop, Op.operands])
    simp only [stFieldAddr, hx.ent]
    cases hav : (st.ent x).av with
    | cel b p => obtain ⟨h1, h2⟩ := hx.box b p hav; simp only [h1]
    | rdr p => simp only [hx.rd p hav]
    | xp r p k q => simp only [stFieldAddrX, atX_eq (hx.tr r (by rw [hav]; simp [avRes])) p]
    | cx b p =>
      simp only [stFieldAddrC, hx.tb b p hav]
      split
      · rename_i ty r q hq
        simp only [atX_eq (hx.tx b p ty r q hav hq) q]
      · rfl
    | _ => rfl
  | field s x f => simp only [stField, (h x (by simp [hop, Op.operands])).ent]
  | indexAddr t x i =>
    have hx := h x (by simp [hop, Op.operands])
    simp only [stIndexAddr, hx.ent, (h i (by simp [hop, Op.operands])).ent]
    cases hav : (st.ent x).av with
    | xf r p => simp only [stIndexAddrX, atX_eq (hx.tr r (by rw [hav]; simp [avRes])) p, (h i (by simp [hop, Op.operands])).ent]
    | _ => rfl
  | index t x i => simp only [stIndex, (h x (by simp [hop, Op.operands])).ent, (h i (by simp [hop, Op.operands])).ent]
  | extract x i =>
    have hx := h x (by simp [hop, Op.operands])
    simp only [stExtract, hx.ent, hx.owned]
    cases hav : (st.ent x).av with
    | xt r => simp only [stExtractX, hx.tr r (by rw [hav]; simp [avRes])]
    | _ => rfl
  | call cl =>
    have ha : ∀ x ∈ cl.args.toList, Look st st' x := fun x hx => h x (by simp only [hop, Op.operands, Call.operands]; simp; right; simpa using hx)
    simp only []
    split
    · rename_i f hcal
      have hm : (cl.args.toList.map fun x => (st'.ent x).av) = cl.args.toList.map fun x => (st.ent x).av := List.map_congr_left fun x hx => by rw [(ha x hx).ent]
      have hmx : (cl.args.toList.map fun x => argX st' (st'.ent x).av) = cl.args.toList.map fun x => argX st (st.ent x).av := List.map_congr_left fun x hx => by rw [(ha x hx).ent, (ha x hx).argX]
      rw [anyX_local ha, em]
      have hX : stCallX G o f cl.args.toList st' = stCallX G o f cl.args.toList st := by
        simp only [stCallX, hmx, em, ef]
        cases G f with
        | none => rfl
        | some s =>
          simp only []
          split
          · rfl
          · cases hl : cl.args.toList with
            | nil => rfl
            | cons x0 xs =>
              have hx0 := ha x0 (by rw [hl]; simp)
              have hms : (xs.map fun x => (st'.ent x).av) = xs.map fun x => (st.ent x).av := List.map_congr_left fun x hx => by rw [(ha x (by rw [hl]; simp [hx])).ent]
              simp only [hx0.ent, hms]
              cases hav : (st.ent x0).av with
              | xf r p =>
                have e := hx0.tr r (by rw [hav]; simp [avRes])
                simp only [e, atX_eq e p]
              | _ => rfl
          · rfl
      rw [hX]
      congr 1
      simp only [stCall, hm]
      cases G f with
      | none => rfl
      | some s =>
        simp only []
        cases hmu : s.muts with
        | true => rfl
        | false =>
        simp only [cnd_false]
        have hrdv : ∀ (l : List Operand), (∀ x ∈ l, Look st st' x) → (∀ p, rdrOf (l.map fun x => (st.ent x).av) = some (.rdr p) → st'.rd = st.rd) ∧ (∀ b p, rdrOf (l.map fun x => (st.ent x).av) = some (.cel b p) → st'.box b = st.box b) := by
          intro l
          induction l with
          | nil => intro _; exact ⟨fun p hh => (by cases hh), fun b p hh => (by cases hh)⟩
          | cons y l ih =>
            intro hl
            obtain ⟨i1, i2⟩ := ih (fun x hx => hl x (by simp [hx]))
            simp only [List.map_cons]
            cases hav : (st.ent y).av with
            | rdr p => exact ⟨fun q hh => (hl y (by simp)).rd p hav, fun b q hh => (by injection hh with hh; cases hh)⟩
            | cel b p => exact ⟨fun q hh => (by injection hh with hh; cases hh), fun c q hh => (by injection hh with hh; injection hh with hh _; subst hh; exact ((hl y (by simp)).box b p hav).1)⟩
            | _ => exact ⟨i1, i2⟩
        obtain ⟨q1, q2⟩ := hrdv _ ha
        cases s.usesRd with
        | true =>
          cases s.opens with
          | true => rfl
          | false =>
            simp only []
            cases hr : rdrOf (cl.args.toList.map fun x => (st.ent x).av) with
            | none => rfl
            | some rv =>
              cases rv with
              | rdr p => cases p <;> simp only [q1 _ hr]
              | cel b p => cases p <;> simp only [q2 b _ hr]
              | _ => rfl
        | false =>
          cases s.opens with
          | false => rfl
          | true =>
            simp only []
            cases hq : o.dst with
            | none => cases packArgs none s.aty (cl.args.toList.map fun x => (st.ent x).av) <;> cases Ty.unit.cast s.rdty () <;> rfl
            | some d =>
              have e := hd d hq
              cases packArgs none s.aty (cl.args.toList.map fun x => (st.ent x).av) with
              | none => rfl
              | some x =>
                cases Ty.cast .unit s.rdty () with
                | none => rfl
                | some rd =>
                  show (match st'.box d with | none => _ | some _ => none) = (match st.box d with | none => _ | some _ => none)
                  rw [e]
    · split
      · rename_i x t hx ht
        have hxx := ha x (by simp [hx])
        simp only [stLen, hxx.ent]
        cases hav : (st.ent x).av with
        | xf r p => simp only [stLenX, atX_eq (hxx.tr r (by rw [hav]; simp [avRes])) p]
        | _ => rfl
      · rfl
    · split
      · rename_i x y t t' hx ht
        simp only [stAppend, (ha x (by simp [hx])).ent, (ha y (by simp [hx])).ent, (ha x (by simp [hx])).owner]
      · rfl
    · split
      · rename_i x y hx
        simp only [stMinMax, (ha x (by simp [hx])).ent, (ha y (by simp [hx])).ent]
      · rfl
    · split
      · rename_i x y hx
        simp only [stMinMax, (ha x (by simp [hx])).ent, (ha y (by simp [hx])).ent]
      · rfl
    · rfl
  | _ => rfl

/-! ### operations that do not touch each other -/
theorem Res.beq_iff {r s : Res} : Res.beq r s = true ↔ r = s := by
  cases r <;> cases s <;> simp [Res.beq, Nat.beq_eq]
theorem hit_iff {r : Res} : ∀ {ss : List Res}, hit r ss = true ↔ r ∈ ss
  | [] => by simp [hit]
  | s :: ss => by
    cases h : Res.beq r s with
    | true => simp only [hit, h, cnd_true, true_iff]; rw [Res.beq_iff.1 h]; exact List.mem_cons_self
    | false =>
      have : r ≠ s := fun e => by rw [Res.beq_iff.2 e] at h; cases h
      simp [hit, h, this, hit_iff (ss := ss)]
theorem hits_false : ∀ {rs ss : List Res}, hits rs ss = false → ∀ r ∈ rs, r ∉ ss
  | [], _, _, r, hr => by cases hr
  | x :: rs, ss, h, r, hr => by
    simp only [hits] at h
    cases hx : hit x ss with
    | true => rw [hx] at h; cases h
    | false =>
      rw [hx] at h
      rcases List.mem_cons.1 hr with rfl | hr
      · intro hm; rw [hit_iff.2 hm] at hx; cases hx
      · exact hits_false h r hr
theorem indep_iff {f g : FP} (h : indep f g = true) : (∀ r ∈ f.writes, r ∉ g.reads) ∧ (∀ r ∈ f.writes, r ∉ g.writes) ∧ (∀ r ∈ g.writes, r ∉ f.reads) := by
  unfold indep at h
  cases h1 : hits f.writes g.reads with
  | true => rw [h1] at h; cases h
  | false =>
    cases h2 : hits f.writes g.writes with
    | true => rw [h1, h2] at h; cases h
    | false =>
      cases h3 : hits g.writes f.reads with
      | true => rw [h1, h2, h3] at h; cases h
      | false => exact ⟨hits_false h1, hits_false h2, hits_false h3⟩

theorem mem_dst {u : Upd} {t : Tmp} (h : u.dst = some t) : Res.tmp t ∈ u.writes ∧ Res.box t ∈ u.writes := by
  unfold Upd.writes dstRes; rw [h]; simp
theorem mem_dstO {u : Upd} {t : Tmp} (h : u.dst = some t) : Res.own t ∈ u.writes := by
  unfold Upd.writes dstRes; rw [h]; simp
theorem mem_takes {u : Upd} {l : Loc} (h : l ∈ u.takes) : l.res ∈ u.writes := by
  unfold Upd.writes; simp; right; left; exact ⟨l, h, rfl⟩
theorem mem_bw {u : Upd} {b : Tmp} {d : Dat} {o' : List (List Nat)} {q : List Nat} (h : u.bw = some (b, d, o', q)) : Res.box b ∈ u.writes := by
  unfold Upd.writes; rw [h]; simp
theorem mem_rd {u : Upd} {d : Dat} (h : u.rd = some d) : Res.rd ∈ u.writes := by
  unfold Upd.writes; rw [h]; simp

theorem apply_av {u : Upd} {t : Tmp} (h : Res.tmp t ∉ u.writes) : (apply st u).env t = ⟨(st.env t).av, keepTag u (st.env t).tag⟩ := by
  have : u.dst ≠ some t := fun e => h (mem_dst e).1
  simp [apply, isT_ne.2 this]
theorem keepTag_off {u : Upd} {k : Bool} {l : Loc} (h : l.res ∉ u.writes) : keepTag u (some (k, l)) = some (k, l) := by
  cases l with
  | tmp t p =>
    have : u.dst ≠ some t := fun e => h (mem_dstO e)
    simp [keepTag, isT_ne.2 this]
  | box b p =>
    simp only [keepTag]
    cases hb : u.bw with
    | none => rfl
    | some x =>
      obtain ⟨c, d, o', q⟩ := x
      have : Nat.beq b c = false := by
        cases hq : Nat.beq b c with
        | true => exact absurd (mem_bw (by rw [nbeq hq]; exact hb)) h
        | false => rfl
      simp only [this, cnd_false]
theorem keepTag_loc {u : Upd} {x : Option (Bool × Loc)} {k : Bool} {l : Loc} (h : x = some (k, l)) : ∃ k', keepTag u x = some (k', l) := by
  subst h
  cases l with
  | tmp t p => exact ⟨_, rfl⟩
  | box b p => exact ⟨_, rfl⟩
theorem not_takes {u : Upd} {l : Loc} (h : l.res ∉ u.writes) : inLocs l u.takes = false := by
  cases hq : inLocs l u.takes with
  | true => exact absurd (mem_takes (inLocs_iff.1 hq)) h
  | false => rfl
theorem own_off {u : Upd} {l : Loc} (h : l.res ∉ u.writes) : (apply st u).own l = st.own l := by
  have ht := not_takes h
  cases l with
  | tmp t p =>
    have : u.dst ≠ some t := fun e => h (mem_dstO e)
    simp [apply, isT_ne.2 this, ht]
  | box b p =>
    simp only [apply]
    cases hb : u.bw with
    | none => simp [ht]
    | some x =>
      obtain ⟨c, d, o', q⟩ := x
      have : Nat.beq b c = false := by
        cases hq : Nat.beq b c with
        | true => exact absurd (mem_bw (by rw [nbeq hq]; exact hb)) h
        | false => rfl
      simp [this, ht]
theorem box_off {u : Upd} {b : Tmp} (h : Res.box b ∉ u.writes) : (apply st u).box b = st.box b := by
  simp only [apply]
  cases hb : u.bw with
  | none => rfl
  | some x =>
    obtain ⟨c, d, o', q⟩ := x
    have : Nat.beq b c = false := by
      cases hq : Nat.beq b c with
      | true => exact absurd (mem_bw (by rw [nbeq hq]; exact hb)) h
      | false => rfl
    simp [this]
theorem rd_off {u : Upd} (h : Res.rd ∉ u.writes) : (apply st u).rd = st.rd := by
  simp only [apply]
  cases hr : u.rd with
  | none => rfl
  | some d => exact absurd (mem_rd hr) h

theorem mem_xw {u : Upd} {r : Tmp} {d : Dat} (h : u.xw = some (r, d)) : Res.box r ∈ u.writes := by
  unfold Upd.writes; rw [h]; simp
theorem mem_xbw {u : Upd} {b : Tmp} {x : Ty × Option (Tmp × List Nat)} (h : u.xbw = some (b, x)) : Res.box b ∈ u.writes := by
  unfold Upd.writes; rw [h]; simp
theorem io_off {u : Upd} {b : Tmp} (h : Res.box b ∉ u.writes) : (apply st u).io b = st.io b := by
  simp only [apply]
  cases hb : u.xw with
  | none => rfl
  | some x =>
    obtain ⟨c, d⟩ := x
    have : Nat.beq b c = false := by
      cases hq : Nat.beq b c with
      | true => exact absurd (mem_xw (by rw [nbeq hq]; exact hb)) h
      | false => rfl
    simp [this]
theorem xb_off {u : Upd} {b : Tmp} (h : Res.box b ∉ u.writes) : (apply st u).xb b = st.xb b := by
  simp only [apply]
  cases hb : u.xbw with
  | none => rfl
  | some x =>
    obtain ⟨c, d⟩ := x
    have : Nat.beq b c = false := by
      cases hq : Nat.beq b c with
      | true => exact absurd (mem_xbw (by rw [nbeq hq]; exact hb)) h
      | false => rfl
    simp [this]
/-- what an operand looks at is seen alike before and behind a change that leaves it alone -/
theorem readsX_off {u : Upd} {x : Operand} (h : ∀ r ∈ readsX (apply st u) x, r ∉ u.writes) : readsX (apply st u) x = readsX st x := by
  cases x with
  | tmp t =>
    have ht : Res.tmp t ∉ u.writes := h _ (by simp [readsX])
    have he := apply_av (st := st) ht
    have hx : xbRes (apply st u) (st.env t).av = xbRes st (st.env t).av := by
      cases hav : (st.env t).av with
      | cx b p =>
        have : Res.box b ∉ u.writes := h _ (by simp [readsX, he, hav, avRes])
        simp only [xbRes, xb_off this]
      | _ => rfl
    simp only [readsX, he, hx]
    cases hq : (st.env t).tag with
    | none => rfl
    | some kl =>
      obtain ⟨k, l⟩ := kl
      obtain ⟨k', hk⟩ := keepTag_loc (u := u) hq
      rw [hq] at hk
      rw [hk]
  | _ => rfl
theorem look_off {u : Upd} {x : Operand} (h : ∀ r ∈ readsX st x, r ∉ u.writes) : Look st (apply st u) x := by
  cases x with
  | tmp t =>
    have ht : Res.tmp t ∉ u.writes := h _ (by simp [readsX])
    have he : (apply st u).env t = st.env t := by
      rw [apply_av ht]
      cases hq : (st.env t).tag with
      | none =>
        have : st.env t = ⟨(st.env t).av, (st.env t).tag⟩ := rfl
        rw [this, hq]; rfl
      | some kl =>
        obtain ⟨k, l⟩ := kl
        have hl : l.res ∉ u.writes := h _ (by simp [readsX, hq])
        rw [keepTag_off hl]
        have : st.env t = ⟨(st.env t).av, (st.env t).tag⟩ := rfl
        rw [this, hq]
    have hto : Res.own t ∉ u.writes := h _ (by simp [readsX])
    refine ⟨he, fun p => own_off (l := .tmp t p) hto, fun b p hav => ?_, fun p hav => ?_, fun k l hl => ?_, fun r hr => ?_, fun b p hav => ?_, fun b p ty r q hav hb => ?_⟩
    · have hav : (st.env t).av = .cel b p := hav
      have hb : Res.box b ∉ u.writes := h _ (by simp [readsX, hav, avRes])
      exact ⟨box_off hb, fun q => own_off (l := .box b q) hb⟩
    · have hav : (st.env t).av = .rdr p := hav
      exact rd_off (h _ (by simp [readsX, hav, avRes]))
    · have hl : (st.env t).tag = some (k, l) := hl
      exact own_off (h _ (by simp [readsX, hl]))
    · have hr : Res.box r ∈ avRes (st.env t).av := hr
      exact io_off (h _ (by simp [readsX, hr]))
    · have hav : (st.env t).av = .cx b p := hav
      exact xb_off (h _ (by simp [readsX, hav, avRes]))
    · have hav : (st.env t).av = .cx b p := hav
      exact io_off (h _ (by simp [readsX, hav, avRes, xbRes, hb]))
  | const v =>
    refine ⟨rfl, fun _ => rfl, fun b p hav => ?_, fun p hav => ?_, fun k l hl => (by cases hl), fun r hr => ?_, fun b p hav => ?_, fun b p ty r q hav => ?_⟩
    · simp only [St.ent] at hav; unfold constAV at hav; split at hav <;> cases hav
    · simp only [St.ent] at hav; unfold constAV at hav; split at hav <;> cases hav
    · simp only [St.ent] at hr; unfold constAV at hr; split at hr <;> simp [avRes] at hr
    · simp only [St.ent] at hav; unfold constAV at hav; split at hav <;> cases hav
    · simp only [St.ent] at hav; unfold constAV at hav; split at hav <;> cases hav
  | global g => exact ⟨rfl, fun _ => rfl, fun _ _ hav => (by cases hav), fun _ hav => (by cases hav), fun _ _ hl => (by cases hl), fun _ hr => (by simp [St.ent, avRes] at hr), fun _ _ hav => (by cases hav), fun _ _ _ _ _ hav => (by cases hav)⟩
  | func f => exact ⟨rfl, fun _ => rfl, fun _ _ hav => (by cases hav), fun _ hav => (by cases hav), fun _ _ hl => (by cases hl), fun _ hr => (by simp [St.ent, avRes] at hr), fun _ _ hav => (by cases hav), fun _ _ _ _ _ hav => (by cases hav)⟩

theorem readsL_mem : ∀ {l : List Operand} {x : Operand} {r : Res}, x ∈ l → r ∈ readsX st x → r ∈ readsL st l
  | [], _, _, h, _ => by cases h
  | y :: l, x, r, h, hr => by
    simp only [readsL, List.mem_append]
    rcases List.mem_cons.1 h with rfl | h
    · exact .inl hr
    · exact .inr (readsL_mem h hr)
theorem readsL_off {u : Upd} : ∀ {l : List Operand}, (∀ r ∈ readsL (apply st u) l, r ∉ u.writes) → readsL (apply st u) l = readsL st l
  | [], _ => rfl
  | x :: l, h => by
    simp only [readsL] at h ⊢
    rw [readsX_off fun r hr => h r (by simp [hr]), readsL_off fun r hr => h r (by simp [hr])]
theorem exNo_eq {p : Op} (h : ∀ t i, p = .extract (.tmp t) i → (st'.env t).av = (st.env t).av) : exNo st' p = exNo st p := by
  cases p with
  | extract x i =>
    cases x with
    | tmp t => simp only [exNo, h t i rfl]
    | _ => rfl
  | _ => rfl
theorem exNo_some {p : Op} {t : Tmp} (h : exNo st p = some t) : ∃ i ty v d, p = .extract (.tmp t) i ∧ (st.env t).av = .tup ty v ∧ getF ty v i = some d ∧ slicePaths d.1 = [] := by
  cases p with
  | extract x i =>
    cases x with
    | tmp s =>
      simp only [exNo] at h
      cases hav : (st.env s).av with
      | tup ty v =>
        rw [hav] at h; simp only [] at h
        cases hf : getF ty v i with
        | none => rw [hf] at h; cases h
        | some d =>
          rw [hf] at h; simp only [] at h
          cases hp : slicePaths d.1 with
          | nil => rw [hp] at h; injection h with h; subst h; exact ⟨i, ty, v, d, rfl, hav, hf, hp⟩
          | cons a b => rw [hp] at h; cases h
      | _ => rw [hav] at h; cases h
    | _ => cases h
  | _ => cases h
theorem mvNo_eq {p : Op} (h : ∀ t, p = .move (.tmp t) → (st'.env t).av = (st.env t).av) : mvNo st' p = mvNo st p := by
  cases p with
  | move x =>
    cases x with
    | tmp t => simp only [mvNo, h t rfl]
    | _ => rfl
  | _ => rfl
theorem mvNo_some {p : Op} {t : Tmp} (h : mvNo st p = some t) : ∃ q, p = .move (.tmp t) ∧ (st.env t).av = .rdr q := by
  cases p with
  | move x =>
    cases x with
    | tmp s =>
      simp only [mvNo] at h
      cases hav : (st.env s).av with
      | rdr q => rw [hav] at h; injection h with h; subst h; exact ⟨q, rfl, hav⟩
      | _ => rw [hav] at h; cases h
    | _ => cases h
  | _ => cases h
theorem exNo_reads {t : Tmp} {i : Nat} (h : o.op = .extract (.tmp t) i) : Res.tmp t ∈ reads st o := by
  unfold reads
  simp only [List.mem_append]
  right
  cases hq : exNo st o.op with
  | some s =>
    obtain ⟨j, ty, v, d, e, _⟩ := exNo_some hq
    rw [h] at e; injection e with e _; injection e with e; subst e; simp
  | none =>
    have : mvNo st o.op = none := by rw [h]; rfl
    rw [this]
    exact readsL_mem (x := .tmp t) (by simp [h, Op.operands]) (by simp [readsX])
theorem mvNo_reads {t : Tmp} (h : o.op = .move (.tmp t)) : Res.tmp t ∈ reads st o := by
  unfold reads
  simp only [List.mem_append]
  right
  have : exNo st o.op = none := by rw [h]; rfl
  rw [this]
  cases hq : mvNo st o.op with
  | some s =>
    obtain ⟨q, e, _⟩ := mvNo_some hq
    rw [h] at e; injection e with e; injection e with e; subst e; simp [readsM]
  | none => exact readsL_mem (x := .tmp t) (by simp [h, Op.operands]) (by simp [readsX])
theorem readsM_off {u : Upd} {t : Tmp} (h : Res.tmp t ∉ u.writes) : readsM (apply st u) t = readsM st t := by
  simp only [readsM, apply_av h]
  cases hq : (st.env t).tag with
  | none => rfl
  | some kl =>
    obtain ⟨k, l⟩ := kl
    obtain ⟨k', hk⟩ := keepTag_loc (u := u) hq
    rw [hq] at hk
    rw [hk]
theorem mv_off {u : Upd} {t : Tmp} (h : ∀ r ∈ readsM st t, r ∉ u.writes) : (apply st u).env t = st.env t ∧ (apply st u).own (.tmp t []) = st.own (.tmp t []) := by
  have ht : Res.tmp t ∉ u.writes := h _ (by simp [readsM])
  refine ⟨?_, own_off (l := .tmp t []) (h _ (by simp [readsM, Loc.res]))⟩
  rw [apply_av ht]
  cases hq : (st.env t).tag with
  | none =>
    have : st.env t = ⟨(st.env t).av, (st.env t).tag⟩ := rfl
    rw [this, hq]; rfl
  | some kl =>
    obtain ⟨k, l⟩ := kl
    have hl : l.res ∉ u.writes := h _ (by simp [readsM, hq])
    rw [keepTag_off hl]
    have : st.env t = ⟨(st.env t).av, (st.env t).tag⟩ := rfl
    rw [this, hq]
theorem reads_off {u : Upd} (h : ∀ r ∈ reads (apply st u) o, r ∉ u.writes) : reads (apply st u) o = reads st o := by
  have e : exNo (apply st u) o.op = exNo st o.op := exNo_eq fun t i hp => by rw [apply_av (h _ (exNo_reads hp))]
  have e2 : mvNo (apply st u) o.op = mvNo st o.op := mvNo_eq fun t hp => by rw [apply_av (h _ (mvNo_reads hp))]
  have e3 : ∀ t, mvNo st o.op = some t → Res.tmp t ∉ u.writes := fun t hq => by
    obtain ⟨q, hp, _⟩ := mvNo_some hq
    exact h _ (mvNo_reads hp)
  unfold reads at h ⊢
  rw [e, e2] at h ⊢
  cases hq : exNo st o.op with
  | some t => rfl
  | none =>
    rw [hq] at h
    simp only [] at h ⊢
    cases hm : mvNo st o.op with
    | some t => simp only []; rw [readsM_off (e3 t hm)]
    | none =>
      rw [hm] at h
      simp only [] at h ⊢
      rw [readsL_off fun r hr => h r (by simp [hr])]
theorem step_same {u : Upd} (h : ∀ r ∈ reads st o, r ∉ u.writes) : stepC tab G o (apply st u) = stepC tab G o st := by
  have hdm : ∀ d, o.dst = some d → Res.box d ∉ u.writes := fun d hd => h _ (by unfold reads dstRes; rw [hd]; simp)
  cases hq : exNo st o.op with
  | some t =>
    obtain ⟨i, ty, v, d, hp, hav, hf, hs⟩ := exNo_some hq
    have hav' : ((apply st u).env t).av = .tup ty v := by rw [apply_av (h _ (exNo_reads hp))]; exact hav
    have e1 : (st.ent (.tmp t)).av = .tup ty v := hav
    have e2 : ((apply st u).ent (.tmp t)).av = .tup ty v := hav'
    simp only [stepC, hp, e1, e2, stExtract, hf, hs, List.map_nil, St.owned]
  | none =>
    cases hm : mvNo st o.op with
    | some t =>
      obtain ⟨q, hp, hav⟩ := mvNo_some hm
      have hr : ∀ r ∈ readsM st t, r ∉ u.writes := fun r hr => h r (by unfold reads; rw [hq, hm]; simp [hr])
      obtain ⟨k1, k2⟩ := mv_off hr
      have e1 : (st.ent (.tmp t)) = st.env t := rfl
      have e2 : ((apply st u).ent (.tmp t)) = st.env t := k1
      have e3 : mkD (apply st u) o.dst = mkD st o.dst := by cases o.dst <;> rfl
      simp only [stepC, hp, stAssignM, stMove, e1, e2, e3, k2, hav]
    | none =>
      refine step_local (fun x hx => look_off fun r hr => h r ?_) (fun d hd => ⟨box_off (hdm d hd), io_off (hdm d hd), xb_off (hdm d hd)⟩) rfl
      unfold reads; rw [hq, hm]; simp only [List.mem_append]; exact .inr (readsL_mem hx hr)
theorem step_off {u : Upd} (h : ∀ r ∈ reads (apply st u) o, r ∉ u.writes) : stepC tab G o (apply st u) = stepC tab G o st := by
  rw [reads_off h] at h
  exact step_same h

theorem one_off {ops : List Oper} {u' u : Upd} {rs : List Res} (h : oneU tab G ops o (apply st u') = some (u, rs)) (hr : ∀ r ∈ rs, r ∉ u'.writes) : oneU tab G ops o st = some (u, rs) := by
  have rsOf : ∀ {st : St} {rs' : List Res}, (match stepC tab G o st with
      | some (.ret c u) => cond (chkB c) (some (u, rs')) none
      | some (.call _ _ F u) => F.map fun r => (u r, rs')
      | none => none : Option (Upd × List Res)) = some (u, rs) → rs' = rs := by
    intro st rs' hgo
    cases hc : stepC tab G o st with
    | none => rw [hc] at hgo; cases hgo
    | some c =>
      rw [hc] at hgo
      cases c with
      | ret c u2 =>
        cases hck : chkB c with
        | false => simp only [hck] at hgo; cases hgo
        | true => simp only [hck] at hgo; injection hgo with hgo; injection hgo
      | call rt rdt F u2 =>
        cases F with
        | none => cases hgo
        | some r => injection hgo with hgo; injection hgo
  unfold oneU at h ⊢
  cases hg : o.guard with
  | none =>
    rw [hg] at h
    simp only [] at h ⊢
    have := rsOf h
    subst this
    rw [← reads_off hr, ← step_off (tab := tab) (G := G) hr]; exact h
  | some gw =>
    obtain ⟨g, want⟩ := gw
    rw [hg] at h
    simp only [] at h ⊢
    cases hgt : guardT ops g with
    | none => rw [hgt] at h; cases h
    | some t =>
      rw [hgt] at h
      simp only [] at h ⊢
      have hav : Res.tmp t ∈ rs → ((apply st u').env t).av = (st.env t).av := fun hm => by rw [apply_av (hr _ hm)]
      cases hq : ((apply st u').env t).av with
      | dat ty b =>
        rw [hq] at h
        cases ty <;> try (simp only [] at h; cases h; done)
        simp only [] at h
        cases hw : eqW b want with
        | true =>
          rw [hw] at h
          have h : (match stepC tab G o (apply st u') with
            | some (.ret c u) => cond (chkB c) (some (u, Res.tmp t :: reads (apply st u') o)) none
            | some (.call _ _ F u) => F.map fun r => (u r, Res.tmp t :: reads (apply st u') o)
            | none => none : Option (Upd × List Res)) = some (u, rs) := h
          have := rsOf h
          subst this
          have hr' : ∀ r ∈ reads (apply st u') o, r ∉ u'.writes := fun r hm => hr r (by simp [hm])
          have ha := hav (by simp)
          rw [← ha, hq]
          simp only [hw]
          rw [← reads_off hr', ← step_off (tab := tab) (G := G) hr']; exact h
        | false =>
          rw [hw] at h
          have h : some (skipU o, [Res.tmp t]) = some (u, rs) := h
          have hrs : rs = [Res.tmp t] := by injection h with h; injection h with _ h; exact h.symm
          have ha := hav (by rw [hrs]; simp)
          rw [← ha, hq]
          simp only [hw]; exact h
      | skp =>
        rw [hq] at h
        have h : some (skipU o, [Res.tmp t]) = some (u, rs) := h
        have hrs : rs = [Res.tmp t] := by injection h with h; injection h with _ h; exact h.symm
        have ha := hav (by rw [hrs]; simp)
        rw [← ha, hq]; exact h
      | _ => rw [hq] at h; simp only [] at h; cases h

end
end Go.Den
