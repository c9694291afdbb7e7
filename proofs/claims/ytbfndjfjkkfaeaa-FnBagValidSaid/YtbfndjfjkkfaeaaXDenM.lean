/- Cuts of lists, parts of results, structs that are built. -/
import Derived.Test.YtbfndjfjkkfaeaaXDenL
set_option linter.unusedVariables false
set_option linter.unusedSimpArgs false
namespace Go.Den
section
variable {P : Program} {tab : Tab} {w0 : Base} {lim0 : Lim} {rb : Option Nat} {n : Nat}
variable {st st' : St} {a : Act} {w : World} {lim : Lim} {β : Mp} {o : Oper} {c : Comp}

theorem TupRep.part : ∀ {t : Ty} {x : t.val} {vs : List Value} {i : Nat} {d : Dat}, TupRep w lim t x vs → getF t x i = some d →
    ∃ v, vs[i]? = some v ∧ TRep w lim d.1 d.2 v ∧ ∀ j u, v.cells.toList[j]? = some u → (vs.flatMap fun v => v.cells.toList)[offs t [i] + j]? = some u := by
  intro t
  induction t with
  | prod p q ihp ihq =>
    intro x vs i d ht hg
    obtain ⟨v, vs', rfl, h1, h2⟩ := ht
    cases i with
    | zero =>
      simp [getF] at hg; subst hg
      refine ⟨v, rfl, h1, fun j u hu => ?_⟩
      simp only [offs, List.flatMap_cons, Nat.zero_add]
      rw [List.getElem?_append_left (List.getElem?_eq_some_iff.1 hu).1]; exact hu
    | succ i =>
      simp only [getF] at hg
      obtain ⟨u, k1, k2, k3⟩ := ihq h2 hg
      refine ⟨u, by simpa using k1, k2, fun j z hz => ?_⟩
      have := k3 j z hz
      have hl := h1.cells.length
      simp only [offs, List.flatMap_cons]
      rw [List.getElem?_append_right (by omega), hl, show p.size + offs q [i] + j - p.size = offs q [i] + j by omega]; exact this
  | int k => intro x vs i d _ hg; simp [getF] at hg
  | bool => intro x vs i d _ hg; simp [getF] at hg
  | str => intro x vs i d _ hg; simp [getF] at hg
  | unit => intro x vs i d _ hg; simp [getF] at hg
  | slice t => intro x vs i d _ hg; simp [getF] at hg

theorem ok_extract (h : Sim w0 lim0 rb n st a w lim β) (hd : ∀ d, o.dst = some d → d < n) {x : Operand} {i : Nat} (hop : o.op = .extract x i) (hc : stExtract o x i st = some c) (ho : c.out st = some st') : OpOk P w0 lim0 rb n o st' a w := by
  unfold stExtract at hc
  have hx := h.ent x
  cases hx' : (st.ent x).av with
  | tup t v =>
    rw [hx'] at hc hx
    simp only [] at hc
    cases hf : getF t v i with
    | none => rw [hf] at hc; cases hc
    | some d =>
      rw [hf] at hc
      injection hc with hc; subst hc
      obtain ⟨_, rfl⟩ := out_ret ho
      obtain ⟨vs, hv, htr⟩ := hx
      obtain ⟨u, k1, k2, k3⟩ := htr.part hf
      have he : (execOp a.eval o).run P w = .ok (.value u) w := by
        simp [execOp, hop, hv, Instr.extract, k1]
      refine .value he (h.val { upd0 o.dst (.dat d.1 d.2) none with own := (st.owned x ((slicePaths d.1).map (i :: ·))).map (·.drop 1), takes := takesOf x (st.owned x ((slicePaths d.1).map (i :: ·))) } u hd rfl rfl k2
        (fun p => srcOf x (i :: p)) (fun p hp => ?_) (fun p _ q _ hpq => ?_) (fun l hl => by cases hl) (fun l hl => by cases hl))
      · obtain ⟨p', hp', rfl⟩ := List.mem_map.1 hp
        obtain ⟨m1, m2⟩ := owned_mem hp'
        obtain ⟨q, hq, rfl⟩ := List.mem_map.1 m1
        simp only [List.drop_one, List.tail_cons] at hp ⊢
        obtain ⟨⟨e, he1⟩, _⟩ := slicePaths_spec hq
        obtain ⟨b, m, k, hk⟩ := k2.cells.sliceAt he1
        refine ⟨e, _, he1, by simp only [upd0, partAV]; rw [flat_TRep k2]; exact hk, .inr ?_⟩
        cases x with
        | tmp s =>
          have hav : (st.env s).av = .tup t v := hx'
          refine ⟨List.mem_map.2 ⟨_, hp', rfl⟩, m2, ?_, ?_⟩
          · simp only [srcOf]
            rw [locV_tmp, hav]
            simp only [partAV]
            have : tmpOf a s = .tuple vs.toArray := hv
            rw [this, (getF_typeAt q hf).2]
            simpa [flatV] using k3 _ _ hk
          · simp only [srcOf]; rw [locTy_tmp, hav]; simp only [typeAV]; rw [(getF_typeAt q hf).1]; exact he1
        | const kk => simp only [St.ent] at hx'; unfold constAV at hx'; split at hx' <;> cases hx'
        | global g => cases m2
        | func f => cases m2
      · have := srcOf_inj x hpq
        injection this
  | _ => rw [hx'] at hc; cases hc

theorem andB_iff {x y : Bool} : andB x y = true ↔ x = true ∧ y = true := by unfold andB; exact Bool.and_eq_true_iff
theorem le0_iff {x : Int} : le0 x = true ↔ 0 ≤ x := decide_eq_true_iff
theorem leI_iff {x y : Int} : leI x y = true ↔ x ≤ y := decide_eq_true_iff
theorem ltI_iff {x y : Int} : ltI x y = true ↔ x < y := decide_eq_true_iff
theorem cut_spec {α : Type} {xs ys : List α} {lo hi : Option AV} {chk : Bool} (hc : cutL xs lo hi = some (chk, ys)) (hchk : chk = true) :
    ∃ l r : Int, 0 ≤ l ∧ l ≤ r ∧ r ≤ xs.length ∧ ys = (xs.take r.toNat).drop l.toNat ∧
      ((∃ k, lo = some (.dat (.int k) l)) ∨ (lo = none ∧ l = 0)) ∧ ((∃ k, hi = some (.dat (.int k) r)) ∨ (hi = none ∧ r = xs.length)) ∧ (lo ≠ none ∨ hi ≠ none) := by
  unfold cutL at hc
  split at hc
  · rename_i k l k' r
    change Int at l
    change Int at r
    injection hc with hc; injection hc with h1 h2
    rw [hchk] at h1
    have h1 : 0 ≤ l ∧ l ≤ r ∧ r ≤ xs.length := let q := andB_iff.1 h1; let q' := andB_iff.1 q.2; ⟨le0_iff.1 q.1, leI_iff.1 q'.1, leI_iff.1 q'.2⟩
    exact ⟨l, r, h1.1, h1.2.1, h1.2.2, h2.symm, .inl ⟨k, rfl⟩, .inl ⟨k', rfl⟩, .inl (by simp)⟩
  · rename_i k l
    change Int at l
    injection hc with hc; injection hc with h1 h2
    rw [hchk] at h1
    have h1 : 0 ≤ l ∧ l ≤ xs.length := let q := andB_iff.1 h1; ⟨le0_iff.1 q.1, leI_iff.1 q.2⟩
    refine ⟨l, xs.length, h1.1, h1.2, Int.le_refl _, ?_, .inl ⟨k, rfl⟩, .inr ⟨rfl, rfl⟩, .inl (by simp)⟩
    rw [← h2]; simp [dropL]
  · rename_i k r
    change Int at r
    injection hc with hc; injection hc with h1 h2
    rw [hchk] at h1
    have h1 : 0 ≤ r ∧ r ≤ xs.length := let q := andB_iff.1 h1; ⟨le0_iff.1 q.1, leI_iff.1 q.2⟩
    refine ⟨0, r, Int.le_refl _, h1.1, h1.2, ?_, .inr ⟨rfl, rfl⟩, .inl ⟨k, rfl⟩, .inr (by simp)⟩
    rw [← h2]; simp [takeL]
  · cases hc

theorem run_cut_slice {t el : TypeId} {e : Ty} (h1 : P.underlying t = some (.slice el)) (h2 : TyOk P tab el e) {b : Option Addr} {m cc : Nat} {lo hi : Option Value} {l r : Int} (h0 : 0 ≤ l) (hlr : l ≤ r) (hrm : r ≤ m) (hmc : m ≤ cc)
    (hlo : (∃ k, lo = some (.int k l)) ∨ (lo = none ∧ l = 0)) (hhi : (∃ k, hi = some (.int k r)) ∨ (hi = none ∧ r = m)) :
    (Instr.slice t (.slice b m cc) lo hi none).run P w = .ok (.slice (if cc = l.toNat then b else b.map (·.add (l.toNat * e.size))) (r.toNat - l.toNat) (cc - l.toNat)) w := by
  have hr : r ≤ (cc : Int) := by omega
  rcases hlo with ⟨k, rfl⟩ | ⟨rfl, rfl⟩ <;> rcases hhi with ⟨k', rfl⟩ | ⟨rfl, rfl⟩
  · simp [Instr.slice, underlying, h1, Instr.sliceBounds, Instr.sliceBound, asIntOf, run_sizeOf h2, h0, hr, hlr, show (0 : Int) ≤ r by omega, Int.toNat_of_nonneg (show (0 : Int) ≤ r by omega)]
  · simp [Instr.slice, underlying, h1, Instr.sliceBounds, Instr.sliceBound, asIntOf, run_sizeOf h2, h0, hlr]
  · simp [Instr.slice, underlying, h1, Instr.sliceBounds, Instr.sliceBound, asIntOf, run_sizeOf h2, hlr, hr]
  · simp [Instr.slice, underlying, h1, Instr.sliceBounds, run_sizeOf h2]
theorem run_cut_str {t : TypeId} (h1 : P.underlying t = some .string) {s : List UInt8} {lo hi : Option Value} {l r : Int} (h0 : 0 ≤ l) (hlr : l ≤ r) (hrm : r ≤ s.length)
    (hlo : (∃ k, lo = some (.int k l)) ∨ (lo = none ∧ l = 0)) (hhi : (∃ k, hi = some (.int k r)) ∨ (hi = none ∧ r = s.length)) :
    (Instr.slice t (.string ⟨⟨s⟩⟩) lo hi none).run P w = .ok (.string ⟨⟨(s.take r.toNat).drop l.toNat⟩⟩) w := by
  have hsz : (ByteArray.mk ⟨s⟩).size = s.length := rfl
  have hext : ∀ i j : Nat, (ByteArray.mk ⟨s⟩).extract i j = ⟨⟨(s.take j).drop i⟩⟩ := by
    intro i j
    apply ByteArray.ext
    simp [ByteArray.data_extract]
    rw [List.drop_take]
  rcases hlo with ⟨k, rfl⟩ | ⟨rfl, rfl⟩ <;> rcases hhi with ⟨k', rfl⟩ | ⟨rfl, rfl⟩
  · simp [Instr.slice, underlying, h1, Instr.sliceBounds, Instr.sliceBound, asIntOf, h0, hsz, hlr, hrm, show (0 : Int) ≤ r by omega, Int.toNat_of_nonneg (show (0 : Int) ≤ r by omega), hext]
  · simp [Instr.slice, underlying, h1, Instr.sliceBounds, Instr.sliceBound, asIntOf, h0, hlr, hsz, hext]
  · simp [Instr.slice, underlying, h1, Instr.sliceBounds, Instr.sliceBound, asIntOf, hlr, hrm, hsz, hext]
  · simp [Instr.slice, underlying, h1, Instr.sliceBounds, hsz]

theorem ok_slice (hT : TabOk P tab) (h : Sim w0 lim0 rb n st a w lim β) (hd : ∀ d, o.dst = some d → d < n) {t : TypeId} {x : Operand} {lo hi mx : Option Operand} (hop : o.op = .slice t x lo hi mx) (hc : stSlice tab o t x lo hi mx st = some c) (ho : c.out st = some st') : OpOk P w0 lim0 rb n o st' a w := by
  unfold stSlice at hc
  have bound : ∀ {y : Option Operand} {l : Int}, ((∃ k, avOpt st y = some (.dat (.int k) l)) → ∃ k, y.map a.eval = some (.int k l)) ∧ (avOpt st y = none → y.map a.eval = none) := by
    intro y l
    cases y with
    | none => exact ⟨fun ⟨k, hk⟩ => by simp [avOpt] at hk, fun _ => rfl⟩
    | some y => exact ⟨fun ⟨k, hk⟩ => ⟨k, by simp only [avOpt] at hk; injection hk with hk; simp only [Option.map_some, eval_int h hk]⟩, fun hk => by simp [avOpt] at hk⟩
  have two : ∀ {y : Option Operand} {l m : Int}, ((∃ k, avOpt st y = some (.dat (.int k) l)) ∨ (avOpt st y = none ∧ l = m)) → ((∃ k, y.map a.eval = some (.int k l)) ∨ (y.map a.eval = none ∧ l = m)) := by
    intro y l m hh
    rcases hh with hh | ⟨h1, h2⟩
    · exact .inl (bound.1 hh)
    · exact .inr ⟨(bound (l := l)).2 h1, h2⟩
  split at hc
  · rename_i e xs hx
    change List e.val at xs
    cases hty : tyIs (tab t) (.slice e) with
    | false => rw [hty] at hc; cases hc
    | true =>
      cases hcut : cutL xs (avOpt st lo) (avOpt st hi) with
      | none => rw [hty, hcut] at hc; cases hc
      | some cy =>
        obtain ⟨chk, ys⟩ := cy
        rw [hty, hcut] at hc
        injection hc with hc; subst hc
        obtain ⟨hchk, rfl⟩ := out_ret ho
        obtain ⟨l, r, k0, k1, k2, rfl, k3, k4, _⟩ := cut_spec hcut hchk
        obtain ⟨el, h1, h2⟩ := elemTy hT (tyIs_some hty)
        obtain ⟨b, cc, hv, hle, hs⟩ := slice_rep (hx ▸ h.ent x)
        refine .value (v := .slice (if cc = l.toNat then b else b.map (·.add (l.toNat * e.size))) (r.toNat - l.toNat) (cc - l.toNat)) ?_ (h.plain _ _ _ hd ?_)
        · have hu := run_cut_slice (w := w) (b := b) h1 h2 k0 k1 k2 hle (two k3) (two k4)
          simp only [execOp, hop, Instr.sliceAt, Sem.run_bind, underlying, run_program, h1, Result.andThen_ok, Sem.run_pure, Option.map_none, hv]
          simp only [hu, Result.andThen_ok]
        · have hlen : ((xs.take r.toNat).drop l.toNat).length = r.toNat - l.toNat := by simp; omega
          refine ⟨[_], ⟨_, cc - l.toNat, by rw [hlen], by rw [hlen]; omega, ?_⟩, rfl⟩
          by_cases hemp : (xs.take r.toNat).drop l.toNat = []
          · exact .inl hemp
          · have hne : r.toNat - l.toNat ≠ 0 := fun hz => hemp (List.eq_nil_of_length_eq_zero (by rw [hlen, hz]))
            rcases hs with hs | ⟨bb, oo, rfl, hb, hu, hcell⟩
            · rw [hs] at hlen; simp at hlen; omega
            · have hlt : l.toNat < xs.length := by omega
              rw [if_neg (by omega)]
              refine .inr ⟨bb, oo + l.toNat * e.size, by simp [addr_add], hb, under_le hu ?_, fun i y hy => ?_⟩
              · rw [hlen]
                have : (r.toNat - l.toNat + l.toNat) * e.size ≤ xs.length * e.size := Nat.mul_le_mul_right _ (by omega)
                rw [Nat.add_mul] at this
                omega
              · rw [List.getElem?_drop, List.getElem?_take] at hy
                split at hy
                · obtain ⟨cs, m1, m2⟩ := hcell _ _ hy
                  refine ⟨cs, m1, fun j u hu => ?_⟩
                  have := m2 j u hu
                  rw [Nat.add_mul] at this
                  rw [show oo + l.toNat * e.size + i * e.size + j = oo + (l.toNat * e.size + i * e.size) + j by omega]; exact this
                · cases hy
  · rename_i s hx
    change List UInt8 at s
    cases hty : tyIs (tab t) .str with
    | false => rw [hty] at hc; cases hc
    | true =>
      cases hcut : cutL s (avOpt st lo) (avOpt st hi) with
      | none => rw [hty, hcut] at hc; cases hc
      | some cy =>
        obtain ⟨chk, ys⟩ := cy
        rw [hty, hcut] at hc
        injection hc with hc; subst hc
        obtain ⟨hchk, rfl⟩ := out_ret ho
        obtain ⟨l, r, k0, k1, k2, rfl, k3, k4, _⟩ := cut_spec hcut hchk
        have h1 : P.underlying t = some .string := (hT _ _ (tyIs_some hty)).desc
        refine .value (v := .string ⟨⟨(s.take r.toNat).drop l.toNat⟩⟩) ?_ (h.plain _ _ _ hd mk_str)
        have hu := run_cut_str (P := P) (w := w) h1 k0 k1 k2 (two k3) (two k4)
        simp only [execOp, hop, Instr.sliceAt, Sem.run_bind, underlying, run_program, h1, Result.andThen_ok, Sem.run_pure, Option.map_none, eval_str h hx]
        simp only [hu, Result.andThen_ok]
  · cases hc
end
end Go.Den
