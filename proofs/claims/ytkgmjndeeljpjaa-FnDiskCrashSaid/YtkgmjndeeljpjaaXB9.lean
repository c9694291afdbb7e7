/- The laws on logs' bytes and on crashes. -/
import Derived.Test.YtkgmjndeeljpjaaXB8
import Derived.Test.YtkgmjndeeljpjaaXK5
import Derived.Test.YtkgmjndeeljpjaaXR5
import Derived.Test.YtkgmjndeeljpjaaXTr4

namespace Go.Den.T
set_option linter.unusedVariables false
set_option linter.unusedSimpArgs false
set_option linter.unusedSectionVars false
section
variable {A : Atoms} [IsReal A]
theorem startsWith_eq (k : Nat) (xs ys : List Ent) (hk : ys.length < k) (hl : ys.length ≤ 1000000000) (hkx : xs.length < k) (hlx : xs.length ≤ 1000000000) (h : ys <+: xs) : laws_startsWith_t A k (xs, (ys, ())) () = some ((true, ()), ()) := by
  have h1 : (ys.length : Int) ≤ (xs.length : Int) := by have := h.length_le; omega
  have h2 : xs.take ys.length = ys := (List.prefix_iff_eq_take.1 h).symm
  have sl := sameLog_eq (A := A) k ys ys hk hl
  simp only [decide_true] at sl
  simp only [laws_startsWith_t, a_cndS, a_leI, a_lenL, h1, decide_true, if_true, a_le0, Int.natCast_nonneg, a_andB, Bool.and_self, a_takeL, Int.toNat_natCast, h2, sl, a_obind_some]
theorem DrawDiskCrash_ok (k : Nat) (hk : 3000 ≤ k) (a : List Int) (hb : ∀ x ∈ a, 0 ≤ x ∧ x ≤ 255) : Ok (spec_DrawDiskCrash_t A k (a, ()) ()) (fun q => DskT q.1.1) := by
  rw [spec_DrawDiskCrash_t]
  refine (open_ok k a hb).bind fun q hq => ?_
  refine (l20Disk_ok k hk 14 0 q.1 hq (by omega) (by omega)).bind fun q1 h1 => ?_
  have hwl : q1.1.1.2.1.length ≤ 2000 := h1.2.2.1
  have w : A.wrapI .i64 (A.addI (A.lenL q1.1.1.2.1) 1) = (q1.1.1.2.1.length : Int) + 1 := by rw [a_addI, a_lenL]; exact a_wrap (by omega) (by omega)
  rw [w]
  refine (pick_ok k _ _ _ h1.1 (by omega) (by omega)).bind fun q2 h2 => ?_
  have b1 := h2.2.1
  refine Ok.bind (P := fun t => t.2.2.2.2.1 = q1.1.1 ∧ RdOk 20000 t.2.2.2.1) ?_ fun t ht => ?_
  · rw [ok_cndS]
    simp only [a_lenL, a_ltI, decide_eq_true_eq, decide_eq_false_iff_not]
    refine ⟨fun hlt => ?_, fun _ => ok_some.2 ⟨rfl, h2.1.le (by omega)⟩⟩
    rw [ok_cndS]
    refine ⟨fun _ => ?_, fun hc => ?_⟩
    · have hw2 : (A.atL q1.1.1.2.1 q2.1.1 ([] : List Int)).length ≤ 200000 := by
        rw [a_atL]
        exact at_ok (P := fun w : List Int => w.length ≤ 200000) h1.2.2.2 b1 hlt
      have w2 : A.wrapI .i64 (A.addI ((A.atL q1.1.1.2.1 q2.1.1 ([] : List Int)).length : Int) 1) = ((A.atL q1.1.1.2.1 q2.1.1 ([] : List Int)).length : Int) + 1 := by rw [a_addI]; exact a_wrap (by omega) (by omega)
      rw [w2]
      exact (pick_ok k _ _ _ h2.1 (by omega) (by omega)).bind fun q3 h3 => ok_some.2 ⟨rfl, h3.1.le (by omega)⟩
    · rw [a_le0, a_andB] at hc
      simp only [b1, hlt, decide_true, Bool.and_self] at hc
      cases hc
  obtain ⟨t1, t2⟩ := ht
  refine Ok.bind (P := fun u => u.2.2.2.1 = q1.1.1) ?_ fun u hu => ok_some.2 (by show DskT u.2.2.2.1; rw [hu]; exact h1.2)
  refine (pick_ok k 14 _ _ t2 (by omega) (by omega)).bind fun q5 h5 => ?_
  rw [ok_cndS]
  refine ⟨fun _ => ok_some.2 t1, fun _ => ?_⟩
  rw [ok_cndS]
  refine ⟨fun _ => ?_, fun _ => ok_some.2 t1⟩
  refine (pick_ok k 2 _ _ h5.1 (by omega) (by omega)).bind fun q6 h6 => ?_
  have c1 := h6.2.1
  have c2 := h6.2.2.2.1 (by omega)
  rw [ok_cndS]
  exact ⟨fun _ => ok_some.2 t1, fun hc => by simp at hc; omega⟩
/-- what a crash leaves lies between what was synced and all that was written -/
theorem crash_between {d : Dsk} {keep torn : Int} (hd : diskOk d = true) (hk : 0 ≤ keep ∧ keep ≤ d.2.1.length) (ht : 0 ≤ torn ∧ torn ≤ (next d keep).length) : d.1 <+: (crash d keep torn).1 ∧ (crash d keep torn).1 <+: (sync d).1 := by
  have e1 : crash d keep torn = (d.1 ++ (d.2.1.take keep.toNat).flatten ++ (next d keep).take torn.toNat, ([], ())) := by simp only [crash, hd, hk, ht, and_self, decide_true, Bool.and_self, if_true]
  have e2 : (sync d).1 = d.1 ++ d.2.1.flatten := by simp only [sync, hd, if_true]
  rw [e1, e2]
  refine ⟨by rw [List.append_assoc]; exact List.prefix_append _ _, ?_⟩
  rw [List.append_assoc]
  refine (List.prefix_append_right_inj _).2 ?_
  by_cases hlt : keep.toNat < d.2.1.length
  · have : d.2.1 = d.2.1.take keep.toNat ++ (next d keep :: d.2.1.drop (keep.toNat + 1)) := by
      rw [next, getD_lt hlt, ← List.drop_eq_getElem_cons hlt, List.take_append_drop]
    conv => rhs; rw [this]
    rw [List.flatten_append, List.flatten_cons]
    exact (List.prefix_append_right_inj _).2 ((List.take_prefix _ _).trans (List.prefix_append _ _))
  · have h0 : next d keep = [] := by
      simp only [next, List.getD_eq_getElem?_getD, List.getElem?_eq_none (Nat.not_lt.1 hlt), Option.getD_none]
    rw [h0, List.take_nil, List.append_nil, List.take_of_length_le (by omega)]
    exact List.prefix_rfl
theorem crash_loose (d : Dsk) (keep torn : Int) : (crash d keep torn).2.1 = [] := by unfold crash; split <;> rfl
theorem crash_len (d : Dsk) (keep torn : Int) : (crash d keep torn).1.length ≤ 2000 := by
  by_cases h : (diskOk d && (decide (0 ≤ keep ∧ keep ≤ d.2.1.length) && decide (0 ≤ torn ∧ torn ≤ (next d keep).length))) = true
  · have h' := h
    simp only [Bool.and_eq_true, decide_eq_true_eq] at h'
    have := (crash_between h'.1 h'.2.1 h'.2.2).2.length_le
    have := sync_len (d := d)
    omega
  · rw [crash, if_neg h]; simp
theorem FnDiskCrash_true (k : Nat) (hk : 300000 ≤ k) (a : List Int) (hb : ∀ x ∈ a, 0 ≤ x ∧ x ≤ 255) : laws_FnDiskCrash_t A k (a, ()) () = some ((true, ()), ()) := by
  rw [← ok_eq, laws_FnDiskCrash_t, ok_cndS]
  refine ⟨fun _ => ok_some.2 rfl, fun _ => ?_⟩
  refine (DrawDiskCrash_ok k (by omega) a hb).bind fun q hs => ?_
  obtain ⟨⟨d, keep, torn, _⟩, _⟩ := q
  have hs : DskT d := hs
  have hf := hs.f
  have hd1 : d.1.length ≤ 200000 := hs.1
  have hcl := crash_len d keep torn
  have hcz := crash_loose d keep torn
  have hcf : DskF (crash d keep torn) := ⟨by omega, by rw [hcz]; simp⟩
  have e0 : ∀ e, laws_sameDisk_t A k (crash d keep torn, (e, ())) () = some ((decide (crash d keep torn = e), ()), ()) := fun e =>
    sameDisk_eq k _ e ⟨by omega, by rw [hcz]; simp; omega, by rw [hcz]; simp⟩ hcf (by rw [hcz]; simp)
  have alive := alive_eq (A := A) k (by omega : 10 ≤ k)
  rw [ok_eq]
  simp only [impl_DiskCrash_eq k (by omega : 3000 ≤ k) d hf, spec_DiskCrash_eq k (by omega : 3000 ≤ k) d hf, a_obind_some, e0, decide_true, a_notB, Bool.not_true, a_cndS, Bool.false_eq_true, if_false, impl_DiskValid_eq k (by omega : 3000 ≤ k) d hf.1 hf.2, a_ltI, a_lenL]
  have bad : ∀ (h : ¬ ((diskOk d && (decide (0 ≤ keep ∧ keep ≤ d.2.1.length) && decide (0 ≤ torn ∧ torn ≤ (next d keep).length))) = true)), crash d keep torn = dsk0 := fun h => by rw [crash, if_neg h]
  rcases Bool.eq_false_or_eq_true (diskOk d) with hd | hd
  case inr =>
    have := bad (by simp [hd])
    simp [hd, this, alive]
  by_cases h1 : keep < 0
  · have := bad (by simp; omega)
    simp [hd, h1, this, alive]
  by_cases h2 : (d.2.1.length : Int) < keep
  · have := bad (by simp; omega)
    simp [hd, h1, h2, this, alive]
  have hkp : 0 ≤ keep ∧ keep ≤ d.2.1.length := by omega
  by_cases h3 : ((crash d keep torn).1.length : Int) < (d.1.length : Int)
  · have : crash d keep torn = dsk0 := bad (fun h => by
      simp only [Bool.and_eq_true, decide_eq_true_eq] at h
      have := (crash_between h.1 h.2.1 h.2.2).1.length_le
      omega)
    rw [this] at h3
    simp only [hd, h1, h2, this, h3, decide_true, decide_false, Bool.not_true, Bool.false_eq_true, if_false, if_true, alive, a_obind_some, a_sumE_inr]
  have hpre : d.1 <+: (crash d keep torn).1 ∧ (crash d keep torn).1 <+: (sync d).1 := by
    by_cases h4 : 0 ≤ torn ∧ torn ≤ (next d keep).length
    · exact crash_between hd hkp h4
    · have e := bad (by simp only [hd, hkp, and_self, decide_true, Bool.true_and, decide_eq_true_eq]; exact h4)
      rw [e] at h3 ⊢
      have h5 : ¬ ((dsk0.1.length : Nat) : Int) < (d.1.length : Int) := h3
      have h6 : dsk0.1.length = 0 := rfl
      have : d.1 = [] := List.eq_nil_of_length_eq_zero (by omega)
      rw [this]
      exact ⟨List.prefix_rfl, List.nil_prefix⟩
  have hsb : bytesOk (sync d).1 = true := by
    have := sync_ok hd
    simp only [diskOk, Bool.and_eq_true] at this
    exact this.1
  have hcb := bytesOk_prefix hsb hpre.2
  have r1 := recover_mono hcb hpre.1
  have r2 := recover_mono hsb hpre.2
  have l1 := recover_len d.1
  have l2 := recover_len (crash d keep torn).1
  have l3 := recover_len (sync d).1
  have hle : (d.1.length : Int) ≤ ((crash d keep torn).1.length : Int) := by omega
  have tk : (crash d keep torn).1.take d.1.length = d.1 := (List.prefix_iff_eq_take.1 hpre.1).symm
  have si := sameInts_eq (A := A) k d.1 d.1 (by omega) (by omega)
  simp only [decide_true] at si
  simp only [hd, h1, h2, h3, decide_true, decide_false, Bool.not_true, Bool.false_eq_true, if_false, a_obind_some, a_sumE_inl, impl_RecoverLog_eq k (by omega : 3000 ≤ k), hcz, List.length_nil, Int.natCast_zero, Int.ofNat_zero, a_eqI, if_true, a_le0, Int.natCast_nonneg, a_leI, hle, a_andB, Bool.and_self, a_takeL, Int.toNat_natCast, tk, si,
    startsWith_eq k _ _ (by omega) (by omega) (by omega) (by omega) r1, impl_DiskSync_eq k (by omega : 3000 ≤ k) d hf, startsWith_eq k _ _ (by omega) (by omega) (by omega) (by omega) r2]
end
theorem FnDiskCrash_pure (a : List Int) (h : InR (.slice (.int .u8)) a) : ∃ k, laws_FnDiskCrash_t real k (a, ()) () = some ((true, ()), ()) :=
  haveI := isReal_real
  ⟨300000, FnDiskCrash_true 300000 (by omega) a (code_bytes h)⟩
end Go.Den.T
