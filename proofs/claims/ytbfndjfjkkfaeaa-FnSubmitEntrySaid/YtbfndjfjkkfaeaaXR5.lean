/- The law on copies taken. -/
import Derived.Test.YtbfndjfjkkfaeaaXR4

namespace Go.Den.T
set_option linter.unusedVariables false
set_option linter.unusedSimpArgs false
set_option linter.unusedSectionVars false
section
variable {A : Atoms} [IsReal A]
theorem ent_eq (a b : Ent) : (decide (a.1 = b.1) && (decide (a.2.1 = b.2.1) && ((decide (a.2.2.1.1 = b.2.2.1.1) && (decide (a.2.2.1.2.1 = b.2.2.1.2.1) && (decide (a.2.2.1.2.2.1 = b.2.2.1.2.2.1) && (decide (a.2.2.1.2.2.2.1 = b.2.2.1.2.2.2.1) && true)))) && true))) = decide (a = b) := by
  obtain ⟨a1, a2, ⟨a3, a4, a5, a6, _⟩, _⟩ := a
  obtain ⟨b1, b2, ⟨b3, b4, b5, b6, _⟩, _⟩ := b
  rw [Bool.eq_iff_iff]
  simp
theorem sameLog_eq (k : Nat) (xs ys : List Ent) (hk : xs.length < k) (hl : xs.length ≤ 1000000000) : laws_sameLog_t A k (xs, (ys, ())) () = some ((decide (xs = ys), ()), ()) := by
  by_cases he : xs.length = ys.length
  · have h := eq_loop (A := A) (f := laws_sameLog_t_b0 A k) ent0 xs ys hk he
      (fun i hi => by
        have hi' : i < ys.length := by omega
        have hx : (i : Int) < (xs.length : Int) := by omega
        have hy : (i : Int) < (ys.length : Int) := by omega
        have w : A.wrapI .i64 ((i : Int) + 1) = (i : Int) + 1 := a_wrap (by omega) (by omega)
        have e := ent_eq (xs.getD i ent0) (ys.getD i ent0)
        simp only [laws_sameLog_t_b0, a_cndS, a_ltI, a_lenL, a_le0, a_andB, hx, hy, Int.natCast_nonneg, decide_true, Bool.and_self, if_true, a_atL, Int.toNat_natCast, a_eqI, a_eqS, a_notB, a_addI, w, e]
        by_cases hv : xs.getD i ent0 = ys.getD i ent0
        · simp only [hv]; simp
        · simp only [hv]; simp)
      (by simp [laws_sameLog_t_b0])
    simp only [laws_sameLog_t, a_lenL, he, a_eqI, decide_true, a_notB, Bool.not_true, a_cndS, Bool.false_eq_true, if_false, h]
    by_cases hv : xs = ys <;> simp [hv]
  · have h2 : ¬ (xs.length : Int) = ys.length := by omega
    have h3 : ¬ xs = ys := fun e => he (by rw [e])
    simp [laws_sameLog_t, h2, h3]
theorem sameReplica_eq (k : Nat) (r s : Rep) (h1 : r.1.2.1.length < k) (h2 : r.2.2.1.length < k) (h1' : r.1.2.1.length ≤ 1000000000) (h2' : r.2.2.1.length ≤ 1000000000) : laws_sameReplica_t A k (r, (s, ())) () = some ((decide (r = s), ()), ()) := by
  obtain ⟨a1, a2, a3, _⟩ := r
  obtain ⟨b1, b2, b3, _⟩ := s
  simp only at h1 h2 h1' h2'
  simp only [laws_sameReplica_t, sameConfig_eq k a1 b1 h1 h1', sameLog_eq k a3 b3 h2 h2', a_obind_some, a_cndS, a_eqB]
  by_cases h1 : a1 = b1
  · by_cases h2 : a2 = b2
    · by_cases h3 : a3 = b3 <;> simp [h1, h2, h3]
    · simp [h1, h2]
  · simp [h1]
theorem DrawTakeCopy_ok (k : Nat) (hk : 100 ≤ k) (a : List Int) (hb : ∀ x ∈ a, 0 ≤ x ∧ x ≤ 255) : Ok (spec_DrawTakeCopy_t A k (a, ()) ()) (fun q => RepS q.1.1 ∧ q.1.2.2.1.length ≤ 60) := by
  rw [spec_DrawTakeCopy_t]
  refine (open_ok k a hb).bind fun q hq => ?_
  refine (l20Replica_ok k hk 14 0 q.1 hq (by omega) (by omega)).bind fun q1 h1 => ?_
  refine Ok.bind (P := fun t : Int × (Rep × (Rd × (Rep × Unit))) => t.2.2.2.1 = q1.1.1 ∧ RdOk 9100 t.2.2.1) ?_ fun t ht => ?_
  · refine (pick_ok k 4 _ _ h1.1 (by omega) (by omega)).bind fun q2 hq2 => ?_
    rw [ok_cndS]
    refine ⟨fun _ => ?_, fun _ => ok_some.2 ⟨rfl, hq2.1.le (by omega)⟩⟩
    exact (pick_ok k 6 _ _ hq2.1 (by omega) (by omega)).bind fun q3 hq3 => ok_some.2 ⟨rfl, hq3.1.le (by omega)⟩
  have hlog : t.2.2.2.1.2.2.1.length ≤ 30 := by rw [ht.1]; exact h1.2.2.1
  refine (l20Log_ok k hk 14 _ _ ht.2 (by omega) (by omega)).bind fun q5 hq5 => ?_
  have hl5 := hq5.2.1
  refine Ok.bind (P := fun u : Int × (List Ent × (Rep × (Rep × Unit))) => u.2.2.2.1 = q1.1.1 ∧ u.2.1.length ≤ 60) ?_ fun u hu => ok_some.2 ⟨by show RepS u.2.2.2.1; rw [hu.1]; exact h1.2, hu.2⟩
  refine (pick_ok k 3 _ _ hq5.1 (by omega) (by omega)).bind fun q6 hq6 => ?_
  rw [ok_cndS]
  refine ⟨fun _ => ?_, fun _ => ok_some.2 ⟨ht.1, by show q5.1.1.length ≤ 60; omega⟩⟩
  rw [ok_cndS]
  refine ⟨fun _ => ?_, fun hc => by simp at hc; omega⟩
  rw [ok_cndS]
  exact ⟨fun _ => ok_some.2 ⟨ht.1, by simp; omega⟩, fun hc => by simp at hc; omega⟩
theorem FnTakeCopy_true (k : Nat) (hk : 200 ≤ k) (a : List Int) (hb : ∀ x ∈ a, 0 ≤ x ∧ x ≤ 255) : laws_FnTakeCopy_t A k (a, ()) () = some ((true, ()), ()) := by
  rw [← ok_eq, laws_FnTakeCopy_t, ok_cndS]
  refine ⟨fun _ => ok_some.2 rfl, fun _ => ?_⟩
  refine (DrawTakeCopy_ok k (by omega) a hb).bind fun q hs => ?_
  obtain ⟨⟨r, ep, l, _⟩, _⟩ := q
  have hr1 : r.1.2.1.length ≤ 100 := hs.1.1
  have hr2 : r.2.2.1.length ≤ 30 := hs.1.2.1
  have hll : l.length ≤ 60 := hs.2
  have hd : (takeCopy r ep l).1.1.2.1.length ≤ 100 ∧ (takeCopy r ep l).1.2.2.1.length ≤ 60 := by
    unfold takeCopy
    split
    · split
      · exact ⟨hr1, hll⟩
      · exact ⟨hr1, by show r.2.2.1.length ≤ 60; omega⟩
    · exact ⟨by simp, by simp⟩
  simp only [impl_TakeCopy_eq k (by omega : 30 ≤ k), spec_TakeCopy_eq k (by omega : 30 ≤ k), a_obind_some, sameReplica_eq k (takeCopy r ep l).1 (takeCopy r ep l).1 (by omega) (by omega) (by omega) (by omega), decide_true, a_notB, Bool.not_true, a_cndS, Bool.false_eq_true, if_false, a_eqB, beq_self_eq_true, a_sumE_inl]
  rw [ok_eq]
  by_cases hok : (takeCopy r ep l).2.1 = true
  · have h1 : (repOk r && (decide (1 ≤ ep ∧ ep ≤ 60) && logOk l)) = true := by
      cases h : (repOk r && (decide (1 ≤ ep ∧ ep ≤ 60) && logOk l)) with
      | true => rfl
      | false => simp only [takeCopy, h] at hok; cases hok
    have h2 : (decide (ep = r.1.1) && !(r.2.1 && decide (l.length ≤ r.2.2.1.length))) = true := by
      cases h : (decide (ep = r.1.1) && !(r.2.1 && decide (l.length ≤ r.2.2.1.length))) with
      | true => rfl
      | false => simp only [takeCopy, h1, h] at hok; cases hok
    have ed : takeCopy r ep l = ((r.1, (true, (l, r.2.2.2))), (true, ())) := by simp only [takeCopy, h1, h2, if_true]
    simp only [Bool.and_eq_true, decide_eq_true_eq, Bool.not_eq_true'] at h1 h2
    obtain ⟨hv, hep, hlg⟩ := h1
    obtain ⟨he, hnr⟩ := h2
    have hnc : noCfg r.1 = false := by
      have : ¬ r.1.1 = 0 := by omega
      simp [noCfg, this]
    have hcf : cfgOk r.1 = true ∧ logOk r.2.2.1 = true ∧ (r.2.1 = true ∨ r.2.2.1.length = 0) := by
      have h := hv
      simp only [repOk, hnc, Bool.false_eq_true, if_false, Bool.and_eq_true, Bool.or_eq_true, decide_eq_true_eq] at h
      exact h
    have hv2 : repOk (r.1, (true, (l, r.2.2.2))) = true := by simp [repOk, hnc, hcf.1, hlg]
    have hlen : r.2.2.1.length ≤ l.length := by
      rcases hcf.2.2 with h | h
      · rw [h] at hnr; simp at hnr; omega
      · omega
    have hlen' : (r.2.2.1.length : Int) ≤ (l.length : Int) := by omega
    have hagain : (takeCopy (r.1, (true, (l, r.2.2.2))) ep l).2.1 = false := by
      simp [takeCopy, hv2, hep, hlg]
    rw [ed]
    simp [hv2, hlen', hagain, he, impl_TakeCopy_eq k (by omega : 30 ≤ k), impl_ReplicaValid_eq k (by omega : 30 ≤ k), sameLog_eq k l l (by omega) (by omega), sameConfig_eq k r.1 r.1 (by omega) (by omega)]
    rw [← he]
    simp [hagain]
  · have hok' : (takeCopy r ep l).2.1 = false := by simpa using hok
    have hc : (takeCopy r ep l).1 = r ∨ (takeCopy r ep l).1 = rep0 := by
      unfold takeCopy at hok' ⊢
      split
      · rename_i h
        rw [if_pos h] at hok'
        split
        · rename_i h2; rw [if_pos h2] at hok'; cases hok'
        · exact .inl rfl
      · exact .inr rfl
    simp only [hok', Bool.not_false, if_true, alive_eq k (by omega : 10 ≤ k), a_obind_some]
    rw [sameReplica_eq k (takeCopy r ep l).1 r (by omega) (by omega) (by omega) (by omega)]
    simp only [a_obind_some]
    by_cases hcc : (takeCopy r ep l).1 = r
    · simp [hcc]
    · have hz := hc.resolve_left hcc
      have := sameReplica_eq (A := A) k (takeCopy r ep l).1 ((0, ([], (false, ()))), (false, ([], ()))) (by omega) (by omega) (by omega) (by omega)
      simp only [hcc, decide_false, Bool.false_eq_true, if_false]
      rw [this]
      simp [hz]
end
theorem FnTakeCopy_pure (a : List Int) (h : InR (.slice (.int .u8)) a) : ∃ k, laws_FnTakeCopy_t real k (a, ()) () = some ((true, ()), ()) :=
  haveI := isReal_real
  ⟨200, FnTakeCopy_true 200 (by omega) a (code_bytes h)⟩
end Go.Den.T
