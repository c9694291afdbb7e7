/- The law on entries submitted. -/
import Derived.Test.YtbfndjfjkkfaeaaXS1

namespace Go.Den.T
set_option linter.unusedVariables false
set_option linter.unusedSimpArgs false
set_option linter.unusedSectionVars false
section
variable {A : Atoms} [IsReal A]
def RepL (r : Rep) : Prop := r.1.2.1.length ≤ 100 ∧ r.2.2.1.length ≤ 30
theorem DrawSubmitEntry_ok (k : Nat) (hk : 100 ≤ k) (a : List Int) (hb : ∀ x ∈ a, 0 ≤ x ∧ x ≤ 255) : Ok (spec_DrawSubmitEntry_t A k (a, ()) ()) (fun q => RepL q.1.1) := by
  rw [spec_DrawSubmitEntry_t]
  refine (open_ok k a hb).bind fun q hq => ?_
  refine (l20Replica_ok k hk 14 0 q.1 hq (by omega) (by omega)).bind fun q1 h1 => ?_
  have hs : RepL q1.1.1 := ⟨h1.2.1, h1.2.2.1⟩
  refine (Node_ok k 14 _ _ h1.1 (by omega) (by omega)).bind fun q2 h2 => ?_
  refine Ok.bind (P := fun t => t.2.2.2.2.1 = q1.1.1 ∧ RdOk 10000 t.2.2.2.1) ?_ fun t ht => ?_
  · rw [ok_cndS]
    simp only [a_lenL, a_ltI, decide_eq_true_eq, decide_eq_false_iff_not]
    refine ⟨fun hpos => ?_, fun _ => ok_some.2 ⟨rfl, h2.1.le (by omega)⟩⟩
    refine (pick_ok k 3 _ _ h2.1 (by omega) (by omega)).bind fun q3 h3 => ?_
    rw [ok_cndS]
    refine ⟨fun _ => ?_, fun _ => ok_some.2 ⟨rfl, h3.1.le (by omega)⟩⟩
    rw [ok_cndS]
    exact ⟨fun _ => ok_some.2 ⟨rfl, h3.1.le (by omega)⟩, fun hc => absurd (by rw [a_andB, a_le0, Bool.and_eq_true, decide_eq_true_eq, decide_eq_true_eq]; exact ⟨Int.le_refl 0, hpos⟩) (Bool.eq_false_iff.1 hc)⟩
  obtain ⟨t1, t2⟩ := ht
  refine (pick_ok k 16 _ _ t2 (by omega) (by omega)).bind fun q5 h5 => ?_
  refine Ok.bind (P := fun e => RepL e.2.2.2.2.1 ∧ RdOk 20000 e.2.2.2.1) (iter_ok (fun j (s : Int × (Bool × (Rep × (Ent × (Rd × (Rep × Unit)))))) => s.2.2.2.2.2.1.1.2.1.length ≤ 100 ∧ s.2.2.2.2.2.1.2.2.1.length ≤ 30 ∧ (24 - s.2.2.2.2.2.1.2.2.1.length ≤ j) ∧ j ≤ 24 ∧ RdOk (10001 + 60 * (24 - (j : Int))) s.2.2.2.2.1) _ ?_ (n := 24) (by omega) ⟨by show t.2.2.2.2.1.1.2.1.length ≤ 100; rw [t1]; exact hs.1, by show t.2.2.2.2.1.2.2.1.length ≤ 30; rw [t1]; exact hs.2, by omega, by omega, h5.1.le (by omega)⟩) fun e he => ?_
  · rintro j ⟨s1, s2, s3, s4, s5, s6, _⟩ ⟨g1, g2, g3, g4, g5⟩
    simp only at g1 g2 g3 g5
    rw [spec_DrawSubmitEntry_t_b0]
    have stop : ∀ (Q : (((Int × (Bool × (Rep × (Ent × (Rd × (Rep × Unit)))))) ⊕ (Int × (Rep × (Ent × (Rd × (Rep × Unit)))))) → Prop)), Q (.inr (s1, (s3, (s4, (s5, (s6, ())))))) → Ok (A.sumE (.inr (.inr (s1, (s3, (s4, (s5, (s6, ())))))) : (Int × (Bool × (Rep × (Ent × (Rd × (Rep × Unit)))))) ⊕ ((Int × (Bool × (Rep × (Ent × (Rd × (Rep × Unit)))))) ⊕ (Int × (Rep × (Ent × (Rd × (Rep × Unit))))))) (fun e1 => none) (fun e3 => some e3)) Q := fun Q hQ => by rw [a_sumE_inr]; exact ok_some.2 hQ
    refine Ok.bind (P := fun r => r = .inl (s1, (s2, (s3, (s4, (s5, (s6, ())))))) ∧ s6.2.2.1.length < 24 ∨ r = .inr (.inr (s1, (s3, (s4, (s5, (s6, ()))))))) ?_ fun r hr => ?_
    · rw [ok_cndS]
      refine ⟨fun _ => ?_, fun _ => ok_some.2 (.inr rfl)⟩
      rw [ok_cndS]
      refine ⟨fun _ => ?_, fun _ => ok_some.2 (.inr rfl)⟩
      rw [ok_cndS]
      refine ⟨fun hc => ok_some.2 (.inl ⟨rfl, by simp at hc; omega⟩), fun _ => ok_some.2 (.inr rfl)⟩
    · rcases hr with ⟨rfl, hlt⟩ | rfl
      · rw [a_sumE_inl]
        refine (l20Entry_ok k hk 0 _ _ g5 (by omega) (by omega)).bind fun q6 h6 => ?_
        rw [ok_cndS]
        refine ⟨fun _ => ok_some.2 ⟨fun s' e => ?_, fun e he => (by cases he)⟩, fun hc => by simp at hc; omega⟩
        injection e with e; subst e
        rw [a_appL]
        have hj : 1 ≤ j := by omega
        refine ⟨j - 1, by omega, g1, by show (s6.2.2.1 ++ [q6.1.1]).length ≤ 30; simp; omega, by show 24 - (s6.2.2.1 ++ [q6.1.1]).length ≤ j - 1; simp; omega, by omega, h6.1.le (by omega)⟩
      · rw [a_sumE_inr]
        refine ok_some.2 ⟨fun s' e => (by cases e), fun e he => ?_⟩
        injection he with he; subst he
        exact ⟨⟨g1, g2⟩, g5.le (by omega)⟩
  · exact (l20Entry_ok k hk 14 _ _ he.2 (by omega) (by omega)).bind fun q7 h7 => ok_some.2 he.1
theorem FnSubmitEntry_true (k : Nat) (hk : 300 ≤ k) (a : List Int) (hb : ∀ x ∈ a, 0 ≤ x ∧ x ≤ 255) : laws_FnSubmitEntry_t A k (a, ()) () = some ((true, ()), ()) := by
  rw [← ok_eq, laws_FnSubmitEntry_t, ok_cndS]
  refine ⟨fun _ => ok_some.2 rfl, fun _ => ?_⟩
  refine (DrawSubmitEntry_ok k (by omega) a hb).bind fun q hs => ?_
  obtain ⟨⟨r, n, e, _⟩, _⟩ := q
  have hr1 : r.1.2.1.length ≤ 100 := hs.1
  have hr2 : r.2.2.1.length ≤ 30 := hs.2
  have hd : (submit r n e).1.1.2.1.length ≤ 100 ∧ (submit r n e).1.2.2.1.length ≤ 60 := by
    unfold submit
    split
    · split
      · exact ⟨hr1, by simp only [List.length_append, List.length_cons, List.length_nil]; omega⟩
      · exact ⟨hr1, by show r.2.2.1.length ≤ 60; omega⟩
    · exact ⟨by simp, by simp⟩
  simp only [impl_SubmitEntry_eq k (by omega : 30 ≤ k), spec_SubmitEntry_eq k (by omega : 30 ≤ k), a_obind_some, sameReplica_eq k (submit r n e).1 (submit r n e).1 (by omega) (by omega) (by omega) (by omega), decide_true, a_notB, Bool.not_true, a_cndS, Bool.false_eq_true, if_false, a_eqB, beq_self_eq_true, a_sumE_inl]
  rw [ok_eq]
  by_cases hok : (submit r n e).2.1 = true
  · have h1 : (repOk r && (decide (0 ≤ n ∧ n ≤ 4) && entOk e)) = true := by
      cases h : (repOk r && (decide (0 ≤ n ∧ n ≤ 4) && entOk e)) with
      | true => rfl
      | false => simp only [submit, h] at hok; cases hok
    have h2 : maySubmit r n = true := by
      cases h : maySubmit r n with
      | true => rfl
      | false => simp only [submit, h1, h] at hok; cases hok
    have ed : submit r n e = ((r.1, (r.2.1, (r.2.2.1 ++ [e], r.2.2.2))), (true, ())) := by simp only [submit, h1, h2, if_true]
    have h1' := h1
    have h2' := h2
    simp only [Bool.and_eq_true, decide_eq_true_eq] at h1'
    simp only [maySubmit, Bool.and_eq_true, decide_eq_true_eq] at h2'
    obtain ⟨hv, hn, he⟩ := h1'
    obtain ⟨hrd, hm0, hlen⟩ := h2'
    have hc := repOk_ready hv hrd
    have hcl := cfgOk_len hc
    have hnc : noCfg r.1 = false := by
      have : ¬ r.1.1 = 0 := by omega
      simp [noCfg, this]
    have hlg : logOk r.2.2.1 = true := by
      have h := hv
      simp only [repOk, hnc, Bool.false_eq_true, if_false, Bool.and_eq_true] at h
      exact h.2.1
    have hv2 : repOk (r.1, (r.2.1, (r.2.2.1 ++ [e], r.2.2.2))) = true := by
      have : logOk (r.2.2.1 ++ [e]) = true := by
        simp only [logOk, Bool.and_eq_true, decide_eq_true_eq, List.all_append, hlg] at hlg ⊢
        simp [hlg.2, he]; omega
      simp [repOk, hnc, hc, this, hrd]
    have ln : ((r.2.2.1 ++ [e]).length : Int) = (r.2.2.1.length : Int) + 1 := by simp
    have w : A.wrapI .i64 ((r.2.2.1.length : Int) + 1) = (r.2.2.1.length : Int) + 1 := a_wrap (by omega) (by omega)
    have tk : (r.2.2.1 ++ [e]).take r.2.2.1.length = r.2.2.1 := by simp
    have gt : (r.2.2.1 ++ [e]).getD r.2.2.1.length ((0 : Int), ((0 : Int), (((0 : Int), (([] : List UInt8), ((0 : Int), ((0 : Int), ())))), ()))) = e := by rw [getD_lt (by simp)]; simp
    have sl := sameLog_eq (A := A) k r.2.2.1 r.2.2.1 (by omega) (by omega)
    have sc := sameConfig_eq (A := A) k r.1 r.1 (by omega) (by omega)
    have g1 : (r.2.2.1.length : Int) ≤ (r.2.2.1.length : Int) + 1 := by omega
    have g2 : (r.2.2.1.length : Int) < (r.2.2.1.length : Int) + 1 := by omega
    have g3 : (0 : Int) < (r.1.2.1.length : Int) := by omega
    simp only [decide_true] at sl sc
    have z0 : (0 : Int).toNat = 0 := rfl
    rw [ed]
    simp only [Bool.not_true, Bool.false_eq_true, if_false, impl_ReplicaValid_eq k (by omega : 30 ≤ k), a_obind_some, hv2, if_true, a_lenL, ln, a_addI, w, a_eqI, decide_true, a_le0, Int.natCast_nonneg, a_leI, g1, g2, a_andB, Bool.and_self, a_takeL, Int.toNat_natCast, tk, sl, a_ltI, a_atL, gt, a_eqS, g3, Int.le_refl, z0, hm0, sc]
  · have hok' : (submit r n e).2.1 = false := by simpa using hok
    have hc : (submit r n e).1 = r ∨ (submit r n e).1 = rep0 := by
      unfold submit at hok' ⊢
      split
      · rename_i h
        rw [if_pos h] at hok'
        split
        · rename_i h2; rw [if_pos h2] at hok'; cases hok'
        · exact .inl rfl
      · exact .inr rfl
    simp only [hok', Bool.not_false, if_true, alive_eq k (by omega : 10 ≤ k), a_obind_some]
    rw [sameReplica_eq k (submit r n e).1 r (by omega) (by omega) (by omega) (by omega)]
    simp only [a_obind_some]
    by_cases hcc : (submit r n e).1 = r
    · simp [hcc]
    · have hz := hc.resolve_left hcc
      have := sameReplica_eq (A := A) k (submit r n e).1 ((0, ([], (false, ()))), (false, ([], ()))) (by omega) (by omega) (by omega) (by omega)
      simp only [hcc, decide_false, Bool.false_eq_true, if_false]
      rw [this]
      simp [hz]
end
theorem FnSubmitEntry_pure (a : List Int) (h : InR (.slice (.int .u8)) a) : ∃ k, laws_FnSubmitEntry_t real k (a, ()) () = some ((true, ()), ()) :=
  haveI := isReal_real
  ⟨300, FnSubmitEntry_true 300 (by omega) a (code_bytes h)⟩
end Go.Den.T
