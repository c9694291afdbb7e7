/- The laws on logs' bytes and on crashes. -/
import Derived.Test.YtkgmjndeeljpjaaXB8
import Derived.Test.YtkgmjndeeljpjaaXK5
import Derived.Test.YtkgmjndeeljpjaaXR5
import Derived.Test.YtkgmjndeeljpjaaXTr4

namespace Go.Den.T
set_option linter.unusedVariables false
set_option linter.unusedSimpArgs false
set_option linter.unusedSectionVars false
section
variable {A : Atoms} [IsReal A]
theorem FnLogBytes_true (k : Nat) (hk : 3000 ≤ k) (a : List Int) (hb : ∀ x ∈ a, 0 ≤ x ∧ x ≤ 255) : laws_FnLogBytes_t A k (a, ()) () = some ((true, ()), ()) := by
  rw [← ok_eq, laws_FnLogBytes_t, ok_cndS]
  simp only [a_ltI, a_lenL, decide_eq_true_eq, decide_eq_false_iff_not]
  refine ⟨fun _ => ok_some.2 rfl, fun hal => ?_⟩
  refine Ok.bind (P := fun q : (List Ent × Unit) × Unit => q.1.1.length ≤ 30) ?_ fun q hs => ?_
  · rw [spec_DrawLogBytes_t]
    refine (open_ok k a hb).bind fun q hq => ?_
    exact (l20Log_ok k (by omega) 9 0 q.1 hq (by omega) (by omega)).bind fun q1 h1 => ok_some.2 h1.2.1
  obtain ⟨⟨l, _⟩, _⟩ := q
  simp only at hs
  have hbl := logBytes_len l
  have si := sameInts_eq (A := A) k (logBytes l) (logBytes l) (by omega) (by omega)
  simp only [decide_true] at si
  rw [ok_eq]
  simp only [impl_LogBytes_eq k hk, spec_LogBytes_eq k hk, a_obind_some, si, a_notB, Bool.not_true, a_cndS, Bool.false_eq_true, if_false, a_eqI]
  by_cases h0 : ((logBytes l).length : Int) = 0
  · simp [h0, alive_eq k (by omega : 10 ≤ k)]
  have hlo : logOk l = true := by
    rcases Bool.eq_false_or_eq_true (logOk l) with h | h
    · exact h
    · exact absurd (by simp [logBytes, h]) h0
  have hll := (logOk_iff.1 hlo).1
  have eb : logBytes l = frames 0 l := by simp [logBytes, hlo]
  rw [eb] at hbl ⊢
  have sl := sameLog_eq (A := A) k l l (by omega) (by omega)
  simp only [decide_true] at sl
  have hloop := iter_for (A := A) (f := laws_FnLogBytes_t_b0 A k) (fun i => (a, (l, (frames 0 l, ((i : Int), ()))))) l.length (.inl ())
    (fun i hi => by
      have hi' : (i : Int) < (l.length : Int) := by omega
      have hi2 : (i : Int) ≤ (l.length : Int) := by omega
      have hi3 : ((i + 1 : Nat) : Int) ≤ (l.length : Int) := by omega
      have w : A.wrapI .i64 ((i : Int) + 1) = ((i + 1 : Nat) : Int) := by rw [a_wrap (by omega) (by omega)]; rfl
      have hok : ∀ j, logOk (l.take j) = true := fun j => by
        rw [logOk_iff] at hlo ⊢
        exact ⟨by rw [List.length_take]; omega, fun e he => hlo.2 e (List.mem_of_mem_take he)⟩
      have elb : ∀ j, logBytes (l.take j) = frames 0 (l.take j) := fun j => by simp [logBytes, hok j]
      have hlt := frames_lt hlo (Nat.lt_succ_self i) (show i + 1 ≤ l.length by omega)
      have hle := (frames_prefix (List.take_prefix (i + 1) l)).length_le
      obtain ⟨x, hx⟩ : ∃ x, (frames 0 (l.take i)).length = x := ⟨_, rfl⟩
      obtain ⟨y, hy⟩ : ∃ y, (frames 0 (l.take (i + 1))).length = y := ⟨_, rfl⟩
      rw [hx, hy] at hlt
      rw [hy] at hle
      have w1 : A.wrapI .i64 ((y : Int) - (x : Int)) = (y : Int) - (x : Int) := a_wrap (by omega) (by omega)
      have w2 : A.wrapI .i64 ((y : Int) - (x : Int) + 1) = (y : Int) - (x : Int) + 1 := a_wrap (by omega) (by omega)
      have g1 : ¬ (y : Int) ≤ (x : Int) := by omega
      have g2 : ¬ (y : Int) - (x : Int) + 1 = 0 := by omega
      obtain ⟨r, hr⟩ : ∃ r, ((a.length : Int)).tmod ((y : Int) - (x : Int) + 1) = r := ⟨_, rfl⟩
      have hr0 : 0 ≤ r := by rw [← hr]; exact Int.tmod_nonneg _ (by omega)
      have hr1 : r < (y : Int) - (x : Int) + 1 := by rw [← hr]; exact Int.tmod_lt_of_pos _ (by omega)
      have w3 : A.wrapI .i64 ((x : Int) + r) = (x : Int) + r := a_wrap (by omega) (by omega)
      have fin : ∀ cut : Int, (x : Int) ≤ cut → cut < (y : Int) → ¬ ((frames 0 l).length : Int) < cut ∧ 0 ≤ cut ∧ cut ≤ ((frames 0 l).length : Int) ∧ recover ((frames 0 l).take cut.toNat) = l.take i := fun cut h1 h2 => by
        refine ⟨by omega, by omega, by omega, ?_⟩
        exact recover_cut hlo (by omega) (List.take_prefix _ _) (by rw [List.length_take, hx]; omega) (fun _ => by rw [List.length_take, hy]; omega)
      have st := sameLog_eq (A := A) k (l.take i) (l.take i) (by rw [List.length_take]; omega) (by rw [List.length_take]; omega)
      simp only [decide_true] at st
      simp only [laws_FnLogBytes_t_b0, a_cndS, a_ltI, a_lenL, hi', decide_true, if_true, a_le0, Int.natCast_nonneg, a_leI, hi2, a_andB, Bool.and_self, a_takeL, Int.toNat_natCast, impl_LogBytes_eq k hk, elb, a_obind_some, a_addI, w, hi3, hx, hy, g1, decide_false, Bool.false_eq_true, if_false, a_subI, w1, w2, a_eqI, g2, a_notB, Bool.not_false, a_remI, hr, w3]
      by_cases hc : (x : Int) + r = (y : Int)
      · obtain ⟨f1, f2, f3, f4⟩ := fin (x : Int) (by omega) (by omega)
        rw [Int.toNat_natCast] at f4
        simp only [hc, decide_true, if_true, a_obind_some, f1, decide_false, Bool.false_eq_true, if_false, f3, impl_RecoverLog_eq k hk, f4, hi2, st, w, Bool.not_true, Int.toNat_natCast, Int.natCast_nonneg, Bool.and_self]
      · obtain ⟨f1, f2, f3, f4⟩ := fin ((x : Int) + r) (by omega) (by omega)
        simp only [hc, decide_false, Bool.false_eq_true, if_false, a_obind_some, f1, f2, f3, decide_true, if_true, impl_RecoverLog_eq k hk, f4, hi2, st, w, Bool.not_true, Int.toNat_natCast, Int.natCast_nonneg, Bool.and_self])
    (by simp [laws_FnLogBytes_t_b0]) (k := k) (by omega)
  simp only [Int.natCast_zero, Int.ofNat_zero] at hloop
  rw [eb] at h0
  simp only [h0, decide_false, Bool.false_eq_true, if_false, impl_RecoverLog_eq k hk, recover_all hlo, a_obind_some, sl, Bool.not_true, hloop, a_sumE_inl]
end
theorem FnLogBytes_pure (a : List Int) (h : InR (.slice (.int .u8)) a) : ∃ k, laws_FnLogBytes_t real k (a, ()) () = some ((true, ()), ()) :=
  haveI := isReal_real
  ⟨3000, FnLogBytes_true 3000 (by omega) a (code_bytes h)⟩
end Go.Den.T
