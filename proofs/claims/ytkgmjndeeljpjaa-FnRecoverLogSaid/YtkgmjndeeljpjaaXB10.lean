/- The law on logs that are recovered. -/
import Derived.Test.YtkgmjndeeljpjaaXB9
import Derived.Test.YtkgmjndeeljpjaaXK6

namespace Go.Den.T
set_option linter.unusedVariables false
set_option linter.unusedSimpArgs false
set_option linter.unusedSectionVars false
section
variable {A : Atoms} [IsReal A]
theorem DrawRecoverLog_ok (k : Nat) (hk : 3000 ≤ k) (a : List Int) (hb : ∀ x ∈ a, 0 ≤ x ∧ x ≤ 255) : Ok (spec_DrawRecoverLog_t A k (a, ()) ()) (fun q => q.1.1.length ≤ 10000) := by
  rw [spec_DrawRecoverLog_t]
  refine (open_ok k a hb).bind fun q hq => ?_
  refine (l20Log_ok k (by omega) 0 0 q.1 hq (by omega) (by omega)).bind fun q1 h1 => ?_
  have hlb : (logBytes q1.1.1).length ≤ 1056 := logBytes_len _
  rw [spec_LogBytes_eq k hk, a_obind_some]
  simp only []
  generalize logBytes q1.1.1 = b at hlb ⊢
  refine Ok.bind (P := fun t : Rd × (List Int × Unit) => RdOk 50000 t.1 ∧ t.2.1.length ≤ 1056) ?_ fun t ht => ?_
  · rw [ok_cndS]
    refine ⟨fun hlt => ?_, fun _ => ok_some.2 ⟨h1.1.le (by omega), hlb⟩⟩
    refine (pick_ok k _ _ _ h1.1 (by omega) (by omega)).bind fun q2 h2 => ?_
    rw [ok_cndS]
    refine ⟨fun _ => ?_, fun _ => ok_some.2 ⟨h2.1.le (by omega), hlb⟩⟩
    rw [a_ltI, a_lenL, decide_eq_true_eq] at hlt
    rw [a_lenL]
    refine (pick_ok k _ _ _ h2.1 (by omega) (by omega)).bind fun q3 h3 => ?_
    refine (pick_ok k _ _ _ h3.1 (by omega) (by omega)).bind fun q4 h4 => ?_
    have b1 := h3.2.1
    have b2 := h3.2.2.2.1 (by omega)
    have e1 : A.andB (A.le0 q3.1.1) (A.ltI q3.1.1 (b.length : Int)) = true := by simp [a_le0, a_ltI, a_andB, b1, b2]
    rw [e1, a_cndS, if_pos rfl, a_cndS, if_pos rfl]
    exact ok_some.2 ⟨h4.1.le (by omega), by show (A.setL b q3.1.1 q4.1.1).length ≤ 1056; rw [a_setL]; simpa using hlb⟩
  · obtain ⟨ht1, ht2⟩ := ht
    refine Ok.bind (P := fun u : Rd × (List Int × Unit) => RdOk 60000 u.1 ∧ u.2.1.length ≤ 1056) ?_ fun u hu => ?_
    · refine (pick_ok k _ _ _ ht1 (by omega) (by omega)).bind fun q2 h2 => ?_
      rw [ok_cndS]
      refine ⟨fun _ => ?_, fun _ => ok_some.2 ⟨h2.1.le (by omega), ht2⟩⟩
      have w : A.wrapI .i64 (A.addI (A.lenL t.2.1) 1) = (t.2.1.length : Int) + 1 := by rw [a_addI, a_lenL]; exact a_wrap (by omega) (by omega)
      rw [w]
      refine (pick_ok k _ _ _ h2.1 (by omega) (by omega)).bind fun q3 h3 => ?_
      have b1 := h3.2.1
      have b2 := h3.2.2.2.1 (by omega)
      have e1 : A.andB (A.le0 q3.1.1) (A.leI q3.1.1 (A.lenL t.2.1)) = true := by simp only [a_le0, a_leI, a_andB, a_lenL, b1, decide_true, Bool.true_and, decide_eq_true_eq]; omega
      rw [e1, a_cndS, if_pos rfl]
      exact ok_some.2 ⟨h3.1.le (by omega), by show (A.takeL t.2.1 q3.1.1).length ≤ 1056; rw [a_takeL, List.length_take]; omega⟩
    · obtain ⟨hu1, hu2⟩ := hu
      refine (pick_ok k _ _ _ hu1 (by omega) (by omega)).bind fun q2 h2 => ?_
      rw [ok_cndS]
      refine ⟨fun _ => ?_, fun _ => ok_some.2 (by show u.2.1.length ≤ 10000; omega)⟩
      refine (l20Bytes_ok k hk 6 _ _ h2.1 (by omega) (by omega)).bind fun q3 h3 => ?_
      have b3 := h3.2
      have e1 : A.ltI (A.addI (A.lenL u.2.1) (A.lenL q3.1.1)) A.big = true := by simp only [a_ltI, a_addI, a_lenL, a_big, decide_eq_true_eq]; omega
      rw [e1, a_cndS, if_pos rfl]
      exact ok_some.2 (by show (A.appL u.2.1 q3.1.1).length ≤ 10000; rw [a_appL, List.length_append]; omega)
theorem FnRecoverLog_true (k : Nat) (hk : 300000 ≤ k) (a : List Int) (hb : ∀ x ∈ a, 0 ≤ x ∧ x ≤ 255) : laws_FnRecoverLog_t A k (a, ()) () = some ((true, ()), ()) := by
  rw [← ok_eq, laws_FnRecoverLog_t, ok_cndS]
  refine ⟨fun _ => ok_some.2 rfl, fun _ => ?_⟩
  refine (DrawRecoverLog_ok k (by omega) a hb).bind fun q hs => ?_
  obtain ⟨⟨b, _⟩, _⟩ := q
  have hs : b.length ≤ 10000 := hs
  obtain ⟨r1, r2⟩ := recover_sound b
  have rl := recover_len b
  have eb : logBytes (recover b) = frames 0 (recover b) := by simp [logBytes, r1]
  have hle := r2.length_le
  have tk : b.take (frames 0 (recover b)).length = frames 0 (recover b) := (List.prefix_iff_eq_take.1 r2).symm
  have sl := sameLog_eq (A := A) k (recover b) (recover b) (by omega) (by omega)
  have si := sameInts_eq (A := A) k (frames 0 (recover b)) (frames 0 (recover b)) (by omega) (by omega)
  simp only [decide_true] at sl si
  have hle2 : ((frames 0 (recover b)).length : Int) ≤ (b.length : Int) := by omega
  rw [ok_eq]
  simp only [impl_RecoverLog_eq k (by omega : 3000 ≤ k), spec_RecoverLog_eq k (by omega : 3000 ≤ k), a_obind_some, sl, a_notB, Bool.not_true, a_cndS, Bool.false_eq_true, if_false, impl_LogBytes_eq k (by omega : 3000 ≤ k), eb, a_leI, a_lenL, hle2, decide_true, if_true, a_le0, Int.natCast_nonneg, a_andB, Bool.and_self, a_takeL, Int.toNat_natCast, tk, si, recover_all r1, alive_eq (A := A) k (by omega : 10 ≤ k)]
end
theorem FnRecoverLog_pure (a : List Int) (h : InR (.slice (.int .u8)) a) : ∃ k, laws_FnRecoverLog_t real k (a, ()) () = some ((true, ()), ()) :=
  haveI := isReal_real
  ⟨300000, FnRecoverLog_true 300000 (by omega) a (code_bytes h)⟩
end Go.Den.T
