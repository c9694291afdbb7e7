/- Logs recovered: the longest one whose frames stand at the beginning; laws. -/
import Derived.Test.YtbfndjfjkkfaeaaXB7
import Derived.Test.YtbfndjfjkkfaeaaXE3
import Derived.Test.YtbfndjfjkkfaeaaXM1

namespace Go.Den.T
set_option linter.unusedVariables false
set_option linter.unusedSimpArgs false
set_option linter.unusedSectionVars false
section
variable {A : Atoms} [IsReal A]
noncomputable def recN (b : List Int) : Nat → List Ent → List Ent
  | 0, out => out
  | f + 1, out => if (rf b (frames 0 out).length out.length).2 < 0 then out else recN b f (out ++ [(rf b (frames 0 out).length out.length).1])
noncomputable def recover (b : List Int) : List Ent := recN b 25 []
theorem rf_step {b : List Int} {out : List Ent} (h : 0 ≤ (rf b (frames 0 out).length out.length).2) : out.length ≤ 23 ∧ entOk (rf b (frames 0 out).length out.length).1 = true ∧ (rf b (frames 0 out).length out.length).2 = ((frames 0 (out ++ [(rf b (frames 0 out).length out.length).1])).length : Int) ∧
    At b (frames 0 out).length (frame out.length (rf b (frames 0 out).length out.length).1) (rf b (frames 0 out).length out.length).2 := by
  have hf := rf_sound h
  refine ⟨by have := hf.2.2.1; omega, hf.2.2.2.1, ?_, hf.2.2.2.2⟩
  rw [frames_snoc, List.length_append, Nat.zero_add, (fits_next hf).2.1]
  omega
theorem impl_RecoverLog_eq (k : Nat) (hk : 3000 ≤ k) (b : List Int) : impl_RecoverLog_t A k (b, ()) () = some ((recover b, ()), ()) := by
  rw [← ok_eq, impl_RecoverLog_t, impl_BytesValid_eq k hk, a_obind_some]
  rcases Bool.eq_false_or_eq_true (bytesOk b) with hb | hb
  case inr =>
    have h0 : ∀ p n, rf b p n = (ent0, -1) := fun p n => rf_no fun e q hf => by have := hf.1; rw [hb] at this; cases this
    simp [hb, ok_some, recover, recN, h0]
  simp only [hb, a_notB, Bool.not_true, a_cndS, Bool.false_eq_true, if_false]
  refine Ok.bind (P := fun e : Unit ⊕ ((List Ent × Unit) × Unit) => e = .inr ((recover b, ()), ())) (iter_ok (fun m (s : List Int × (List Ent × (Int × Unit))) => ∃ out : List Ent, s = (b, (out, (((frames 0 out).length : Int), ()))) ∧ out.length ≤ 24 ∧ m = 24 - out.length ∧ recN b (m + 1) out = recover b) _ ?_ (n := 24) (by omega) ⟨[], rfl, by simp, rfl, rfl⟩) fun e he => ?_
  · rintro m s ⟨out, rfl, hl, rfl, hr⟩
    have hfl := frames_len out 0
    rw [impl_RecoverLog_t_b0, a_lenL, impl_ReadFrame_eq k hk b ((frames 0 out).length : Int) _ (by omega), a_obind_some, ok_cndS]
    simp only [a_ltI, decide_eq_true_eq, decide_eq_false_iff_not]
    refine ⟨fun hneg => ok_some.2 ⟨fun s' e => (by cases e), fun e he => ?_⟩, fun hpos => ?_⟩
    · injection he with he; subst he
      simp only [recN, hneg, if_true] at hr
      rw [hr]
    · obtain ⟨h23, heo, hnx, _⟩ := rf_step (b := b) (out := out) (by omega)
      rw [ok_cndS]
      refine ⟨fun _ => ok_some.2 ⟨fun s' e => ?_, fun e he => (by cases he)⟩, fun hc => by simp at hc; omega⟩
      injection e with e; subst e
      rw [a_appL]
      refine ⟨24 - (out ++ [(rf b (frames 0 out).length out.length).1]).length, by simp; omega, _, by rw [hnx], by simp; omega, rfl, ?_⟩
      have e1 : 24 - out.length + 1 = (24 - (out ++ [(rf b (frames 0 out).length out.length).1]).length + 1) + 1 := by simp; omega
      rw [e1] at hr
      rw [recN, if_neg (by omega)] at hr
      exact hr
  · subst he
    rw [a_sumE_inr]; exact ok_some.2 rfl
theorem spec_RecoverLog_eq (k : Nat) (hk : 3000 ≤ k) (b : List Int) : spec_RecoverLog_t A k (b, ()) () = some ((recover b, ()), ()) := by
  rw [← ok_eq, spec_RecoverLog_t]
  refine Ok.bind (P := fun e : List Ent × Unit => e = (recover b, ())) (iter_ok (fun m (s : List Int × (List Ent × (Int × Unit))) => (∃ out : List Ent, s = (b, (out, (((frames 0 out).length : Int), ()))) ∧ out.length ≤ 24 ∧ m = 25 - out.length ∧ recN b m out = recover b) ∨ (∃ p, s = (b, (recover b, (p, ()))) ∧ p < 0 ∧ m = 0)) _ ?_ (n := 25) (by omega) (.inl ⟨[], rfl, by simp, rfl, rfl⟩)) fun e he => ?_
  · rintro m s (⟨out, rfl, hl, rfl, hr⟩ | ⟨p, rfl, hp, rfl⟩)
    · have hfl := frames_len out 0
      have g0 : (0 : Int) ≤ ((frames 0 out).length : Int) := by omega
      rw [spec_RecoverLog_t_b0, ok_cndS]
      simp only [a_leI, g0, decide_true, a_lenL]
      refine ⟨fun _ => ?_, fun hc => by cases hc⟩
      rw [spec_ReadFrame_eq k hk b _ _ (by omega), a_obind_some, ok_cndS]
      simp only [decide_eq_true_eq, decide_eq_false_iff_not]
      have e0 : 25 - out.length = (24 - out.length) + 1 := by omega
      rw [e0] at hr
      refine ⟨fun hpos => ?_, fun hneg => ok_some.2 ⟨fun s' e => ?_, fun e he => (by cases he)⟩⟩
      · obtain ⟨h23, heo, hnx, _⟩ := rf_step (b := b) (out := out) hpos
        rw [ok_cndS]
        refine ⟨fun _ => ok_some.2 ⟨fun s' e => ?_, fun e he => (by cases he)⟩, fun hc => by simp at hc; omega⟩
        injection e with e; subst e
        rw [a_appL]
        refine ⟨25 - (out ++ [(rf b (frames 0 out).length out.length).1]).length, by simp; omega, .inl ⟨_, by rw [hnx], by simp; omega, rfl, ?_⟩⟩
        rw [recN, if_neg (by omega)] at hr
        have e1 : 25 - (out ++ [(rf b (frames 0 out).length out.length).1]).length = 24 - out.length := by simp
        rw [e1]; exact hr
      · injection e with e; subst e
        have hneg' : (rf b (frames 0 out).length out.length).2 < 0 := by omega
        rw [recN, if_pos hneg'] at hr
        exact ⟨0, by omega, .inr ⟨_, by rw [hr], hneg', rfl⟩⟩
    · have g0 : ¬ (0 : Int) ≤ p := by omega
      rw [spec_RecoverLog_t_b0, ok_cndS]
      simp only [a_leI, g0, decide_false]
      refine ⟨fun hc => (by cases hc), fun _ => ok_some.2 ⟨fun s' e => (by cases e), fun e he => ?_⟩⟩
      injection he with he; subst he; rfl
  · subst he; exact ok_some.2 rfl
/-! ### what is recovered -/
theorem recN_sound {b : List Int} : ∀ (f : Nat) (out : List Ent), logOk out = true → frames 0 out <+: b → logOk (recN b f out) = true ∧ frames 0 (recN b f out) <+: b ∧ out <+: recN b f out
  | 0, out, h1, h2 => ⟨h1, h2, List.prefix_rfl⟩
  | f + 1, out, h1, h2 => by
    unfold recN
    split
    · exact ⟨h1, h2, List.prefix_rfl⟩
    · rename_i hn
      obtain ⟨h23, heo, _, hA⟩ := rf_step (b := b) (out := out) (by omega)
      obtain ⟨_, _, hA3, hA4⟩ := hA
      have hlo : logOk (out ++ [(rf b (frames 0 out).length out.length).1]) = true := by
        rw [logOk_iff] at h1 ⊢
        refine ⟨by simp; omega, fun e he => ?_⟩
        rcases List.mem_append.1 he with he | he
        · exact h1.2 e he
        · simp at he; subst he; exact heo
      have hpre : frames 0 (out ++ [(rf b (frames 0 out).length out.length).1]) <+: b := by
        rw [frames_snoc, Nat.zero_add]
        obtain ⟨r, hr⟩ := h2
        have e : b.drop (frames 0 out).length = r := by rw [← hr, List.drop_left]
        rw [Int.toNat_natCast, e] at hA4
        exact ⟨_, by rw [List.append_assoc, ← hA4, hr]⟩
      obtain ⟨k1, k2, k3⟩ := recN_sound f _ hlo hpre
      exact ⟨k1, k2, (List.prefix_append _ _).trans k3⟩
theorem recover_sound (b : List Int) : logOk (recover b) = true ∧ frames 0 (recover b) <+: b := by
  obtain ⟨h1, h2, _⟩ := recN_sound (b := b) 25 [] rfl (List.nil_prefix)
  exact ⟨h1, h2⟩
theorem recover_len (b : List Int) : (recover b).length ≤ 24 := (logOk_iff.1 (recover_sound b).1).1
theorem FnExactRecoverLog_true (k : Nat) (hk : 2000000 ≤ k) (b : List Int) : laws_FnExactRecoverLog_t A k (b, ()) () = some ((true, ()), ()) := by
  rw [← ok_eq, laws_FnExactRecoverLog_t, ok_cndS]
  simp only [a_ltI, a_lenL, decide_eq_true_eq, decide_eq_false_iff_not]
  refine ⟨fun _ => ok_some.2 rfl, fun hl => ?_⟩
  have hrl := recover_len b
  have g1 : ¬ 1 + (b.length : Int) < 0 := by omega
  have g2 : ¬ 1 + 6 * ((recover b).length : Int) < 0 := by omega
  rw [ok_eq]
  simp [toIntS_eq k b (by omega) (by omega), spec_RecoverLog_eq k (by omega : 3000 ≤ k), impl_RecoverLog_eq k (by omega : 3000 ≤ k), eqEntryS_eq k (recover b) (recover b) (by omega) (by omega), eqIntS_eq k b b (by omega) (by omega), markIntS_eq k 1 b (by omega) (by omega) (by omega) (by omega), g1,
    markEntryS_eq k (by omega) 1 (recover b) (by omega) (by omega) (by omega) (by omega), heldEntryS_eq k (by omega) 1 (recover b).length (by omega) (by omega) (by omega) (by omega), g2]
end
theorem FnExactRecoverLog_pure (b : (Ty.slice (.int .i64)).val) (h : InR (.slice (.int .i64)) b) : ∃ k, laws_FnExactRecoverLog_t real k (b, ()) () = some ((true, ()), ()) :=
  haveI := isReal_real
  ⟨2000000, FnExactRecoverLog_true 2000000 (by omega) b⟩
end Go.Den.T
