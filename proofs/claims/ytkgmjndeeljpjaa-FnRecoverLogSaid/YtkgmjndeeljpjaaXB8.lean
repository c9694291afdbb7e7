/- Logs recovered: the longest one whose frames stand at the beginning; laws. -/
import Derived.Test.YtkgmjndeeljpjaaXB7
import Derived.Test.YtkgmjndeeljpjaaXE3
import Derived.Test.YtkgmjndeeljpjaaXM1

namespace Go.Den.T
set_option linter.unusedVariables false
set_option linter.unusedSimpArgs false
set_option linter.unusedSectionVars false
section
variable {A : Atoms} [IsReal A]
noncomputable def recN (b : List Int) : Nat → List Ent → List Ent
  | 0, out => out
  | f + 1, out => if (rf b (frames 0 out).length out.length).2 < 0 then out else recN b f (out ++ [(rf b (frames 0 out).length out.length).1])
noncomputable def recover (b : List Int) : List Ent := recN b 25 []
theorem rf_step {b : List Int} {out : List Ent} (h : 0 ≤ (rf b (frames 0 out).length out.length).2) : out.length ≤ 23 ∧ entOk (rf b (frames 0 out).length out.length).1 = true ∧ (rf b (frames 0 out).length out.length).2 = ((frames 0 (out ++ [(rf b (frames 0 out).length out.length).1])).length : Int) ∧
    At b (frames 0 out).length (frame out.length (rf b (frames 0 out).length out.length).1) (rf b (frames 0 out).length out.length).2 := by
  have hf := rf_sound h
  refine ⟨by have := hf.2.2.1; omega, hf.2.2.2.1, ?_, hf.2.2.2.2⟩
  rw [frames_snoc, List.length_append, Nat.zero_add, (fits_next hf).2.1]
  omega
theorem impl_RecoverLog_eq (k : Nat) (hk : 3000 ≤ k) (b : List Int) : impl_RecoverLog_t A k (b, ()) () = some ((recover b, ()), ()) := by
  rw [← ok_eq, impl_RecoverLog_t, impl_BytesValid_eq k hk, a_obind_some]
  rcases Bool.eq_false_or_eq_true (bytesOk b) with hb | hb
  case inr =>
    have h0 : ∀ p n, rf b p n = (ent0, -1) := fun p n => rf_no fun e q hf => by have := hf.1; rw [hb] at this; cases this
    simp [hb, ok_some, recover, recN, h0]
  simp only [hb, a_notB, Bool.not_true, a_cndS, Bool.false_eq_true, if_false]
  refine Ok.bind (P := fun e : Unit ⊕ ((List Ent × Unit) × Unit) => e = .inr ((recover b, ()), ())) (iter_ok (fun m (s : List Int × (List Ent × (Int × Unit))) => ∃ out : List Ent, s = (b, (out, (((frames 0 out).length : Int), ()))) ∧ out.length ≤ 24 ∧ m = 24 - out.length ∧ recN b (m + 1) out = recover b) _ ?_ (n := 24) (by omega) ⟨[], rfl, by simp, rfl, rfl⟩) fun e he => ?_
  · rintro m s ⟨out, rfl, hl, rfl, hr⟩
    have hfl := frames_len out 0
    rw [impl_RecoverLog_t_b0, a_lenL, impl_ReadFrame_eq k hk b ((frames 0 out).length : Int) _ (by omega), a_obind_some, ok_cndS]
    simp only [a_ltI, decide_eq_true_eq, decide_eq_false_iff_not]
    refine ⟨fun hneg => ok_some.2 ⟨fun s' e => (by cases e), fun e he => ?_⟩, fun hpos => ?_⟩
    · injection he with he; subst he
      simp only [recN, hneg, if_true] at hr
      rw [hr]
    · obtain ⟨h23, heo, hnx, _⟩ := rf_step (b := b) (out := out) (by omega)
      rw [ok_cndS]
      refine ⟨fun _ => ok_some.2 ⟨fun s' e => ?_, fun e he => (by cases he)⟩, fun hc => by simp at hc; omega⟩
      injection e with e; subst e
      rw [a_appL]
      refine ⟨24 - (out ++ [(rf b (frames 0 out).length out.length).1]).length, by simp; omega, _, by rw [hnx], by simp; omega, rfl, ?_⟩
      have e1 : 24 - out.length + 1 = (24 - (out ++ [(rf b (frames 0 out).length out.length).1]).length + 1) + 1 := by simp; omega
      rw [e1] at hr
      rw [recN, if_neg (by omega)] at hr
      exact hr
  · subst he
    rw [a_sumE_inr]; exact ok_some.2 rfl
theorem spec_RecoverLog_eq (k : Nat) (hk : 3000 ≤ k) (b : List Int) : spec_RecoverLog_t A k (b, ()) () = some ((recover b, ()), ()) := by
  rw [← ok_eq, spec_RecoverLog_t]
  refine Ok.bind (P := fun e : List Ent × Unit => e = (recover b, ())) (iter_ok (fun m (s : List Int × (List Ent × (Int × Unit))) => (∃ out : List Ent, s = (b, (out, (((frames 0 out).length : Int), ()))) ∧ out.length ≤ 24 ∧ m = 25 - out.length ∧ recN b m out = recover b) ∨ (∃ p, s = (b, (recover b, (p, ()))) ∧ p < 0 ∧ m = 0)) _ ?_ (n := 25) (by omega) (.inl ⟨[], rfl, by simp, rfl, rfl⟩)) fun e he => ?_
  · rintro m s (⟨out, rfl, hl, rfl, hr⟩ | ⟨p, rfl, hp, rfl⟩)
    · have hfl := frames_len out 0
      have g0 : (0 : Int) ≤ ((frames 0 out).length : Int) := by omega
      rw [spec_RecoverLog_t_b0, ok_cndS]
      simp only [a_leI, g0, decide_true, a_lenL]
      refine ⟨fun _ => ?_, fun hc => by cases hc⟩
      rw [spec_ReadFrame_eq k hk b _ _ (by omega), a_obind_some, ok_cndS]
      simp only [decide_eq_true_eq, decide_eq_false_iff_not]
      have e0 : 25 - out.length = (24 - out.length) + 1 := by omega
      rw [e0] at hr
      refine ⟨fun hpos => ?_, fun hneg => ok_some.2 ⟨fun s' e => ?_, fun e he => (by cases he)⟩⟩
      · obtain ⟨h23, heo, hnx, _⟩ := rf_step (b := b) (out := out) hpos
        rw [ok_cndS]
        refine ⟨fun _ => ok_some.2 ⟨fun s' e => ?_, fun e he => (by cases he)⟩, fun hc => by simp at hc; omega⟩
        injection e with e; subst e
        rw [a_appL]
        refine ⟨25 - (out ++ [(rf b (frames 0 out).length out.length).1]).length, by simp; omega, .inl ⟨_, by rw [hnx], by simp; omega, rfl, ?_⟩⟩
        rw [recN, if_neg (by omega)] at hr
        have e1 : 25 - (out ++ [(rf b (frames 0 out).length out.length).1]).length = 24 - out.length := by simp
        rw [e1]; exact hr
      · injection e with e; subst e
        have hneg' : (rf b (frames 0 out).length out.length).2 < 0 := by omega
        rw [recN, if_pos hneg'] at hr
        exact ⟨0, by omega, .inr ⟨_, by rw [hr], hneg', rfl⟩⟩
    · have g0 : ¬ (0 : Int) ≤ p := by omega
      rw [spec_RecoverLog_t_b0, ok_cndS]
      simp only [a_leI, g0, decide_false]
      refine ⟨fun hc => (by cases hc), fun _ => ok_some.2 ⟨fun s' e => (by cases e), fun e he => ?_⟩⟩
      injection he with he; subst he; rfl
  · subst he; exact ok_some.2 rfl
/-! ### what is recovered -/
theorem recN_sound {b : List Int} : ∀ (f : Nat) (out : List Ent), logOk out = true → frames 0 out <+: b → logOk (recN b f out) = true ∧ frames 0 (recN b f out) <+: b ∧ out <+: recN b f out
  | 0, out, h1, h2 => ⟨h1, h2, List.prefix_rfl⟩
  | f + 1, out, h1, h2 => by
    unfold recN
    split
    · exact ⟨h1, h2, List.prefix_rfl⟩
    · rename_i hn
      obtain ⟨h23, heo, _, hA⟩ := rf_step (b := b) (out := out) (by omega)
      obtain ⟨_, _, hA3, hA4⟩ := hA
      have hlo : logOk (out ++ [(rf b (frames 0 out).length out.length).1]) = true := by
        rw [logOk_iff] at h1 ⊢
        refine ⟨by simp; omega, fun e he => ?_⟩
        rcases List.mem_append.1 he with he | he
        · exact h1.2 e he
        · simp at he; subst he; exact heo
      have hpre : frames 0 (out ++ [(rf b (frames 0 out).length out.length).1]) <+: b := by
        rw [frames_snoc, Nat.zero_add]
        obtain ⟨r, hr⟩ := h2
        have e : b.drop (frames 0 out).length = r := by rw [← hr, List.drop_left]
        rw [Int.toNat_natCast, e] at hA4
        exact ⟨_, by rw [List.append_assoc, ← hA4, hr]⟩
      obtain ⟨k1, k2, k3⟩ := recN_sound f _ hlo hpre
      exact ⟨k1, k2, (List.prefix_append _ _).trans k3⟩
theorem recover_sound (b : List Int) : logOk (recover b) = true ∧ frames 0 (recover b) <+: b := by
  obtain ⟨h1, h2, _⟩ := recN_sound (b := b) 25 [] rfl (List.nil_prefix)
  exact ⟨h1, h2⟩
theorem frames_prefix {l m : List Ent} (h : l <+: m) : frames 0 l <+: frames 0 m := by
  obtain ⟨r, rfl⟩ := h
  induction r generalizing l with
  | nil => rw [List.append_nil]; exact List.prefix_rfl
  | cons e r ih =>
    have : l ++ e :: r = (l ++ [e]) ++ r := by simp
    rw [this]
    refine List.IsPrefix.trans ?_ (ih (l := l ++ [e]))
    rw [frames_snoc]; exact List.prefix_append _ _
theorem frame_pos {n : Int} {e : Ent} (h : 0 ≤ n ∧ n ≤ 23) : (frame n e).length ≠ 0 := by
  have := encN_pos n.toNat
  rw [← encNum_ok (by omega) (by omega)] at this
  simp only [frame, inner, List.length_append]; omega
theorem recN_max {b : List Int} (hb : bytesOk b = true) {l : List Ent} (hl : logOk l = true) (hp : frames 0 l <+: b) : ∀ (f : Nat) (out : List Ent), out <+: l → l.length ≤ out.length + f → l <+: recN b f out
  | 0, out, h1, h2 => by
    have : out = l := h1.eq_of_length (by have := h1.length_le; omega)
    rw [this]; exact List.prefix_rfl
  | f + 1, out, h1, h2 => by
    have hlo := logOk_iff.1 hl
    by_cases he : out = l
    · subst he
      have ho : logOk out = true := hl
      exact (recN_sound (f + 1) out ho hp).2.2
    · have hle := h1.length_le
      have hlt : out.length < l.length := by
        rcases Nat.lt_or_ge out.length l.length with h | h
        · exact h
        · exact absurd (h1.eq_of_length (by omega)) he
      have hto : out = l.take out.length := List.prefix_iff_eq_take.1 h1
      have hstep : frames 0 (l.take (out.length + 1)) = frames 0 out ++ frame (out.length : Int) l[out.length] := by rw [frames_take hlt, ← hto]
      have hpre : frames 0 (l.take (out.length + 1)) <+: b := (frames_prefix (List.take_prefix _ _)).trans hp
      rw [hstep] at hpre
      obtain ⟨r, hr⟩ := hpre
      have hf : Fits b (frames 0 out).length out.length l[out.length] (((frames 0 out).length : Int) + ((frame (out.length : Int) l[out.length]).length : Int)) := by
        refine ⟨hb, by omega, by omega, hlo.2 _ (List.getElem_mem hlt), by omega, rfl, ?_, ?_⟩
        · rw [← hr]; simp only [List.length_append]; omega
        · have e3 : (((frames 0 out).length : Int) + ((frame (out.length : Int) l[out.length]).length : Int)).toNat = (frames 0 out).length + (frame (out.length : Int) l[out.length]).length := by omega
          rw [e3, Int.toNat_natCast, ← List.drop_drop, ← hr, List.append_assoc, List.drop_left, List.drop_left]
      have hrf := rf_of hf
      unfold recN
      rw [hrf]
      rw [if_neg (by simp only; omega)]
      refine recN_max hb hl hp f _ ?_ (by simp; omega)
      have : out ++ [l[out.length]] = l.take (out.length + 1) := by rw [List.take_succ_eq_append_getElem hlt, ← hto]
      rw [this]; exact List.take_prefix _ _
theorem recover_max {b : List Int} (hb : bytesOk b = true) {l : List Ent} (hl : logOk l = true) (hp : frames 0 l <+: b) : l <+: recover b :=
  recN_max hb hl hp 25 [] List.nil_prefix (by have := (logOk_iff.1 hl).1; simp; omega)
theorem bytesOk_prefix {b c : List Int} (hc : bytesOk c = true) (h : b <+: c) : bytesOk b = true := by
  rw [bytesOk_iff] at hc ⊢
  exact ⟨by have := h.length_le; omega, fun x hx => hc.2 x (h.subset hx)⟩
theorem frames_ok {l : List Ent} (h : logOk l = true) : bytesOk (frames 0 l) = true := by
  have h1 := (logOk_iff.1 h).1
  have := frames_len l 0
  exact bytesOk_iff.2 ⟨by omega, frames_byte l 0⟩
theorem frames_lt {l : List Ent} (h : logOk l = true) {i j : Nat} (hij : i < j) (hj : j ≤ l.length) : (frames 0 (l.take i)).length < (frames 0 (l.take j)).length := by
  have h1 := (logOk_iff.1 h).1
  have hi : i < l.length := by omega
  have e := frames_take hi
  have hp := frame_pos (n := (i : Int)) (e := l[i]) (by omega)
  have hpre : l.take (i + 1) <+: l.take j := List.take_prefix_take_left (by omega)
  have := (frames_prefix hpre).length_le
  rw [e, List.length_append] at this
  omega
/-- of the beginning of a log's bytes those entries are recovered whose frames are whole -/
theorem recover_cut {l : List Ent} (h : logOk l = true) {i : Nat} (hi : i ≤ l.length) {c : List Int} (hc : c <+: frames 0 l) (h1 : (frames 0 (l.take i)).length ≤ c.length) (h2 : i < l.length → c.length < (frames 0 (l.take (i + 1))).length) : recover c = l.take i := by
  have hb := frames_ok h
  have hcb := bytesOk_prefix hb hc
  have hti : logOk (l.take i) = true := by
    rw [logOk_iff] at h ⊢
    exact ⟨by rw [List.length_take]; omega, fun e he => h.2 e (List.mem_of_mem_take he)⟩
  have hpre : frames 0 (l.take i) <+: c := by
    have a1 : frames 0 (l.take i) <+: frames 0 l := frames_prefix (List.take_prefix _ _)
    exact List.prefix_of_prefix_length_le a1 hc h1
  have hlow := recover_max hcb hti hpre
  obtain ⟨hs1, hs2⟩ := recover_sound c
  have hup : recover c <+: l := by
    have a1 : recover c <+: recover (frames 0 l) := recover_max hb hs1 (hs2.trans hc)
    have a2 : l <+: recover (frames 0 l) := recover_max hb h List.prefix_rfl
    obtain ⟨b1, b2⟩ := recover_sound (frames 0 l)
    have a3 : recover (frames 0 l) = l := by
      have e1 := (frames_prefix a2).eq_of_length (by have := (frames_prefix a2).length_le; have := b2.length_le; omega)
      refine (a2.eq_of_length ?_).symm
      rcases Nat.lt_or_ge l.length (recover (frames 0 l)).length with hlt | hge
      · have := frames_lt b1 hlt (Nat.le_refl _)
        rw [← List.prefix_iff_eq_take.1 a2, List.take_length, ← e1] at this
        omega
      · have := a2.length_le; omega
    rw [a3] at a1; exact a1
  have hm : recover c = l.take (recover c).length := List.prefix_iff_eq_take.1 hup
  have hlen : (recover c).length ≤ i := by
    rcases Nat.lt_or_ge i (recover c).length with hlt | hge
    · exfalso
      have hil : i < l.length := by have := hup.length_le; omega
      have a1 : l.take (i + 1) <+: recover c := by rw [hm]; exact List.take_prefix_take_left (by omega)
      have := (frames_prefix a1).length_le
      have := hs2.length_le
      have := h2 hil
      omega
    · exact hge
  have hge := hlow.length_le
  rw [List.length_take] at hge
  rw [hm]; congr 1; omega
theorem recover_all {l : List Ent} (h : logOk l = true) : recover (frames 0 l) = l := by
  have := recover_cut h (Nat.le_refl l.length) (c := frames 0 l) List.prefix_rfl (by rw [List.take_length]; omega) (fun h => by omega)
  rw [this, List.take_length]
theorem recover_len (b : List Int) : (recover b).length ≤ 24 := (logOk_iff.1 (recover_sound b).1).1
end
end Go.Den.T
