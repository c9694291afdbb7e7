/- What is drawn of disks. -/
import Derived.Test.YtkgmjndeeljpjaaXK2

namespace Go.Den.T
set_option linter.unusedVariables false
set_option linter.unusedSimpArgs false
set_option linter.unusedSectionVars false
variable {A : Atoms} [IsReal A]
theorem EncodeText_ok (k : Nat) (hk : 100 ≤ k) (s : List UInt8) : Ok (spec_EncodeText_t A k (s, ()) ()) (fun q => q.1.1.length ≤ 13) := by
  rw [spec_EncodeText_t, ok_cndS]
  simp only [a_lenL, a_ltI, decide_eq_true_eq, decide_eq_false_iff_not]
  refine ⟨fun _ => ok_some.2 (by simp), fun h => ?_⟩
  refine (EncodeNumber_ok k hk _).bind fun q hq => ?_
  refine Ok.bind (P := fun e : List Int × Unit => e.1.length ≤ 13) (iter_ok (fun j (t : List UInt8 × (List Int × (Int × Unit))) => ∃ i : Nat, t.1 = s ∧ t.2.2.1 = (i : Int) ∧ i + j = s.length ∧ t.2.1.length ≤ 5 + i) _ ?_ (n := s.length) (by omega) ⟨0, rfl, rfl, by omega, by simpa using hq⟩) fun e he => ok_some.2 he
  rintro j ⟨t, l, x, _⟩ ⟨i, h1, h2, h3, h4⟩
  simp only at h1 h2 h3 h4
  subst h1 h2
  rw [spec_EncodeText_t_b0, ok_cndS]
  simp only [a_lenL, a_ltI, decide_eq_true_eq, decide_eq_false_iff_not]
  refine ⟨fun hlt => ?_, fun hge => ok_some.2 ⟨fun s' e => (by cases e), fun e he => (by injection he with he; subst he; show l.length ≤ 13; omega)⟩⟩
  have w : A.wrapI .i64 (A.addI (i : Int) 1) = ((i + 1 : Nat) : Int) := by rw [a_addI]; rw [a_wrap (by omega) (by omega)]; rfl
  have hlen : (l.length : Int) + 1 < 4294967296 := by omega
  rw [ok_cndS]
  refine ⟨fun _ => ?_, fun hc => ?_⟩
  · rw [ok_cndS]
    refine ⟨fun _ => ok_some.2 ⟨fun s' e => ?_, fun e he => (by cases he)⟩, fun hc => ?_⟩
    · injection e with e; subst e
      rw [w, a_appL]
      exact ⟨j - 1, by omega, i + 1, rfl, rfl, by omega, by simp; omega⟩
    · simp at hc; omega
  · simp at hc; omega
theorem EncodeEntry_ok (k : Nat) (hk : 100 ≤ k) (e : Ent) : Ok (spec_EncodeEntry_t A k (e, ()) ()) (fun q => q.1.1.length ≤ 100) := by
  rw [spec_EncodeEntry_t, spec_EntryValid_eq k (by omega), a_obind_some, ok_cndS]
  refine ⟨fun _ => ok_some.2 (by simp), fun _ => ?_⟩
  refine (EncodeNumber_ok k hk _).bind fun q1 h1 => ?_
  refine (EncodeNumber_ok k hk _).bind fun q2 h2 => ?_
  rw [ok_cndS]
  refine ⟨fun _ => ?_, fun hc => by simp at hc; omega⟩
  refine (EncodeNumber_ok k hk _).bind fun q3 h3 => ?_
  rw [ok_cndS]
  refine ⟨fun _ => ?_, fun hc => by simp at hc; omega⟩
  refine (EncodeText_ok k hk _).bind fun q4 h4 => ?_
  rw [ok_cndS]
  refine ⟨fun _ => ?_, fun hc => by simp at hc; omega⟩
  refine (EncodeNumber_ok k hk _).bind fun q5 h5 => ?_
  rw [ok_cndS]
  refine ⟨fun _ => ?_, fun hc => by simp at hc; omega⟩
  refine (EncodeNumber_ok k hk _).bind fun q6 h6 => ?_
  rw [ok_cndS]
  exact ⟨fun _ => ok_some.2 (by simp; omega), fun hc => by simp at hc; omega⟩
theorem RecordSum_ok (k : Nat) (hk : 3000 ≤ k) (xs : List Int) : Ok (spec_RecordSum_t A k (xs, ()) ()) (fun q => -1 ≤ q.1.1 ∧ q.1.1 ≤ 65520) := by
  rw [spec_RecordSum_t, spec_BytesValid_eq k hk, a_obind_some, ok_cndS]
  refine ⟨fun _ => ok_some.2 (by simp), fun hb => ?_⟩
  simp only [a_notB, Bool.not_eq_false'] at hb
  have hb' : xs.length ≤ 2000 ∧ ∀ x ∈ xs, 0 ≤ x ∧ x ≤ 255 := by
    simp only [bytesOk, Bool.and_eq_true, decide_eq_true_eq, List.all_eq_true, byteOk] at hb; exact hb
  refine Ok.bind (P := fun e : Int × Unit => -1 ≤ e.1 ∧ e.1 ≤ 65520) (iter_ok (fun j (t : List Int × (Int × (Int × Unit))) => ∃ i : Nat, t.1 = xs ∧ t.2.2.1 = (i : Int) ∧ i + j = xs.length ∧ 0 ≤ t.2.1 ∧ t.2.1 ≤ 65520) _ ?_ (n := xs.length) (by omega) ⟨0, rfl, rfl, by omega, by simp, by simp⟩) fun e he => ok_some.2 he
  rintro j ⟨t, x, y, _⟩ ⟨i, h1, h2, h3, h4, h5⟩
  simp only at h1 h2 h3 h4 h5
  subst h1 h2
  rw [spec_RecordSum_t_b0, ok_cndS]
  simp only [a_lenL, a_ltI, decide_eq_true_eq, decide_eq_false_iff_not]
  refine ⟨fun hlt => ?_, fun hge => ok_some.2 ⟨fun s' e => (by cases e), fun e he => (by injection he with he; subst he; exact ⟨by show -1 ≤ x; omega, h5⟩)⟩⟩
  have hi : i < t.length := by omega
  have hx := hb'.2 t[i] (List.getElem_mem hi)
  have w : A.wrapI .i64 (A.addI (i : Int) 1) = ((i + 1 : Nat) : Int) := by rw [a_addI]; rw [a_wrap (by omega) (by omega)]; rfl
  have m1 : 0 ≤ ((i + 1 : Nat) : Int) * t[i] := Int.mul_nonneg (by omega) hx.1
  have m2 : ((i + 1 : Nat) : Int) * t[i] ≤ 2001 * 255 := Int.mul_le_mul (by omega) hx.2 hx.1 (by omega)
  have w2 : A.wrapI .i64 (A.mulI ((i + 1 : Nat) : Int) (A.atL t (i : Int) 0)) = ((i + 1 : Nat) : Int) * t[i] := by rw [a_mulI, a_atL, Int.toNat_natCast, getD_lt hi]; exact a_wrap (by omega) (by omega)
  have w3 : A.wrapI .i64 (A.addI x (((i + 1 : Nat) : Int) * t[i])) = x + ((i + 1 : Nat) : Int) * t[i] := by rw [a_addI]; exact a_wrap (by omega) (by omega)
  rw [w, w2, w3, ok_cndS]
  refine ⟨fun _ => ?_, fun hc => by simp at hc; omega⟩
  rw [ok_cndS]
  refine ⟨fun _ => ok_some.2 ⟨fun s' e => ?_, fun e he => (by cases he)⟩, fun hc => by simp at hc⟩
  injection e with e; subst e
  rw [a_remI]
  exact ⟨j - 1, by omega, i + 1, rfl, rfl, by omega, Int.tmod_nonneg _ (by omega), by have := Int.tmod_lt_of_pos (x + ((i + 1 : Nat) : Int) * t[i]) (b := 65521) (by omega); show Int.tmod _ 65521 ≤ 65520; omega⟩
theorem FrameEntry_ok (k : Nat) (hk : 3000 ≤ k) (i : Int) (e : Ent) : Ok (spec_FrameEntry_t A k (i, (e, ())) ()) (fun q => q.1.1.length ≤ 200) := by
  rw [spec_FrameEntry_t]
  refine (EncodeEntry_ok k (by omega) e).bind fun q0 h0 => ?_
  refine Ok.bind (P := fun r : (Int × (List Int × Unit)) ⊕ ((List Int × Unit) × Unit) => (∃ j, r = .inl (j, (q0.1.1, ()))) ∨ r = .inr (([], ()), ())) ?_ fun r hr => ?_
  · rw [l1In_eq, a_obind_some, ok_cndS]
    refine ⟨fun _ => ok_some.2 (.inr rfl), fun _ => ?_⟩
    rw [ok_cndS]
    exact ⟨fun _ => ok_some.2 (.inr rfl), fun _ => ok_some.2 (.inl ⟨_, rfl⟩)⟩
  · rcases hr with ⟨j, rfl⟩ | rfl
    · rw [a_sumE_inl]
      refine (EncodeNumber_ok k (by omega) _).bind fun q1 h1 => ?_
      refine (EncodeNumber_ok k (by omega) _).bind fun q2 h2 => ?_
      rw [ok_cndS]
      refine ⟨fun _ => ?_, fun hc => by simp at hc; omega⟩
      rw [ok_cndS]
      refine ⟨fun _ => ?_, fun hc => by simp at hc; omega⟩
      refine (RecordSum_ok k hk _).bind fun q3 h3 => ?_
      refine (EncodeNumber_ok k (by omega) _).bind fun q4 h4 => ?_
      rw [ok_cndS]
      exact ⟨fun _ => ok_some.2 (by simp; omega), fun hc => by simp at hc; omega⟩
    · rw [a_sumE_inr]; exact ok_some.2 (by simp)
end Go.Den.T
