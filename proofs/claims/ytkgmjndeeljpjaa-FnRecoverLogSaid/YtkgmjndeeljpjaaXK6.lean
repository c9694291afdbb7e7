/- Disks: writes appended; the law. -/
import Derived.Test.YtkgmjndeeljpjaaXB2

namespace Go.Den.T
set_option linter.unusedVariables false
set_option linter.unusedSimpArgs false
set_option linter.unusedSectionVars false
section
variable {A : Atoms} [IsReal A]
theorem l20Number_ok (k : Nat) (n N : Int) (r : Rd) (h : RdOk N r) (hp : N ≤ 900000000) (hn : n ≤ 1000000000) : Ok (spec_l20Number_t A k ((), (n, ())) r) (fun q => RdOk (N + 9) q.2) := by
  rw [spec_l20Number_t]
  refine (odd_ok k _ _ _ h (by omega) (by omega)).bind fun q0 h0 => ?_
  rw [ok_cndS]
  refine ⟨fun _ => ?_, fun _ => ?_⟩
  · refine (pick_ok k 2 _ _ h0 (by omega) (by omega)).bind fun q1 h1 => ?_
    have b1 := h1.2.1
    have b2 := h1.2.2.2.1 (by omega)
    rw [ok_cndS]
    refine ⟨fun _ => ok_some.2 (h1.1.le (by omega)), fun hc => by simp at hc; omega⟩
  · refine (pick_ok k 256 _ _ h0 (by omega) (by omega)).bind fun q1 h1 => ?_
    refine (pick_ok k 256 _ _ h1.1 (by omega) (by omega)).bind fun q2 h2 => ?_
    refine (pick_ok k 256 _ _ h2.1 (by omega) (by omega)).bind fun q3 h3 => ?_
    refine (pick_ok k 256 _ _ h3.1 (by omega) (by omega)).bind fun q4 h4 => ?_
    refine (pick_ok k 256 _ _ h4.1 (by omega) (by omega)).bind fun q5 h5 => ?_
    refine (pick_ok k 256 _ _ h5.1 (by omega) (by omega)).bind fun q6 h6 => ?_
    refine (pick_ok k 9 _ _ h6.1 (by omega) (by omega)).bind fun q7 h7 => ?_
    have b1 := h7.2.1
    have b2 := h7.2.2.2.1 (by omega)
    rw [ok_cndS]
    refine ⟨fun _ => ok_some.2 (h7.1.le (by omega)), fun hc => by simp at hc; omega⟩
theorem l20Text_ok (k : Nat) (hk : 100 ≤ k) (n N : Int) (r : Rd) (h : RdOk N r) (hp : N ≤ 900000000) (hn : n ≤ 1000000000) : Ok (spec_l20Text_t A k ((), (n, ())) r) (fun q => RdOk (N + 12) q.2) := by
  rw [spec_l20Text_t]
  refine (odd_ok k _ _ _ h (by omega) (by omega)).bind fun q0 h0 => ?_
  rw [ok_cndS]
  refine ⟨fun _ => ok_some.2 (h0.le (by omega)), fun _ => ?_⟩
  refine (pick_ok k 9 _ _ h0 (by omega) (by omega)).bind fun q1 h1 => ?_
  have b1 := h1.2.1
  have b2 := h1.2.2.2.1 (by omega)
  refine Ok.bind (P := fun e : List UInt8 × Rd => RdOk (N + 12) e.2) (iter_ok (fun j (s : List UInt8 × (Int × Rd)) => s.2.1 = (j : Int) ∧ s.1.length + j ≤ 8 ∧ RdOk (N + 11 - (j : Int)) s.2.2) _ ?_ (n := q1.1.1.toNat) (by omega) ⟨by show q1.1.1 = _; omega, by show ([] : List UInt8).length + _ ≤ 8; simp; omega, h1.1.le (by omega)⟩) fun e he => ok_some.2 he
  rintro j ⟨l, x, rr⟩ ⟨g1, g2, g3⟩
  simp only at g1 g2 g3
  subst g1
  rw [spec_l20Text_t_b0, ok_cndS]
  simp only [a_ltI, decide_eq_true_eq, decide_eq_false_iff_not]
  refine ⟨fun hpos => ?_, fun _ => ok_some.2 ⟨fun s' e => (by cases e), fun e he => (by injection he with he; subst he; exact g3.le (by omega))⟩⟩
  refine (pick_ok k 256 _ _ g3 (by omega) (by omega)).bind fun q2 h2 => ?_
  rw [ok_cndS]
  refine ⟨fun _ => ok_some.2 ⟨fun s' e => ?_, fun e he => (by cases he)⟩, fun hc => by simp at hc; omega⟩
  injection e with e; subst e
  have w : A.wrapI .i64 (A.subI (j : Int) 1) = (j : Int) - 1 := by rw [a_subI]; exact a_wrap (by omega) (by omega)
  refine ⟨j - 1, by omega, by show A.wrapI .i64 (A.subI (j : Int) 1) = _; rw [w]; omega, by simp; omega, h2.1.le (by omega)⟩
theorem l20Bytes_ok (k : Nat) (hk : 3000 ≤ k) (n N : Int) (r : Rd) (h : RdOk N r) (hp : N ≤ 800000000) (hn : n ≤ 1000000000) : Ok (spec_l20Bytes_t A k ((), (n, ())) r) (fun q => RdOk (N + 400) q.2 ∧ q.1.1.length ≤ 3000) := by
  rw [spec_l20Bytes_t]
  refine (pick_ok k 12 _ _ h (by omega) (by omega)).bind fun q0 h0 => ?_
  have b1 := h0.2.1
  have b2 := h0.2.2.2.1 (by omega)
  refine Ok.bind (P := fun e : Int × (List Int × Rd) => e.1 = n ∧ e.2.1.length ≤ 200 ∧ RdOk (N + 300) e.2.2) (iter_ok (fun j (s : Int × (List Int × (Int × Rd))) => s.1 = n ∧ s.2.2.1 = (j : Int) ∧ j ≤ 11 ∧ s.2.1.length + 12 * j ≤ 150 ∧ RdOk (N + 1 + 20 * (12 - (j : Int))) s.2.2.2) _ ?_ (n := q0.1.1.toNat) (by omega) ⟨rfl, by show q0.1.1 = _; omega, by omega, by show ([] : List Int).length + _ ≤ 150; simp; omega, h0.1.le (by omega)⟩) fun e he => ?_
  · rintro j ⟨n', l, x, rr⟩ ⟨g0, g1, g2, g3, g4⟩
    simp only at g0 g1 g3 g4
    subst g0 g1
    rw [spec_l20Bytes_t_b0, ok_cndS]
    simp only [a_ltI, decide_eq_true_eq, decide_eq_false_iff_not]
    refine ⟨fun hpos => ?_, fun _ => ok_some.2 ⟨fun s' e => (by cases e), fun e he => (by injection he with he; subst he; exact ⟨rfl, by show l.length ≤ 200; omega, g4.le (by omega)⟩)⟩⟩
    have w : A.wrapI .i64 (A.subI (j : Int) 1) = (j : Int) - 1 := by rw [a_subI]; exact a_wrap (by omega) (by omega)
    have w' : A.wrapI .i64 (A.subI (j : Int) 1) = ((j - 1 : Nat) : Int) := by rw [w]; omega
    refine (pick_ok k 4 _ _ g4 (by omega) (by omega)).bind fun q1 h1 => ?_
    rw [ok_cndS]
    refine ⟨fun _ => ?_, fun _ => ?_⟩
    · refine (l20Number_ok k 0 _ _ h1.1 (by omega) (by omega)).bind fun q2 h2 => ?_
      rw [spec_EncodeNumber_eq k (by omega), a_obind_some, ok_cndS]
      have := encNum_len q2.1.1
      refine ⟨fun _ => ok_some.2 ⟨fun s' e => ?_, fun e he => (by cases he)⟩, fun hc => by simp at hc; omega⟩
      injection e with e; subst e
      exact ⟨j - 1, by omega, rfl, w', by omega, by simp; omega, h2.le (by omega)⟩
    · rw [ok_cndS]
      refine ⟨fun _ => ?_, fun _ => ?_⟩
      · refine (l20Text_ok k (by omega) 0 _ _ h1.1 (by omega) (by omega)).bind fun q2 h2 => ?_
        rw [spec_EncodeText_eq k (by omega), a_obind_some, ok_cndS]
        have := encText_len q2.1.1
        refine ⟨fun _ => ok_some.2 ⟨fun s' e => ?_, fun e he => (by cases he)⟩, fun hc => by simp at hc; omega⟩
        injection e with e; subst e
        exact ⟨j - 1, by omega, rfl, w', by omega, by simp; omega, h2.le (by omega)⟩
      · refine (pick_ok k 256 _ _ h1.1 (by omega) (by omega)).bind fun q2 h2 => ?_
        rw [ok_cndS]
        refine ⟨fun _ => ok_some.2 ⟨fun s' e => ?_, fun e he => (by cases he)⟩, fun hc => by simp at hc; omega⟩
        injection e with e; subst e
        exact ⟨j - 1, by omega, rfl, w', by omega, by simp; omega, h2.1.le (by omega)⟩
  · obtain ⟨e1, e2, e3⟩ := he
    refine (odd_ok k _ _ _ e3 (by omega) (by rw [e1]; omega)).bind fun q2 h2 => ?_
    rw [ok_cndS]
    refine ⟨fun _ => ?_, fun _ => ok_some.2 ⟨h2.le (by omega), by show e.2.1.length ≤ 3000; omega⟩⟩
    refine (pick_ok k 3 _ _ h2 (by omega) (by omega)).bind fun q3 h3 => ?_
    rw [ok_cndS]
    refine ⟨fun _ => ?_, fun _ => ?_⟩
    · rw [ok_cndS]
      refine ⟨fun _ => ok_some.2 ⟨h3.1.le (by omega), ?_⟩, fun hc => ?_⟩
      · show (A.repL (2001 : Int) (0 : Int)).length ≤ 3000
        rw [a_repL, List.length_replicate]; exact (by decide : (2001 : Int).toNat ≤ 3000)
      · simp only [a_le0, a_leI, a_ltI, a_andB, a_big] at hc
        exact absurd hc (by decide)
    · refine (pick_ok k 2 _ _ h3.1 (by omega) (by omega)).bind fun q4 h4 => ?_
      have c1 := h4.2.1
      have c2 := h4.2.2.2.1 (by omega)
      rw [ok_cndS]
      refine ⟨fun _ => ?_, fun hc => by simp at hc; omega⟩
      rw [ok_cndS]
      exact ⟨fun _ => ok_some.2 ⟨h4.1.le (by omega), by simp; omega⟩, fun hc => by simp at hc; omega⟩
end
end Go.Den.T
