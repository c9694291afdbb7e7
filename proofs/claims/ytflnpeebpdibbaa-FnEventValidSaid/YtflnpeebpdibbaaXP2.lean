/- Draws of sessions, states, checkpoints; the law FnCheckpointValid. -/
import Derived.Test.YtflnpeebpdibbaaXP1

namespace Go.Den.T
set_option linter.unusedVariables false
set_option linter.unusedSimpArgs false
set_option linter.unusedSectionVars false
section
variable {A : Atoms} [IsReal A]
theorem l20Session_ok (k : Nat) (n N : Int) (r : Rd) (h : RdOk N r) (hp : N ≤ 800000000) (hn : n ≤ 1000000000) : Ok (spec_l20Session_t A k ((), (n, ())) r) (fun q => RdOk (N + 5) q.2) := by
  rw [spec_l20Session_t]
  refine (odd_ok k n N r h (by omega) (by omega)).bind fun q hq => ?_
  rw [ok_cndS]
  refine ⟨fun _ => ?_, fun _ => ?_⟩
  · refine (pick_ok k 6 _ _ hq (by omega) (by omega)).bind fun q1 h1 => ?_
    have b1 := h1.2.1
    have b2 := h1.2.2.2.1 (by omega)
    rw [ok_cndS]
    exact ⟨fun _ => ok_some.2 (h1.1.le (by omega)), fun hc => (by simp at hc; omega)⟩
  · refine (pick_ok k 4 _ _ hq (by omega) (by omega)).bind fun q1 h1 => ?_
    refine (pick_ok k 6 _ _ h1.1 (by omega) (by omega)).bind fun q2 h2 => ?_
    refine (pick_ok k 9 _ _ h2.1 (by omega) (by omega)).bind fun q3 h3 => ?_
    exact ok_some.2 (h3.1.le (by omega))
theorem l9Find_ok (k : Nat) (l : List Ses) (v : Int) (hk : l.length < k) (hl : l.length ≤ 1000000000) : Ok (spec_l9Find_t A k (l, (v, ())) ()) (fun _ => True) := by
  rw [spec_l9Find_t]
  refine Ok.bind (P := fun _ => True) (iter_ok (fun m (st : List Ses × (Int × (Int × (Ses × Unit)))) => ∃ (i : Nat) (z : Ses), st = (l, (v, ((i : Int), (z, ())))) ∧ i ≤ l.length ∧ m = l.length - i) _ ?_ (n := l.length) (by omega) ⟨0, _, rfl, by omega, by omega⟩) fun e _ => ?_
  · rintro m st ⟨i, z, rfl, hi, rfl⟩
    have w : A.wrapI .i64 (A.addI (i : Int) 1) = ((i + 1 : Nat) : Int) := by rw [a_addI, a_wrap (by omega) (by omega)]; rfl
    rw [spec_l9Find_t_b0, ok_cndS]
    refine ⟨fun h1 => ?_, fun _ => ok_some.2 ⟨fun s' e => (by cases e), fun r e => trivial⟩⟩
    have hlt : (i : Int) < l.length := by simpa using h1
    have hb := in_bounds (A := A) (l := l) (i := (i : Int)) (by omega) hlt
    rw [ok_cndS]
    refine ⟨fun _ => ?_, fun hc => (by rw [hb] at hc; cases hc)⟩
    rw [ok_cndS]
    refine ⟨fun _ => ?_, fun _ => ok_some.2 ⟨fun s' e => ?_, fun r e => trivial⟩⟩
    · rw [ok_cndS]
      exact ⟨fun _ => ok_some.2 ⟨fun s' e => (by cases e), fun r e => trivial⟩, fun hc => (by rw [hb] at hc; cases hc)⟩
    · injection e with e; subst e
      exact ⟨l.length - (i + 1), by omega, i + 1, z, by rw [w], by omega, rfl⟩
  · rw [ok_sumE]; exact ⟨fun _ _ => ok_some.2 trivial, fun _ _ => ok_some.2 trivial⟩
theorem SessionSeq_ok (k : Nat) (l : List Ses) (v : Int) (hk : l.length < k) (hl : l.length ≤ 1000000000) : Ok (spec_SessionSeq_t A k (l, (v, ())) ()) (fun _ => True) := by
  rw [spec_SessionSeq_t]
  refine Ok.bind (P := fun t => t = .inr (((-1 : Int), ()), ()) ∨ t = .inl (l, (v, ()))) ?_ fun t ht => ?_
  · rw [spec_SessionsValid_eq k l hk hl, a_obind_some, ok_cndS]
    refine ⟨fun _ => ok_some.2 (.inl rfl), fun h => ?_⟩
    rw [l1In_eq, a_obind_some, ok_cndS]
    exact ⟨fun _ => ok_some.2 (.inl rfl), fun _ => ok_some.2 (.inr rfl)⟩
  rcases ht with rfl | rfl
  · rw [a_sumE_inr]; exact ok_some.2 trivial
  · rw [a_sumE_inl]; exact (l9Find_ok k l v hk hl).bind fun q _ => ok_some.2 trivial
theorem SessionPut_ok (k : Nat) (hk : 2000 ≤ k) (l : List Ses) (s : Ses) (hl : l.length ≤ 1000) : Ok (spec_SessionPut_t A k (l, (s, ())) ()) (fun q => q.1.1.length ≤ l.length + 1) := by
  rw [spec_SessionPut_t]
  refine Ok.bind (P := fun t => t = .inr ((([] : List Ses), (false, ())), ()) ∨ t = .inl (l, (([] : List Ses), (s, ())))) ?_ fun t ht => ?_
  · rw [spec_SessionsValid_eq k l (by omega) (by omega), a_obind_some, ok_cndS]
    refine ⟨fun _ => ok_some.2 (.inl rfl), fun h => ?_⟩
    rw [spec_SessionsValid_eq k _ (by simp; omega) (by simp), a_obind_some, ok_cndS]
    exact ⟨fun _ => ok_some.2 (.inl rfl), fun _ => ok_some.2 (.inr rfl)⟩
  rcases ht with rfl | rfl
  · rw [a_sumE_inr]; exact ok_some.2 (by simp)
  rw [a_sumE_inl]
  refine (SessionSeq_ok k l s.1 (by omega) (by omega)).bind fun q _ => ?_
  rw [ok_cndS]
  refine ⟨fun _ => ?_, fun _ => ?_⟩
  · rw [ok_cndS]
    exact ⟨fun _ => ok_some.2 (by simp), fun hc => (by simp at hc; omega)⟩
  refine Ok.bind (P := fun e : List Ses × (Bool × (Ses × Unit)) => (e.2.1 = false → e.1.length ≤ l.length) ∧ e.1.length ≤ l.length + 1) (iter_ok (fun m (st : List Ses × (List Ses × (Bool × (Int × (Ses × Unit))))) => ∃ (i : Nat) (out : List Ses) (b : Bool), st = (l, (out, (b, ((i : Int), (s, ()))))) ∧ i ≤ l.length ∧ m = l.length - i ∧ (b = false → out.length ≤ i) ∧ out.length ≤ i + 1) _ ?_ (n := l.length) (by omega) ⟨0, [], false, rfl, by omega, by omega, fun _ => by simp, by simp⟩) fun e he => ?_
  · rintro m st ⟨i, out, b, rfl, hi, rfl, ho1, ho2⟩
    have w : A.wrapI .i64 (A.addI (i : Int) 1) = ((i + 1 : Nat) : Int) := by rw [a_addI, a_wrap (by omega) (by omega)]; rfl
    rw [spec_SessionPut_t_b0, ok_cndS]
    refine ⟨fun h1 => ?_, fun _ => ok_some.2 ⟨fun s' e => (by cases e), fun r e => (by injection e with e; subst e; exact ⟨fun h => by have := ho1 h; show out.length ≤ _; omega, by show out.length ≤ _; omega⟩)⟩⟩
    have hlt : (i : Int) < l.length := by simpa using h1
    have hb := in_bounds (A := A) (l := l) (i := (i : Int)) (by omega) hlt
    refine Ok.bind (P := fun t => ∃ (out' : List Ses) (b' : Bool), t = (l, (out', (b', ((i : Int), (s, ()))))) ∧ (b' = false → out'.length ≤ i) ∧ out'.length ≤ i + 1) ?_ fun t ht => ?_
    · rw [ok_cndS]
      have same : ∃ (out' : List Ses) (b' : Bool), ((l, (out, (b, ((i : Int), (s, ()))))) : List Ses × (List Ses × (Bool × (Int × (Ses × Unit))))) = (l, (out', (b', ((i : Int), (s, ()))))) ∧ (b' = false → out'.length ≤ i) ∧ out'.length ≤ i + 1 := ⟨out, b, rfl, ho1, ho2⟩
      refine ⟨fun hnb => ?_, fun _ => ok_some.2 same⟩
      have hbf : b = false := by simpa using hnb
      have ho := ho1 hbf
      rw [ok_cndS]
      refine ⟨fun _ => ?_, fun hc => (by rw [hb] at hc; cases hc)⟩
      rw [ok_cndS]
      refine ⟨fun _ => ?_, fun _ => ok_some.2 same⟩
      rw [ok_cndS]
      exact ⟨fun _ => ok_some.2 ⟨out ++ [s], true, by rw [a_appL], fun h => (by cases h), by simp; omega⟩, fun hc => (by simp at hc; omega)⟩
    obtain ⟨out', b', rfl, k1, k2⟩ := ht
    rw [ok_cndS]
    refine ⟨fun _ => ?_, fun hc => (by rw [hb] at hc; cases hc)⟩
    rw [ok_cndS]
    refine ⟨fun _ => ?_, fun _ => ok_some.2 ⟨fun s' e => ?_, fun r e => (by cases e)⟩⟩
    · rw [ok_cndS]
      refine ⟨fun _ => ?_, fun hc => (by rw [hb] at hc; cases hc)⟩
      rw [ok_cndS]
      refine ⟨fun _ => ok_some.2 ⟨fun s' e => ?_, fun r e => (by cases e)⟩, fun hc => (by simp at hc; omega)⟩
      injection e with e; subst e
      exact ⟨l.length - (i + 1), by omega, i + 1, _, b', by rw [w], by omega, rfl, fun h => by have := k1 h; simp; omega, by simp; omega⟩
    · injection e with e; subst e
      exact ⟨l.length - (i + 1), by omega, i + 1, out', b', by rw [w], by omega, rfl, fun h => by have := k1 h; omega, by omega⟩
  · obtain ⟨out, b, s', _⟩ := e
    obtain ⟨h1, h2⟩ := he
    simp only at h1 h2
    rw [ok_cndS]
    refine ⟨fun hnb => ?_, fun _ => ok_some.2 h2⟩
    have hbf : b = false := by simpa using hnb
    have ho := h1 hbf
    rw [ok_cndS]
    exact ⟨fun _ => ok_some.2 (by simp; omega), fun hc => (by simp at hc; omega)⟩
theorem l20Sessions_ok (k : Nat) (hk : 2000 ≤ k) (n N : Int) (r : Rd) (h : RdOk N r) (hp : N ≤ 790000000) (hn : n ≤ 1000000000) : Ok (spec_l20Sessions_t A k ((), (n, ())) r) (fun q => RdOk (N + 60) q.2 ∧ q.1.1.length ≤ 20) := by
  rw [spec_l20Sessions_t]
  refine (pick_ok k 5 _ _ h (by omega) (by omega)).bind fun q0 h0 => ?_
  have b1 := h0.2.1
  have b2 := h0.2.2.2.1 (by omega)
  refine Ok.bind (P := fun e : Int × (List Ses × Rd) => e.1 = n ∧ e.2.1.length ≤ 4 ∧ RdOk (N + 40) e.2.2) (iter_ok (fun j (s : Int × (List Ses × (Int × Rd))) => s.1 = n ∧ s.2.2.1 = (j : Int) ∧ s.2.1.length + j ≤ 4 ∧ RdOk (N + 1 + 5 * (4 - (j : Int))) s.2.2.2) _ ?_ (n := q0.1.1.toNat) (by omega) ⟨rfl, by show q0.1.1 = _; omega, by show ([] : List Ses).length + _ ≤ 4; simp; omega, h0.1.le (by omega)⟩) fun e he => ?_
  · rintro j ⟨n', l, x, rr⟩ ⟨g0, g1, g2, g3⟩
    simp only at g0 g1 g2 g3
    subst g0 g1
    rw [spec_l20Sessions_t_b0, ok_cndS]
    simp only [a_ltI, decide_eq_true_eq, decide_eq_false_iff_not]
    refine ⟨fun hpos => ?_, fun _ => ok_some.2 ⟨fun s' e => (by cases e), fun e he => (by injection he with he; subst he; exact ⟨rfl, by show l.length ≤ 4; omega, g3.le (by omega)⟩)⟩⟩
    have w' : A.wrapI .i64 (A.subI (j : Int) 1) = ((j - 1 : Nat) : Int) := by rw [a_subI, a_wrap (by omega) (by omega)]; omega
    refine (l20Session_ok k 0 _ _ g3 (by omega) (by omega)).bind fun q1 h1 => ?_
    refine (SessionPut_ok k (by omega) l q1.1.1 (by omega)).bind fun q3 h3 => ?_
    refine ok_some.2 ⟨fun s' e => ?_, fun e he => (by cases he)⟩
    injection e with e; subst e
    exact ⟨j - 1, by omega, rfl, w', by show q3.1.1.length + _ ≤ 4; omega, h1.le (by omega)⟩
  obtain ⟨n1, l1, r1⟩ := e
  obtain ⟨e1, e2, e3⟩ := he
  simp only at e1 e2 e3
  subst e1
  refine (odd_ok k _ _ _ e3 (by omega) (by omega)).bind fun q4 h4 => ?_
  rw [ok_cndS]
  refine ⟨fun _ => ?_, fun _ => ok_some.2 ⟨h4.le (by omega), by show l1.length ≤ 20; omega⟩⟩
  refine (pick_ok k 2 _ _ h4 (by omega) (by omega)).bind fun q5 h5 => ?_
  rw [ok_cndS]
  refine ⟨fun _ => ?_, fun _ => ?_⟩
  · rw [ok_cndS]
    exact ⟨fun _ => ok_some.2 ⟨h5.1.le (by omega), by simp; omega⟩, fun hc => (by simp at hc; omega)⟩
  · refine (l20Session_ok k 1 _ _ h5.1 (by omega) (by omega)).bind fun q6 h6 => ?_
    rw [ok_cndS]
    exact ⟨fun _ => ok_some.2 ⟨h6.le (by omega), by simp; omega⟩, fun hc => (by simp at hc; omega)⟩
/-- a state with short lists -/
def StS (s : Stt) : Prop := s.2.1.length ≤ 60 ∧ s.2.2.1.length ≤ 20
theorem l20State_ok (k : Nat) (hk : 2000 ≤ k) (n N : Int) (r : Rd) (h : RdOk N r) (hp : N ≤ 700000000) (hn : n ≤ 1000000000) : Ok (spec_l20State_t A k ((), (n, ())) r) (fun q => RdOk (N + 1000) q.2 ∧ StS q.1.1) := by
  rw [spec_l20State_t]
  refine (l20Span_ok k (by omega) 0 _ _ h (by omega) (by omega)).bind fun q0 h0 => ?_
  refine Ok.bind (P := fun e : Int × (Stt × (Itv × Rd)) => e.1 = n ∧ RdOk (N + 41) e.2.2.2) ?_ fun t ht => ?_
  · refine (pick_ok k 2 _ _ h0 (by omega) (by omega)).bind fun q1 h1 => ?_
    rw [ok_cndS]
    exact ⟨fun _ => ok_some.2 ⟨rfl, h1.1.le (by omega)⟩, fun _ => ok_some.2 ⟨rfl, h1.1.le (by omega)⟩⟩
  obtain ⟨n1, s1, iv, r1⟩ := t
  obtain ⟨e1, e2⟩ := ht
  simp only at e1 e2
  subst e1
  refine (l20Pairs_ok k hk 0 _ _ e2 (by omega) (by omega)).bind fun q3 h3 => ?_
  refine (PairsIn_ok k hk q3.1.1 iv (by omega)).bind fun q4 h4 => ?_
  refine (l20Sessions_ok k hk 0 _ _ h3.1 (by omega) (by omega)).bind fun q5 h5 => ?_
  have h3l := h3.2
  have h5l := h5.2
  refine Ok.bind (P := fun e : Int × (Stt × (Stt × Rd)) => e.1 = n1 ∧ StS e.2.2.1 ∧ RdOk (N + 450) e.2.2.2) ?_ fun t ht => ?_
  · refine (pick_ok k 5 _ _ h5.1 (by omega) (by omega)).bind fun q6 h6 => ?_
    have s0 : ∀ (b : Bool) (x : List UInt8), StS ((iv, (q4.1.1, (q5.1.1, (b, (x, ())))))) := fun b x => ⟨by show q4.1.1.length ≤ 60; omega, h5l⟩
    rw [ok_cndS]
    refine ⟨fun _ => ?_, fun _ => ok_some.2 ⟨rfl, s0 _ _, h6.1.le (by omega)⟩⟩
    rw [spec_IntervalCut_eq k (by omega), a_obind_some, ok_cndS]
    refine ⟨fun _ => ?_, fun _ => ok_some.2 ⟨rfl, s0 _ _, h6.1.le (by omega)⟩⟩
    refine (pick_ok k 2 _ _ h6.1 (by omega) (by omega)).bind fun q7 h7 => ?_
    rw [ok_cndS]
    exact ⟨fun _ => ok_some.2 ⟨rfl, s0 _ _, h7.1.le (by omega)⟩, fun _ => ok_some.2 ⟨rfl, s0 _ _, h7.1.le (by omega)⟩⟩
  obtain ⟨n2, s2, s3, r2⟩ := t
  obtain ⟨f1, f2, f3⟩ := ht
  simp only at f1 f2 f3
  subst f1
  refine (odd_ok k _ _ _ f3 (by omega) (by omega)).bind fun q8 h8 => ?_
  rw [ok_cndS]
  refine ⟨fun _ => ?_, fun _ => ok_some.2 ⟨h8.le (by omega), f2⟩⟩
  refine (pick_ok k 5 _ _ h8 (by omega) (by omega)).bind fun q9 h9 => ?_
  rw [ok_cndS]
  refine ⟨fun _ => ?_, fun _ => ?_⟩
  · exact (l20Span_ok k (by omega) 1 _ _ h9.1 (by omega) (by omega)).bind fun q10 h10 => ok_some.2 ⟨h10.le (by omega), f2⟩
  rw [ok_cndS]
  refine ⟨fun _ => ?_, fun _ => ?_⟩
  · exact (l20Pairs_ok k hk 1 _ _ h9.1 (by omega) (by omega)).bind fun q10 h10 => ok_some.2 ⟨h10.1.le (by omega), h10.2, f2.2⟩
  rw [ok_cndS]
  refine ⟨fun _ => ?_, fun _ => ?_⟩
  · exact (l20Sessions_ok k hk 1 _ _ h9.1 (by omega) (by omega)).bind fun q10 h10 => ok_some.2 ⟨h10.1.le (by omega), f2.1, h10.2⟩
  rw [ok_cndS]
  exact ⟨fun _ => ok_some.2 ⟨h9.1.le (by omega), f2⟩, fun _ => ok_some.2 ⟨h9.1.le (by omega), by simp [StS]; exact f2.2⟩⟩
end
end Go.Den.T
