/- Messages drawn; messages are of one kind. -/
import Derived.Test.YtbfndjfjkkfaeaaXR1

namespace Go.Den.T
set_option linter.unusedVariables false
set_option linter.unusedSimpArgs false
set_option linter.unusedSectionVars false
section
variable {A : Atoms} [IsReal A]
def MsgS (m : Msg) : Prop := Short m.2.2.2.1 ∧ LogS m.2.2.2.2.1
theorem l20Message_ok (k : Nat) (hk : 100 ≤ k) (n N : Int) (r : Rd) (h : RdOk N r) (hp : N ≤ 400000000) (hn : n ≤ 1000000000) : Ok (spec_l20Message_t A k ((), (n, ())) r) (fun q => RdOk (N + 9000) q.2 ∧ MsgS q.1.1) := by
  have nilS : LogS [] := ⟨by simp, by simp⟩
  have zS : Short (0, ([], (false, ()))) := by simp [Short]
  rw [spec_l20Message_t]
  refine (l20Config_ok k (by omega) 0 N r h (by omega) (by omega)).bind fun q0 hq0 => ?_
  refine (pick_ok k 5 _ _ hq0.1 (by omega) (by omega)).bind fun q1 hq1 => ?_
  refine Ok.bind (P := fun t : Int × (Msg × (Msg × Rd)) => t.1 = n ∧ MsgS t.2.2.1 ∧ RdOk (N + 4200) t.2.2.2) ?_ fun t ht => ?_
  · refine (pick_ok k 3 _ _ hq1.1 (by omega) (by omega)).bind fun q2 hq2 => ?_
    rw [ok_cndS]
    refine ⟨fun _ => ?_, fun _ => ?_⟩
    · refine (pick_ok k 5 _ _ hq2.1 (by omega) (by omega)).bind fun q3 hq3 => ?_
      refine (pick_ok k 5 _ _ hq3.1 (by omega) (by omega)).bind fun q4 hq4 => ?_
      exact (l20Log_ok k hk 0 _ _ hq4.1 (by omega) (by omega)).bind fun q5 hq5 => ok_some.2 ⟨rfl, ⟨zS, hq5.2⟩, hq5.1.le (by omega)⟩
    · rw [ok_cndS]
      refine ⟨fun _ => ?_, fun _ => ok_some.2 ⟨rfl, ⟨hq0.2, nilS⟩, hq2.1.le (by omega)⟩⟩
      exact (pick_ok k 5 _ _ hq2.1 (by omega) (by omega)).bind fun q6 hq6 => ok_some.2 ⟨rfl, ⟨zS, nilS⟩, hq6.1.le (by omega)⟩
  obtain ⟨g1, ⟨g2, g3⟩, g4⟩ := ht
  refine (odd_ok k _ _ _ g4 (by omega) (by rw [g1]; omega)).bind fun q8 hq8 => ?_
  rw [ok_cndS]
  refine ⟨fun _ => ?_, fun _ => ok_some.2 ⟨hq8.le (by omega), g2, g3⟩⟩
  refine (pick_ok k 5 _ _ hq8 (by omega) (by omega)).bind fun q9 hq9 => ?_
  rw [ok_cndS]
  refine ⟨fun _ => ?_, fun _ => ?_⟩
  · refine (pick_ok k 2 _ _ hq9.1 (by omega) (by omega)).bind fun q10 hq10 => ?_
    have b1 := hq10.2.1
    have b2 := hq10.2.2.2.1 (by omega)
    rw [ok_cndS]
    exact ⟨fun _ => ok_some.2 ⟨hq10.1.le (by omega), g2, g3⟩, fun hc => by simp at hc; omega⟩
  rw [ok_cndS]
  refine ⟨fun _ => ?_, fun _ => ?_⟩
  · refine (pick_ok k 2 _ _ hq9.1 (by omega) (by omega)).bind fun q10 hq10 => ?_
    have b1 := hq10.2.1
    have b2 := hq10.2.2.2.1 (by omega)
    rw [ok_cndS]
    exact ⟨fun _ => ok_some.2 ⟨hq10.1.le (by omega), g2, g3⟩, fun hc => by simp at hc; omega⟩
  rw [ok_cndS]
  refine ⟨fun _ => ?_, fun _ => ?_⟩
  · refine (pick_ok k 2 _ _ hq9.1 (by omega) (by omega)).bind fun q10 hq10 => ?_
    have b1 := hq10.2.1
    have b2 := hq10.2.2.2.1 (by omega)
    rw [ok_cndS]
    exact ⟨fun _ => ok_some.2 ⟨hq10.1.le (by omega), g2, g3⟩, fun hc => by simp at hc; omega⟩
  rw [ok_cndS]
  refine ⟨fun _ => ?_, fun _ => ?_⟩
  · exact (l20Log_ok k hk 1 _ _ hq9.1 (by omega) (by omega)).bind fun q13 hq13 => ok_some.2 ⟨hq13.1.le (by omega), g2, hq13.2⟩
  · exact (l20Config_ok k (by omega) 1 _ _ hq9.1 (by omega) (by omega)).bind fun q14 hq14 => ok_some.2 ⟨hq14.1.le (by omega), hq14.2, g3⟩
theorem cfg_not {c : Cfg} (h : cfgOk c = true) : noCfg c = false := by
  have := cfgOk_len h
  have h1 : ¬ c.1 = 0 := by omega
  simp [noCfg, h1]
theorem msg_kind {m : Msg} {x : Int} (h : msgOk m = true) (hx : msgOk (x, m.2) = true) : x = m.1 := by
  obtain ⟨kd, nd, ep, c, l, _⟩ := m
  simp only [msgOk] at h hx
  by_cases a1 : kd = 1 <;> by_cases a2 : kd = 2 <;> by_cases a3 : kd = 3 <;> by_cases b1 : x = 1 <;> by_cases b2 : x = 2 <;> by_cases b3 : x = 3 <;> simp [a1, a2, a3, b1, b2, b3] at h hx ⊢ <;> try omega
  all_goals (first | (have := cfg_not h.2.2.1; simp_all; done) | (have := cfg_not hx.2.2.1; simp_all; done) | omega)
theorem FnMessageValid_true (k : Nat) (hk : 200 ≤ k) (a : List Int) (hb : ∀ x ∈ a, 0 ≤ x ∧ x ≤ 255) : laws_FnMessageValid_t A k (a, ()) () = some ((true, ()), ()) := by
  rw [← ok_eq, laws_FnMessageValid_t, ok_cndS]
  refine ⟨fun _ => ok_some.2 rfl, fun _ => ?_⟩
  refine Ok.bind (P := fun q : (Msg × Unit) × Unit => MsgS q.1.1) ?_ fun q hs => ?_
  · rw [spec_DrawMessageValid_t]
    refine (open_ok k a hb).bind fun q hq => ?_
    exact (l20Message_ok k (by omega) 2 0 q.1 hq (by omega) (by omega)).bind fun q1 h1 => ok_some.2 h1.2
  obtain ⟨⟨m, _⟩, _⟩ := q
  have hloop := iter_for (A := A) (f := laws_FnMessageValid_t_b0 A k) (fun i => (msgOk m, ((i : Int), (m, ())))) 5 (.inl (m, ()))
    (fun i hi => by
      have w : A.wrapI .i64 ((i : Int) + 1) = (i : Int) + 1 := a_wrap (by omega) (by omega)
      have hi' : (i : Int) ≤ 4 := by omega
      cases h1 : msgOk ((i : Int), m.2) with
      | false => simp [laws_FnMessageValid_t_b0, hi', impl_MessageValid_eq k (by omega : 30 ≤ k), w, h1]
      | true =>
        cases h2 : msgOk m with
        | false => simp [laws_FnMessageValid_t_b0, hi', impl_MessageValid_eq k (by omega : 30 ≤ k), w, h1, h2]
        | true =>
          have e := msg_kind h2 h1
          rw [e] at w hi'
          simp [laws_FnMessageValid_t_b0, hi', impl_MessageValid_eq k (by omega : 30 ≤ k), w, h1, h2, e])
    (by simp [laws_FnMessageValid_t_b0]) (k := k) (by omega)
  have h0 : msgOk ((0 : Int), m.2) = false := by simp [msgOk]
  simp only [Int.natCast_zero, Int.ofNat_zero] at hloop
  rw [ok_eq]
  simp [impl_MessageValid_eq k (by omega : 30 ≤ k), spec_MessageValid_eq k (by omega : 30 ≤ k), hloop, h0, alive_eq k (by omega : 10 ≤ k)]
end
theorem FnMessageValid_pure (a : List Int) (h : InR (.slice (.int .u8)) a) : ∃ k, laws_FnMessageValid_t real k (a, ()) () = some ((true, ()), ()) :=
  haveI := isReal_real
  ⟨200, FnMessageValid_true 200 (by omega) a (code_bytes h)⟩
end Go.Den.T
