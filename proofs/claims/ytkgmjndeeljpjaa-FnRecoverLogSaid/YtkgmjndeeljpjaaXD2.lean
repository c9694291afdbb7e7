/- What is drawn: logs, replicas; and the law on replicas. -/
import Derived.Test.YtkgmjndeeljpjaaXD1
import Derived.Test.YtkgmjndeeljpjaaXE4

namespace Go.Den.T
set_option linter.unusedVariables false
set_option linter.unusedSimpArgs false
set_option linter.unusedSectionVars false
variable {A : Atoms} [IsReal A]
def LogS (l : List Ent) : Prop := l.length ≤ 30 ∧ ∀ e ∈ l, EntS e
theorem LogS.get {l : List Ent} {i : Int} (h : ∀ e ∈ l, EntS e) (h0 : 0 ≤ i) (h1 : i < l.length) : EntS (A.atL l i ((0 : Int), ((0 : Int), (((0 : Int), (([] : List UInt8), ((0 : Int), ((0 : Int), ())))), ())))) := by
  rw [a_atL]; exact at_ok (P := EntS) h h0 h1
theorem l20Log_loop0 (k : Nat) (hk : 100 ≤ k) (n N m : Int) (r : Rd) (hm : 0 ≤ m) (hm9 : m < 9) (h : RdOk N r) (hp : N ≤ 600000000) :
    Ok (A.iter k (spec_l20Log_t_b0 A k) (n, ([], (m, r)))) (fun e => e.1 = n ∧ RdOk (N + 1000) e.2.2 ∧ e.2.1.length ≤ 8 ∧ ∀ x ∈ e.2.1, EntS x) := by
  refine iter_ok (fun j s => (j : Int) = s.2.2.1 ∧ s.1 = n ∧ s.2.2.1 ≤ 8 ∧ (s.2.1.length : Int) + s.2.2.1 ≤ 8 ∧ (∀ x ∈ s.2.1, EntS x) ∧ RdOk (N + 110 * (8 - s.2.2.1)) s.2.2.2) _ ?_ (n := m.toNat) (by omega) ⟨by show ((m.toNat : Nat) : Int) = m; omega, rfl, by show m ≤ 8; omega, by show (([] : List Ent).length : Int) + m ≤ 8; simp; omega, by simp, h.le (by show N ≤ N + 110 * (8 - m); omega)⟩
  rintro j ⟨n', l, m, r⟩ ⟨h1, h2, h3, h4, h5, h6⟩
  simp only at h1 h2 h3 h4 h5 h6
  subst h2
  rw [spec_l20Log_t_b0, ok_cndS]
  simp only [a_ltI, decide_eq_true_eq, decide_eq_false_iff_not]
  refine ⟨fun hpos => ?_, fun hneg => ok_some.2 ⟨fun s' e => (by cases e), fun e he => (by injection he with he; subst he; exact ⟨rfl, h6.le (by omega), by show l.length ≤ 8; omega, h5⟩)⟩⟩
  refine (l20Entry_ok k hk 0 _ _ h6 (by omega) (by omega)).bind fun q0 hq0 => ?_
  refine Ok.bind (P := fun r3 => r3.1 = n' ∧ r3.2.1 = l ∧ r3.2.2.1 = m ∧ EntS r3.2.2.2.1 ∧ RdOk (N + 110 * (8 - m) + 60 + 31) r3.2.2.2.2) ?_ fun r3 hr3 => ?_
  · rw [ok_cndS]
    refine ⟨fun _ => ?_, fun _ => ok_some.2 ⟨rfl, rfl, rfl, hq0.2, hq0.1.le (by omega)⟩⟩
    refine (pick_ok k 3 _ _ hq0.1 (by omega) (by omega)).bind fun q1 hq1 => ?_
    rw [ok_cndS]
    refine ⟨fun _ => ?_, fun _ => ok_some.2 ⟨rfl, rfl, rfl, hq0.2, hq1.1.le (by omega)⟩⟩
    exact (l20Cmd_ok k hk 0 _ _ hq1.1 (by omega) (by omega)).bind fun q2 hq2 => ok_some.2 ⟨rfl, rfl, rfl, hq2.2, hq2.1.le (by omega)⟩
  obtain ⟨g1, g2, g3, g4, g5⟩ := hr3
  refine (pick_ok k 8 _ _ g5 (by omega) (by omega)).bind fun q4 hq4 => ?_
  refine Ok.bind (P := fun r7 => r7.1 = n' ∧ r7.2.1 = l ∧ r7.2.2.1 = m ∧ EntS r7.2.2.2.1 ∧ RdOk (N + 110 * (8 - m) + 60 + 31 + 3) r7.2.2.2.2) ?_ fun r7 hr7 => ?_
  · rw [ok_cndS]
    simp only [a_lenL, a_ltI, decide_eq_true_eq, decide_eq_false_iff_not]
    refine ⟨fun hlen => ?_, fun _ => ok_some.2 ⟨g1, g2, g3, g4, hq4.1.le (by omega)⟩⟩
    refine (pick_ok k 6 _ _ hq4.1 (by omega) (by omega)).bind fun q5 hq5 => ?_
    rw [ok_cndS]
    refine ⟨fun _ => ?_, fun _ => ok_some.2 ⟨g1, g2, g3, g4, hq5.1.le (by omega)⟩⟩
    refine (pick_ok k _ _ _ hq5.1 (by omega) (by rw [g2]; omega)).bind fun q6 hq6 => ?_
    have b1 := hq6.2.1
    have b2 := hq6.2.2.2.1 hlen
    rw [ok_cndS]
    refine ⟨fun _ => ok_some.2 ⟨g1, g2, g3, LogS.get (by rw [g2]; exact h5) b1 b2, hq6.1.le (by omega)⟩, fun hc => ?_⟩
    simp at hc; omega
  obtain ⟨f1, f2, f3, f4, f5⟩ := hr7
  have w : A.wrapI .i64 (A.subI r7.2.2.1 1) = m - 1 := by rw [a_subI, f3]; exact a_wrap (by omega) (by omega)
  rw [ok_cndS]
  refine ⟨fun _ => ok_some.2 ⟨fun s' e => ?_, fun e he => (by cases he)⟩, fun hc => ?_⟩
  · injection e with e; subst e
    rw [w, f2, a_appL]
    refine ⟨j - 1, by omega, by show ((j - 1 : Nat) : Int) = m - 1; omega, f1, by show m - 1 ≤ 8; omega, by simp; omega, ?_, f5.le (by show N + 110 * (8 - m) + 60 + 31 + 3 ≤ N + 110 * (8 - (m - 1)); omega)⟩
    intro x hx
    rcases List.mem_append.1 hx with hx | hx
    · exact h5 x hx
    · simp at hx; subst hx; exact f4
  · rw [f2] at hc; simp at hc; omega
theorem l20Log_loop1 (k : Nat) (hk : 100 ≤ k) (N : Int) (l : List Ent) (r : Rd) (hl : l.length ≤ 8) (hs : ∀ e ∈ l, EntS e) (h : RdOk N r) (hp : N ≤ 600000000) :
    Ok (A.iter k (spec_l20Log_t_b1 A k) (l, r)) (fun e => RdOk (N + 2000) e.2 ∧ LogS e.1) := by
  refine iter_ok (fun j s => j + s.1.length = 25 ∧ (∀ x ∈ s.1, EntS x) ∧ RdOk (N + 60 * (s.1.length : Int)) s.2) _ ?_ (n := 25 - l.length) (by omega) ⟨by show 25 - l.length + l.length = 25; omega, hs, h.le (by show N ≤ N + 60 * (l.length : Int); omega)⟩
  rintro j ⟨l, r⟩ ⟨h1, h2, h3⟩
  simp only at h1 h2 h3
  rw [spec_l20Log_t_b1, ok_cndS]
  simp only [a_lenL, a_leI, decide_eq_true_eq, decide_eq_false_iff_not]
  refine ⟨fun hle => ?_, fun hgt => ok_some.2 ⟨fun s' e => (by cases e), fun e he => (by injection he with he; subst he; exact ⟨h3.le (by omega), by show l.length ≤ 30; omega, h2⟩)⟩⟩
  refine (l20Entry_ok k hk 0 _ _ h3 (by omega) (by omega)).bind fun q0 hq0 => ?_
  rw [ok_cndS]
  refine ⟨fun _ => ok_some.2 ⟨fun s' e => ?_, fun e he => (by cases he)⟩, fun hc => ?_⟩
  · injection e with e; subst e
    rw [a_appL]
    refine ⟨j - 1, by omega, by simp; omega, ?_, hq0.1.le (by simp; omega)⟩
    intro x hx
    rcases List.mem_append.1 hx with hx | hx
    · exact h2 x hx
    · simp at hx; subst hx; exact hq0.2
  · simp at hc; omega
theorem l20Log_ok (k : Nat) (hk : 100 ≤ k) (n N : Int) (r : Rd) (h : RdOk N r) (hp : N ≤ 500000000) (hn : n ≤ 1000000000) : Ok (spec_l20Log_t A k ((), (n, ())) r) (fun q => RdOk (N + 4000) q.2 ∧ LogS q.1.1) := by
  rw [spec_l20Log_t]
  refine (pick_ok k 9 _ _ h (by omega) (by omega)).bind fun q0 hq0 => ?_
  have b1 := hq0.2.1
  have b2 := hq0.2.2.2.1 (by omega)
  refine (l20Log_loop0 k hk n _ q0.1.1 q0.2 b1 b2 hq0.1 (by omega)).bind fun q1 hq1 => ?_
  obtain ⟨e1, e2, e3, e4⟩ := hq1
  refine (odd_ok k _ _ _ e2 (by omega) (by rw [e1]; omega)).bind fun q2 hq2 => ?_
  rw [ok_cndS]
  refine ⟨fun _ => ?_, fun _ => ok_some.2 ⟨hq2.le (by omega), by show q1.2.1.length ≤ 30; omega, e4⟩⟩
  refine (pick_ok k 2 _ _ hq2 (by omega) (by omega)).bind fun q3 hq3 => ?_
  rw [ok_cndS]
  refine ⟨fun _ => ?_, fun _ => ?_⟩
  · refine (l20Entry_ok k hk 1 _ _ hq3.1 (by omega) (by omega)).bind fun q4 hq4 => ?_
    rw [ok_cndS]
    refine ⟨fun _ => ok_some.2 ⟨hq4.1.le (by omega), ?_⟩, fun hc => ?_⟩
    · rw [a_appL]
      refine ⟨by simp; omega, fun x hx => ?_⟩
      rcases List.mem_append.1 hx with hx | hx
      · exact e4 x hx
      · simp at hx; subst hx; exact hq4.2
    · simp at hc; omega
  · exact (l20Log_loop1 k hk _ _ _ e3 e4 hq3.1 (by omega)).bind fun q5 hq5 => ok_some.2 ⟨hq5.1.le (by omega), hq5.2⟩
end Go.Den.T
