/- What is drawn: keys, values, commands, entries, logs, replicas. -/
import Derived.Test.YtkgmjndeeljpjaaXC3
import Derived.Test.YtkgmjndeeljpjaaXTr2
import Derived.Test.YtkgmjndeeljpjaaXV1

namespace Go.Den.T
set_option linter.unusedVariables false
set_option linter.unusedSimpArgs false
set_option linter.unusedSectionVars false
variable {A : Atoms} [IsReal A]
theorem at_ok {α : Type} {xs : List α} {d : α} {i : Int} {P : α → Prop} (h : ∀ x ∈ xs, P x) (h0 : 0 ≤ i) (h1 : i < xs.length) : P (xs.getD i.toNat d) := by
  have : i.toNat < xs.length := by omega
  rw [getD_lt this]; exact h _ (List.getElem_mem this)
def KeyS (x : List UInt8) : Prop := x.length ≤ 8
def ValS (x : Int) : Prop := -1 ≤ x ∧ x ≤ 1000
theorem l20Key_ok (k : Nat) (hk : 100 ≤ k) (n N : Int) (r : Rd) (h : RdOk N r) (hp : N ≤ 900000000) (hn : n ≤ 1000000000) : Ok (spec_l20Key_t A k ((), (n, ())) r) (fun q => RdOk (N + 10) q.2 ∧ q.1.1.length ≤ 8) := by
  rw [spec_l20Key_t]
  refine (odd_ok k n N r h (by omega) (by omega)).bind fun q hq => ?_
  rw [ok_cndS]
  refine ⟨fun _ => ?_, fun _ => ?_⟩
  · refine (pick_ok k 6 _ _ hq (by omega) (by omega)).bind fun q1 hq1 => ?_
    have b1 := hq1.2.1
    have b2 := hq1.2.2.2.1 (by omega)
    rw [ok_cndS]
    refine ⟨fun _ => ok_some.2 ⟨hq1.1.le (by omega), ?_⟩, fun hc => ?_⟩
    · rw [a_atL]; refine at_ok (P := KeyS) ?_ b1 ?_
      · simp [KeyS]
      · simpa using b2
    · simp at hc; omega
  · refine (pick_ok k 12 _ _ hq (by omega) (by omega)).bind fun q1 hq1 => ?_
    rw [ok_cndS]
    refine ⟨fun _ => ?_, fun _ => ?_⟩
    · refine (pick_ok k 5 _ _ hq1.1 (by omega) (by omega)).bind fun q2 hq2 => ?_
      have b1 := hq2.2.1
      have b2 := hq2.2.2.2.1 (by omega)
      rw [ok_cndS]
      refine ⟨fun _ => ok_some.2 ⟨hq2.1.le (by omega), ?_⟩, fun hc => ?_⟩
      · rw [a_atL]; refine at_ok (P := KeyS) ?_ b1 ?_
        · simp [KeyS]
        · simpa using b2
      · simp at hc; omega
    · refine (pick_ok k 2 _ _ hq1.1 (by omega) (by omega)).bind fun q2 hq2 => ?_
      have b1 := hq2.2.1
      have b2 := hq2.2.2.2.1 (by omega)
      have w : A.wrapI .i64 (A.addI 1 q2.1.1) = 1 + q2.1.1 := by rw [a_addI]; exact a_wrap (by omega) (by omega)
      rw [w]
      refine Ok.bind (P := fun e => RdOk (N + 10) e.2 ∧ e.1.length ≤ 8) (iter_ok (fun j s => (j : Int) = s.2.1 ∧ s.2.1 ≤ 2 ∧ (s.1.length : Int) + s.2.1 ≤ 2 ∧ RdOk (N + 6 - s.2.1) s.2.2) _ ?_ (n := (1 + q2.1.1).toNat) (by omega) ⟨by show (((1 + q2.1.1).toNat : Nat) : Int) = 1 + q2.1.1; omega, by show 1 + q2.1.1 ≤ 2; omega, by show (([] : List UInt8).length : Int) + (1 + q2.1.1) ≤ 2; simp; omega, hq2.1.le (by show N + 1 + 1 + 1 ≤ N + 6 - (1 + q2.1.1); omega)⟩) fun e he => ok_some.2 he
      rintro j ⟨s, m, rr⟩ ⟨h1, h2, h3, h4⟩
      simp only at h1 h2 h3 h4
      rw [spec_l20Key_t_b0, ok_cndS]
      simp only [a_ltI, decide_eq_true_eq, decide_eq_false_iff_not]
      refine ⟨fun hpos => ?_, fun hneg => ok_some.2 ⟨fun s' e => (by cases e), fun e he => (by injection he with he; subst he; exact ⟨h4.le (by omega), by show s.length ≤ 8; omega⟩)⟩⟩
      refine (pick_ok k 4 _ _ h4 (by omega) (by omega)).bind fun q4 hq4 => ?_
      have w2 : A.wrapI .i64 (A.subI m 1) = m - 1 := by rw [a_subI]; exact a_wrap (by omega) (by omega)
      rw [ok_cndS]
      refine ⟨fun _ => ok_some.2 ⟨fun s' e => ?_, fun e he => (by cases he)⟩, fun hc => ?_⟩
      · injection e with e; subst e
        rw [w2]
        refine ⟨j - 1, by omega, by show ((j - 1 : Nat) : Int) = m - 1; omega, by show m - 1 ≤ 2; omega, ?_, hq4.1.le (by show N + 6 - m + 1 ≤ N + 6 - (m - 1); omega)⟩
        simp; omega
      · simp at hc; omega
theorem l20Value_ok (k : Nat) (n N : Int) (r : Rd) (h : RdOk N r) (hp : N ≤ 900000000) (hn : n ≤ 1000000000) : Ok (spec_l20Value_t A k ((), (n, ())) r) (fun q => RdOk (N + 4) q.2 ∧ -1 ≤ q.1.1 ∧ q.1.1 ≤ 1000) := by
  rw [spec_l20Value_t]
  refine (odd_ok k n N r h (by omega) (by omega)).bind fun q hq => ?_
  rw [ok_cndS]
  refine ⟨fun _ => ?_, fun _ => ?_⟩
  · refine (pick_ok k 2 _ _ hq (by omega) (by omega)).bind fun q1 hq1 => ?_
    have b1 := hq1.2.1
    have b2 := hq1.2.2.2.1 (by omega)
    rw [ok_cndS]
    refine ⟨fun _ => ok_some.2 ⟨hq1.1.le (by omega), ?_⟩, fun hc => ?_⟩
    · rw [a_atL]; refine at_ok (P := ValS) ?_ b1 ?_
      · simp [ValS]
      · simpa using b2
    · simp at hc; omega
  · refine (pick_ok k 20 _ _ hq (by omega) (by omega)).bind fun q1 hq1 => ?_
    have b1 := hq1.2.1
    have b2 := hq1.2.2.2.1 (by omega)
    refine (pick_ok k 9 _ _ hq1.1 (by omega) (by omega)).bind fun q2 hq2 => ?_
    have c1 := hq2.2.1
    have c2 := hq2.2.2.2.1 (by omega)
    have d1 : 0 ≤ q2.1.1.tdiv 8 := Int.tdiv_nonneg c1 (by omega)
    have d2 : q2.1.1.tdiv 8 ≤ 1 := by rw [Int.tdiv_eq_ediv_of_nonneg c1]; omega
    have w : A.wrapI .i64 (A.quoI q2.1.1 8) = q2.1.1.tdiv 8 := by rw [a_quoI]; exact a_wrap (by omega) (by omega)
    rw [w, ok_cndS]
    refine ⟨fun _ => ?_, fun hc => by simp at hc⟩
    rw [ok_cndS]
    refine ⟨fun _ => ok_some.2 ⟨hq2.1.le (by omega), ?_⟩, fun hc => ?_⟩
    · rw [a_atL]; refine at_ok (P := ValS) ?_ d1 ?_
      · simp [ValS]; omega
      · simp; omega
    · simp at hc; omega
/-- a command whose key is short -/
def CmdS (c : Cmd) : Prop := c.2.1.length ≤ 8
theorem l20Cmd_ok (k : Nat) (hk : 100 ≤ k) (n N : Int) (r : Rd) (h : RdOk N r) (hp : N ≤ 800000000) (hn : n ≤ 1000000000) : Ok (spec_l20Cmd_t A k ((), (n, ())) r) (fun q => RdOk (N + 30) q.2 ∧ CmdS q.1.1) := by
  rw [spec_l20Cmd_t]
  refine (odd_ok k n N r h (by omega) (by omega)).bind fun q hq => ?_
  rw [ok_cndS]
  refine ⟨fun _ => ?_, fun _ => ?_⟩
  · refine (pick_ok k 10 _ _ hq (by omega) (by omega)).bind fun q1 hq1 => ?_
    have b1 := hq1.2.1
    have b2 := hq1.2.2.2.1 (by omega)
    rw [ok_cndS]
    refine ⟨fun _ => ok_some.2 ⟨hq1.1.le (by omega), ?_⟩, fun hc => ?_⟩
    · rw [a_atL]; refine at_ok (P := CmdS) ?_ b1 ?_
      · simp [CmdS]
      · simpa using b2
    · simp at hc; omega
  · refine (l20Key_ok k hk 0 _ _ hq (by omega) (by omega)).bind fun q1 hq1 => ?_
    refine Ok.bind (P := fun r5 => RdOk (N + 14) r5.2.2 ∧ r5.1.length ≤ 8) ?_ fun r5 h5 => ?_
    · refine (pick_ok k 2 _ _ hq1.1 (by omega) (by omega)).bind fun q2 hq2 => ?_
      rw [ok_cndS]
      refine ⟨fun _ => ?_, fun _ => ok_some.2 ⟨hq2.1.le (by omega), hq1.2⟩⟩
      refine (pick_ok k 4 _ _ hq2.1 (by omega) (by omega)).bind fun q3 hq3 => ?_
      have b1 := hq3.2.1
      have b2 := hq3.2.2.2.1 (by omega)
      rw [ok_cndS]
      refine ⟨fun _ => ok_some.2 ⟨hq3.1.le (by omega), ?_⟩, fun hc => ?_⟩
      · rw [a_atL]; refine at_ok (P := KeyS) ?_ b1 ?_
        · simp [KeyS]
        · simpa using b2
      · simp at hc; omega
    · refine (pick_ok k 8 _ _ h5.1 (by omega) (by omega)).bind fun q6 hq6 => ?_
      rw [ok_cndS]
      refine ⟨fun _ => ok_some.2 ⟨hq6.1.le (by omega), h5.2⟩, fun _ => ?_⟩
      rw [ok_cndS]
      refine ⟨fun _ => ok_some.2 ⟨hq6.1.le (by omega), h5.2⟩, fun _ => ?_⟩
      rw [ok_cndS]
      refine ⟨fun _ => ?_, fun _ => ?_⟩
      · refine (pick_ok k 5 _ _ hq6.1 (by omega) (by omega)).bind fun q7 hq7 => ?_
        exact (pick_ok k 5 _ _ hq7.1 (by omega) (by omega)).bind fun q8 hq8 => ok_some.2 ⟨hq8.1.le (by omega), h5.2⟩
      · refine (l20Value_ok k 0 _ _ hq6.1 (by omega) (by omega)).bind fun q9 hq9 => ?_
        rw [ok_cndS]
        exact ⟨fun _ => ok_some.2 ⟨hq9.1.le (by omega), h5.2⟩, fun hc => by simp at hc⟩
theorem l20Any_ok (k : Nat) (hk : 100 ≤ k) (n N : Int) (r : Rd) (h : RdOk N r) (hp : N ≤ 800000000 - 100) (hn : n ≤ 1000000000) : Ok (spec_l20Any_t A k ((), (n, ())) r) (fun q => RdOk (N + 50) q.2 ∧ CmdS q.1.1) := by
  rw [spec_l20Any_t]
  refine (l20Cmd_ok k hk n N r h (by omega) hn).bind fun q hq => ?_
  refine (pick_ok k 5 _ _ hq.1 (by omega) (by omega)).bind fun q1 hq1 => ?_
  rw [ok_cndS]
  refine ⟨fun _ => ?_, fun _ => ok_some.2 ⟨hq1.1.le (by omega), hq.2⟩⟩
  refine (l20Key_ok k hk 0 _ _ hq1.1 (by omega) (by omega)).bind fun q2 hq2 => ?_
  refine (pick_ok k 4 _ _ hq2.1 (by omega) (by omega)).bind fun q3 hq3 => ?_
  have b1 := hq3.2.1
  have b2 := hq3.2.2.2.1 (by omega)
  rw [ok_cndS]
  refine ⟨fun _ => ok_some.2 ⟨hq3.1.le (by omega), ?_⟩, fun hc => ?_⟩
  · rw [a_atL]; refine at_ok (P := KeyS) ?_ b1 ?_
    · simp [KeyS]; exact hq2.2
    · simpa using b2
  · simp at hc; omega
def EntS (e : Ent) : Prop := CmdS e.2.2.1
theorem l20Entry_ok (k : Nat) (hk : 100 ≤ k) (n N : Int) (r : Rd) (h : RdOk N r) (hp : N ≤ 700000000) (hn : n ≤ 1000000000) : Ok (spec_l20Entry_t A k ((), (n, ())) r) (fun q => RdOk (N + 60) q.2 ∧ EntS q.1.1) := by
  rw [spec_l20Entry_t]
  refine (pick_ok k 4 _ _ h (by omega) (by omega)).bind fun q0 hq0 => ?_
  refine (pick_ok k 6 _ _ hq0.1 (by omega) (by omega)).bind fun q1 hq1 => ?_
  refine (l20Any_ok k hk 0 _ _ hq1.1 (by omega) (by omega)).bind fun q2 hq2 => ?_
  refine (odd_ok k n _ _ hq2.1 (by omega) (by omega)).bind fun q3 hq3 => ?_
  rw [ok_cndS]
  refine ⟨fun _ => ?_, fun _ => ok_some.2 ⟨hq3.le (by omega), hq2.2⟩⟩
  refine (pick_ok k 6 _ _ hq3 (by omega) (by omega)).bind fun q4 hq4 => ?_
  have b1 := hq4.2.1
  have b2 := hq4.2.2.2.1 (by omega)
  rw [ok_cndS]
  refine ⟨fun _ => ok_some.2 ⟨hq4.1.le (by omega), ?_⟩, fun hc => ?_⟩
  · rw [a_atL]; refine at_ok (P := EntS) ?_ b1 ?_
    · simp [EntS, CmdS]; exact hq2.2
    · simpa using b2
  · simp at hc; omega
end Go.Den.T
