/- What is drawn: keys, values, commands, entries, logs, replicas. -/
import Derived.Test.YtbfndjfjkkfaeaaXC3
import Derived.Test.YtbfndjfjkkfaeaaXTr2
import Derived.Test.YtbfndjfjkkfaeaaXV1

namespace Go.Den.T
set_option linter.unusedVariables false
set_option linter.unusedSimpArgs false
set_option linter.unusedSectionVars false
variable {A : Atoms} [IsReal A]
theorem at_ok {α : Type} {xs : List α} {d : α} {i : Int} {P : α → Prop} (h : ∀ x ∈ xs, P x) (h0 : 0 ≤ i) (h1 : i < xs.length) : P (xs.getD i.toNat d) := by
  have : i.toNat < xs.length := by omega
  rw [getD_lt this]; exact h _ (List.getElem_mem this)
def KeyS (x : List UInt8) : Prop := x.length ≤ 8
def ValS (x : Int) : Prop := -1 ≤ x ∧ x ≤ 1000
theorem l20Key_ok (k : Nat) (hk : 100 ≤ k) (n N : Int) (r : Rd) (h : RdOk N r) (hp : N ≤ 900000000) (hn : n ≤ 1000000000) : Ok (spec_l20Key_t A k ((), (n, ())) r) (fun q => RdOk (N + 10) q.2 ∧ q.1.1.length ≤ 8) := by
  rw [spec_l20Key_t]
  refine (odd_ok k n N r h (by omega) (by omega)).bind fun q hq => ?_
  rw [ok_cndS]
  refine ⟨fun _ => ?_, fun _ => ?_⟩
  · refine (pick_ok k 6 _ _ hq (by omega) (by omega)).bind fun q1 hq1 => ?_
    have b1 := hq1.2.1
    have b2 := hq1.2.2.2.1 (by omega)
    rw [ok_cndS]
    refine ⟨fun _ => ok_some.2 ⟨hq1.1.le (by omega), ?_⟩, fun hc => ?_⟩
    · rw [a_atL]; refine at_ok (P := KeyS) ?_ b1 ?_
      · simp [KeyS]
      · simpa using b2
    · simp at hc; omega
  · refine (pick_ok k 12 _ _ hq (by omega) (by omega)).bind fun q1 hq1 => ?_
    rw [ok_cndS]
    refine ⟨fun _ => ?_, fun _ => ?_⟩
    · refine (pick_ok k 5 _ _ hq1.1 (by omega) (by omega)).bind fun q2 hq2 => ?_
      have b1 := hq2.2.1
      have b2 := hq2.2.2.2.1 (by omega)
      rw [ok_cndS]
      refine ⟨fun _ => ok_some.2 ⟨hq2.1.le (by omega), ?_⟩, fun hc => ?_⟩
      · rw [a_atL]; refine at_ok (P := KeyS) ?_ b1 ?_
        · simp [KeyS]
        · simpa using b2
      · simp at hc; omega
    · refine (pick_ok k 2 _ _ hq1.1 (by omega) (by omega)).bind fun q2 hq2 => ?_
      have b1 := hq2.2.1
      have b2 := hq2.2.2.2.1 (by omega)
      have w : A.wrapI .i64 (A.addI 1 q2.1.1) = 1 + q2.1.1 := by rw [a_addI]; exact a_wrap (by omega) (by omega)
      rw [w]
      refine Ok.bind (P := fun e => RdOk (N + 10) e.2 ∧ e.1.length ≤ 8) (iter_ok (fun j s => (j : Int) = s.2.1 ∧ s.2.1 ≤ 2 ∧ (s.1.length : Int) + s.2.1 ≤ 2 ∧ RdOk (N + 6 - s.2.1) s.2.2) _ ?_ (n := (1 + q2.1.1).toNat) (by omega) ⟨by show (((1 + q2.1.1).toNat : Nat) : Int) = 1 + q2.1.1; omega, by show 1 + q2.1.1 ≤ 2; omega, by show (([] : List UInt8).length : Int) + (1 + q2.1.1) ≤ 2; simp; omega, hq2.1.le (by show N + 1 + 1 + 1 ≤ N + 6 - (1 + q2.1.1); omega)⟩) fun e he => ok_some.2 he
      rintro j ⟨s, m, rr⟩ ⟨h1, h2, h3, h4⟩
      simp only at h1 h2 h3 h4
      rw [spec_l20Key_t_b0, ok_cndS]
      simp only [a_ltI, decide_eq_true_eq, decide_eq_false_iff_not]
      refine ⟨fun hpos => ?_, fun hneg => ok_some.2 ⟨fun s' e => (by cases e), fun e he => (by injection he with he; subst he; exact ⟨h4.le (by omega), by show s.length ≤ 8; omega⟩)⟩⟩
      refine (pick_ok k 4 _ _ h4 (by omega) (by omega)).bind fun q4 hq4 => ?_
      have w2 : A.wrapI .i64 (A.subI m 1) = m - 1 := by rw [a_subI]; exact a_wrap (by omega) (by omega)
      rw [ok_cndS]
      refine ⟨fun _ => ok_some.2 ⟨fun s' e => ?_, fun e he => (by cases he)⟩, fun hc => ?_⟩
      · injection e with e; subst e
        rw [w2]
        refine ⟨j - 1, by omega, by show ((j - 1 : Nat) : Int) = m - 1; omega, by show m - 1 ≤ 2; omega, ?_, hq4.1.le (by show N + 6 - m + 1 ≤ N + 6 - (m - 1); omega)⟩
        simp; omega
      · simp at hc; omega
theorem l20Value_ok (k : Nat) (n N : Int) (r : Rd) (h : RdOk N r) (hp : N ≤ 900000000) (hn : n ≤ 1000000000) : Ok (spec_l20Value_t A k ((), (n, ())) r) (fun q => RdOk (N + 4) q.2 ∧ -1 ≤ q.1.1 ∧ q.1.1 ≤ 1000) := by
  rw [spec_l20Value_t]
  refine (odd_ok k n N r h (by omega) (by omega)).bind fun q hq => ?_
  rw [ok_cndS]
  refine ⟨fun _ => ?_, fun _ => ?_⟩
  · refine (pick_ok k 2 _ _ hq (by omega) (by omega)).bind fun q1 hq1 => ?_
    have b1 := hq1.2.1
    have b2 := hq1.2.2.2.1 (by omega)
    rw [ok_cndS]
    refine ⟨fun _ => ok_some.2 ⟨hq1.1.le (by omega), ?_⟩, fun hc => ?_⟩
    · rw [a_atL]; refine at_ok (P := ValS) ?_ b1 ?_
      · simp [ValS]
      · simpa using b2
    · simp at hc; omega
  · refine (pick_ok k 20 _ _ hq (by omega) (by omega)).bind fun q1 hq1 => ?_
    have b1 := hq1.2.1
    have b2 := hq1.2.2.2.1 (by omega)
    refine (pick_ok k 9 _ _ hq1.1 (by omega) (by omega)).bind fun q2 hq2 => ?_
    have c1 := hq2.2.1
    have c2 := hq2.2.2.2.1 (by omega)
    have d1 : 0 ≤ q2.1.1.tdiv 8 := Int.tdiv_nonneg c1 (by omega)
    have d2 : q2.1.1.tdiv 8 ≤ 1 := by rw [Int.tdiv_eq_ediv_of_nonneg c1]; omega
    have w : A.wrapI .i64 (A.quoI q2.1.1 8) = q2.1.1.tdiv 8 := by rw [a_quoI]; exact a_wrap (by omega) (by omega)
    rw [w, ok_cndS]
    refine ⟨fun _ => ?_, fun hc => by simp at hc⟩
    rw [ok_cndS]
    refine ⟨fun _ => ok_some.2 ⟨hq2.1.le (by omega), ?_⟩, fun hc => ?_⟩
    · rw [a_atL]; refine at_ok (P := ValS) ?_ d1 ?_
      · simp [ValS]; omega
      · simp; omega
    · simp at hc; omega
end Go.Den.T
