/- Bags of messages. -/
import Derived.Test.YtbfndjfjkkfaeaaXR2

namespace Go.Den.T
set_option linter.unusedVariables false
set_option linter.unusedSimpArgs false
set_option linter.unusedSectionVars false
section
variable {A : Atoms} [IsReal A]
def bagOk (l : List Msg) : Bool := decide (l.length ≤ 10) && l.all msgOk
theorem impl_BagValid_eq (k : Nat) (hk : 30 ≤ k) (l : List Msg) : impl_BagValid_t A k (l, ()) () = some ((bagOk l, ()), ()) := by
  by_cases hl : (10 : Int) < l.length
  · have : ¬ l.length ≤ 10 := by omega
    simp [impl_BagValid_t, hl, bagOk, this]
  · have hl' : l.length ≤ 10 := by omega
    have h := iter_all (A := A) (f := impl_BagValid_t_b0 A k) (fun i => (l, ((l.length : Int), ((i : Int), ())))) l.length (fun i => msgOk (l.getD i ((0 : Int), ((0 : Int), ((0 : Int), (((0 : Int), (([] : List Int), (false, ()))), (([] : List Ent), ()))))))) (.inr ((false, ()), ())) (.inl ())
      (fun i hi => by
        simp (disch := omega) [impl_BagValid_t_b0, hi, a_wrap, impl_MessageValid_eq k hk]
        cases msgOk l[i] <;> simp)
      (by simp [impl_BagValid_t_b0]) (k := k) (by omega)
    rw [all_range] at h
    simp only [Int.natCast_zero, Int.ofNat_zero] at h
    simp only [impl_BagValid_t, a_cndS, a_ltI, a_lenL, hl, decide_false, Bool.false_eq_true, if_false, h, a_obind_some, bagOk, hl', decide_true, Bool.true_and]
    cases l.all msgOk <;> simp
theorem spec_BagValid_eq (k : Nat) (hk : 30 ≤ k) (l : List Msg) : spec_BagValid_t A k (l, ()) () = some ((bagOk l, ()), ()) := by
  have h : Ok (A.iter k (spec_BagValid_t_b0 A k) (l, (0, ()))) (fun r => r = if bagOk l = true then .inl () else .inr ((false, ()), ())) := by
    refine iter_ok (fun j s => ∃ i : Nat, s = (l, ((i : Int), ())) ∧ i + j = 10 ∧ i ≤ l.length ∧ (l.take i).all msgOk = true) _ ?_ (n := 10) (by omega) ⟨0, rfl, by omega, by omega, rfl⟩
    rintro j s ⟨i, rfl, hij, hil, hall⟩
    by_cases hi : i < l.length
    · have hi' : (i : Int) < (l.length : Int) := by omega
      by_cases h24 : (10 : Int) ≤ (i : Int)
      · have : ¬ l.length ≤ 10 := by omega
        refine ⟨.inr (.inr ((false, ()), ())), by simp [spec_BagValid_t_b0, hi, h24], fun s' e => (by cases e), fun e he => ?_⟩
        injection he with he; subst he
        simp [bagOk, this]
      · have w : A.wrapI .i64 ((i : Int) + 1) = (i : Int) + 1 := a_wrap (by omega) (by omega)
        by_cases hv : msgOk l[i] = true
        · refine ⟨.inl (l, (((i + 1 : Nat) : Int), ())), by simp [spec_BagValid_t_b0, hi, h24, w, spec_MessageValid_eq k hk, hv], fun s' e => ?_, fun e he => (by cases he)⟩
          injection e with e; subst e
          refine ⟨j - 1, by omega, i + 1, rfl, by omega, by omega, ?_⟩
          rw [List.take_succ_eq_append_getElem hi, List.all_append, hall]; simp [hv]
        · refine ⟨.inr (.inr ((false, ()), ())), by simp [spec_BagValid_t_b0, hi, h24, w, spec_MessageValid_eq k hk, hv], fun s' e => (by cases e), fun e he => ?_⟩
          injection he with he; subst he
          have : l.all msgOk = false := by
            rw [← Bool.not_eq_true, List.all_eq_true]
            exact fun h => hv (h _ (List.getElem_mem hi))
          simp [bagOk, this]
    · have : i = l.length := by omega
      subst this
      rw [List.take_length] at hall
      refine ⟨.inr (.inl ()), by simp [spec_BagValid_t_b0], fun s' e => (by cases e), fun e he => ?_⟩
      injection he with he; subst he
      have : l.length ≤ 10 := by omega
      simp only [bagOk, this, hall, decide_true, Bool.and_self, if_true]
  rw [ok_eq] at h
  rw [spec_BagValid_t, h]
  cases bagOk l <;> simp
def BagS (l : List Msg) : Prop := l.length ≤ 30 ∧ ∀ m ∈ l, MsgS m
theorem l20Bag_ok (k : Nat) (hk : 100 ≤ k) (n N : Int) (r : Rd) (h : RdOk N r) (hp : N ≤ 200000000) (hn : n ≤ 1000000000) : Ok (spec_l20Bag_t A k ((), (n, ())) r) (fun q => RdOk (N + 1000000) q.2 ∧ BagS q.1.1) := by
  rw [spec_l20Bag_t]
  refine (pick_ok k 5 _ _ h (by omega) (by omega)).bind fun q0 hq0 => ?_
  have b0 := hq0.2.1
  have b0' := hq0.2.2.2.1 (by omega)
  refine Ok.bind (P := fun t : Int × (List Msg × (Int × Rd)) => t.1 = n ∧ t.2.1 = [] ∧ 0 ≤ t.2.2.1 ∧ t.2.2.1 ≤ 10 ∧ RdOk (N + 10) t.2.2.2) ?_ fun t ht => ?_
  · refine (pick_ok k 5 _ _ hq0.1 (by omega) (by omega)).bind fun q1 hq1 => ?_
    rw [ok_cndS]
    refine ⟨fun _ => ?_, fun _ => ok_some.2 ⟨rfl, rfl, b0, by show q0.1.1 ≤ 10; omega, hq1.1.le (by omega)⟩⟩
    refine (pick_ok k 2 _ _ hq1.1 (by omega) (by omega)).bind fun q2 hq2 => ?_
    have b1 := hq2.2.1
    have b2 := hq2.2.2.2.1 (by omega)
    have w : A.wrapI .i64 (A.subI 10 q2.1.1) = 10 - q2.1.1 := by rw [a_subI]; exact a_wrap (by omega) (by omega)
    exact ok_some.2 ⟨rfl, rfl, by show 0 ≤ A.wrapI .i64 (A.subI 10 q2.1.1); rw [w]; omega, by show A.wrapI .i64 (A.subI 10 q2.1.1) ≤ 10; rw [w]; omega, hq2.1.le (by omega)⟩
  obtain ⟨t1, l, m, r3⟩ := t
  obtain ⟨g1, g2, g3, g4, g5⟩ := ht
  simp only at g1 g2 g3 g4 g5
  subst g1 g2
  refine Ok.bind (P := fun e : Int × (List Msg × Rd) => e.1 = t1 ∧ e.2.1.length ≤ 10 ∧ (∀ m ∈ e.2.1, MsgS m) ∧ RdOk (N + 200000) e.2.2) (iter_ok (fun j (s : Int × (List Msg × (Int × Rd))) => s.1 = t1 ∧ s.2.2.1 = m ∧ (s.2.1.length : Int) + j = m ∧ (∀ x ∈ s.2.1, MsgS x) ∧ RdOk (N + 10 + 9000 * (s.2.1.length : Int)) s.2.2.2) _ ?_ (n := m.toNat) (by omega) ⟨rfl, rfl, by show ((([] : List Msg).length : Nat) : Int) + (m.toNat : Int) = m; simp; omega, by simp, g5.le (by simp)⟩) fun e he => ?_
  · rintro j ⟨n', l, m', rr⟩ ⟨h1, h2, h3, h4, h5⟩
    simp only at h1 h2 h3 h4 h5
    subst h1 h2
    rw [spec_l20Bag_t_b0, ok_cndS]
    simp only [a_lenL, a_ltI, decide_eq_true_eq, decide_eq_false_iff_not]
    refine ⟨fun hlt => ?_, fun hge => ok_some.2 ⟨fun s' e => (by cases e), fun e he => (by injection he with he; subst he; exact ⟨rfl, by show l.length ≤ 10; omega, h4, h5.le (by omega)⟩)⟩⟩
    refine (l20Message_ok k hk 0 _ _ h5 (by omega) (by omega)).bind fun q hq => ?_
    rw [ok_cndS]
    refine ⟨fun _ => ok_some.2 ⟨fun s' e => ?_, fun e he => (by cases he)⟩, fun hc => by simp at hc; omega⟩
    injection e with e; subst e
    rw [a_appL]
    refine ⟨j - 1, by omega, rfl, rfl, by simp; omega, fun x hx => ?_, hq.1.le (by simp; omega)⟩
    rcases List.mem_append.1 hx with hx | hx
    · exact h4 x hx
    · simp at hx; subst hx; exact hq.2
  · obtain ⟨e1, e2, e3, e4⟩ := he
    refine (odd_ok k _ _ _ e4 (by omega) (by rw [e1]; omega)).bind fun q2 hq2 => ?_
    rw [ok_cndS]
    refine ⟨fun _ => ?_, fun _ => ok_some.2 ⟨hq2.le (by omega), by show e.2.1.length ≤ 30; omega, e3⟩⟩
    refine (pick_ok k 2 _ _ hq2 (by omega) (by omega)).bind fun q3 hq3 => ?_
    rw [ok_cndS]
    refine ⟨fun _ => ?_, fun _ => ?_⟩
    · refine (l20Message_ok k hk 1 _ _ hq3.1 (by omega) (by omega)).bind fun q4 hq4 => ?_
      rw [ok_cndS]
      refine ⟨fun _ => ok_some.2 ⟨hq4.1.le (by omega), ?_⟩, fun hc => by simp at hc; omega⟩
      rw [a_appL]
      refine ⟨by simp; omega, fun x hx => ?_⟩
      rcases List.mem_append.1 hx with hx | hx
      · exact e3 x hx
      · simp at hx; subst hx; exact hq4.2
    · refine Ok.bind (P := fun t : List Msg × Rd => BagS t.1 ∧ RdOk (N + 900000) t.2) (iter_ok (fun j (t : List Msg × Rd) => j + t.1.length = 11 ∧ (∀ x ∈ t.1, MsgS x) ∧ RdOk (N + 200002 + 9000 * (t.1.length : Int)) t.2) _ ?_ (n := 11 - e.2.1.length) (by omega) ⟨by show 11 - e.2.1.length + e.2.1.length = 11; omega, e3, hq3.1.le (by show N + 200000 + 1 + 1 ≤ N + 200002 + 9000 * (e.2.1.length : Int); omega)⟩) fun t ht => ok_some.2 ⟨ht.2.le (by omega), ht.1⟩
      rintro j ⟨l, rr⟩ ⟨h1, h2, h3⟩
      simp only at h1 h2 h3
      rw [spec_l20Bag_t_b1, ok_cndS]
      simp only [a_lenL, a_leI, decide_eq_true_eq, decide_eq_false_iff_not]
      refine ⟨fun hle => ?_, fun hgt => ok_some.2 ⟨fun s' e => (by cases e), fun e he => (by injection he with he; subst he; exact ⟨⟨by show l.length ≤ 30; omega, h2⟩, h3.le (by omega)⟩)⟩⟩
      refine (l20Message_ok k hk 0 _ _ h3 (by omega) (by omega)).bind fun q hq => ?_
      rw [ok_cndS]
      refine ⟨fun _ => ok_some.2 ⟨fun s' e => ?_, fun e he => (by cases he)⟩, fun hc => by simp at hc; omega⟩
      injection e with e; subst e
      rw [a_appL]
      refine ⟨j - 1, by omega, by simp; omega, fun x hx => ?_, hq.1.le (by simp; omega)⟩
      rcases List.mem_append.1 hx with hx | hx
      · exact h2 x hx
      · simp at hx; subst hx; exact hq.2
theorem FnBagValid_true (k : Nat) (hk : 200 ≤ k) (a : List Int) (hb : ∀ x ∈ a, 0 ≤ x ∧ x ≤ 255) : laws_FnBagValid_t A k (a, ()) () = some ((true, ()), ()) := by
  rw [← ok_eq, laws_FnBagValid_t, ok_cndS]
  refine ⟨fun _ => ok_some.2 rfl, fun _ => ?_⟩
  refine Ok.bind (P := fun q : (List Msg × Unit) × Unit => BagS q.1.1) ?_ fun q hs => ?_
  · rw [spec_DrawBagValid_t]
    refine (open_ok k a hb).bind fun q hq => ?_
    exact (l20Bag_ok k (by omega) 2 0 q.1 hq (by omega) (by omega)).bind fun q1 h1 => ok_some.2 h1.2
  obtain ⟨⟨l, _⟩, _⟩ := q
  have hl : l.length ≤ 30 := hs.1
  have g1 : (l.length : Int) < 4294967296 := by omega
  have g2 : (l.length : Int) + 1 < 4294967296 := by omega
  have e1 : bagOk (l ++ [((0 : Int), ((0 : Int), ((0 : Int), (((0 : Int), (([] : List Int), (false, ()))), (([] : List Ent), ())))))]) = false := by
    have : msgOk ((0 : Int), ((0 : Int), ((0 : Int), (((0 : Int), (([] : List Int), (false, ()))), (([] : List Ent), ()))))) = false := by simp [msgOk]
    simp [bagOk, this]
  have e2 : bagOk l = true → bagOk (l.drop 1) = true := fun h => by
    simp only [bagOk, Bool.and_eq_true, decide_eq_true_eq, List.all_eq_true] at h ⊢
    exact ⟨by simp; omega, fun x hx => h.2 x (List.mem_of_mem_drop hx)⟩
  rw [ok_eq]
  cases h : bagOk l with
  | false => simp [impl_BagValid_eq k (by omega : 30 ≤ k), spec_BagValid_eq k (by omega : 30 ≤ k), g1, g2, e1, h, alive_eq k (by omega : 10 ≤ k)]
  | true =>
    by_cases h0 : l = []
    · subst h0; simp [impl_BagValid_eq k (by omega : 30 ≤ k), spec_BagValid_eq k (by omega : 30 ≤ k), h, alive_eq k (by omega : 10 ≤ k)] at e1 ⊢; simp [e1]
    · have h1 : (1 : Int) ≤ (l.length : Int) := by have := List.length_pos_iff.2 h0; omega
      have e2' := e2 h
      rw [List.drop_one] at e2'
      simp [impl_BagValid_eq k (by omega : 30 ≤ k), spec_BagValid_eq k (by omega : 30 ≤ k), g1, g2, e1, h, h0, h1, e2', alive_eq k (by omega : 10 ≤ k)]
end
theorem FnBagValid_pure (a : List Int) (h : InR (.slice (.int .u8)) a) : ∃ k, laws_FnBagValid_t real k (a, ()) () = some ((true, ()), ()) :=
  haveI := isReal_real
  ⟨200, FnBagValid_true 200 (by omega) a (code_bytes h)⟩
end Go.Den.T
