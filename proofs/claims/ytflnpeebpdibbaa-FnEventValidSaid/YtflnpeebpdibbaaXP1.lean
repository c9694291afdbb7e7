/- Draws of intervals, pairs, sessions, states, checkpoints; the law FnCheckpointValid. -/
import Derived.Test.YtflnpeebpdibbaaXD3
import Derived.Test.YtflnpeebpdibbaaXE8
import Derived.Test.YtflnpeebpdibbaaXTr3

namespace Go.Den.T
set_option linter.unusedVariables false
set_option linter.unusedSimpArgs false
set_option linter.unusedSectionVars false
section
variable {A : Atoms} [IsReal A]
theorem in_bounds {α : Type} {l : List α} {i : Int} (h0 : 0 ≤ i) (h1 : i < l.length) : A.andB (A.le0 i) (A.ltI i (A.lenL l)) = true := by simp [h0, h1]
theorem in_bounds' {α : Type} {l : List α} {i : Int} (h0 : 0 ≤ i) (h1 : i ≤ l.length) : A.andB (A.le0 i) (A.leI i (A.lenL l)) = true := by simp [h0, h1]
theorem l4Place_ok (k : Nat) (l : List Pair) (s : List UInt8) (hk : l.length < k) (hl : l.length ≤ 1000000000) : Ok (spec_l4Place_t A k (l, (s, ())) ()) (fun q => 0 ≤ q.1.1 ∧ q.1.1 ≤ l.length) := by
  rw [spec_l4Place_t]
  refine Ok.bind (P := fun e : Int × Unit => 0 ≤ e.1 ∧ e.1 ≤ l.length) (iter_ok (fun m (st : List Pair × (List UInt8 × (Int × Unit))) => ∃ i : Nat, st = (l, (s, ((i : Int), ()))) ∧ i ≤ l.length ∧ m = l.length - i) _ ?_ (n := l.length) (by omega) ⟨0, rfl, by omega, by omega⟩) fun e he => ok_some.2 he
  rintro m st ⟨i, rfl, hi, rfl⟩
  have w : A.wrapI .i64 (A.addI (i : Int) 1) = ((i + 1 : Nat) : Int) := by rw [a_addI, a_wrap (by omega) (by omega)]; rfl
  rw [spec_l4Place_t_b0, ok_cndS]
  simp only [a_ltI, a_lenL, decide_eq_true_eq, decide_eq_false_iff_not]
  have stop : ∀ e : (List Pair × (List UInt8 × (Int × Unit))) ⊕ (Int × Unit), e = .inr ((i : Int), ()) → (∀ s', e = .inl s' → ∃ m', m' < l.length - i ∧ ∃ j : Nat, s' = (l, (s, ((j : Int), ()))) ∧ j ≤ l.length ∧ m' = l.length - j) ∧ ∀ r, e = .inr r → 0 ≤ r.1 ∧ r.1 ≤ (l.length : Int) := by
    rintro e rfl
    exact ⟨fun s' e => (by cases e), fun r e => (by injection e with e; subst e; exact ⟨by show (0 : Int) ≤ i; omega, by show (i : Int) ≤ _; omega⟩)⟩
  refine ⟨fun hlt => ?_, fun _ => ok_some.2 (stop _ rfl)⟩
  rw [ok_cndS]
  refine ⟨fun _ => ?_, fun hc => by simp [hlt] at hc⟩
  rw [ok_cndS]
  refine ⟨fun _ => ok_some.2 ⟨fun s' e => ?_, fun r e => (by cases e)⟩, fun _ => ok_some.2 (stop _ rfl)⟩
  injection e with e; subst e
  rw [w]
  exact ⟨l.length - (i + 1), by omega, i + 1, rfl, by omega, rfl⟩
theorem PairPut_ok (k : Nat) (hk : 2000 ≤ k) (l : List Pair) (s : List UInt8) (v : Int) : Ok (spec_PairPut_t A k (l, (s, (v, ()))) ()) (fun q => q.1.1.length ≤ l.length + 1) := by
  rw [spec_PairPut_t]
  refine Ok.bind (P := fun t => t = .inr ((([] : List Pair), (false, ())), ()) ∨ (t = .inl (l, (s, (v, (([] : List Pair), ())))) ∧ l.length ≤ 48)) ?_ fun t ht => ?_
  · rw [spec_PairsValid_eq k (by omega), a_obind_some, ok_cndS]
    refine ⟨fun _ => ok_some.2 (.inl rfl), fun h => ?_⟩
    have hp : pairsOk l = true := by simpa using h
    rw [spec_KeyValid_eq k (by omega), a_obind_some, ok_cndS]
    refine ⟨fun _ => ok_some.2 (.inl rfl), fun _ => ?_⟩
    rw [l1In_eq, a_obind_some, ok_cndS]
    exact ⟨fun _ => ok_some.2 (.inl rfl), fun _ => ok_some.2 (.inr ⟨rfl, (pairs_keys hp).1⟩)⟩
  rcases ht with rfl | ⟨rfl, hl⟩
  · rw [a_sumE_inr]; exact ok_some.2 (by simp)
  rw [a_sumE_inl]
  refine (l4Place_ok k l s (by omega) (by omega)).bind fun q hq => ?_
  obtain ⟨⟨i, _⟩, _⟩ := q
  simp only at hq
  have big : (l.length : Int) < 4294967296 := by omega
  refine Ok.bind (P := fun t => (∃ r : (List Pair × (Bool × Unit)) × Unit, t = .inr r ∧ r.1.1.length ≤ l.length + 1) ∨ t = .inl (l, (s, (v, (([] : List Pair), (i, ()))))))  ?_ fun t ht => ?_
  · rw [ok_cndS]
    refine ⟨fun h1 => ?_, fun _ => ok_some.2 (.inr rfl)⟩
    have h1' : i < l.length := by simpa using h1
    have hb := in_bounds (A := A) hq.1 h1'
    have hb2 : A.andB (A.eqI (A.lenL ([] : List Pair)) 0) (A.ltI (A.lenL l) A.big) = true := by simp [big]
    rw [ok_cndS]
    refine ⟨fun _ => ?_, fun hc => (by rw [hb] at hc; cases hc)⟩
    rw [ok_cndS]
    refine ⟨fun _ => ?_, fun _ => ok_some.2 (.inr rfl)⟩
    simp only [a_cndS (A := A), hb, hb2, if_true]
    exact ok_some.2 (.inl ⟨_, rfl, by simp⟩)
  rcases ht with ⟨r, rfl, hr⟩ | rfl
  · rw [a_sumE_inr]; exact ok_some.2 hr
  rw [a_sumE_inl, ok_cndS]
  refine ⟨fun _ => ?_, fun _ => ?_⟩
  · rw [ok_cndS]
    exact ⟨fun _ => ok_some.2 (by simp), fun hc => (by simp at hc; omega)⟩
  · have hb := in_bounds' (A := A) hq.1 hq.2
    have tl : (l.take i.toNat).length ≤ 48 := by rw [List.length_take]; omega
    have dl : (l.drop i.toNat).length ≤ 48 := by rw [List.length_drop]; omega
    have t1 : ((l.take i.toNat).length : Int) < 4294967296 := by omega
    have t2 : ((l.take i.toNat).length : Int) + 1 < 4294967296 := by omega
    have t3 : ((l.take i.toNat).length : Int) + 1 + ((l.drop i.toNat).length : Int) < 4294967296 := by omega
    have e : (l.take i.toNat).length + (l.drop i.toNat).length = l.length := by rw [List.length_take, List.length_drop]; omega
    simp only [a_cndS (A := A), a_le0, a_leI, a_andB, hq.1, hq.2, Bool.and_self, if_true, a_takeL, a_dropL, a_appL, a_lenL, a_addI, a_ltI, a_big, List.length_append, List.length_nil, List.length_cons, List.nil_append, Nat.zero_add, Int.natCast_add, Int.natCast_zero, Int.ofNat_zero, Int.zero_add, Int.natCast_one, Int.ofNat_one, t1, t2, t3, decide_true]
    refine ok_some.2 ?_
    simp only [List.length_append, List.length_cons, List.length_nil]
    omega
theorem l1Weight_ok (k : Nat) (i : Int) : Ok (spec_l1Weight_t A k (i, ()) ()) (fun q => q.1.1 ≠ 0) := by
  rw [spec_l1Weight_t]
  rw [ok_cndS]; refine ⟨fun _ => ok_some.2 (by simp), fun _ => ?_⟩
  rw [ok_cndS]; refine ⟨fun _ => ok_some.2 (by simp), fun _ => ?_⟩
  rw [ok_cndS]; exact ⟨fun _ => ok_some.2 (by simp), fun _ => ok_some.2 (by simp)⟩
theorem KeyAt_ok (k : Nat) (hk : 100 ≤ k) (n : Int) : Ok (spec_KeyAt_t A k (n, ()) ()) (fun _ => True) := by
  rw [spec_KeyAt_t, l1In_eq, a_obind_some, ok_cndS]
  refine ⟨fun _ => ok_some.2 trivial, fun _ => ?_⟩
  refine Ok.bind (P := fun _ => True) (iter_ok (fun m (st : Int × (List UInt8 × (Int × Unit))) => ∃ i : Nat, st.2.2.1 = (i : Int) ∧ i ≤ 4 ∧ m = 4 - i ∧ st.2.1.length = i) _ ?_ (n := 4) (by omega) ⟨0, rfl, by omega, rfl, rfl⟩) fun e _ => ?_
  · rintro m ⟨x, out, j, _⟩ ⟨i, hj, hi, rfl, hlen⟩
    simp only at hj hlen
    subst hj
    have w : A.wrapI .i64 (A.addI (i : Int) 1) = ((i + 1 : Nat) : Int) := by rw [a_addI, a_wrap (by omega) (by omega)]; rfl
    rw [spec_KeyAt_t_b0, ok_cndS]
    refine ⟨fun h1 => ?_, fun _ => ok_some.2 ⟨fun s' e => (by cases e), fun r e => trivial⟩⟩
    have h1' : i < 4 := by have : (i : Int) < 4 := by simpa using h1
                           omega
    refine (l1Weight_ok k _).bind fun q hq => ?_
    rw [ok_cndS]
    refine ⟨fun _ => ?_, fun hc => by simp [hq] at hc⟩
    rw [ok_cndS]
    refine ⟨fun _ => ?_, fun hc => by simp at hc; omega⟩
    refine (l1Weight_ok k _).bind fun q1 hq1 => ?_
    rw [ok_cndS]
    refine ⟨fun _ => ?_, fun hc => by simp [hq1] at hc⟩
    rw [ok_cndS]
    refine ⟨fun _ => ok_some.2 ⟨fun s' e => (by cases e), fun r e => trivial⟩, fun _ => ok_some.2 ⟨fun s' e => ?_, fun r e => (by cases e)⟩⟩
    injection e with e; subst e
    exact ⟨4 - (i + 1), by omega, i + 1, w, by omega, rfl, by simp [hlen]⟩
  · rw [ok_sumE]; exact ⟨fun _ _ => ok_some.2 trivial, fun _ _ => ok_some.2 trivial⟩
theorem PairScan_ok (k : Nat) (hk : 2000 ≤ k) (l : List Pair) (iv : Itv) (n : Int) (hl : l.length ≤ 1000) : Ok (spec_PairScan_t A k (l, (iv, (n, ()))) ()) (fun q => q.1.1.length ≤ l.length) := by
  rw [spec_PairScan_t]
  refine Ok.bind (P := fun t => t = .inr ((([] : List Pair), ()), ()) ∨ t = .inl (l, (n, (([] : List Pair), (iv, ()))))) ?_ fun t ht => ?_
  · rw [spec_PairsValid_eq k (by omega), a_obind_some, ok_cndS]
    refine ⟨fun _ => ok_some.2 (.inl rfl), fun h => ?_⟩
    rw [spec_IntervalValid_eq k (by omega), a_obind_some, ok_cndS]
    refine ⟨fun _ => ok_some.2 (.inl rfl), fun _ => ?_⟩
    rw [l1In_eq, a_obind_some, ok_cndS]
    exact ⟨fun _ => ok_some.2 (.inl rfl), fun _ => ok_some.2 (.inr rfl)⟩
  rcases ht with rfl | rfl
  · rw [a_sumE_inr]; exact ok_some.2 (by simp)
  rw [a_sumE_inl]
  refine Ok.bind (P := fun e : List Pair × Unit => e.1.length ≤ l.length) (iter_ok (fun m (st : List Pair × (Int × (List Pair × (Int × (Itv × Unit))))) => ∃ (i : Nat) (out : List Pair), st = (l, (n, (out, ((i : Int), (iv, ()))))) ∧ i ≤ l.length ∧ m = l.length - i ∧ out.length ≤ i) _ ?_ (n := l.length) (by omega) ⟨0, [], rfl, by omega, by omega, by simp⟩) fun e he => ok_some.2 he
  rintro m st ⟨i, out, rfl, hi, rfl, ho⟩
  have w : A.wrapI .i64 (A.addI (i : Int) 1) = ((i + 1 : Nat) : Int) := by rw [a_addI, a_wrap (by omega) (by omega)]; rfl
  rw [spec_PairScan_t_b0]
  refine Ok.bind (P := fun t => t = .inr (.inr (out, ())) ∨ (t = .inl (l, (n, (out, ((i : Int), (iv, ()))))) ∧ i < l.length)) ?_ fun t ht => ?_
  · rw [ok_cndS]
    refine ⟨fun h1 => ?_, fun _ => ok_some.2 (.inl rfl)⟩
    rw [ok_cndS]
    refine ⟨fun _ => ok_some.2 (.inr ⟨rfl, ?_⟩), fun _ => ok_some.2 (.inl rfl)⟩
    have : (i : Int) < l.length := by simpa using h1
    omega
  rcases ht with rfl | ⟨rfl, hlt⟩
  · rw [a_sumE_inr]
    exact ok_some.2 ⟨fun s' e => (by cases e), fun r e => (by injection e with e; subst e; show out.length ≤ _; omega)⟩
  rw [a_sumE_inl]
  have hb := in_bounds (A := A) (l := l) (i := (i : Int)) (by omega) (by omega)
  rw [ok_cndS]
  refine ⟨fun _ => ?_, fun hc => (by rw [hb] at hc; cases hc)⟩
  rw [IntervalHas_eq k (by omega), a_obind_some, ok_cndS]
  refine ⟨fun _ => ?_, fun _ => ok_some.2 ⟨fun s' e => ?_, fun r e => (by cases e)⟩⟩
  · rw [ok_cndS]
    refine ⟨fun _ => ?_, fun hc => (by rw [hb] at hc; cases hc)⟩
    rw [ok_cndS]
    refine ⟨fun _ => ok_some.2 ⟨fun s' e => ?_, fun r e => (by cases e)⟩, fun hc => (by simp at hc; omega)⟩
    injection e with e; subst e
    exact ⟨l.length - (i + 1), by omega, i + 1, _, by rw [w], by omega, rfl, by simp; omega⟩
  · injection e with e; subst e
    exact ⟨l.length - (i + 1), by omega, i + 1, out, by rw [w], by omega, rfl, by omega⟩
theorem PairsIn_ok (k : Nat) (hk : 2000 ≤ k) (l : List Pair) (iv : Itv) (hl : l.length ≤ 1000) : Ok (spec_PairsIn_t A k (l, (iv, ())) ()) (fun q => q.1.1.length ≤ l.length) := by
  rw [spec_PairsIn_t]
  exact (PairScan_ok k hk l iv 48 hl).bind fun q hq => ok_some.2 hq
theorem l20Span_ok (k : Nat) (hk : 100 ≤ k) (n N : Int) (r : Rd) (h : RdOk N r) (hp : N ≤ 800000000) (hn : n ≤ 1000000000) : Ok (spec_l20Span_t A k ((), (n, ())) r) (fun q => RdOk (N + 40) q.2) := by
  rw [spec_l20Span_t]
  refine (odd_ok k n N r h (by omega) (by omega)).bind fun q hq => ?_
  rw [ok_cndS]
  refine ⟨fun _ => ?_, fun _ => ?_⟩
  · refine (pick_ok k 5 _ _ hq (by omega) (by omega)).bind fun q1 h1 => ?_
    have b1 := h1.2.1
    have b2 := h1.2.2.2.1 (by omega)
    rw [ok_cndS]
    exact ⟨fun _ => ok_some.2 (h1.1.le (by omega)), fun hc => (by simp at hc; omega)⟩
  · refine (l20Key_ok k hk 0 _ _ hq (by omega) (by omega)).bind fun q1 h1 => ?_
    refine (l20Key_ok k hk 0 _ _ h1.1 (by omega) (by omega)).bind fun q2 h2 => ?_
    refine Ok.bind (P := fun t => (∃ r, t = .inr r ∧ RdOk (N + 40) r.2) ∨ ∃ s, t = .inl s ∧ RdOk (N + 40) s.2.2.2) ?_ fun t ht => ?_
    · refine (pick_ok k 6 _ _ h2.1 (by omega) (by omega)).bind fun q3 h3 => ?_
      have h4 := h3.1.le (M := N + 40) (by omega)
      rw [ok_cndS]; refine ⟨fun _ => ok_some.2 (.inl ⟨_, rfl, h4⟩), fun _ => ?_⟩
      rw [ok_cndS]; refine ⟨fun _ => ok_some.2 (.inl ⟨_, rfl, h4⟩), fun _ => ?_⟩
      rw [ok_cndS]; refine ⟨fun _ => ?_, fun _ => ok_some.2 (.inr ⟨_, rfl, h4⟩)⟩
      rw [ok_cndS]; exact ⟨fun _ => ok_some.2 (.inl ⟨_, rfl, h4⟩), fun _ => ok_some.2 (.inr ⟨_, rfl, h4⟩)⟩
    rcases ht with ⟨r, rfl, hr⟩ | ⟨s, rfl, hs⟩
    · rw [a_sumE_inr]; exact ok_some.2 hr
    · rw [a_sumE_inl, ok_cndS]; refine ⟨fun _ => ok_some.2 hs, fun _ => ?_⟩
      rw [ok_cndS]; exact ⟨fun _ => ok_some.2 hs, fun _ => ok_some.2 hs⟩
theorem l20Pairs_ok (k : Nat) (hk : 2000 ≤ k) (n N : Int) (r : Rd) (h : RdOk N r) (hp : N ≤ 800000000) (hn : n ≤ 1000000000) : Ok (spec_l20Pairs_t A k ((), (n, ())) r) (fun q => RdOk (N + 300) q.2 ∧ q.1.1.length ≤ 60) := by
  rw [spec_l20Pairs_t]
  refine (pick_ok k 9 _ _ h (by omega) (by omega)).bind fun q0 h0 => ?_
  have b1 := h0.2.1
  have b2 := h0.2.2.2.1 (by omega)
  refine Ok.bind (P := fun e : Int × (List Pair × Rd) => e.1 = n ∧ e.2.1.length ≤ 8 ∧ RdOk (N + 200) e.2.2) (iter_ok (fun j (s : Int × (List Pair × (Int × Rd))) => s.1 = n ∧ s.2.2.1 = (j : Int) ∧ s.2.1.length + j ≤ 8 ∧ RdOk (N + 1 + 14 * (8 - (j : Int))) s.2.2.2) _ ?_ (n := q0.1.1.toNat) (by omega) ⟨rfl, by show q0.1.1 = _; omega, by show ([] : List Pair).length + _ ≤ 8; simp; omega, h0.1.le (by omega)⟩) fun e he => ?_
  · rintro j ⟨n', l, x, rr⟩ ⟨g0, g1, g2, g3⟩
    simp only at g0 g1 g2 g3
    subst g0 g1
    rw [spec_l20Pairs_t_b0, ok_cndS]
    simp only [a_ltI, decide_eq_true_eq, decide_eq_false_iff_not]
    refine ⟨fun hpos => ?_, fun _ => ok_some.2 ⟨fun s' e => (by cases e), fun e he => (by injection he with he; subst he; exact ⟨rfl, by show l.length ≤ 8; omega, g3.le (by omega)⟩)⟩⟩
    have w' : A.wrapI .i64 (A.subI (j : Int) 1) = ((j - 1 : Nat) : Int) := by rw [a_subI, a_wrap (by omega) (by omega)]; omega
    refine (l20Key_ok k (by omega) 0 _ _ g3 (by omega) (by omega)).bind fun q1 h1 => ?_
    refine (l20Value_ok k 0 _ _ h1.1 (by omega) (by omega)).bind fun q2 h2 => ?_
    refine (PairPut_ok k (by omega) l q1.1.1 q2.1.1).bind fun q3 h3 => ?_
    refine ok_some.2 ⟨fun s' e => ?_, fun e he => (by cases he)⟩
    injection e with e; subst e
    exact ⟨j - 1, by omega, rfl, w', by show q3.1.1.length + _ ≤ 8; omega, h2.1.le (by omega)⟩
  obtain ⟨n1, l1, r1⟩ := e
  obtain ⟨e1, e2, e3⟩ := he
  simp only at e1 e2 e3
  subst e1
  refine Ok.bind (P := fun e : Int × (List Pair × Rd) => e.1 = n1 ∧ e.2.1.length ≤ 48 ∧ RdOk (N + 201) e.2.2) ?_ fun e he => ?_
  · refine (pick_ok k 16 _ _ e3 (by omega) (by omega)).bind fun q1 h1 => ?_
    rw [ok_cndS]
    refine ⟨fun _ => ?_, fun _ => ok_some.2 ⟨rfl, by show l1.length ≤ 48; omega, h1.1.le (by omega)⟩⟩
    refine Ok.bind (P := fun e : Int × (List Pair × Rd) => e.1 = n1 ∧ e.2.1.length ≤ 48 ∧ RdOk (N + 201) e.2.2) (iter_ok (fun m (s : Int × (List Pair × (Int × Rd))) => ∃ i : Nat, s.1 = n1 ∧ s.2.2.1 = (i : Int) ∧ i ≤ 200 ∧ m = 200 - i ∧ s.2.1.length ≤ 48 ∧ RdOk (N + 201) s.2.2.2) _ ?_ (n := 200) (by omega) ⟨0, rfl, rfl, by omega, rfl, by show l1.length ≤ 48; omega, h1.1.le (by omega)⟩) fun e he => ok_some.2 he
    rintro m ⟨n', l, x, rr⟩ ⟨i, g0, g1, g2, rfl, g3, g4⟩
    simp only at g0 g1 g3 g4
    subst g0 g1
    rw [spec_l20Pairs_t_b1]
    refine Ok.bind (P := fun t => t = .inr (.inr (n', (l, rr))) ∨ (t = .inl (n', (l, ((i : Int), rr))) ∧ l.length < 48 ∧ i < 200)) ?_ fun t ht => ?_
    · rw [ok_cndS]
      refine ⟨fun c1 => ?_, fun _ => ok_some.2 (.inl rfl)⟩
      rw [ok_cndS]
      refine ⟨fun c2 => ok_some.2 (.inr ⟨rfl, ?_⟩), fun _ => ok_some.2 (.inl rfl)⟩
      have c1' : (l.length : Int) < 48 := by simpa using c1
      have c2' : (i : Int) < 200 := by simpa using c2
      omega
    rcases ht with rfl | ⟨rfl, hl, hi⟩
    · rw [a_sumE_inr]
      exact ok_some.2 ⟨fun s' e => (by cases e), fun r e => (by injection e with e; subst e; exact ⟨rfl, g3, g4⟩)⟩
    rw [a_sumE_inl]
    refine (KeyAt_ok k (by omega) _).bind fun q2 _ => ?_
    refine (PairPut_ok k (by omega) l q2.1.1 _).bind fun q3 h3 => ?_
    refine ok_some.2 ⟨fun s' e => ?_, fun e he => (by cases he)⟩
    injection e with e; subst e
    have w : A.wrapI .i64 (A.addI (i : Int) 1) = ((i + 1 : Nat) : Int) := by rw [a_addI, a_wrap (by omega) (by omega)]; rfl
    exact ⟨200 - (i + 1), by omega, i + 1, rfl, w, by omega, rfl, by show q3.1.1.length ≤ 48; omega, g4⟩
  obtain ⟨n2, l2, r2⟩ := e
  obtain ⟨f1, f2, f3⟩ := he
  simp only at f1 f2 f3
  subst f1
  refine (odd_ok k _ _ _ f3 (by omega) (by omega)).bind fun q4 h4 => ?_
  rw [ok_cndS]
  refine ⟨fun _ => ?_, fun _ => ok_some.2 ⟨h4.le (by omega), by show l2.length ≤ 60; omega⟩⟩
  refine (pick_ok k 5 _ _ h4 (by omega) (by omega)).bind fun q5 h5 => ?_
  have c1 := h5.2.1
  have c2 := h5.2.2.2.1 (by omega)
  rw [ok_cndS]
  refine ⟨fun _ => ?_, fun hc => (by simp at hc; omega)⟩
  rw [ok_cndS]
  exact ⟨fun _ => ok_some.2 ⟨h5.1.le (by omega), by simp; omega⟩, fun hc => (by simp at hc; omega)⟩
end
end Go.Den.T
