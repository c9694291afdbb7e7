/- Events drawn; the law FnEventValid. -/
import Derived.Test.YtflnpeebpdibbaaXC5
import Derived.Test.YtflnpeebpdibbaaXP7
import Derived.Test.YtflnpeebpdibbaaXTr5

namespace Go.Den.T
set_option linter.unusedVariables false
set_option linter.unusedSimpArgs false
set_option linter.unusedSectionVars false
set_option maxRecDepth 100000
section
variable {A : Atoms} [IsReal A]
abbrev Ans := Ent × (Int × Unit)
abbrev Chn := Stt × (Cfg × (List Rep × (List Bool × (List Msg × (List Ans × Unit)))))
theorem l20Base_ok (k : Nat) (hk : 2000 ≤ k) (N : Int) (r : Rd) (h : RdOk N r) (hp : N ≤ 500000000) : Ok (spec_l20Base_t A k ((), ()) r) (fun q => RdOk (N + 1010) q.2 ∧ StS q.1.1) := by
  rw [spec_l20Base_t]
  refine (pick_ok k 2 _ _ h (by omega) (by omega)).bind fun q hq => ?_
  rw [ok_cndS]
  refine ⟨fun _ => ?_, fun _ => ?_⟩
  · have e : spec_NewState_t A k ((([] : List UInt8), (([] : List UInt8), ())), ()) () = some (((((([] : List UInt8), (([] : List UInt8), ())), (([] : List Pair), (([] : List Ses), (false, (([] : List UInt8), ()))))) : Stt), ()), ()) := by
      simp only [spec_NewState_t, spec_IntervalValid_eq k (by omega : 10 ≤ k), a_obind_some, a_cndS]
      split <;> rfl
    rw [e, a_obind_some]
    exact ok_some.2 ⟨hq.1.le (by omega), by simp, by simp⟩
  · exact (l20State_ok k hk 0 _ _ hq.1 (by omega) (by omega)).bind fun q1 h1 => ok_some.2 ⟨h1.1.le (by omega), h1.2.1, h1.2.2⟩
theorem l20Members_ok (k : Nat) (hk : 100 ≤ k) (n N : Int) (r : Rd) (h : RdOk N r) (hp : N ≤ 800000000) (hn : n ≤ 1000000000) : Ok (spec_l20Members_t A k ((), (n, ())) r) (fun q => RdOk (N + 10) q.2 ∧ q.1.1.length ≤ 5) := by
  rw [spec_l20Members_t]
  refine (pick_ok k 5 _ _ h (by omega) (by omega)).bind fun q0 h0 => ?_
  refine (pick_ok k 4 _ _ h0.1 (by omega) (by omega)).bind fun q1 h1 => ?_
  refine (pick_ok k 4 _ _ h1.1 (by omega) (by omega)).bind fun q2 h2 => ?_
  have a1 := h0.2.1
  have a2 := h0.2.2.2.1 (by omega)
  have b1 := h1.2.1
  have b2 := h1.2.2.2.1 (by omega)
  have c1 := h2.2.1
  have c2 := h2.2.2.2.1 (by omega)
  have w1 : A.wrapI .i64 (A.addI 1 q1.1.1) = 1 + q1.1.1 := by rw [a_addI]; exact a_wrap (by omega) (by omega)
  have w2 : A.wrapI .i64 (A.addI 1 q2.1.1) = 1 + q2.1.1 := by rw [a_addI]; exact a_wrap (by omega) (by omega)
  rw [w1, w2]
  refine Ok.bind (P := fun e : Int × (List Int × Rd) => e.1 = n ∧ e.2.1.length ≤ 4 ∧ RdOk (N + 3) e.2.2) (iter_ok (fun j (s : Int × (List Int × (Int × (Int × (Int × Rd))))) => s.1 = n ∧ s.2.2.2.2.1 = (j : Int) ∧ s.2.1.length + j ≤ 4 ∧ RdOk (N + 3) s.2.2.2.2.2) _ ?_ (n := (1 + q2.1.1).toNat) (by omega) ⟨rfl, by show 1 + q2.1.1 = _; omega, by show ([] : List Int).length + _ ≤ 4; simp; omega, h2.1.le (by omega)⟩) fun e he => ?_
  · rintro j ⟨n', l, x, st, c, rr⟩ ⟨g0, g1, g2, g3⟩
    simp only at g0 g1 g2 g3
    subst g0 g1
    rw [spec_l20Members_t_b0, ok_cndS]
    simp only [a_ltI, decide_eq_true_eq, decide_eq_false_iff_not]
    refine ⟨fun hpos => ?_, fun _ => ok_some.2 ⟨fun s' e => (by cases e), fun e he => (by injection he with he; subst he; exact ⟨rfl, by show l.length ≤ 4; omega, g3⟩)⟩⟩
    have w' : A.wrapI .i64 (A.subI (j : Int) 1) = ((j - 1 : Nat) : Int) := by rw [a_subI, a_wrap (by omega) (by omega)]; omega
    rw [ok_cndS]
    refine ⟨fun _ => ?_, fun hc => (by simp at hc; omega)⟩
    rw [ok_cndS]
    refine ⟨fun _ => ok_some.2 ⟨fun s' e => ?_, fun e he => (by cases he)⟩, fun hc => (by simp at hc)⟩
    injection e with e; subst e
    exact ⟨j - 1, by omega, rfl, w', by simp; omega, g3⟩
  · obtain ⟨e1, e2, e3⟩ := he
    refine (odd_ok k _ _ _ e3 (by omega) (by rw [e1]; omega)).bind fun q4 h4 => ?_
    rw [ok_cndS]
    refine ⟨fun _ => ?_, fun _ => ok_some.2 ⟨h4.le (by omega), by show e.2.1.length ≤ 5; omega⟩⟩
    refine (pick_ok k 4 _ _ h4 (by omega) (by omega)).bind fun q5 h5 => ?_
    have d1 := h5.2.1
    have d2 := h5.2.2.2.1 (by omega)
    rw [ok_cndS]
    refine ⟨fun _ => ok_some.2 ⟨h5.1.le (by omega), ?_⟩, fun hc => (by simp at hc; omega)⟩
    rw [a_atL]
    exact at_ok (P := fun x : List Int => x.length ≤ 5) (by simp) d1 (by simpa using d2)
/-- a chain whose lists, as far as draws look at them, are short -/
def ChnS (c : Chn) : Prop := c.2.1.2.1.length ≤ 10 ∧ c.2.2.2.2.1.length ≤ 1000
theorem l20Event_ok (k : Nat) (hk : 100 ≤ k) (c : Chn) (seq N : Int) (r : Rd) (hc : ChnS c) (hc0 : 0 < c.2.1.2.1.length) (h : RdOk N r) (hp : N ≤ 700000000) : Ok (spec_l20Event_t A k ((), (c, (seq, ()))) r) (fun q => RdOk (N + 120) q.2) := by
  obtain ⟨hc1, hc2⟩ := hc
  have w : A.wrapI .i64 (A.subI (A.lenL c.2.1.2.1) 1) = (c.2.1.2.1.length : Int) - 1 := by rw [a_subI, a_lenL]; exact a_wrap (by omega) (by omega)
  rw [spec_l20Event_t]
  dsimp only
  refine ok_cndS.2 ⟨fun _ => ?_, fun hb => (by rw [in_bounds (by omega) (by omega)] at hb; cases hb)⟩
  refine ok_cndS.2 ⟨fun _ => ?_, fun hb => (by rw [w, in_bounds (by omega) (by omega)] at hb; cases hb)⟩
  refine (pick_ok k _ _ _ h (by omega) (by rw [a_lenL]; omega)).bind fun q0 h0 => ?_
  have a1 := h0.2.1
  have a2 := h0.2.2.2.1 (by rw [a_lenL]; omega)
  rw [a_lenL] at a2
  refine ok_cndS.2 ⟨fun _ => ?_, fun hb => (by simp at hb; omega)⟩
  refine (pick_ok k 5 _ _ h0.1 (by omega) (by omega)).bind fun q1 h1 => ?_
  refine Ok.bind (P := fun t : Int × (Int × (Int × (Int × (Int × (Int × (Evt × Rd)))))) => RdOk (N + 5) t.2.2.2.2.2.2.2) ?_ fun t ht => ?_
  · refine ok_cndS.2 ⟨fun _ => ?_, fun _ => ok_some.2 (h1.1.le (by omega))⟩
    exact (pick_ok k _ _ _ h1.1 (by omega) (by rw [a_lenL]; omega)).bind fun q2 h2 => ok_some.2 (h2.1.le (by omega))
  refine (pick_ok k 3 _ _ ht (by omega) (by omega)).bind fun q4 h4 => ?_
  refine Ok.bind (P := fun t : (Int × (Int × (Evt × Rd))) ⊕ ((Evt × Unit) × Rd) => (∀ e, t = .inr e → RdOk (N + 70) e.2) ∧ (∀ s, t = .inl s → RdOk (N + 70) s.2.2.2)) ?_ fun t2 ht2 => ?_
  · refine (pick_ok k 24 _ _ h4.1 (by omega) (by omega)).bind fun q5 h5 => ?_
    have m5 : RdOk (N + 70) q5.2 := h5.1.le (by omega)
    have n5 : RdOk (N + 10) q5.2 := h5.1.le (by omega)
    have leafR : ∀ e : Evt × Unit, Ok (some (.inr (e, q5.2)) : Option ((Int × (Int × (Evt × Rd))) ⊕ ((Evt × Unit) × Rd))) (fun t => (∀ e, t = .inr e → RdOk (N + 70) e.2) ∧ (∀ s, t = .inl s → RdOk (N + 70) s.2.2.2)) := fun e => ok_some.2 ⟨fun e he => (by injection he with he; subst he; exact m5), fun s hs => (by cases hs)⟩
    have leafL : ∀ (a b : Int) (e : Evt), Ok (some (.inl (a, (b, (e, q5.2)))) : Option ((Int × (Int × (Evt × Rd))) ⊕ ((Evt × Unit) × Rd))) (fun t => (∀ e, t = .inr e → RdOk (N + 70) e.2) ∧ (∀ s, t = .inl s → RdOk (N + 70) s.2.2.2)) := fun a b e => ok_some.2 ⟨fun e he => (by cases he), fun s hs => (by injection hs with hs; subst hs; exact m5)⟩
    repeat' first
      | exact leafR _
      | exact leafL _ _ _
      | refine ok_cndS.2 ⟨fun _ => ?_, fun _ => ?_⟩
      | exact (l20Any_ok k hk 0 _ _ n5 (by omega) (by omega)).bind fun q6 h6 => ok_some.2 ⟨fun e he => (by injection he with he; subst he; exact h6.1.le (by omega)), fun s hs => (by cases hs)⟩
      | exact (l20Cmd_ok k hk 0 _ _ n5 (by omega) (by omega)).bind fun q6 h6 => ok_some.2 ⟨fun e he => (by injection he with he; subst he; exact h6.1.le (by omega)), fun s hs => (by cases hs)⟩
  · refine ok_sumE.2 ⟨fun s hs => ?_, fun e he => ok_some.2 ((ht2.1 e he).le (by omega))⟩
    refine (pick_ok k 9 _ _ (ht2.2 s hs) (by omega) (by omega)).bind fun q7 h7 => ?_
    exact (l20Cmd_ok k hk 0 _ _ h7.1 (by omega) (by omega)).bind fun q8 h8 => ok_some.2 (h8.1.le (by omega))
theorem NewChain_ok (k : Nat) (hk : 2000 ≤ k) (s : Stt) (l : List Int) (hs : StS s) (hl : l.length ≤ 10) : Ok (spec_NewChain_t A k (s, (l, ())) ()) (fun q => ChnS q.1.1) := by
  obtain ⟨s1, s2⟩ := hs
  have hb : (l.length : Int) < 4294967296 := by omega
  rw [spec_NewChain_t, ok_cndS]
  refine ⟨fun _ => ?_, fun hc => (by simp at hc; omega)⟩
  refine Ok.bind (P := fun t => (∃ r : (Chn × Unit) × Unit, t = .inr r ∧ ChnS r.1.1) ∨ (∃ z : Chn, t = .inl (s, (z, ((1, (l, (false, ()))), ()))) ∧ ChnS z)) ?_ fun t ht => ?_
  · rw [spec_StateValid_eq k (by omega) s (by omega) (by omega), a_obind_some, ok_cndS]
    refine ⟨fun _ => ok_some.2 (.inl ⟨_, rfl, by simp [ChnS]⟩), fun _ => ?_⟩
    rw [a_appL, List.nil_append, spec_ConfigValid_eq k (by omega), a_obind_some, ok_cndS]
    exact ⟨fun _ => ok_some.2 (.inl ⟨_, rfl, by simp [ChnS]⟩), fun _ => ok_some.2 (.inr ⟨_, rfl, by simp [ChnS]⟩)⟩
  rcases ht with ⟨r, rfl, hr⟩ | ⟨z, rfl, hz⟩
  · rw [a_sumE_inr]; exact ok_some.2 hr
  rw [a_sumE_inl, l10Copy_eq k s (by omega) (by omega), a_obind_some]
  refine Ok.bind (P := fun e : Chn × (Chn × Unit) => ChnS e.2.1) (iter_ok (fun m (st : Int × (Chn × (Cfg × (Chn × Unit)))) => ∃ i : Nat, st.1 = (i : Int) ∧ i ≤ 5 ∧ m = 5 - i ∧ st.2.2.1 = (1, (l, (false, ()))) ∧ ChnS st.2.2.2.1 ∧ st.2.2.2.1.2.2.1.length ≤ i ∧ st.2.2.2.1.2.2.2.1.length ≤ i) _ ?_ (n := 5) (by omega) ⟨0, rfl, by omega, rfl, rfl, ⟨by show l.length ≤ 10; omega, by simp⟩, by simp, by simp⟩) fun e he => ok_some.2 he
  rintro m ⟨x, y, cf, ch, _⟩ ⟨i, g1, g2, rfl, g3, g4, g5, g6⟩
  simp only at g1 g3 g4 g5 g6
  subst g1 g3
  have w : A.wrapI .i64 (A.addI (i : Int) 1) = ((i + 1 : Nat) : Int) := by rw [a_addI, a_wrap (by omega) (by omega)]; rfl
  rw [spec_NewChain_t_b0, ok_cndS]
  refine ⟨fun h1 => ?_, fun _ => ok_some.2 ⟨fun s' e => (by cases e), fun r e => (by injection e with e; subst e; exact g4)⟩⟩
  have hlt : i < 5 := by
    have : (i : Int) < 5 := by simpa using h1
    omega
  refine Ok.bind (P := fun t : Int × (Chn × (Cfg × (Chn × (Rep × Unit)))) => ∃ r : Rep, t = ((i : Int), (y, ((1, (l, (false, ()))), (ch, (r, ())))))) ?_ fun t ht => ?_
  · rw [l16Index_eq k _ _ (by show l.length < k; omega) (by show l.length ≤ _; omega), a_obind_some, ok_cndS]
    refine ⟨fun _ => ?_, fun _ => ok_some.2 ⟨_, rfl⟩⟩
    rw [l16Copy_eq k _ (by show l.length ≤ _; omega), a_obind_some]
    exact ok_some.2 ⟨_, rfl⟩
  obtain ⟨r, rfl⟩ := ht
  rw [ok_cndS]
  refine ⟨fun _ => ?_, fun hc => (by simp at hc; omega)⟩
  rw [ok_cndS]
  refine ⟨fun _ => ok_some.2 ⟨fun s' e => ?_, fun r e => (by cases e)⟩, fun hc => (by simp at hc; omega)⟩
  injection e with e; subst e
  exact ⟨5 - (i + 1), by omega, i + 1, w, by omega, rfl, rfl, g4, by simp; omega, by simp; omega⟩
theorem l20Bent_ok (k : Nat) (hk : 100 ≤ k) (c : Chn) (n N : Int) (r : Rd) (hc : ChnS c) (h : RdOk N r) (hp : N ≤ 600000000) (hn : n ≤ 1000000000) : Ok (spec_l20Bent_t A k ((), (c, (n, ()))) r) (fun q => RdOk (N + 300) q.2) := by
  rw [spec_l20Bent_t]
  dsimp only
  refine Ok.bind (P := fun t : Int × (Evt × (Evt × Rd)) => t.1 = n ∧ RdOk (N + 130) t.2.2.2) ?_ fun t ht => ?_
  · rw [ok_cndS]
    refine ⟨fun h0 => ?_, fun _ => ok_some.2 ⟨rfl, h.le (by omega)⟩⟩
    have h0' : (0 : Int) < c.2.1.2.1.length := by simpa using h0
    refine (pick_ok k 9 _ _ h (by omega) (by omega)).bind fun q0 h0 => ?_
    exact (l20Event_ok k hk c _ _ _ hc (by omega) h0.1 (by omega)).bind fun q1 h1 => ok_some.2 ⟨rfl, h1.le (by omega)⟩
  obtain ⟨e1, e2⟩ := ht
  refine (odd_ok k _ _ _ e2 (by omega) (by rw [e1]; omega)).bind fun q3 h3 => ?_
  rw [ok_cndS]
  refine ⟨fun _ => ?_, fun _ => ok_some.2 (h3.le (by omega))⟩
  refine (pick_ok k 5 _ _ h3 (by omega) (by omega)).bind fun q4 h4 => ?_
  rw [ok_cndS]
  refine ⟨fun _ => ?_, fun _ => ?_⟩
  · refine (pick_ok k 2 _ _ h4.1 (by omega) (by omega)).bind fun q5 h5 => ?_
    have d1 := h5.2.1
    have d2 := h5.2.2.2.1 (by omega)
    rw [ok_cndS]
    exact ⟨fun _ => ok_some.2 (h5.1.le (by omega)), fun hc => (by simp at hc; omega)⟩
  rw [ok_cndS]
  refine ⟨fun _ => ?_, fun _ => ?_⟩
  · exact (Node_ok k 1 _ _ h4.1 (by omega) (by omega)).bind fun q6 h6 => ok_some.2 (h6.1.le (by omega))
  rw [ok_cndS]
  refine ⟨fun _ => ?_, fun _ => ?_⟩
  · refine (pick_ok k 2 _ _ h4.1 (by omega) (by omega)).bind fun q5 h5 => ?_
    have d1 := h5.2.1
    have d2 := h5.2.2.2.1 (by omega)
    rw [ok_cndS]
    exact ⟨fun _ => ok_some.2 (h5.1.le (by omega)), fun hc => (by simp at hc; omega)⟩
  rw [ok_cndS]
  refine ⟨fun _ => ok_some.2 (h4.1.le (by omega)), fun _ => ?_⟩
  exact (l20Entry_ok k hk 0 _ _ h4.1 (by omega) (by omega)).bind fun q8 h8 => ok_some.2 (h8.1.le (by omega))
theorem FnEventValid_true (k : Nat) (hk : 3000 ≤ k) (a : List Int) (hb : ∀ x ∈ a, 0 ≤ x ∧ x ≤ 255) : laws_FnEventValid_t A k (a, ()) () = some ((true, ()), ()) := by
  rw [← ok_eq, laws_FnEventValid_t, ok_cndS]
  refine ⟨fun _ => ok_some.2 rfl, fun _ => ?_⟩
  refine Ok.bind (P := fun _ => True) ?_ fun q _ => ?_
  · rw [spec_DrawEventValid_t]
    refine (open_ok k a hb).bind fun q hq => ?_
    refine (l20Base_ok k (by omega) 0 q.1 hq (by omega)).bind fun q1 h1 => ?_
    refine (l20Members_ok k (by omega) 0 _ q1.2 h1.1 (by omega) (by omega)).bind fun q2 h2 => ?_
    refine (NewChain_ok k (by omega) q1.1.1 q2.1.1 h1.2 (by omega)).bind fun q3 h3 => ?_
    exact (l20Bent_ok k (by omega) q3.1.1 2 _ q2.2 h3 h2.1 (by omega) (by omega)).bind fun q4 h4 => ok_some.2 trivial
  obtain ⟨⟨e, _⟩, _⟩ := q
  have al := alive_eq (A := A) k (by omega : 10 ≤ k)
  have bad : ∀ (n p : Int) (z : Unit), evtOk (6, (n, (p, ((1, (1, ((1, ([98], (0, (0, ())))), ()))), z)))) = false := by
    intro n p z
    simp [evtOk, entZero]
  have hm : 0 ≤ (a.length : Int).tmod 5 ∧ (a.length : Int).tmod 5 ≤ 4 := by
    have h1 := Int.tmod_nonneg 5 (show 0 ≤ (a.length : Int) by omega)
    have h2 := Int.tmod_lt_of_pos (a.length : Int) (show (0 : Int) < 5 by omega)
    omega
  have good : evtOk e = true → evtOk (e.1, ((a.length : Int).tmod 5, e.2.2)) = true := by
    intro he
    simp only [evtOk, Bool.and_eq_true, decide_eq_true_eq] at he ⊢
    exact ⟨he.1, hm, he.2.2⟩
  rw [ok_eq]
  simp only [impl_EventValid_eq k (by omega : 10 ≤ k), spec_EventValid_eq k (by omega : 10 ≤ k), a_obind_some, a_eqB, beq_self_eq_true, a_notB, Bool.not_true, a_cndS, Bool.false_eq_true, if_false, a_eqI, bad, Bool.not_false, if_true, al, a_remI, a_lenL]
  rcases Bool.eq_false_or_eq_true (evtOk e) with he | he
  · simp [he, good he]
  · simp [he]
end
theorem FnEventValid_pure (a : List Int) (h : InR (.slice (.int .u8)) a) : ∃ k, laws_FnEventValid_t real k (a, ()) () = some ((true, ()), ()) :=
  haveI := isReal_real
  ⟨3000, FnEventValid_true 3000 (by omega) a (code_bytes h)⟩
end Go.Den.T
