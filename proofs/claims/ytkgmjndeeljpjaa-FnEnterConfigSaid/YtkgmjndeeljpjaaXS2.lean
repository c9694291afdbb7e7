/- Configurations entered; copies taken, exactly. -/
import Derived.Test.YtkgmjndeeljpjaaXS1
import Derived.Test.YtkgmjndeeljpjaaXTr4

namespace Go.Den.T
set_option linter.unusedVariables false
set_option linter.unusedSimpArgs false
set_option linter.unusedSectionVars false
section
variable {A : Atoms} [IsReal A]
theorem takeCopy_len (r : Rep) (ep : Int) (l : List Ent) : (takeCopy r ep l).1.1.2.1.length ≤ 1048576 ∧ (takeCopy r ep l).1.2.2.1.length ≤ 1048576 := by
  unfold takeCopy
  split
  · rename_i h
    simp only [Bool.and_eq_true] at h
    have hl := repOk_len h.1
    have hg := h.2.2
    simp only [logOk, Bool.and_eq_true, decide_eq_true_eq] at hg
    split
    · exact ⟨by simp only; omega, by simp only; omega⟩
    · exact ⟨by simp only; omega, by simp only; omega⟩
  · exact ⟨by simp, by simp⟩
theorem FnExactTakeCopy_true (k : Nat) (hk : 2000000 ≤ k) (r : Rep) (n : Int) (l : List Ent) (h1 : r.1.2.1.length ≤ 9223372036854775807) (hl : r.2.2.1.length ≤ 9223372036854775807) (hs : ∀ e ∈ r.2.2.1, e.2.2.1.2.1.length ≤ 9223372036854775807)
    (hll : l.length ≤ 9223372036854775807) (hls : ∀ e ∈ l, e.2.2.1.2.1.length ≤ 9223372036854775807) : laws_FnExactTakeCopy_t A k (r, (n, (l, ()))) () = some ((true, ()), ()) := by
  rw [← ok_eq, laws_FnExactTakeCopy_t]
  refine (szReplica_ok' k r hk h1 hl hs).bind fun q hq => ?_
  rw [ok_cndS]
  simp only [a_ltI, decide_eq_true_eq, decide_eq_false_iff_not]
  refine ⟨fun _ => ok_some.2 rfl, fun hn => ?_⟩
  rcases hq with hq | hq
  · omega
  refine (szEntryS_ok k l q.1.1 (by omega) (by omega) hk hll hls).bind fun q2 hq2 => ?_
  rw [ok_cndS]
  simp only [decide_eq_true_eq, decide_eq_false_iff_not]
  refine ⟨fun _ => ok_some.2 rfl, fun hn2 => ?_⟩
  rcases hq2 with hq2 | hq2
  · omega
  obtain ⟨_, h2, h3⟩ := hq.2
  have h4 := hq2.2.2
  have hd := takeCopy_len r n l
  rw [ok_eq]
  have g1 : ¬ 1 + (r.1.2.1.length : Int) + 6 * (r.2.2.1.length : Int) + 6 * (l.length : Int) < 0 := by omega
  have g2 : ¬ 1 + ((takeCopy r n l).1.1.2.1.length : Int) + 6 * ((takeCopy r n l).1.2.2.1.length : Int) < 0 := by omega
  simp [toReplica_eq k r hk h2 h3, toEntryS_eq k l (by omega) (by omega), eqEntryS_eq k l l (by omega) (by omega), spec_TakeCopy_eq k (by omega : 30 ≤ k), impl_TakeCopy_eq k (by omega : 30 ≤ k), eqReplica_eq k (takeCopy r n l).1 (takeCopy r n l).1 hk hd.1 hd.2, eqReplica_eq k r r hk h2 h3,
    markReplica_eq k hk 1 r h2 h3 (by omega) (by omega), markEntryS_eq k (by omega) (1 + (r.1.2.1.length : Int) + 6 * (r.2.2.1.length : Int)) l (by omega) (by omega) (by omega) (by omega), g1, markReplica_eq k hk 1 (takeCopy r n l).1 hd.1 hd.2 (by omega) (by omega), heldReplica_eq k hk 1 (takeCopy r n l).1 hd.1 hd.2 (by omega) (by omega), g2]
/-! ### configurations entered -/
def tailC (c : Cfg) : Int := c.2.1.getD (c.2.1.length - 1) 0
theorem tailOf_eq (k : Nat) (c : Cfg) (h : 1 ≤ c.2.1.length) (h' : c.2.1.length ≤ 1000) : impl_tailOf_t A k (c, ()) () = some ((tailC c, ()), ()) := by
  have w : A.wrapI .i64 ((c.2.1.length : Int) - 1) = (c.2.1.length : Int) - 1 := a_wrap (by omega) (by omega)
  have h1 : 0 ≤ (c.2.1.length : Int) - 1 := by omega
  have h2 : (c.2.1.length : Int) - 1 < (c.2.1.length : Int) := by omega
  have h3 : ((c.2.1.length : Int) - 1).toNat = c.2.1.length - 1 := by omega
  have h4 : (1 : Int) ≤ (c.2.1.length : Int) := by omega
  simp [impl_tailOf_t, w, h1, h2, h3, h4, tailC]
def mayEnter (r : Rep) (n : Int) (c : Cfg) : Bool := decide (n ∈ c.2.1) && !decide (c.1 ≤ r.1.1)
def enter (r : Rep) (n : Int) (c : Cfg) : Rep × (Bool × Unit) :=
  if (repOk r && (decide (0 ≤ n ∧ n ≤ 4) && cfgOk c)) = true then
    if mayEnter r n c = true then
      if (c.2.2.1 && decide (tailC c = n)) = true then ((c, (false, ([], r.2.2.2))), (true, ())) else ((c, r.2), (true, ()))
    else (r, (false, ()))
  else (rep0, (false, ()))
theorem tail_idx {c : Cfg} (h : cfgOk c = true) {n : Int} (hn : n ∈ c.2.1) : (idx c.2.1 n = (c.2.1.length : Int) - 1) ↔ tailC c = n := by
  have hl := cfgOk_len h
  have hm := (membersOk_iff.1 (cfgOk_members h)).2
  constructor
  · intro e
    rcases idx_cases c.2.1 n with ⟨_, hno⟩ | ⟨i, e2, hi, hv, _⟩
    · exact absurd hn hno
    · rw [tailC, ← hv]; congr 1; omega
  · intro e
    rw [← e, tailC, idx_at hm (by omega)]; omega
theorem impl_EnterConfig_eq (k : Nat) (hk : 30 ≤ k) (r : Rep) (n : Int) (c : Cfg) : impl_EnterConfig_t A k (r, (n, (c, ()))) () = some (enter r n c, ()) := by
  simp only [impl_EnterConfig_t, impl_ReplicaValid_eq k hk, nodeValid_eq, impl_ConfigValid_eq k (by omega : 10 ≤ k), a_obind_some, a_cndS, a_notB, enter]
  cases h : repOk r with
  | false => simp
  | true =>
    have hl := repOk_len h
    by_cases h1 : 0 ≤ n ∧ n ≤ 4
    case neg => simp [h1]
    rcases Bool.eq_false_or_eq_true (cfgOk c) with hc | hc
    case inr => simp [h1, hc]
    have hcl := cfgOk_len hc
    simp only [hc, h1, and_self, decide_true, Bool.not_true, Bool.false_eq_true, if_false, if_true, a_sumE_inl, copyReplica_eq k r (by omega) (by omega), a_obind_some, Bool.and_self, mayEnter, slices_Contains_eq k c.2.1 n (by omega) (by omega)]
    by_cases hm : n ∈ c.2.1
    case neg => simp [hm]
    by_cases he : c.1 ≤ r.1.1
    case pos => simp [hm, he]
    rcases Bool.eq_false_or_eq_true c.2.2.1 with hf | hf
    · by_cases ht : tailC c = n
      · simp [hm, he, hf, ht, copyConfig_eq k c (by omega), tailOf_eq k c (by omega) (by omega)]
      · simp [hm, he, hf, ht, copyConfig_eq k c (by omega), tailOf_eq k c (by omega) (by omega)]
    · simp [hm, he, hf, copyConfig_eq k c (by omega), tailOf_eq k c (by omega) (by omega)]
theorem spec_EnterConfig_eq (k : Nat) (hk : 30 ≤ k) (r : Rep) (n : Int) (c : Cfg) : spec_EnterConfig_t A k (r, (n, (c, ()))) () = some (enter r n c, ()) := by
  simp only [spec_EnterConfig_t, spec_ReplicaValid_eq k hk, l1In_eq, spec_ConfigValid_eq k (by omega : 10 ≤ k), a_obind_some, a_cndS, a_notB, enter]
  cases h : repOk r with
  | false => simp
  | true =>
    have hl := repOk_len h
    by_cases h1 : 0 ≤ n ∧ n ≤ 4
    case neg => simp [h1]
    rcases Bool.eq_false_or_eq_true (cfgOk c) with hc | hc
    case inr => simp [h1, hc]
    have hcl := cfgOk_len hc
    have w : A.wrapI .i64 ((c.2.1.length : Int) - 1) = (c.2.1.length : Int) - 1 := a_wrap (by omega) (by omega)
    simp only [hc, h1, and_self, decide_true, Bool.not_true, Bool.false_eq_true, if_false, if_true, a_sumE_inl, l17Copy_eq k r (by omega) (by omega), a_obind_some, Bool.and_self, mayEnter, l16Index_eq k c n (by omega) (by omega)]
    by_cases hm : n ∈ c.2.1
    case neg =>
      have := idx_neg.2 hm
      simp [hm, this]
    have hi := idx_mem.2 hm
    have hi' : ¬ idx c.2.1 n < 0 := by omega
    by_cases he : c.1 ≤ r.1.1
    case pos => simp [hm, he, hi']
    have hti := tail_idx hc hm
    rcases Bool.eq_false_or_eq_true c.2.2.1 with hf | hf
    · by_cases ht : tailC c = n
      · have := hti.2 ht
        simp [hm, he, hf, ht, this, w, l16Copy_eq k c (by omega)]
        rw [if_neg (show ¬ (c.2.1.length : Int) - 1 < 0 by omega)]
        simp [hf, w, l16Copy_eq k c (by omega)]
      · have : ¬ idx c.2.1 n = (c.2.1.length : Int) - 1 := fun e => ht (hti.1 e)
        simp [hm, he, hf, ht, this, w, hi', l16Copy_eq k c (by omega)]
    · simp [hm, he, hf, hi', l16Copy_eq k c (by omega)]
theorem enter_len (r : Rep) (n : Int) (c : Cfg) : (enter r n c).1.1.2.1.length ≤ 100 ∧ (enter r n c).1.2.2.1.length ≤ 100 := by
  unfold enter
  split
  · rename_i h
    simp only [Bool.and_eq_true] at h
    have hl := repOk_len h.1
    have hcl := cfgOk_len h.2.2
    split
    · split
      · exact ⟨by simp only; omega, by simp⟩
      · exact ⟨by simp only; omega, by simp only; omega⟩
    · exact ⟨by simp only; omega, by simp only; omega⟩
  · exact ⟨by simp, by simp⟩
theorem FnExactEnterConfig_true (k : Nat) (hk : 2000000 ≤ k) (r : Rep) (n : Int) (c : Cfg) (h1 : r.1.2.1.length ≤ 9223372036854775807) (hl : r.2.2.1.length ≤ 9223372036854775807) (hs : ∀ e ∈ r.2.2.1, e.2.2.1.2.1.length ≤ 9223372036854775807)
    (hcl : c.2.1.length ≤ 9223372036854775807) : laws_FnExactEnterConfig_t A k (r, (n, (c, ()))) () = some ((true, ()), ()) := by
  rw [← ok_eq, laws_FnExactEnterConfig_t]
  refine (szReplica_ok' k r hk h1 hl hs).bind fun q hq => ?_
  rw [ok_cndS]
  simp only [a_ltI, decide_eq_true_eq, decide_eq_false_iff_not]
  refine ⟨fun _ => ok_some.2 rfl, fun hn => ?_⟩
  rcases hq with hq | hq
  · omega
  rw [szConfig_eq k c q.1.1 (by omega) (by omega) hcl, a_obind_some, ok_cndS]
  simp only [decide_eq_true_eq, decide_eq_false_iff_not]
  refine ⟨fun _ => ok_some.2 rfl, fun hn2 => ?_⟩
  have hc4 : c.2.1.length ≤ 1048576 := by
    by_cases hq2 : q.1.1 < (c.2.1.length : Int)
    · rw [if_pos hq2] at hn2; omega
    · omega
  obtain ⟨_, h2, h3⟩ := hq.2
  have hd := enter_len r n c
  have hd1 : (enter r n c).1.1.2.1.length ≤ 1048576 := by omega
  have hd2 : (enter r n c).1.2.2.1.length ≤ 1048576 := by omega
  rw [ok_eq]
  have g1 : ¬ 1 + (r.1.2.1.length : Int) + 6 * (r.2.2.1.length : Int) + (c.2.1.length : Int) < 0 := by omega
  have g2 : ¬ 1 + ((enter r n c).1.1.2.1.length : Int) + 6 * ((enter r n c).1.2.2.1.length : Int) < 0 := by omega
  simp [toReplica_eq k r hk h2 h3, toConfig_eq k c (by omega) (by omega), eqConfig_eq k c c (by omega) (by omega), spec_EnterConfig_eq k (by omega : 30 ≤ k), impl_EnterConfig_eq k (by omega : 30 ≤ k), eqReplica_eq k (enter r n c).1 (enter r n c).1 hk hd1 hd2, eqReplica_eq k r r hk h2 h3,
    markReplica_eq k hk 1 r h2 h3 (by omega) (by omega), markConfig_eq k (1 + (r.1.2.1.length : Int) + 6 * (r.2.2.1.length : Int)) c (by omega) (by omega) (by omega) (by omega), g1, markReplica_eq k hk 1 (enter r n c).1 hd1 hd2 (by omega) (by omega), heldReplica_eq k hk 1 (enter r n c).1 hd1 hd2 (by omega) (by omega), g2]
theorem DrawEnterConfig_ok (k : Nat) (hk : 100 ≤ k) (a : List Int) (hb : ∀ x ∈ a, 0 ≤ x ∧ x ≤ 255) : Ok (spec_DrawEnterConfig_t A k (a, ()) ()) (fun q => RepS q.1.1 ∧ q.1.2.2.1.2.1.length ≤ 100) := by
  rw [spec_DrawEnterConfig_t]
  refine (open_ok k a hb).bind fun q hq => ?_
  refine (l20Replica_ok k hk 14 0 q.1 hq (by omega) (by omega)).bind fun q1 h1 => ?_
  refine (l20Config_ok k (by omega) 14 _ _ h1.1 (by omega) (by omega)).bind fun q2 h2 => ?_
  have hs : q2.1.1.2.1.length ≤ 100 := h2.2
  refine (Node_ok k 14 _ _ h2.1 (by omega) (by omega)).bind fun q3 h3 => ?_
  refine Ok.bind (P := fun r6 => r6.2.2.2.2.1 = q1.1.1 ∧ r6.2.2.2.2.2.1 = q2.1.1 ∧ RdOk 20000 r6.2.2.2.1) ?_ fun r6 h6 => ?_
  · rw [ok_cndS]
    simp only [a_lenL, a_ltI, decide_eq_true_eq, decide_eq_false_iff_not]
    refine ⟨fun hpos => ?_, fun _ => ok_some.2 ⟨rfl, rfl, h3.1.le (by omega)⟩⟩
    refine (pick_ok k 3 _ _ h3.1 (by omega) (by omega)).bind fun q4 h4 => ?_
    rw [ok_cndS]
    refine ⟨fun _ => ?_, fun _ => ok_some.2 ⟨rfl, rfl, h4.1.le (by omega)⟩⟩
    refine (pick_ok k _ _ _ h4.1 (by omega) (by omega)).bind fun q5 h5 => ?_
    have b1 := h5.2.1
    have b2 := h5.2.2.2.1 (by omega)
    have w : A.wrapI .i64 (A.subI (A.wrapI .i64 (A.subI (q2.1.1.2.1.length : Int) 1)) q5.1.1) = (q2.1.1.2.1.length : Int) - 1 - q5.1.1 := by
      rw [a_subI, a_subI, a_wrap (n := (q2.1.1.2.1.length : Int) - 1) (by omega) (by omega)]; exact a_wrap (by omega) (by omega)
    rw [w, ok_cndS]
    exact ⟨fun _ => ok_some.2 ⟨rfl, rfl, h5.1.le (by omega)⟩, fun hc => by simp at hc; omega⟩
  · obtain ⟨e1, e2, e3⟩ := h6
    refine Ok.bind (P := fun r9 => r9.2.2.2.1 = q1.1.1 ∧ r9.2.2.2.2.1.2.1.length ≤ 100) ?_ fun r9 h9 => ok_some.2 ⟨by show RepS r9.2.2.2.1; rw [h9.1]; exact h1.2, h9.2⟩
    refine (pick_ok k 2 _ _ e3 (by omega) (by omega)).bind fun q7 h7 => ?_
    rw [ok_cndS]
    refine ⟨fun _ => ?_, fun _ => ok_some.2 ⟨e1, by show r6.2.2.2.2.2.1.2.1.length ≤ 100; rw [e2]; exact hs⟩⟩
    rw [ok_cndS]
    refine ⟨fun _ => ?_, fun _ => ok_some.2 ⟨e1, by show r6.2.2.2.2.2.1.2.1.length ≤ 100; rw [e2]; exact hs⟩⟩
    exact (pick_ok k 3 _ _ h7.1 (by omega) (by omega)).bind fun q8 h8 => ok_some.2 ⟨e1, by show r6.2.2.2.2.2.1.2.1.length ≤ 100; rw [e2]; exact hs⟩
theorem FnEnterConfig_true (k : Nat) (hk : 300 ≤ k) (a : List Int) (hb : ∀ x ∈ a, 0 ≤ x ∧ x ≤ 255) : laws_FnEnterConfig_t A k (a, ()) () = some ((true, ()), ()) := by
  rw [← ok_eq, laws_FnEnterConfig_t, ok_cndS]
  refine ⟨fun _ => ok_some.2 rfl, fun _ => ?_⟩
  refine (DrawEnterConfig_ok k (by omega) a hb).bind fun q hs => ?_
  obtain ⟨⟨r, n, c, _⟩, _⟩ := q
  have hr1 : r.1.2.1.length ≤ 100 := hs.1.1
  have hr2 : r.2.2.1.length ≤ 30 := hs.1.2.1
  have hcl : c.2.1.length ≤ 100 := hs.2
  have hd := enter_len r n c
  simp only [impl_EnterConfig_eq k (by omega : 30 ≤ k), spec_EnterConfig_eq k (by omega : 30 ≤ k), a_obind_some, sameReplica_eq k (enter r n c).1 (enter r n c).1 (by omega) (by omega) (by omega) (by omega), decide_true, a_notB, Bool.not_true, a_cndS, Bool.false_eq_true, if_false, a_eqB, beq_self_eq_true, a_sumE_inl]
  rw [ok_eq]
  by_cases hok : (enter r n c).2.1 = true
  · have h1 : (repOk r && (decide (0 ≤ n ∧ n ≤ 4) && cfgOk c)) = true := by
      cases h : (repOk r && (decide (0 ≤ n ∧ n ≤ 4) && cfgOk c)) with
      | true => rfl
      | false => simp only [enter, h] at hok; cases hok
    have h2 : mayEnter r n c = true := by
      cases h : mayEnter r n c with
      | true => rfl
      | false => simp only [enter, h1, h] at hok; cases hok
    have h1' := h1
    have h2' := h2
    simp only [Bool.and_eq_true, decide_eq_true_eq] at h1'
    obtain ⟨hv, hn, hc⟩ := h1'
    simp only [mayEnter, Bool.and_eq_true, decide_eq_true_eq, Bool.not_eq_true', decide_eq_false_iff_not] at h2'
    obtain ⟨hm, he⟩ := h2'
    have hl := repOk_len hv
    have hcc := cfgOk_len hc
    have hnc : noCfg c = false := by
      have : ¬ c.1 = 0 := by omega
      simp [noCfg, this]
    have he' : r.1.1 < c.1 := by omega
    have hcon : logOk r.2.2.1 = true ∧ (r.2.1 = true ∨ r.2.2.1.length = 0) := by
      have h := hv
      unfold repOk at h
      cases hno : noCfg r.1 with
      | true =>
        simp only [hno, if_true, Bool.and_eq_true, decide_eq_true_eq] at h
        have : r.2.2.1 = [] := List.eq_nil_of_length_eq_zero h.2
        exact ⟨by rw [this]; rfl, .inr h.2⟩
      | false =>
        simp only [hno, Bool.false_eq_true, if_false, Bool.and_eq_true, Bool.or_eq_true, decide_eq_true_eq] at h
        exact h.2
    by_cases hfr : (c.2.2.1 && decide (tailC c = n)) = true
    · have ed : enter r n c = ((c, (false, ([], r.2.2.2))), (true, ())) := by simp only [enter, h1, h2, hfr, if_true]
      have hv2 : repOk (c, (false, (([] : List Ent), r.2.2.2))) = true := by simp [repOk, hnc, hc, logOk]
      have hag : (enter (c, (false, (([] : List Ent), r.2.2.2))) n c).2.1 = false := by simp [enter, hv2, hn, hc, mayEnter, hm]
      simp only [Bool.and_eq_true, decide_eq_true_eq] at hfr
      have hti := (tail_idx hc hm).2 hfr.2
      have haf : after c n = -1 := by simp [after, hc, hm, hti]
      have hsl := sameLog_eq (A := A) k ([] : List Ent) r.2.2.1 (by simp; omega) (by simp)
      have hsc := sameConfig_eq (A := A) k c c (by omega) (by omega)
      rw [ed]
      simp only [Bool.not_true, Bool.false_eq_true, if_false, impl_EnterConfig_eq k (by omega : 30 ≤ k), hag, a_obind_some, hfr.1, if_true, hsl, impl_MemberAfter_eq k (by omega : 10 ≤ k), haf, impl_ReplicaValid_eq k (by omega : 30 ≤ k), hv2, hsc, decide_true, a_eqI, a_ltI, he', Bool.not_false]
      rcases Bool.eq_false_or_eq_true r.2.1 with hq | hq
      · simp [hq, hsl]
        simp [hsl, hfr.1, impl_MemberAfter_eq k (by omega : 10 ≤ k), haf, impl_ReplicaValid_eq k (by omega : 30 ≤ k), hv2, hsc, he']
      · simp [hq, hsl]
        cases r.2.2.1 <;> simp [hsl, hfr.1, impl_MemberAfter_eq k (by omega : 10 ≤ k), haf, impl_ReplicaValid_eq k (by omega : 30 ≤ k), hv2, hsc, he']
    · have hfr' : (c.2.2.1 && decide (tailC c = n)) = false := by simpa using hfr
      have ed : enter r n c = ((c, r.2), (true, ())) := by simp only [enter, h1, h2, hfr', if_true]; rfl
      have hv2 : repOk (c, r.2) = true := by
        have h2 : r.2.1 = true ∨ r.2.2.1 = [] := hcon.2.imp id List.eq_nil_of_length_eq_zero
        simp [repOk, hnc, hc, hcon.1, h2]
      have hag : (enter (c, r.2) n c).2.1 = false := by simp [enter, hv2, hn, hc, mayEnter, hm]
      have hsl := sameLog_eq (A := A) k r.2.2.1 r.2.2.1 (by omega) (by omega)
      have hsc := sameConfig_eq (A := A) k c c (by omega) (by omega)
      rw [ed]
      simp only [Bool.not_true, Bool.false_eq_true, if_false, impl_EnterConfig_eq k (by omega : 30 ≤ k), hag, a_obind_some, if_true, hsl, impl_MemberAfter_eq k (by omega : 10 ≤ k), impl_ReplicaValid_eq k (by omega : 30 ≤ k), hv2, hsc, decide_true, a_eqI, a_ltI, he', Bool.not_false]
      rcases Bool.eq_false_or_eq_true c.2.2.1 with hq | hq
      · simp [hq, hsl, impl_ReplicaValid_eq k (by omega : 30 ≤ k), hv2, hsc, he']
      · simp [hq, hsl, impl_ReplicaValid_eq k (by omega : 30 ≤ k), hv2, hsc, he']
  · have hok' : (enter r n c).2.1 = false := by simpa using hok
    have hc : (enter r n c).1 = r ∨ (enter r n c).1 = rep0 := by
      unfold enter at hok' ⊢
      split
      · rename_i h
        rw [if_pos h] at hok'
        split
        · rename_i h2; rw [if_pos h2] at hok'; split at hok' <;> cases hok'
        · exact .inl rfl
      · exact .inr rfl
    simp only [hok', Bool.not_false, if_true, alive_eq k (by omega : 10 ≤ k), a_obind_some]
    rw [sameReplica_eq k (enter r n c).1 r (by omega) (by omega) (by omega) (by omega)]
    simp only [a_obind_some]
    by_cases hcc : (enter r n c).1 = r
    · simp [hcc]
    · have hz := hc.resolve_left hcc
      have := sameReplica_eq (A := A) k (enter r n c).1 ((0, ([], (false, ()))), (false, ([], ()))) (by omega) (by omega) (by omega) (by omega)
      simp only [hcc, decide_false, Bool.false_eq_true, if_false]
      rw [this]
      simp [hz]
end
theorem FnExactTakeCopy_pure (r : TRep.val) (h : InR TRep r) (n : Int) (_ : InR (.int .i64) n) (l : (Ty.slice TEnt).val) (hl : InR (.slice TEnt) l) : ∃ k, laws_FnExactTakeCopy_t real k (r, (n, (l, ()))) () = some ((true, ()), ()) :=
  haveI := isReal_real
  ⟨2000000, FnExactTakeCopy_true 2000000 (by omega) r n l (Nat.le_trans h.1.2.1.1 (by decide)) (Nat.le_trans h.2.2.1.1 (by decide)) (keys_of h.2.2.1) (Nat.le_trans hl.1 (by decide)) (keys_of hl)⟩
theorem FnExactEnterConfig_pure (r : TRep.val) (h : InR TRep r) (n : Int) (_ : InR (.int .i64) n) (c : TCfg.val) (hc : InR TCfg c) : ∃ k, laws_FnExactEnterConfig_t real k (r, (n, (c, ()))) () = some ((true, ()), ()) :=
  haveI := isReal_real
  ⟨2000000, FnExactEnterConfig_true 2000000 (by omega) r n c (Nat.le_trans h.1.2.1.1 (by decide)) (Nat.le_trans h.2.2.1.1 (by decide)) (keys_of h.2.2.1) (len_of hc.2.1)⟩
theorem FnEnterConfig_pure (a : List Int) (h : InR (.slice (.int .u8)) a) : ∃ k, laws_FnEnterConfig_t real k (a, ()) () = some ((true, ()), ()) :=
  haveI := isReal_real
  ⟨300, FnEnterConfig_true 300 (by omega) a (code_bytes h)⟩
end Go.Den.T
