/- Drawn laws: a member added, the tail, the target of copies. -/
import Derived.Test.YtbfndjfjkkfaeaaXC4
import Derived.Test.YtbfndjfjkkfaeaaXC6
import Derived.Test.YtbfndjfjkkfaeaaXD2
import Derived.Test.YtbfndjfjkkfaeaaXTr3

namespace Go.Den.T
set_option linter.unusedVariables false
set_option linter.unusedSimpArgs false
set_option linter.unusedSectionVars false
section
variable {A : Atoms} [IsReal A]
theorem member_ge {c : Cfg} (h : cfgOk c = true) {i : Nat} (hi : i < c.2.1.length) : 0 ≤ c.2.1.getD i 0 := by
  rw [getD_lt hi]; exact ((membersOk_iff.1 (cfgOk_members h)).1 _ (List.getElem_mem hi)).1
theorem after_lt {c : Cfg} {n : Int} (h : after c n < 0) : after c n = -1 := by
  unfold after at h ⊢
  split
  · rename_i hc
    rw [if_pos hc] at h
    simp only [Bool.and_eq_true, decide_eq_true_eq, Bool.not_eq_true', decide_eq_false_iff_not] at hc
    have hx := idx_lt c.2.1 n
    have h0 := idx_mem.2 hc.2.1
    have := member_ge hc.1 (i := (idx c.2.1 n + 1).toNat) (by omega)
    omega
  · rfl
theorem after_last {c : Cfg} (h : cfgOk c = true) : after c (c.2.1.getD (c.2.1.length - 1) 0) = -1 := by
  have hl := cfgOk_len h
  rw [after_at h (by omega), if_neg (by omega)]
theorem DrawIsTail_ok (k : Nat) (hk : 100 ≤ k) (a : List Int) (hb : ∀ x ∈ a, 0 ≤ x ∧ x ≤ 255) : Ok (spec_DrawIsTail_t A k (a, ()) ()) (fun q => RepS q.1.1) := by
  rw [spec_DrawIsTail_t]
  refine (open_ok k a hb).bind fun q hq => ?_
  refine (l20Replica_ok k hk 9 0 q.1 hq (by omega) (by omega)).bind fun q1 h1 => ?_
  have hs : q1.1.1.1.2.1.length ≤ 100 := h1.2.1
  refine Ok.bind (P := fun r3 => (∃ e, r3 = .inl e ∧ e.2.2.1 = q1.1.1 ∧ RdOk 9100 e.2.1) ∨ (∃ n, r3 = .inr ((q1.1.1, (n, ())), ()))) ?_ fun r3 h3 => ?_
  · rw [ok_cndS]
    simp only [a_lenL, a_ltI, decide_eq_true_eq, decide_eq_false_iff_not]
    refine ⟨fun hpos => ?_, fun _ => ok_some.2 (.inl ⟨_, rfl, rfl, h1.1.le (by omega)⟩)⟩
    refine (pick_ok k 2 _ _ h1.1 (by omega) (by omega)).bind fun q2 hq2 => ?_
    have w : A.wrapI .i64 (A.subI (q1.1.1.1.2.1.length : Int) 1) = (q1.1.1.1.2.1.length : Int) - 1 := by rw [a_subI]; exact a_wrap (by omega) (by omega)
    rw [ok_cndS]
    refine ⟨fun _ => ?_, fun _ => ok_some.2 (.inl ⟨_, rfl, rfl, hq2.1.le (by omega)⟩)⟩
    rw [ok_cndS, w]
    exact ⟨fun _ => ok_some.2 (.inr ⟨_, rfl⟩), fun hc => by simp at hc; omega⟩
  · rcases h3 with ⟨e, rfl, he, hr⟩ | ⟨n, rfl⟩
    · rw [a_sumE_inl]
      exact (Node_ok k 9 _ _ hr (by omega) (by omega)).bind fun q5 h5 => ok_some.2 (by show RepS e.2.2.1; rw [he]; exact h1.2)
    · rw [a_sumE_inr]; exact ok_some.2 h1.2
theorem DrawCopyTarget_ok (k : Nat) (hk : 100 ≤ k) (a : List Int) (hb : ∀ x ∈ a, 0 ≤ x ∧ x ≤ 255) : Ok (spec_DrawCopyTarget_t A k (a, ()) ()) (fun q => RepS q.1.1) := by
  rw [spec_DrawCopyTarget_t]
  refine (open_ok k a hb).bind fun q hq => ?_
  refine (l20Replica_ok k hk 9 0 q.1 hq (by omega) (by omega)).bind fun q1 h1 => ?_
  have hs : q1.1.1.1.2.1.length ≤ 100 := h1.2.1
  refine (Node_ok k 9 _ _ h1.1 (by omega) (by omega)).bind fun q2 h2 => ?_
  refine Ok.bind (P := fun r5 => r5.2.2.1 = q1.1.1) ?_ fun r5 h5 => ok_some.2 (by show RepS r5.2.2.1; rw [h5]; exact h1.2)
  rw [ok_cndS]
  simp only [a_lenL, a_ltI, decide_eq_true_eq, decide_eq_false_iff_not]
  refine ⟨fun hpos => ?_, fun _ => ok_some.2 rfl⟩
  refine (pick_ok k 2 _ _ h2.1 (by omega) (by omega)).bind fun q3 hq3 => ?_
  rw [ok_cndS]
  refine ⟨fun _ => ?_, fun _ => ok_some.2 rfl⟩
  refine (pick_ok k _ _ _ hq3.1 (by omega) (by omega)).bind fun q4 hq4 => ?_
  have b1 := hq4.2.1
  have b2 := hq4.2.2.2.1 hpos
  rw [ok_cndS]
  exact ⟨fun _ => ok_some.2 rfl, fun hc => by simp at hc; omega⟩
theorem FnIsTail_true (k : Nat) (hk : 200 ≤ k) (a : List Int) (hb : ∀ x ∈ a, 0 ≤ x ∧ x ≤ 255) : laws_FnIsTail_t A k (a, ()) () = some ((true, ()), ()) := by
  rw [← ok_eq, laws_FnIsTail_t, ok_cndS]
  refine ⟨fun _ => ok_some.2 rfl, fun _ => ?_⟩
  refine (DrawIsTail_ok k (by omega) a hb).bind fun q hs => ?_
  obtain ⟨⟨r, n, _⟩, _⟩ := q
  simp only [impl_IsTail_eq k (by omega : 30 ≤ k), spec_IsTail_eq k (by omega : 30 ≤ k), alive_eq k (by omega : 10 ≤ k), a_obind_some]
  rw [ok_eq]
  cases h : isTail r n with
  | false => simp
  | true =>
    have h' := h
    simp only [isTail, Bool.and_eq_true, decide_eq_true_eq] at h'
    obtain ⟨h1, h2, h3⟩ := h'
    have hc := repOk_ready h1 h2
    have hall : ∀ m : Int, isTail r m = decide (n = m) := fun m => by simp only [isTail, h1, h2, h3, Bool.true_and]
    have hloop := iter_for (A := A) (f := laws_FnIsTail_t_b0 A k) (fun i => (n, ((i : Int), (r, ())))) 5 (.inl (n, (r, ())))
      (fun i hi => by
        have w : A.wrapI .i64 ((i : Int) + 1) = (i : Int) + 1 := a_wrap (by omega) (by omega)
        have hi' : (i : Int) < 5 := by omega
        have e : decide ((i : Int) = n) = decide (n = (i : Int)) := by rw [Bool.eq_iff_iff]; simp; exact eq_comm
        simp [laws_FnIsTail_t_b0, hi', impl_IsTail_eq k (by omega : 30 ≤ k), hall, w, e])
      (by simp [laws_FnIsTail_t_b0]) (k := k) (by omega)
    have ha : after r.1 n = -1 := by rw [← h3]; exact after_last hc
    have ht : copyTarget r n = -1 := by simp [copyTarget, h1, h2, ha]
    simp only [Int.natCast_zero, Int.ofNat_zero] at hloop
    simp [hloop, impl_MemberAfter_eq k (by omega : 10 ≤ k), impl_CopyTarget_eq k (by omega : 30 ≤ k), ha, ht]
theorem FnCopyTarget_true (k : Nat) (hk : 200 ≤ k) (a : List Int) (hb : ∀ x ∈ a, 0 ≤ x ∧ x ≤ 255) : laws_FnCopyTarget_t A k (a, ()) () = some ((true, ()), ()) := by
  rw [← ok_eq, laws_FnCopyTarget_t, ok_cndS]
  refine ⟨fun _ => ok_some.2 rfl, fun _ => ?_⟩
  refine (DrawCopyTarget_ok k (by omega) a hb).bind fun q hs => ?_
  obtain ⟨⟨r, n, _⟩, _⟩ := q
  have hs1 : r.1.2.1.length ≤ 100 := hs.1
  simp only [impl_CopyTarget_eq k (by omega : 30 ≤ k), spec_CopyTarget_eq k (by omega : 30 ≤ k) r n (by omega) (by omega), alive_eq k (by omega : 10 ≤ k), impl_MemberAfter_eq k (by omega : 10 ≤ k), impl_IsTail_eq k (by omega : 30 ≤ k), hasInt_eq k r.1.2.1 n (by omega) (by omega), a_obind_some]
  rw [ok_eq]
  by_cases hlt : copyTarget r n < 0
  · have : copyTarget r n = -1 := by
      unfold copyTarget at hlt ⊢
      split
      · rename_i hc; rw [if_pos hc] at hlt; exact after_lt hlt
      · rfl
    simp [this]
  · have hq : (repOk r && r.2.1) = true := by
      cases hq : (repOk r && r.2.1) with
      | true => rfl
      | false => simp [copyTarget, hq] at hlt
    have hct : copyTarget r n = after r.1 n := by simp only [copyTarget, hq, if_true]
    rw [hct] at hlt
    have hne : after r.1 n ≠ -1 := by omega
    have hm := after_mem hne
    simp only [Bool.and_eq_true] at hq
    have hc := repOk_ready hq.1 hq.2
    have hnt : isTail r n = false := by
      simp only [isTail, hq.1, hq.2, Bool.true_and, decide_eq_false_iff_not]
      intro e
      exact hne (by rw [← e]; exact after_last hc)
    simp [hct, hlt, hq.2, hm, hnt]
/-! ### a member added -/
theorem DrawWithMember_ok (k : Nat) (hk : 10 ≤ k) (a : List Int) (hb : ∀ x ∈ a, 0 ≤ x ∧ x ≤ 255) : Ok (spec_DrawWithMember_t A k (a, ()) ()) (fun q => Short q.1.1) := by
  rw [spec_DrawWithMember_t]
  refine (open_ok k a hb).bind fun q hq => ?_
  refine (l20Config_ok k hk 9 0 q.1 hq (by omega) (by omega)).bind fun q1 h1 => ?_
  refine Ok.bind (P := fun r3 => Short r3.2.2.1 ∧ RdOk 200 r3.2.1) ?_ fun r3 h3 => ?_
  · refine (pick_ok k 2 _ _ h1.1 (by omega) (by omega)).bind fun q2 hq2 => ?_
    rw [ok_cndS]
    exact ⟨fun _ => ok_some.2 ⟨h1.2, hq2.1.le (by omega)⟩, fun _ => ok_some.2 ⟨h1.2, hq2.1.le (by omega)⟩⟩
  · exact (Node_ok k 12 _ _ h3.2 (by omega) (by omega)).bind fun q4 h4 => ok_some.2 h3.1
theorem FnWithMember_true (k : Nat) (hk : 200 ≤ k) (a : List Int) (hb : ∀ x ∈ a, 0 ≤ x ∧ x ≤ 255) : laws_FnWithMember_t A k (a, ()) () = some ((true, ()), ()) := by
  rw [← ok_eq, laws_FnWithMember_t, ok_cndS]
  refine ⟨fun _ => ok_some.2 rfl, fun _ => ?_⟩
  refine (DrawWithMember_ok k (by omega) a hb).bind fun q hs => ?_
  obtain ⟨⟨c, n, _⟩, _⟩ := q
  simp only [Short] at hs
  have e1 := impl_WithMember_eq (A := A) k (by omega) c n
  have e2 := spec_WithMember_eq (A := A) k (by omega) c n
  have hl := withMember_len' c n
  simp only [e1, e2, a_obind_some, sameConfig_eq k (withMember c n).1 (withMember c n).1 (by omega) (by omega), decide_true, a_notB, Bool.not_true, a_cndS, Bool.false_eq_true, if_false, a_eqB, beq_self_eq_true, a_sumE_inl]
  rw [ok_eq]
  by_cases hok : (withMember c n).2.1 = true
  · have hcn : (cfgOk c && decide (0 ≤ n ∧ n ≤ 4)) = true := by
      cases h : (cfgOk c && decide (0 ≤ n ∧ n ≤ 4)) with
      | true => rfl
      | false => simp only [withMember, h] at hok; cases hok
    have hd : mayAdd c n = true := by
      cases h : mayAdd c n with
      | true => rfl
      | false => simp only [withMember, hcn, h] at hok; cases hok
    have ew : withMember c n = ((c.1 + 1, (c.2.1 ++ [n], (true, ()))), (true, ())) := by simp only [withMember, hcn, hd, if_true]
    simp only [Bool.and_eq_true, decide_eq_true_eq] at hcn
    obtain ⟨hc, hn⟩ := hcn
    have hx := cfgOk_len hc
    simp only [mayAdd, Bool.and_eq_true, Bool.not_eq_true', decide_eq_false_iff_not] at hd
    obtain ⟨hfr, hnm, h4, h60⟩ := hd
    have hmo := cfgOk_members hc
    have hmo2 : membersOk (c.2.1 ++ [n]) = true := by
      rw [membersOk_iff] at hmo ⊢
      refine ⟨fun x hx => ?_, ?_⟩
      · rcases List.mem_append.1 hx with hx | hx
        · exact hmo.1 x hx
        · simp at hx; subst hx; exact hn
      · rw [List.nodup_append]
        refine ⟨hmo.2, by simp, fun x hx y hy => ?_⟩
        simp at hy; subst hy
        exact fun e => hnm (e ▸ hx)
    have hdk : cfgOk (c.1 + 1, (c.2.1 ++ [n], (true, ()))) = true := by
      have g1 : 1 ≤ c.1 + 1 ∧ c.1 + 1 ≤ 60 := by omega
      have g2 : c.2.1.length + 1 ≤ 4 := by omega
      have g3 : ¬ c.2.1.length + 1 < 2 := by omega
      simp [cfgOk, g1, g2, g3, hmo2]
    have hco : completeOr (c.1 + 1, (c.2.1 ++ [n], (true, ()))) = c.2.1 := by simp [completeOr, hdk, complete]
    have wr : A.wrapI .i64 (c.1 + 1) = c.1 + 1 := a_wrap (by omega) (by omega)
    have hwo := impl_WithoutMember_eq (A := A) k (by omega) (c.1 + 1, (c.2.1 ++ [n], (true, ()))) n
    have hi : idx (c.2.1 ++ [n]) n = (c.2.1.length : Int) := by
      rcases idx_cases (c.2.1 ++ [n]) n with ⟨_, hno⟩ | ⟨i, e, hi, hv, _⟩
      · exact absurd (by simp) hno
      · rw [e]
        by_cases hlt : i < c.2.1.length
        · exfalso
          rw [getD_lt hi, List.getElem_append_left hlt] at hv
          exact hnm (hv ▸ List.getElem_mem hlt)
        · simp at hi; omega
    rw [ew]
    simp only [Bool.not_true, Bool.false_eq_true, if_false, hwo, a_obind_some, impl_ConfigValid_eq k (by omega : 10 ≤ k), hdk, if_true, a_addI, wr, a_eqI, decide_true, impl_CompleteMembers_eq k (by omega : 10 ≤ k), hco, sameInts_eq k c.2.1 c.2.1 (by omega) (by omega)]
    by_cases h60' : c.1 + 1 = 60
    · simp [h60']
    · have hmd : mayDrop (c.1 + 1, (c.2.1 ++ [n], (true, ()))) n = true := by simp [mayDrop, h60', hi]
      have hww : withoutMember (c.1 + 1, (c.2.1 ++ [n], (true, ()))) n = (without (c.1 + 1, (c.2.1 ++ [n], (true, ()))) (idx (c.2.1 ++ [n]) n).toNat, (true, ())) := by simp only [withoutMember, hdk, hmd, if_true]
      have hw2 : without (c.1 + 1, (c.2.1 ++ [n], (true, ()))) (idx (c.2.1 ++ [n]) n).toNat = (c.1 + 1 + 1, (c.2.1, (false, ()))) := by
        rw [hi]
        simp [without]
      rw [hww, hw2]
      simp [h60', sameInts_eq k c.2.1 c.2.1 (by omega) (by omega)]
  · have hok' : (withMember c n).2.1 = false := by simpa using hok
    have hc : (withMember c n).1 = c ∨ (withMember c n).1 = zeroC := by
      unfold withMember at hok' ⊢
      split
      · rename_i h
        rw [if_pos h] at hok'
        split
        · rename_i h2; rw [if_pos h2] at hok'; cases hok'
        · exact .inl rfl
      · exact .inr rfl
    simp only [hok', Bool.not_false, if_true, alive_eq k (by omega : 10 ≤ k), a_obind_some]
    rw [sameConfig_eq k (withMember c n).1 c (by omega) (by omega)]
    simp only [a_obind_some]
    by_cases hcc : (withMember c n).1 = c
    · simp [hcc]
    · have hz := hc.resolve_left hcc
      have := sameConfig_eq (A := A) k (withMember c n).1 (0, ([], (false, ()))) (by omega) (by omega)
      simp only [hcc, decide_false, Bool.false_eq_true, if_false]
      rw [this]
      simp [hz, zeroC]
end
theorem FnWithMember_pure (a : List Int) (h : InR (.slice (.int .u8)) a) : ∃ k, laws_FnWithMember_t real k (a, ()) () = some ((true, ()), ()) :=
  haveI := isReal_real
  ⟨200, FnWithMember_true 200 (by omega) a (code_bytes h)⟩
theorem FnIsTail_pure (a : List Int) (h : InR (.slice (.int .u8)) a) : ∃ k, laws_FnIsTail_t real k (a, ()) () = some ((true, ()), ()) :=
  haveI := isReal_real
  ⟨200, FnIsTail_true 200 (by omega) a (code_bytes h)⟩
theorem FnCopyTarget_pure (a : List Int) (h : InR (.slice (.int .u8)) a) : ∃ k, laws_FnCopyTarget_t real k (a, ()) () = some ((true, ()), ()) :=
  haveI := isReal_real
  ⟨200, FnCopyTarget_true 200 (by omega) a (code_bytes h)⟩
end Go.Den.T
