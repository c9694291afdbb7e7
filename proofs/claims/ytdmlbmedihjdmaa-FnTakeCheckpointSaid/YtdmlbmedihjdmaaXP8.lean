/- The laws on checkpoints taken and restored. -/
import Derived.Test.YtdmlbmedihjdmaaXC5
import Derived.Test.YtdmlbmedihjdmaaXP7

namespace Go.Den.T
set_option linter.unusedVariables false
set_option linter.unusedSimpArgs false
set_option linter.unusedSectionVars false
section
variable {A : Atoms} [IsReal A]
theorem pair_eq (x y : Pair) : (decide (x.1 = y.1) && (decide (x.2.1 = y.2.1) && true)) = decide (x = y) := by
  obtain ⟨a, b, _⟩ := x
  obtain ⟨c, d, _⟩ := y
  by_cases h1 : a = c <;> by_cases h2 : b = d <;> simp [h1, h2]
theorem ses_eq (x y : Ses) : (decide (x.1 = y.1) && (decide (x.2.1 = y.2.1) && (decide (x.2.2.1 = y.2.2.1) && true))) = decide (x = y) := by
  obtain ⟨a, b, c, _⟩ := x
  obtain ⟨d, e, f, _⟩ := y
  by_cases h1 : a = d <;> by_cases h2 : b = e <;> by_cases h3 : c = f <;> simp [h1, h2, h3]
theorem samePairs_eq (k : Nat) (xs ys : List Pair) (hk : xs.length < k) (hl : xs.length ≤ 1000000000) : laws_samePairs_t A k (xs, (ys, ())) () = some ((decide (xs = ys), ()), ()) := by
  by_cases he : xs.length = ys.length
  · have h := eq_loop (A := A) (f := laws_samePairs_t_b0 A k) pair0 xs ys hk he
      (fun i hi => by
        have hi' : i < ys.length := by omega
        have hx : (i : Int) < (xs.length : Int) := by omega
        have hy : (i : Int) < (ys.length : Int) := by omega
        have w : A.wrapI .i64 ((i : Int) + 1) = (i : Int) + 1 := a_wrap (by omega) (by omega)
        have e := pair_eq (xs.getD i pair0) (ys.getD i pair0)
        simp only [laws_samePairs_t_b0, a_cndS, a_ltI, a_lenL, a_le0, a_andB, hx, hy, Int.natCast_nonneg, decide_true, Bool.and_self, if_true, a_atL, Int.toNat_natCast, a_eqI, a_eqS, a_notB, a_addI, w, e]
        by_cases hv : xs.getD i pair0 = ys.getD i pair0
        · simp only [hv]; simp
        · simp only [hv]; simp)
      (by simp [laws_samePairs_t_b0])
    simp only [laws_samePairs_t, a_lenL, he, a_eqI, decide_true, a_notB, Bool.not_true, a_cndS, Bool.false_eq_true, if_false, h]
    by_cases hv : xs = ys <;> simp [hv]
  · have h2 : ¬ (xs.length : Int) = ys.length := by omega
    have h3 : ¬ xs = ys := fun e => he (by rw [e])
    simp [laws_samePairs_t, h2, h3]
theorem sameSessions_eq (k : Nat) (xs ys : List Ses) (hk : xs.length < k) (hl : xs.length ≤ 1000000000) : laws_sameSessions_t A k (xs, (ys, ())) () = some ((decide (xs = ys), ()), ()) := by
  by_cases he : xs.length = ys.length
  · have h := eq_loop (A := A) (f := laws_sameSessions_t_b0 A k) ses0 xs ys hk he
      (fun i hi => by
        have hi' : i < ys.length := by omega
        have hx : (i : Int) < (xs.length : Int) := by omega
        have hy : (i : Int) < (ys.length : Int) := by omega
        have w : A.wrapI .i64 ((i : Int) + 1) = (i : Int) + 1 := a_wrap (by omega) (by omega)
        have e := ses_eq (xs.getD i ses0) (ys.getD i ses0)
        simp only [laws_sameSessions_t_b0, a_cndS, a_ltI, a_lenL, a_le0, a_andB, hx, hy, Int.natCast_nonneg, decide_true, Bool.and_self, if_true, a_atL, Int.toNat_natCast, a_eqI, a_eqS, a_notB, a_addI, w, e]
        by_cases hv : xs.getD i ses0 = ys.getD i ses0
        · simp only [hv]; simp
        · simp only [hv]; simp)
      (by simp [laws_sameSessions_t_b0])
    simp only [laws_sameSessions_t, a_lenL, he, a_eqI, decide_true, a_notB, Bool.not_true, a_cndS, Bool.false_eq_true, if_false, h]
    by_cases hv : xs = ys <;> simp [hv]
  · have h2 : ¬ (xs.length : Int) = ys.length := by omega
    have h3 : ¬ xs = ys := fun e => he (by rw [e])
    simp [laws_sameSessions_t, h2, h3]
theorem sameState_eq (k : Nat) (c d : Stt) (h1 : c.2.1.length < k) (h2 : c.2.2.1.length < k) (h1' : c.2.1.length ≤ 1000000000) (h2' : c.2.2.1.length ≤ 1000000000) : laws_sameState_t A k (c, (d, ())) () = some ((decide (c = d), ()), ()) := by
  obtain ⟨⟨a1, a1', _⟩, a2, a3, a4, a5, _⟩ := c
  obtain ⟨⟨b1, b1', _⟩, b2, b3, b4, b5, _⟩ := d
  simp only at h1 h2 h1' h2'
  simp only [laws_sameState_t, samePairs_eq k a2 b2 h1 h1', sameSessions_eq k a3 b3 h2 h2', a_obind_some, a_cndS, a_eqS, a_eqB, a_andB]
  by_cases g1 : a1 = b1
  · by_cases g1' : a1' = b1'
    · by_cases g2 : a2 = b2
      · by_cases g3 : a3 = b3
        · by_cases g4 : a4 = b4 <;> by_cases g5 : a5 = b5 <;> simp [g1, g1', g2, g3, g4, g5]
        · simp [g1, g1', g2, g3]
      · simp [g1, g1', g2]
    · simp [g1, g1']
  · simp [g1]
theorem noState_eq (k : Nat) (c : Stt) (h1 : c.2.1.length < k) (h2 : c.2.2.1.length < k) (h1' : c.2.1.length ≤ 1000000000) (h2' : c.2.2.1.length ≤ 1000000000) : laws_noState_t A k (c, ()) () = some ((decide (c = stt0), ()), ()) := by
  simp only [laws_noState_t, sameState_eq k c _ h1 h2 h1' h2', a_obind_some]
theorem DrawTakeCheckpoint_ok (k : Nat) (hk : 3000 ≤ k) (a : List Int) (hb : ∀ x ∈ a, 0 ≤ x ∧ x ≤ 255) : Ok (spec_DrawTakeCheckpoint_t A k (a, ()) ()) (fun q => StS q.1.1 ∧ q.1.2.1.length ≤ 30) := by
  rw [spec_DrawTakeCheckpoint_t]
  refine (open_ok k a hb).bind fun q hq => ?_
  refine (l20State_ok k (by omega) 14 0 q.1 hq (by omega) (by omega)).bind fun q1 h1 => ?_
  refine (l20Log_ok k (by omega) 14 _ q1.2 h1.1 (by omega) (by omega)).bind fun q2 h2 => ?_
  have hl : q2.1.1.length ≤ 30 := h2.2.1
  have w : A.wrapI .i64 (A.addI (A.lenL q2.1.1) 2) = (q2.1.1.length : Int) + 2 := by rw [a_addI, a_lenL]; exact a_wrap (by omega) (by omega)
  rw [w]
  refine (pick_ok k _ _ _ h2.1 (by omega) (by omega)).bind fun q3 h3 => ?_
  refine (pick_ok k 14 _ _ h3.1 (by omega) (by omega)).bind fun q4 h4 => ?_
  rw [ok_cndS]
  exact ⟨fun _ => ok_some.2 ⟨h1.2, hl⟩, fun hc => (by simp at hc)⟩
theorem FnTakeCheckpoint_true (k : Nat) (hk : 3000 ≤ k) (a : List Int) (hb : ∀ x ∈ a, 0 ≤ x ∧ x ≤ 255) : laws_FnTakeCheckpoint_t A k (a, ()) () = some ((true, ()), ()) := by
  rw [← ok_eq, laws_FnTakeCheckpoint_t, ok_cndS]
  refine ⟨fun _ => ok_some.2 rfl, fun _ => ?_⟩
  refine (DrawTakeCheckpoint_ok k hk a hb).bind fun q hq => ?_
  obtain ⟨⟨s, l, n, _⟩, _⟩ := q
  obtain ⟨⟨g1, g2⟩, g3⟩ := hq
  simp only at g1 g2 g3
  rw [ok_eq]
  have hk1 : 100 ≤ k := by omega
  have al := alive_eq (A := A) k (by omega : 10 ≤ k)
  by_cases hc : (stOk s && logOk l) = true ∧ 0 ≤ n ∧ n ≤ l.length
  case neg =>
    have ht : takeK s l n = (chk0, (false, ())) := by rw [takeK, if_neg hc]
    have sm := sameState_eq (A := A) k stt0 stt0 (by simp; omega) (by simp; omega) (by simp) (by simp)
    have nm := noState_eq (A := A) k stt0 (by simp; omega) (by simp; omega) (by simp) (by simp)
    simp only [decide_true] at sm nm
    simp only [impl_TakeCheckpoint_eq k hk1 s l n (by omega) (by omega), spec_TakeCheckpoint_eq k hk1 s l n (by omega) (by omega), ht, a_obind_some, sm, nm, al, a_eqI, a_eqB, decide_true, a_notB, Bool.not_true, a_cndS, Bool.false_eq_true, if_false, if_true, a_sumE_inl, Bool.not_false, beq_self_eq_true, a_sumE_inr]
  obtain ⟨hsl, n1, n2⟩ := hc
  have ht : takeK s l n = ((n, ((rep s (l.take n.toNat)).1, ())), (true, ())) := by rw [takeK, if_pos ⟨hsl, n1, n2⟩]
  simp only [Bool.and_eq_true] at hsl
  obtain ⟨hs, hl⟩ := hsl
  obtain ⟨l1, l2⟩ := logOk_iff'.1 hl
  have hv : stOk (rep s (l.take n.toNat)).1 = true := rep_ok hs (fun e he => l2 e (List.mem_of_mem_take he))
  obtain ⟨v1, v2⟩ := st_short hv
  obtain ⟨hra, hrl⟩ := rep_append s (l.take n.toNat) (l.drop n.toNat)
  rw [List.take_append_drop] at hra
  have hfull : (rep s l).2.length = l.length := (rep_append s l []).2
  have hvl : stOk (rep s l).1 = true := rep_ok hs l2
  obtain ⟨w1, w2⟩ := st_short hvl
  have hck : chkOk (n, ((rep s (l.take n.toNat)).1, ())) = true := by
    have : n ≤ 24 := by omega
    simp [chkOk, hv, n1, this]
  have hrest : restK (n, ((rep s (l.take n.toNat)).1, ())) (l.drop n.toNat) = ((rep s l).1, ((rep (rep s (l.take n.toNat)).1 (l.drop n.toNat)).2, (true, ()))) := by
    rw [restK, if_pos ⟨by simp [hck, log_drop hl], by simp only [List.length_drop]; omega⟩, hra]
  have hdr : (rep s l).2.drop n.toNat = (rep (rep s (l.take n.toNat)).1 (l.drop n.toNat)).2 := by
    rw [hra]
    have : n.toNat = (rep s (l.take n.toNat)).2.length := by rw [hrl, List.length_take]; omega
    rw [List.drop_left' this.symm]
  have hlen2 : (rep (rep s (l.take n.toNat)).1 (l.drop n.toNat)).2.length ≤ 24 := by rw [(rep_append _ (l.drop n.toNat) []).2, List.length_drop]; omega
  have hrp : replay s l = ((rep s l).1, ((rep s l).2, ())) := by rw [replay, if_pos (by simp [hs, hl])]
  have sm := sameState_eq (A := A) k (rep s (l.take n.toNat)).1 (rep s (l.take n.toNat)).1 (by omega) (by omega) (by omega) (by omega)
  have sm2 := sameState_eq (A := A) k (rep s l).1 (rep s l).1 (by omega) (by omega) (by omega) (by omega)
  have si := sameInts_eq (A := A) k (rep (rep s (l.take n.toNat)).1 (l.drop n.toNat)).2 (rep (rep s (l.take n.toNat)).1 (l.drop n.toNat)).2 (by omega) (by omega)
  simp only [decide_true] at sm sm2 si
  have n3 : ¬ n < 0 := by omega
  have n4 : ¬ (l.length : Int) < n := by omega
  have n5 : n ≤ ((rep s l).2.length : Int) := by omega
  have n6 : ((rep s l).2.length : Int) = (l.length : Int) := by omega
  simp only [impl_TakeCheckpoint_eq k hk1 s l n (by omega) (by omega), spec_TakeCheckpoint_eq k hk1 s l n (by omega) (by omega), ht, a_obind_some, sm, a_eqI, a_eqB, decide_true, a_notB, Bool.not_true, a_cndS, Bool.false_eq_true, if_false, if_true, a_sumE_inl, beq_self_eq_true, a_ltI, n3, n4, decide_false, a_lenL, a_le0, n1, a_leI, n2, a_andB, Bool.and_self, a_dropL,
    impl_RestoreCheckpoint_eq k hk1 (n, ((rep s (l.take n.toNat)).1, ())) _ (show (rep s (l.take n.toNat)).1.2.2.1.length < k by omega) (show (rep s (l.take n.toNat)).1.2.2.1.length ≤ 1000000000 by omega), hrest, impl_Replay_eq k hk1 s l (by omega) (by omega), hrp,
    impl_CheckpointValid_eq k (by omega : 60 ≤ k) (n, ((rep s (l.take n.toNat)).1, ())) (show (rep s (l.take n.toNat)).1.2.2.1.length < k by omega) (show (rep s (l.take n.toNat)).1.2.2.1.length ≤ 1000000000 by omega), hck, sm2, n6, hdr, si]
end
theorem FnTakeCheckpoint_pure (a : List Int) (h : InR (.slice (.int .u8)) a) : ∃ k, laws_FnTakeCheckpoint_t real k (a, ()) () = some ((true, ()), ()) :=
  haveI := isReal_real
  ⟨3000, FnTakeCheckpoint_true 3000 (by omega) a (code_bytes h)⟩
end Go.Den.T
