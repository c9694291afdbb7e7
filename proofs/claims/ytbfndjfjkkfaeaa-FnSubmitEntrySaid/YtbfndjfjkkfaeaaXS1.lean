/- Entries submitted. -/
import Derived.Test.YtbfndjfjkkfaeaaXE3
import Derived.Test.YtbfndjfjkkfaeaaXM1
import Derived.Test.YtbfndjfjkkfaeaaXR5

namespace Go.Den.T
set_option linter.unusedVariables false
set_option linter.unusedSimpArgs false
set_option linter.unusedSectionVars false
section
variable {A : Atoms} [IsReal A]
def maySubmit (r : Rep) (node : Int) : Bool := r.2.1 && (decide (r.1.2.1.getD 0 0 = node) && decide (r.2.2.1.length < 24))
def submit (r : Rep) (node : Int) (e : Ent) : Rep × (Bool × Unit) :=
  if (repOk r && (decide (0 ≤ node ∧ node ≤ 4) && entOk e)) = true then
    if maySubmit r node = true then ((r.1, (r.2.1, (r.2.2.1 ++ [e], r.2.2.2))), (true, ())) else (r, (false, ()))
  else (rep0, (false, ()))
theorem impl_SubmitEntry_eq (k : Nat) (hk : 30 ≤ k) (r : Rep) (n : Int) (e : Ent) : impl_SubmitEntry_t A k (r, (n, (e, ()))) () = some (submit r n e, ()) := by
  simp only [impl_SubmitEntry_t, impl_ReplicaValid_eq k hk, nodeValid_eq, impl_EntryValid_eq k (by omega : 10 ≤ k), a_obind_some, a_cndS, a_notB, submit]
  cases h : repOk r with
  | false => simp
  | true =>
    have hl := repOk_len h
    by_cases h1 : 0 ≤ n ∧ n ≤ 4
    case neg => simp [h1]
    cases he : entOk e with
    | false => simp [h1]
    | true =>
      simp only [h1, and_self, decide_true, Bool.not_true, Bool.false_eq_true, if_false, if_true, a_sumE_inl, copyReplica_eq k r (by omega) (by omega), a_obind_some, Bool.and_self, maySubmit]
      rcases Bool.eq_false_or_eq_true r.2.1 with hr | hr
      case inr => simp [hr]
      case inl =>
        have hc := cfgOk_len (repOk_ready h hr)
        have h0 : (0 : Int) < (r.1.2.1.length : Int) := by omega
        have h0' : 0 < r.1.2.1.length := by omega
        have ea : A.atL r.1.2.1 0 0 = r.1.2.1.getD 0 0 := a_atL _ _ _
        obtain ⟨m0, em⟩ : ∃ m0, r.1.2.1.getD 0 0 = m0 := ⟨_, rfl⟩
        simp only [ea, em]
        clear ea em
        by_cases hm : m0 = n
        case neg => simp [h0, h0', hm, hr]
        by_cases hlen : r.2.2.1.length < 24
        · have h24 : ¬ (24 : Int) ≤ (r.2.2.1.length : Int) := by omega
          have g : (r.2.2.1.length : Int) + 1 < 4294967296 := by omega
          simp [h0, h0', hm, hlen, h24, g, hr]
        · have h24 : (24 : Int) ≤ (r.2.2.1.length : Int) := by omega
          simp [h0, h0', hm, hlen, h24, hr]
theorem spec_SubmitEntry_eq (k : Nat) (hk : 30 ≤ k) (r : Rep) (n : Int) (e : Ent) : spec_SubmitEntry_t A k (r, (n, (e, ()))) () = some (submit r n e, ()) := by
  simp only [spec_SubmitEntry_t, spec_ReplicaValid_eq k hk, l1In_eq, spec_EntryValid_eq k (by omega : 10 ≤ k), a_obind_some, a_cndS, a_notB, submit]
  cases h : repOk r with
  | false => simp
  | true =>
    have hl := repOk_len h
    by_cases h1 : 0 ≤ n ∧ n ≤ 4
    case neg => simp [h1]
    cases he : entOk e with
    | false => simp [h1]
    | true =>
      simp only [h1, and_self, decide_true, Bool.not_true, Bool.false_eq_true, if_false, if_true, a_sumE_inl, l17Copy_eq k r (by omega) (by omega), a_obind_some, Bool.and_self, maySubmit]
      rcases Bool.eq_false_or_eq_true r.2.1 with hr | hr
      case inr => simp [hr]
      case inl =>
        have hc := cfgOk_len (repOk_ready h hr)
        have h0 : (0 : Int) < (r.1.2.1.length : Int) := by omega
        have h0' : 0 < r.1.2.1.length := by omega
        have ea : A.atL r.1.2.1 0 0 = r.1.2.1.getD 0 0 := a_atL _ _ _
        obtain ⟨m0, em⟩ : ∃ m0, r.1.2.1.getD 0 0 = m0 := ⟨_, rfl⟩
        simp only [ea, em]
        clear ea em
        by_cases hm : m0 = n
        case neg => simp [h0, h0', hm, hr]
        by_cases hlen : r.2.2.1.length < 24
        · have h24 : ¬ (24 : Int) ≤ (r.2.2.1.length : Int) := by omega
          have g : (r.2.2.1.length : Int) + 1 < 4294967296 := by omega
          simp [h0, h0', hm, hlen, h24, g, hr]
        · have h24 : (24 : Int) ≤ (r.2.2.1.length : Int) := by omega
          simp [h0, h0', hm, hlen, h24, hr]
theorem szReplica_ok' (k : Nat) (r : Rep) (hk : 2000000 ≤ k) (h1 : r.1.2.1.length ≤ 9223372036854775807) (hl : r.2.2.1.length ≤ 9223372036854775807) (hs : ∀ e ∈ r.2.2.1, e.2.2.1.2.1.length ≤ 9223372036854775807) :
    Ok (laws_szReplica_t A k (r, (1048576, ())) ()) (fun q => q.1.1 < 0 ∨ (0 ≤ q.1.1 ∧ q.1.1 ≤ 1048576 ∧ r.1.2.1.length ≤ 1048576 ∧ r.2.2.1.length ≤ 1048576)) := by
  rw [laws_szReplica_t, szConfig_eq k r.1 1048576 (by omega) (by omega) h1, a_obind_some, ok_cndS]
  simp only [a_ltI, decide_eq_true_eq, decide_eq_false_iff_not]
  refine ⟨fun _ => ok_some.2 (.inl (by show (-1 : Int) < 0; omega)), fun h => ?_⟩
  by_cases hc : (1048576 : Int) < r.1.2.1.length
  · rw [if_pos hc] at h; omega
  rw [if_neg hc] at h ⊢
  refine (szEntryS_ok k r.2.2.1 _ (by omega) (by omega) hk hl hs).bind fun q hq => ?_
  rw [ok_cndS]
  simp only [a_ltI, decide_eq_true_eq, decide_eq_false_iff_not]
  refine ⟨fun _ => ok_some.2 (.inl (by show (-1 : Int) < 0; omega)), fun hh => ok_some.2 (.inr ?_)⟩
  rcases hq with hq | hq
  · omega
  · exact ⟨hq.1, by show q.1.1 ≤ 1048576; omega, by omega, hq.2.2⟩
theorem submit_len (r : Rep) (n : Int) (e : Ent) : (submit r n e).1.1.2.1.length ≤ 1048576 ∧ (submit r n e).1.2.2.1.length ≤ 1048576 := by
  unfold submit
  split
  · rename_i h
    simp only [Bool.and_eq_true] at h
    have hl := repOk_len h.1
    split
    · exact ⟨by simp only; omega, by simp only [List.length_append, List.length_cons, List.length_nil]; omega⟩
    · exact ⟨by simp only; omega, by simp only; omega⟩
  · exact ⟨by simp, by simp⟩
theorem szEntry_ok (k : Nat) (e : Ent) (n : Int) (h0 : 0 ≤ n) (hn : n ≤ 1048576) (hs : e.2.2.1.2.1.length ≤ 9223372036854775807) : Ok (laws_szEntry_t A k (e, (n, ())) ()) (fun q => True) := by
  have w : A.wrapI .i64 (n - (e.2.2.1.2.1.length : Int)) = n - (e.2.2.1.2.1.length : Int) := a_wrap (by omega) (by omega)
  simp only [laws_szEntry_t, laws_szCommand_t, a_subI, a_lenL, w, a_cndS, a_ltI, a_obind_some]
  split
  · simp only [a_obind_some]; split <;> exact ⟨_, rfl, trivial⟩
  · simp only [a_obind_some]; split <;> exact ⟨_, rfl, trivial⟩
theorem toEntry_eq' (k : Nat) (e : Ent) : laws_toEntry_t A k (e, ()) () = some ((e, ()), ()) := by
  simp [laws_toEntry_t, laws_toCommand_t]
theorem FnExactSubmitEntry_true (k : Nat) (hk : 2000000 ≤ k) (r : Rep) (n : Int) (e : Ent) (h1 : r.1.2.1.length ≤ 9223372036854775807) (hl : r.2.2.1.length ≤ 9223372036854775807) (hs : ∀ e ∈ r.2.2.1, e.2.2.1.2.1.length ≤ 9223372036854775807) (he : e.2.2.1.2.1.length ≤ 9223372036854775807) :
    laws_FnExactSubmitEntry_t A k (r, (n, (e, ()))) () = some ((true, ()), ()) := by
  rw [← ok_eq, laws_FnExactSubmitEntry_t]
  refine (szReplica_ok' k r hk h1 hl hs).bind fun q hq => ?_
  rw [ok_cndS]
  simp only [a_ltI, decide_eq_true_eq, decide_eq_false_iff_not]
  refine ⟨fun _ => ok_some.2 rfl, fun hn => ?_⟩
  rcases hq with hq | hq
  · omega
  refine (szEntry_ok k e q.1.1 (by omega) (by omega) he).bind fun q2 _ => ?_
  rw [ok_cndS]
  refine ⟨fun _ => ok_some.2 rfl, fun _ => ?_⟩
  obtain ⟨_, h2, h3⟩ := hq.2
  have hd := submit_len r n e
  rw [ok_eq]
  have g1 : ¬ 1 + (r.1.2.1.length : Int) + 6 * (r.2.2.1.length : Int) < 0 := by omega
  have g2 : ¬ 1 + ((submit r n e).1.1.2.1.length : Int) + 6 * ((submit r n e).1.2.2.1.length : Int) < 0 := by omega
  simp [toReplica_eq k r hk h2 h3, toEntry_eq', spec_SubmitEntry_eq k (by omega : 30 ≤ k), impl_SubmitEntry_eq k (by omega : 30 ≤ k), eqReplica_eq k (submit r n e).1 (submit r n e).1 hk hd.1 hd.2, eqReplica_eq k r r hk h2 h3,
    markReplica_eq k hk 1 r h2 h3 (by omega) (by omega), g1, markReplica_eq k hk 1 (submit r n e).1 hd.1 hd.2 (by omega) (by omega), heldReplica_eq k hk 1 (submit r n e).1 hd.1 hd.2 (by omega) (by omega), g2]
end
theorem FnExactSubmitEntry_pure (r : TRep.val) (h : InR TRep r) (n : Int) (_ : InR (.int .i64) n) (e : TEnt.val) (he : InR TEnt e) : ∃ k, laws_FnExactSubmitEntry_t real k (r, (n, (e, ()))) () = some ((true, ()), ()) :=
  haveI := isReal_real
  ⟨2000000, FnExactSubmitEntry_true 2000000 (by omega) r n e (Nat.le_trans h.1.2.1.1 (by decide)) (Nat.le_trans h.2.2.1.1 (by decide)) (keys_of h.2.2.1) (Nat.le_trans he.2.2.1.2.1 (by decide))⟩
end Go.Den.T
