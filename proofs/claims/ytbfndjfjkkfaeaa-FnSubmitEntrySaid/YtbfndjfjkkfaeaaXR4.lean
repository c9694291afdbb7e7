/- Copies taken. -/
import Derived.Test.YtbfndjfjkkfaeaaXR3

namespace Go.Den.T
set_option linter.unusedVariables false
set_option linter.unusedSimpArgs false
set_option linter.unusedSectionVars false
section
variable {A : Atoms} [IsReal A]
abbrev rep0 : Rep := ((0, ([], (false, ()))), (false, ([], ())))
theorem copyOf_Entry_eq (k : Nat) (l : List Ent) (h : l.length ≤ 1000000000) : impl_copyOf_Entry_t A k (l, ()) () = some ((l, ()), ()) := by
  have : (l.length : Int) < 4294967296 := by omega
  simp [impl_copyOf_Entry_t, this]
theorem copyReplica_eq (k : Nat) (r : Rep) (h1 : r.1.2.1.length ≤ 1000000000) (h2 : r.2.2.1.length ≤ 1000000000) : impl_copyReplica_t A k (r, ()) () = some ((r, ()), ()) := by
  simp [impl_copyReplica_t, copyConfig_eq k r.1 h1, copyOf_Entry_eq k r.2.2.1 h2]
theorem l17Copy_eq (k : Nat) (r : Rep) (h1 : r.1.2.1.length ≤ 1000000000) (h2 : r.2.2.1.length ≤ 1000000000) : spec_l17Copy_t A k (r, ()) () = some ((r, ()), ()) := by
  have : (r.2.2.1.length : Int) < 4294967296 := by omega
  simp [spec_l17Copy_t, l16Copy_eq k r.1 h1, this]
theorem repOk_len {r : Rep} (h : repOk r = true) : r.1.2.1.length ≤ 4 ∧ r.2.2.1.length ≤ 24 := by
  unfold repOk at h
  cases hn : noCfg r.1 with
  | true =>
    simp only [hn, if_true, Bool.and_eq_true, decide_eq_true_eq] at h
    simp only [noCfg, Bool.and_eq_true, decide_eq_true_eq] at hn
    omega
  | false =>
    simp only [hn, Bool.false_eq_true, if_false, Bool.and_eq_true] at h
    have := cfgOk_len h.1
    have h2 := h.2.1
    simp only [logOk, Bool.and_eq_true, decide_eq_true_eq] at h2
    omega
def takeCopy (r : Rep) (ep : Int) (l : List Ent) : Rep × (Bool × Unit) :=
  if (repOk r && (decide (1 ≤ ep ∧ ep ≤ 60) && logOk l)) = true then
    if (decide (ep = r.1.1) && !(r.2.1 && decide (l.length ≤ r.2.2.1.length))) = true then ((r.1, (true, (l, r.2.2.2))), (true, ())) else (r, (false, ()))
  else (rep0, (false, ()))
theorem impl_TakeCopy_eq (k : Nat) (hk : 30 ≤ k) (r : Rep) (ep : Int) (l : List Ent) : impl_TakeCopy_t A k (r, (ep, (l, ()))) () = some (takeCopy r ep l, ()) := by
  simp only [impl_TakeCopy_t, impl_ReplicaValid_eq k hk, entriesValid_eq k hk, a_obind_some, a_cndS, a_notB, a_ltI, takeCopy]
  cases h : repOk r with
  | false => simp
  | true =>
    have hl := repOk_len h
    by_cases h1 : ep < 1
    · have : ¬ (1 ≤ ep ∧ ep ≤ 60) := by omega
      simp [h1, this]
    by_cases h2 : 60 < ep
    · have : ¬ (1 ≤ ep ∧ ep ≤ 60) := by omega
      simp [h1, h2, this]
    have h3 : 1 ≤ ep ∧ ep ≤ 60 := by omega
    cases hlog : logOk l with
    | false => simp [h1, h2, h3]
    | true =>
      have hll : l.length ≤ 24 := by simp only [logOk, Bool.and_eq_true, decide_eq_true_eq] at hlog; exact hlog.1
      simp only [h1, h2, h3, decide_true, decide_false, Bool.not_true, Bool.false_eq_true, if_false, if_true, a_sumE_inl, copyReplica_eq k r (by omega) (by omega), a_obind_some, a_eqI, Bool.and_self, and_self]
      by_cases h4 : ep = r.1.1
      · cases h5 : r.2.1 with
        | true =>
          by_cases h6 : l.length ≤ r.2.2.1.length
          · have : (l.length : Int) ≤ (r.2.2.1.length : Int) := by omega
            simp [h4, h6, this]
          · have : ¬ (l.length : Int) ≤ (r.2.2.1.length : Int) := by omega
            simp [h4, h6, this, copyOf_Entry_eq k l (by omega)]
        | false => simp [h4, copyOf_Entry_eq k l (by omega)]
      · simp [h4]
theorem spec_TakeCopy_eq (k : Nat) (hk : 30 ≤ k) (r : Rep) (ep : Int) (l : List Ent) : spec_TakeCopy_t A k (r, (ep, (l, ()))) () = some (takeCopy r ep l, ()) := by
  simp only [spec_TakeCopy_t, spec_ReplicaValid_eq k hk, l10Log_eq k hk, l1In_eq, a_obind_some, a_cndS, a_notB, takeCopy]
  cases h : repOk r with
  | false => simp
  | true =>
    have hl := repOk_len h
    by_cases h3 : 1 ≤ ep ∧ ep ≤ 60
    case neg => simp [h3]
    cases hlog : logOk l with
    | false => simp [h3]
    | true =>
      have hll : l.length ≤ 24 := by simp only [logOk, Bool.and_eq_true, decide_eq_true_eq] at hlog; exact hlog.1
      have g1 : (l.length : Int) < 4294967296 := by omega
      simp only [h3, decide_true, decide_false, Bool.not_true, Bool.false_eq_true, if_false, if_true, a_sumE_inl, l17Copy_eq k r (by omega) (by omega), a_obind_some, a_eqI, Bool.and_self, and_self]
      by_cases h4 : ep = r.1.1
      · cases h5 : r.2.1 with
        | true =>
          by_cases h6 : l.length ≤ r.2.2.1.length
          · have : (l.length : Int) ≤ (r.2.2.1.length : Int) := by omega
            simp [h4, h6, this]
          · have : ¬ (l.length : Int) ≤ (r.2.2.1.length : Int) := by omega
            simp [h4, h6, this, g1]
        | false => simp [h4, g1]
      · simp [h4]
end
end Go.Den.T
