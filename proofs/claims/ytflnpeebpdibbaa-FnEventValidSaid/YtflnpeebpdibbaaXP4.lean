/- Pairs and sessions put, dropped, found: both sides in one form. -/
import Derived.Test.YtflnpeebpdibbaaXP3

namespace Go.Den.T
set_option linter.unusedVariables false
set_option linter.unusedSimpArgs false
set_option linter.unusedSectionVars false
section
variable {A : Atoms} [IsReal A]
/-! ### pairs -/
def pput (l : List Pair) (s : List UInt8) (v : Int) : List Pair × (Bool × Unit) :=
  if (pairsOk l && (keyOk s && valOk v)) = true then (if ph l s = true then (l.take (pp l s) ++ [(s, (v, ()))] ++ l.drop (pp l s + 1), (true, ())) else if 48 ≤ l.length then (l, (false, ())) else (l.take (pp l s) ++ [(s, (v, ()))] ++ l.drop (pp l s), (true, ()))) else ([], (false, ()))
theorem pp_le (l : List Pair) (s : List UInt8) : pp l s ≤ l.length := ahead_le ..
theorem pairs_len {l : List Pair} (h : pairsOk l = true) : l.length ≤ 48 := (pairs_keys h).1
theorem spec_PairPut_eq (k : Nat) (hk : 100 ≤ k) (l : List Pair) (s : List UInt8) (v : Int) : spec_PairPut_t A k (l, (s, (v, ()))) () = some (pput l s v, ()) := by
  have hle := pp_le l s
  simp only [spec_PairPut_t, spec_PairsValid_eq k (by omega : 60 ≤ k), spec_KeyValid_eq k (by omega : 10 ≤ k), l1In_eq, a_obind_some, a_cndS, a_notB, pput]
  rcases Bool.eq_false_or_eq_true (pairsOk l) with hp | hp
  case inr => simp [hp]
  rcases Bool.eq_false_or_eq_true (keyOk s) with hs | hs
  case inr => simp [hp, hs]
  rcases Bool.eq_false_or_eq_true (valOk v) with hv | hv
  case inr =>
    have hv' : ¬ (0 ≤ v ∧ v ≤ 999) := by simpa [valOk] using hv
    simp [hp, hs, hv, hv']
  have hv' : 0 ≤ v ∧ v ≤ 999 := by simpa [valOk] using hv
  have hl := pairs_len hp
  have hb : (l.length : Int) < 4294967296 := by omega
  simp only [hp, hs, hv, hv', and_self, decide_true, l4Place_eq k l s (by omega) (by omega), a_obind_some, a_sumE_inl, Bool.not_true, Bool.false_eq_true, if_false, if_true, Bool.and_self]
  by_cases he : pp l s < l.length ∧ (l.getD (pp l s) pair0).1 = s
  · obtain ⟨h1, hq⟩ := he
    have h1' : (pp l s : Int) < l.length := by omega
    have hph : ph l s = true := by simp only [ph, h1, hq, decide_true, Bool.and_self]
    simp only [hph, a_ltI, a_lenL, h1', decide_true, if_true, a_le0, Int.natCast_nonneg, a_andB, Bool.and_self, a_atL, Int.toNat_natCast, a_eqS, hq, a_eqI, List.length_nil, Int.natCast_zero, Int.ofNat_zero, a_big, hb, a_setL, a_obind_some, a_sumE_inr]
    rw [List.set_eq_take_append_cons_drop, if_pos h1]
    simp
  · have hph : ph l s = false := by
      simp only [ph]
      by_cases h1 : pp l s < l.length
      · have : ¬ (l.getD (pp l s) pair0).1 = s := fun hq => he ⟨h1, hq⟩
        simp only [this, decide_false, Bool.and_false]
      · simp [h1]
    have g1 : (pp l s : Int) ≤ l.length := by omega
    have tl : (l.take (pp l s)).length = pp l s := by rw [List.length_take]; omega
    have dl : (l.drop (pp l s)).length = l.length - pp l s := List.length_drop
    have g3 : (pp l s : Int) < 4294967296 := by omega
    have g4 : (pp l s : Int) + 1 < 4294967296 := by omega
    have g5 : (pp l s : Int) + 1 + ((l.length - pp l s : Nat) : Int) < 4294967296 := by omega
    have fin : (if decide ((48 : Int) ≤ (l.length : Int)) = true then (if decide ((l.length : Int) < 4294967296) = true then some ((l, (false, ())), ()) else none) else some ((l.take (pp l s) ++ [(s, (v, ()))] ++ l.drop (pp l s), (true, ())), ()) : Option ((List Pair × (Bool × Unit)) × Unit)) = some ((if ph l s = true then (l.take (pp l s) ++ [(s, (v, ()))] ++ l.drop (pp l s + 1), (true, ())) else if 48 ≤ l.length then (l, (false, ())) else (l.take (pp l s) ++ [(s, (v, ()))] ++ l.drop (pp l s), (true, ()))), ()) := by
      by_cases h48 : 48 ≤ l.length
      · have : (48 : Int) ≤ l.length := by omega
        simp [hph, h48, this, hb]
      · have : ¬ (48 : Int) ≤ l.length := by omega
        simp [hph, h48, this]
    by_cases h1 : pp l s < l.length
    · have h1' : (pp l s : Int) < l.length := by omega
      have hq : ¬ (l.getD (pp l s) pair0).1 = s := fun hq => he ⟨h1, hq⟩
      simp only [a_ltI, a_lenL, h1', decide_true, if_true, a_le0, Int.natCast_nonneg, a_andB, Bool.and_self, a_atL, Int.toNat_natCast, a_eqS, hq, decide_false, Bool.false_eq_true, if_false, a_obind_some, a_sumE_inl, a_leI, List.length_nil, Int.natCast_zero, Int.ofNat_zero, a_addI, Int.zero_add, a_big, a_appL, List.nil_append, g1, a_takeL, a_dropL, tl, dl, g3, List.length_cons, Nat.zero_add, Int.natCast_one, Int.ofNat_one, g4, List.length_append, Int.natCast_add, g5]
      exact fin
    · have h1' : ¬ (pp l s : Int) < l.length := by omega
      simp only [a_ltI, a_lenL, h1', decide_true, if_true, a_le0, Int.natCast_nonneg, a_andB, Bool.and_self, a_atL, Int.toNat_natCast, a_eqS, decide_false, Bool.false_eq_true, if_false, a_obind_some, a_sumE_inl, a_leI, List.length_nil, Int.natCast_zero, Int.ofNat_zero, a_addI, Int.zero_add, a_big, a_appL, List.nil_append, g1, a_takeL, a_dropL, tl, dl, g3, List.length_cons, Nat.zero_add, Int.natCast_one, Int.ofNat_one, g4, List.length_append, Int.natCast_add, g5]
      exact fin
end
end Go.Den.T
