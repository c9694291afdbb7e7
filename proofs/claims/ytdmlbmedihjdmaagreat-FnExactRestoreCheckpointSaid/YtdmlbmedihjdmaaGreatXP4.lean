/- Pairs and sessions put, dropped, found: both sides in one form. -/
import Derived.Test.YtdmlbmedihjdmaaGreatXP3

namespace Go.Den.T
set_option linter.unusedVariables false
set_option linter.unusedSimpArgs false
set_option linter.unusedSectionVars false
section
variable {A : Atoms} [IsReal A]
theorem copyPair_eq (k : Nat) (l : List Pair) (hl : l.length ≤ 1000000000) : impl_copyOf_Pair_t A k (l, ()) () = some ((l, ()), ()) := by
  have : (l.length : Int) < 4294967296 := by omega
  simp [impl_copyOf_Pair_t, this]
theorem copySes_eq (k : Nat) (l : List Ses) (hl : l.length ≤ 1000000000) : impl_copyOf_Session_t A k (l, ()) () = some ((l, ()), ()) := by
  have : (l.length : Int) < 4294967296 := by omega
  simp [impl_copyOf_Session_t, this]
theorem replacedPair_eq (k : Nat) (l : List Pair) (i n : Nat) (x : List Pair) (hl : l.length ≤ 1000000000) (hx : x.length ≤ 1000000) (hi : i + n ≤ l.length) : impl_replaced_Pair_t A k (l, ((i : Int), ((n : Int), (x, ())))) () = some ((l.take i ++ x ++ l.drop (i + n), ()), ()) := by
  have w1 : A.wrapI .i64 ((l.length : Int) - (n : Int)) = (l.length : Int) - (n : Int) := a_wrap (by omega) (by omega)
  have w2 : A.wrapI .i64 ((l.length : Int) - (n : Int) + (x.length : Int)) = (l.length : Int) - (n : Int) + (x.length : Int) := a_wrap (by omega) (by omega)
  have w3 : A.wrapI .i64 ((i : Int) + (n : Int)) = ((i + n : Nat) : Int) := by rw [a_wrap (by omega) (by omega)]; rfl
  have g1 : 0 ≤ (l.length : Int) - (n : Int) + (x.length : Int) := by omega
  have g2 : (l.length : Int) - (n : Int) + (x.length : Int) < 4294967296 := by omega
  have g3 : (i : Int) ≤ (l.length : Int) := by omega
  have tl : (l.take i).length = i := by rw [List.length_take]; omega
  have dl : (l.drop (i + n)).length = l.length - (i + n) := List.length_drop
  have g4 : (i : Int) < 4294967296 := by omega
  have g5 : (i : Int) + (x.length : Int) < 4294967296 := by omega
  have g6 : ((i + n : Nat) : Int) ≤ (l.length : Int) := by omega
  have g7 : (i : Int) + (x.length : Int) + ((l.length - (i + n) : Nat) : Int) < 4294967296 := by omega
  have g0 : (0 : Int) ≤ ((i + n : Nat) : Int) := by omega
  simp only [impl_replaced_Pair_t, a_lenL, a_subI, w1, a_addI, w2, w3, a_le0, a_leI, a_ltI, a_big, a_andB, g1, g2, g3, decide_true, Bool.and_self, Int.natCast_nonneg, Int.le_refl, a_cndS, if_true, a_repL, Int.toNat_zero, List.replicate_zero, a_takeL, a_dropL, Int.toNat_natCast, a_appL, List.nil_append, List.length_nil, List.length_append, tl, dl, Int.natCast_zero, Int.ofNat_zero, Int.zero_add, Int.natCast_add, g4, g5]
  simp only [Int.natCast_add] at g6 g7 g0
  have en : ((i : Int) + (n : Int)).toNat = i + n := by omega
  simp only [g0, g6, en, dl, g7, decide_true, Bool.and_self, if_true, List.append_assoc]
theorem replacedSes_eq (k : Nat) (l : List Ses) (i n : Nat) (x : List Ses) (hl : l.length ≤ 1000000000) (hx : x.length ≤ 1000000) (hi : i + n ≤ l.length) : impl_replaced_Session_t A k (l, ((i : Int), ((n : Int), (x, ())))) () = some ((l.take i ++ x ++ l.drop (i + n), ()), ()) := by
  have w1 : A.wrapI .i64 ((l.length : Int) - (n : Int)) = (l.length : Int) - (n : Int) := a_wrap (by omega) (by omega)
  have w2 : A.wrapI .i64 ((l.length : Int) - (n : Int) + (x.length : Int)) = (l.length : Int) - (n : Int) + (x.length : Int) := a_wrap (by omega) (by omega)
  have w3 : A.wrapI .i64 ((i : Int) + (n : Int)) = ((i + n : Nat) : Int) := by rw [a_wrap (by omega) (by omega)]; rfl
  have g1 : 0 ≤ (l.length : Int) - (n : Int) + (x.length : Int) := by omega
  have g2 : (l.length : Int) - (n : Int) + (x.length : Int) < 4294967296 := by omega
  have g3 : (i : Int) ≤ (l.length : Int) := by omega
  have tl : (l.take i).length = i := by rw [List.length_take]; omega
  have dl : (l.drop (i + n)).length = l.length - (i + n) := List.length_drop
  have g4 : (i : Int) < 4294967296 := by omega
  have g5 : (i : Int) + (x.length : Int) < 4294967296 := by omega
  have g6 : ((i + n : Nat) : Int) ≤ (l.length : Int) := by omega
  have g7 : (i : Int) + (x.length : Int) + ((l.length - (i + n) : Nat) : Int) < 4294967296 := by omega
  have g0 : (0 : Int) ≤ ((i + n : Nat) : Int) := by omega
  simp only [impl_replaced_Session_t, a_lenL, a_subI, w1, a_addI, w2, w3, a_le0, a_leI, a_ltI, a_big, a_andB, g1, g2, g3, decide_true, Bool.and_self, Int.natCast_nonneg, Int.le_refl, a_cndS, if_true, a_repL, Int.toNat_zero, List.replicate_zero, a_takeL, a_dropL, Int.toNat_natCast, a_appL, List.nil_append, List.length_nil, List.length_append, tl, dl, Int.natCast_zero, Int.ofNat_zero, Int.zero_add, Int.natCast_add, g4, g5]
  simp only [Int.natCast_add] at g6 g7 g0
  have en : ((i : Int) + (n : Int)).toNat = i + n := by omega
  simp only [g0, g6, en, dl, g7, decide_true, Bool.and_self, if_true, List.append_assoc]
/-! ### pairs -/
def pget (l : List Pair) (s : List UInt8) : Int := if (pairsOk l && ph l s) = true then (l.getD (pp l s) pair0).2.1 else -1
def pdrop (l : List Pair) (s : List UInt8) : List Pair × (Bool × Unit) := if pairsOk l = true then (if ph l s = true then (l.take (pp l s) ++ l.drop (pp l s + 1), (true, ())) else (l, (false, ()))) else ([], (false, ()))
def pput (l : List Pair) (s : List UInt8) (v : Int) : List Pair × (Bool × Unit) :=
  if (pairsOk l && (keyOk s && valOk v)) = true then (if ph l s = true then (l.take (pp l s) ++ [(s, (v, ()))] ++ l.drop (pp l s + 1), (true, ())) else if 48 ≤ l.length then (l, (false, ())) else (l.take (pp l s) ++ [(s, (v, ()))] ++ l.drop (pp l s), (true, ()))) else ([], (false, ()))
theorem ph_lt {l : List Pair} {s : List UInt8} (h : ph l s = true) : pp l s < l.length ∧ (l.getD (pp l s) pair0).1 = s := by
  simpa [ph] using h
theorem pp_le (l : List Pair) (s : List UInt8) : pp l s ≤ l.length := ahead_le ..
theorem pairs_len {l : List Pair} (h : pairsOk l = true) : l.length ≤ 48 := (pairs_keys h).1
theorem impl_PairGet_eq (k : Nat) (hk : 100 ≤ k) (l : List Pair) (s : List UInt8) : impl_PairGet_t A k (l, (s, ())) () = some ((pget l s, ()), ()) := by
  simp only [impl_PairGet_t, impl_PairsValid_eq k (by omega : 60 ≤ k), a_obind_some, a_cndS, a_notB, pget]
  rcases Bool.eq_false_or_eq_true (pairsOk l) with hp | hp
  case inr => simp [hp]
  have hl := pairs_len hp
  simp only [hp, pairPlace_eq k l s (pairs_mono hp s) (by omega) (by omega), a_obind_some, Bool.not_true, Bool.false_eq_true, if_false, Bool.true_and]
  rcases Bool.eq_false_or_eq_true (ph l s) with h | h
  · obtain ⟨h1, h2⟩ := ph_lt h
    have h1' : (pp l s : Int) < l.length := by omega
    simp [h, h1', h1]
  · simp [h]
theorem spec_PairGet_eq (k : Nat) (hk : 100 ≤ k) (l : List Pair) (s : List UInt8) (hkl : l.length < k) (hl : l.length ≤ 1000000000) : spec_PairGet_t A k (l, (s, ())) () = some ((pget l s, ()), ()) := by
  have hle := pp_le l s
  simp only [spec_PairGet_t, l4Place_eq k l s hkl hl, spec_PairsValid_eq k (by omega : 60 ≤ k), a_obind_some, a_cndS, a_notB, pget, a_eqI, a_lenL]
  rcases Bool.eq_false_or_eq_true (pairsOk l) with hp | hp
  case inr => simp [hp]
  simp only [hp, Bool.not_true, Bool.false_eq_true, if_false, Bool.true_and]
  by_cases he : pp l s = l.length
  · have he' : (pp l s : Int) = l.length := by omega
    have : ph l s = false := by simp [ph, he]
    simp [he', this]
  · have he' : ¬ (pp l s : Int) = l.length := by omega
    have h1 : pp l s < l.length := by omega
    have h1' : (pp l s : Int) < l.length := by omega
    by_cases hq : (l.getD (pp l s) pair0).1 = s
    · have hph : ph l s = true := by simp only [ph, h1, hq, decide_true, Bool.and_self]
      simp only [he', decide_false, Bool.false_eq_true, if_false, a_le0, Int.natCast_nonneg, a_ltI, h1', decide_true, a_andB, Bool.and_self, if_true, a_atL, Int.toNat_natCast, a_eqS, hq, Bool.not_true, a_obind_some, a_sumE_inl, hph]
    · have hph : ph l s = false := by simp only [ph, h1, hq, decide_true, decide_false, Bool.and_false]
      simp only [he', decide_false, Bool.false_eq_true, if_false, a_le0, Int.natCast_nonneg, a_ltI, h1', decide_true, a_andB, Bool.and_self, if_true, a_atL, Int.toNat_natCast, a_eqS, hq, Bool.not_false, a_obind_some, a_sumE_inr, hph]
theorem impl_PairDrop_eq (k : Nat) (hk : 100 ≤ k) (l : List Pair) (s : List UInt8) : impl_PairDrop_t A k (l, (s, ())) () = some (pdrop l s, ()) := by
  simp only [impl_PairDrop_t, impl_PairsValid_eq k (by omega : 60 ≤ k), a_obind_some, a_cndS, a_notB, pdrop]
  rcases Bool.eq_false_or_eq_true (pairsOk l) with hp | hp
  case inr => simp [hp]
  have hl := pairs_len hp
  simp only [hp, pairPlace_eq k l s (pairs_mono hp s) (by omega) (by omega), a_obind_some, Bool.not_true, Bool.false_eq_true, if_false, if_true]
  rcases Bool.eq_false_or_eq_true (ph l s) with h | h
  · obtain ⟨h1, h2⟩ := ph_lt h
    have hr := replacedPair_eq (A := A) k l (pp l s) 1 [] (by omega) (by simp) (by omega)
    simp only [Int.natCast_one, Int.ofNat_one] at hr
    simp [h, hr]
  · simp [h, copyPair_eq k l (by omega)]
theorem spec_PairDrop_eq (k : Nat) (hk : 100 ≤ k) (l : List Pair) (s : List UInt8) : spec_PairDrop_t A k (l, (s, ())) () = some (pdrop l s, ()) := by
  have hle := pp_le l s
  simp only [spec_PairDrop_t, spec_PairsValid_eq k (by omega : 60 ≤ k), a_obind_some, a_cndS, a_notB, pdrop, a_eqI, a_lenL]
  rcases Bool.eq_false_or_eq_true (pairsOk l) with hp | hp
  case inr => simp [hp]
  have hl := pairs_len hp
  have hb : (l.length : Int) < 4294967296 := by omega
  simp only [hp, l4Place_eq k l s (by omega) (by omega), a_obind_some, Bool.not_true, Bool.false_eq_true, if_false, if_true]
  by_cases he : pp l s = l.length
  · have he' : (pp l s : Int) = l.length := by omega
    have : ph l s = false := by simp [ph, he]
    simp [he', this, hb]
  · have he' : ¬ (pp l s : Int) = l.length := by omega
    have h1 : pp l s < l.length := by omega
    have h1' : (pp l s : Int) < l.length := by omega
    by_cases hq : (l.getD (pp l s) pair0).1 = s
    · have hph : ph l s = true := by simp only [ph, h1, hq, decide_true, Bool.and_self]
      have w : A.wrapI .i64 ((pp l s : Int) + 1) = ((pp l s + 1 : Nat) : Int) := by rw [a_wrap (by omega) (by omega)]; rfl
      have g1 : (pp l s : Int) ≤ l.length := by omega
      have g2 : ((pp l s + 1 : Nat) : Int) ≤ l.length := by omega
      have tl : (l.take (pp l s)).length = pp l s := by rw [List.length_take]; omega
      have dl : (l.drop (pp l s + 1)).length = l.length - (pp l s + 1) := List.length_drop
      have g3 : (pp l s : Int) < 4294967296 := by omega
      have g4 : (pp l s : Int) + ((l.length - (pp l s + 1) : Nat) : Int) < 4294967296 := by omega
      simp only [he', decide_false, Bool.false_eq_true, if_false, a_le0, Int.natCast_nonneg, a_ltI, h1', decide_true, a_andB, Bool.and_self, if_true, a_atL, Int.toNat_natCast, a_eqS, hq, Bool.not_true, a_obind_some, a_sumE_inl, hph, a_leI, g1, a_addI, w, g2, a_takeL, a_dropL, a_appL, List.nil_append, List.length_nil, Int.natCast_zero, Int.ofNat_zero, Int.zero_add, tl, dl, a_big, g3, g4]
    · have hph : ph l s = false := by simp only [ph, h1, hq, decide_true, decide_false, Bool.and_false]
      simp only [he', decide_false, Bool.false_eq_true, if_false, a_le0, Int.natCast_nonneg, a_ltI, h1', decide_true, a_andB, Bool.and_self, if_true, a_atL, Int.toNat_natCast, a_eqS, hq, Bool.not_false, a_obind_some, a_sumE_inr, hph, List.length_nil, Int.natCast_zero, Int.ofNat_zero, a_addI, Int.zero_add, a_big, hb, a_appL, List.nil_append]
theorem impl_PairPut_eq (k : Nat) (hk : 100 ≤ k) (l : List Pair) (s : List UInt8) (v : Int) : impl_PairPut_t A k (l, (s, (v, ()))) () = some (pput l s v, ()) := by
  simp only [impl_PairPut_t, impl_PairsValid_eq k (by omega : 60 ≤ k), impl_KeyValid_eq k (by omega : 10 ≤ k), valueValid_eq, a_obind_some, a_cndS, a_notB, pput]
  rcases Bool.eq_false_or_eq_true (pairsOk l) with hp | hp
  case inr => simp [hp]
  rcases Bool.eq_false_or_eq_true (keyOk s) with hs | hs
  case inr => simp [hp, hs]
  rcases Bool.eq_false_or_eq_true (valOk v) with hv | hv
  case inr =>
    have hv' : ¬ (0 ≤ v ∧ v ≤ 999) := by simpa [valOk] using hv
    simp [hp, hs, hv, hv']
  have hv' : 0 ≤ v ∧ v ≤ 999 := by simpa [valOk] using hv
  have hl := pairs_len hp
  simp only [hp, hs, hv, hv', and_self, decide_true, pairPlace_eq k l s (pairs_mono hp s) (by omega) (by omega), a_obind_some, a_sumE_inl, Bool.not_true, Bool.false_eq_true, if_false, if_true, Bool.and_self]
  rcases Bool.eq_false_or_eq_true (ph l s) with h | h
  · obtain ⟨h1, h2⟩ := ph_lt h
    have hr := replacedPair_eq (A := A) k l (pp l s) 1 [(s, (v, ()))] (by omega) (by simp) (by omega)
    simp only [Int.natCast_one, Int.ofNat_one] at hr
    simp only [h, if_true, hr, a_obind_some]
  · have hr := replacedPair_eq (A := A) k l (pp l s) 0 [(s, (v, ()))] (by omega) (by simp) (by have := pp_le l s; omega)
    simp only [Int.natCast_zero, Int.ofNat_zero, Nat.add_zero] at hr
    simp only [h, Bool.false_eq_true, if_false, a_leI, a_lenL]
    by_cases h48 : 48 ≤ l.length
    · have : (48 : Int) ≤ l.length := by omega
      simp [this, h48, copyPair_eq k l (by omega)]
    · have : ¬ (48 : Int) ≤ l.length := by omega
      simp only [this, h48, decide_false, Bool.false_eq_true, if_false, hr, a_obind_some]
theorem spec_PairPut_eq (k : Nat) (hk : 100 ≤ k) (l : List Pair) (s : List UInt8) (v : Int) : spec_PairPut_t A k (l, (s, (v, ()))) () = some (pput l s v, ()) := by
  have hle := pp_le l s
  simp only [spec_PairPut_t, spec_PairsValid_eq k (by omega : 60 ≤ k), spec_KeyValid_eq k (by omega : 10 ≤ k), l1In_eq, a_obind_some, a_cndS, a_notB, pput]
  rcases Bool.eq_false_or_eq_true (pairsOk l) with hp | hp
  case inr => simp [hp]
  rcases Bool.eq_false_or_eq_true (keyOk s) with hs | hs
  case inr => simp [hp, hs]
  rcases Bool.eq_false_or_eq_true (valOk v) with hv | hv
  case inr =>
    have hv' : ¬ (0 ≤ v ∧ v ≤ 999) := by simpa [valOk] using hv
    simp [hp, hs, hv, hv']
  have hv' : 0 ≤ v ∧ v ≤ 999 := by simpa [valOk] using hv
  have hl := pairs_len hp
  have hb : (l.length : Int) < 4294967296 := by omega
  simp only [hp, hs, hv, hv', and_self, decide_true, l4Place_eq k l s (by omega) (by omega), a_obind_some, a_sumE_inl, Bool.not_true, Bool.false_eq_true, if_false, if_true, Bool.and_self]
  by_cases he : pp l s < l.length ∧ (l.getD (pp l s) pair0).1 = s
  · obtain ⟨h1, hq⟩ := he
    have h1' : (pp l s : Int) < l.length := by omega
    have hph : ph l s = true := by simp only [ph, h1, hq, decide_true, Bool.and_self]
    simp only [hph, a_ltI, a_lenL, h1', decide_true, if_true, a_le0, Int.natCast_nonneg, a_andB, Bool.and_self, a_atL, Int.toNat_natCast, a_eqS, hq, a_eqI, List.length_nil, Int.natCast_zero, Int.ofNat_zero, a_big, hb, a_setL, a_obind_some, a_sumE_inr]
    rw [List.set_eq_take_append_cons_drop, if_pos h1]
    simp
  · have hph : ph l s = false := by
      simp only [ph]
      by_cases h1 : pp l s < l.length
      · have : ¬ (l.getD (pp l s) pair0).1 = s := fun hq => he ⟨h1, hq⟩
        simp only [this, decide_false, Bool.and_false]
      · simp [h1]
    have g1 : (pp l s : Int) ≤ l.length := by omega
    have tl : (l.take (pp l s)).length = pp l s := by rw [List.length_take]; omega
    have dl : (l.drop (pp l s)).length = l.length - pp l s := List.length_drop
    have g3 : (pp l s : Int) < 4294967296 := by omega
    have g4 : (pp l s : Int) + 1 < 4294967296 := by omega
    have g5 : (pp l s : Int) + 1 + ((l.length - pp l s : Nat) : Int) < 4294967296 := by omega
    have fin : (if decide ((48 : Int) ≤ (l.length : Int)) = true then (if decide ((l.length : Int) < 4294967296) = true then some ((l, (false, ())), ()) else none) else some ((l.take (pp l s) ++ [(s, (v, ()))] ++ l.drop (pp l s), (true, ())), ()) : Option ((List Pair × (Bool × Unit)) × Unit)) = some ((if ph l s = true then (l.take (pp l s) ++ [(s, (v, ()))] ++ l.drop (pp l s + 1), (true, ())) else if 48 ≤ l.length then (l, (false, ())) else (l.take (pp l s) ++ [(s, (v, ()))] ++ l.drop (pp l s), (true, ()))), ()) := by
      by_cases h48 : 48 ≤ l.length
      · have : (48 : Int) ≤ l.length := by omega
        simp [hph, h48, this, hb]
      · have : ¬ (48 : Int) ≤ l.length := by omega
        simp [hph, h48, this]
    by_cases h1 : pp l s < l.length
    · have h1' : (pp l s : Int) < l.length := by omega
      have hq : ¬ (l.getD (pp l s) pair0).1 = s := fun hq => he ⟨h1, hq⟩
      simp only [a_ltI, a_lenL, h1', decide_true, if_true, a_le0, Int.natCast_nonneg, a_andB, Bool.and_self, a_atL, Int.toNat_natCast, a_eqS, hq, decide_false, Bool.false_eq_true, if_false, a_obind_some, a_sumE_inl, a_leI, List.length_nil, Int.natCast_zero, Int.ofNat_zero, a_addI, Int.zero_add, a_big, a_appL, List.nil_append, g1, a_takeL, a_dropL, tl, dl, g3, List.length_cons, Nat.zero_add, Int.natCast_one, Int.ofNat_one, g4, List.length_append, Int.natCast_add, g5]
      exact fin
    · have h1' : ¬ (pp l s : Int) < l.length := by omega
      simp only [a_ltI, a_lenL, h1', decide_true, if_true, a_le0, Int.natCast_nonneg, a_andB, Bool.and_self, a_atL, Int.toNat_natCast, a_eqS, decide_false, Bool.false_eq_true, if_false, a_obind_some, a_sumE_inl, a_leI, List.length_nil, Int.natCast_zero, Int.ofNat_zero, a_addI, Int.zero_add, a_big, a_appL, List.nil_append, g1, a_takeL, a_dropL, tl, dl, g3, List.length_cons, Nat.zero_add, Int.natCast_one, Int.ofNat_one, g4, List.length_append, Int.natCast_add, g5]
      exact fin
end
end Go.Den.T
