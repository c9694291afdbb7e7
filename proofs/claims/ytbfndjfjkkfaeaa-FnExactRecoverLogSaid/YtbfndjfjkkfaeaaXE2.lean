/- The program's functions on configurations; exact laws on configurations. -/
import Derived.Test.YtbfndjfjkkfaeaaXE1

namespace Go.Den.T
set_option linter.unusedVariables false
set_option linter.unusedSimpArgs false
variable {A : Atoms} [IsReal A]
theorem copyOf_int_eq (k : Nat) (xs : List Int) (h : xs.length ≤ 1000000000) : impl_copyOf_int_t A k (xs, ()) () = some ((xs, ()), ()) := by
  have : (xs.length : Int) < 4294967296 := by omega
  simp [impl_copyOf_int_t, this]
theorem copyConfig_eq (k : Nat) (c : Cfg) (h : c.2.1.length ≤ 1000000000) : impl_copyConfig_t A k (c, ()) () = some ((c, ()), ()) := by
  simp [impl_copyConfig_t, copyOf_int_eq k c.2.1 h]
def after (c : Cfg) (n : Int) : Int := if (cfgOk c && (decide (n ∈ c.2.1) && !decide (idx c.2.1 n = (c.2.1.length : Int) - 1))) = true then c.2.1.getD (idx c.2.1 n + 1).toNat 0 else -1
theorem idx_lt (xs : List Int) (n : Int) : idx xs n < xs.length ∧ -1 ≤ idx xs n := by
  rcases idx_cases xs n with ⟨e, _⟩ | ⟨i, e, hi, _⟩ <;> omega
theorem idx_neg {xs : List Int} {n : Int} : idx xs n < 0 ↔ n ∉ xs := by rw [← idx_mem]; omega
theorem spec_MemberAfter_eq (k : Nat) (hk : 10 ≤ k) (c : Cfg) (n : Int) (hl0 : c.2.1.length < k) (hl1 : c.2.1.length ≤ 1000000000) : spec_MemberAfter_t A k (c, (n, ())) () = some ((after c n, ()), ()) := by
  simp only [spec_MemberAfter_t, l16Index_eq k c n hl0 (by omega), spec_ConfigValid_eq k hk, a_obind_some, a_cndS, a_notB, after]
  cases h : cfgOk c with
  | false => simp
  | true =>
    have hl := cfgOk_len h
    have hx := idx_lt c.2.1 n
    by_cases hm : n ∈ c.2.1
    case neg => simp [hm, idx_neg]
    have h0 := idx_mem.2 hm
    by_cases he : idx c.2.1 n = (c.2.1.length : Int) - 1
    · have h1 : ¬ (c.2.1.length : Int) - 1 < 0 := by omega
      simp (disch := omega) [hm, he, h1, a_wrap]
    · have h1 : ¬ idx c.2.1 n < 0 := by omega
      have h2 : 0 ≤ idx c.2.1 n + 1 := by omega
      have h3 : idx c.2.1 n + 1 < (c.2.1.length : Int) := by omega
      simp (disch := omega) [hm, he, h1, h2, h3, a_wrap]
theorem impl_MemberAfter_eq (k : Nat) (hk : 10 ≤ k) (c : Cfg) (n : Int) : impl_MemberAfter_t A k (c, (n, ())) () = some ((after c n, ()), ()) := by
  simp only [impl_MemberAfter_t, impl_ConfigValid_eq k hk, a_obind_some, a_cndS, a_notB, after]
  cases h : cfgOk c with
  | false => simp
  | true =>
    have hl := cfgOk_len h
    have hx := idx_lt c.2.1 n
    simp only [Bool.not_true, Bool.false_eq_true, if_false, slices_Index_eq k c.2.1 n (by omega) (by omega), a_obind_some]
    by_cases hm : n ∈ c.2.1
    case neg => simp [hm, idx_neg]
    have h0 := idx_mem.2 hm
    by_cases he : idx c.2.1 n = (c.2.1.length : Int) - 1
    · have h1 : ¬ (c.2.1.length : Int) - 1 < 0 := by omega
      simp (disch := omega) [hm, he, h1, a_wrap]
    · have h1 : ¬ idx c.2.1 n < 0 := by omega
      have h2 : 0 ≤ idx c.2.1 n + 1 := by omega
      have h3 : idx c.2.1 n + 1 < (c.2.1.length : Int) := by omega
      simp (disch := omega) [hm, he, h1, h2, h3, a_wrap]
def completeOr (c : Cfg) : List Int := if cfgOk c = true then complete c else []
def doneOr (c : Cfg) : Cfg := if cfgOk c = true then (c.1, (c.2.1, (false, ()))) else zeroC
theorem complete_len (c : Cfg) : (complete c).length ≤ c.2.1.length := by unfold complete; split <;> simp
theorem completeOr_len (c : Cfg) : (completeOr c).length ≤ 4 := by
  unfold completeOr
  cases h : cfgOk c with
  | false => simp
  | true => have := cfgOk_len h; have := complete_len c; simp; omega
theorem impl_CompleteMembers_eq (k : Nat) (hk : 10 ≤ k) (c : Cfg) : impl_CompleteMembers_t A k (c, ()) () = some ((completeOr c, ()), ()) := by
  simp only [impl_CompleteMembers_t, impl_ConfigValid_eq k hk, a_obind_some, a_cndS, a_notB, completeOr]
  cases h : cfgOk c with
  | false => simp
  | true =>
    have hl := cfgOk_len h
    have e : ((c.2.1.length : Int) - 1).toNat = c.2.1.length - 1 := by omega
    by_cases hf : c.2.2.1 = true
    · have h2 : 0 ≤ (c.2.1.length : Int) - 1 := by omega
      have e3 := copyOf_int_eq (A := A) k (c.2.1.take (c.2.1.length - 1)) (by simp; omega)
      simp (disch := omega) [h2, hf, a_wrap, complete, e, e3]
      omega
    · simp [hf, complete, copyOf_int_eq (A := A) k c.2.1 (by omega)]
theorem impl_ConfigDone_eq (k : Nat) (hk : 10 ≤ k) (c : Cfg) : impl_ConfigDone_t A k (c, ()) () = some ((doneOr c, ()), ()) := by
  simp only [impl_ConfigDone_t, impl_ConfigValid_eq k hk, a_obind_some, a_cndS, a_notB, doneOr]
  cases h : cfgOk c with
  | false => simp [zeroC]
  | true => have hl := cfgOk_len h; simp [copyConfig_eq k c (by omega)]
theorem impl_WithMember_eq (k : Nat) (hk : 10 ≤ k) (c : Cfg) (n : Int) : impl_WithMember_t A k (c, (n, ())) () = some (withMember c n, ()) := by
  simp only [impl_WithMember_t, impl_ConfigValid_eq k hk, nodeValid_eq, a_obind_some, a_cndS, a_notB, withMember]
  cases h : cfgOk c with
  | false => simp [zeroC]
  | true =>
    have hl := cfgOk_len h
    by_cases hn : 0 ≤ n ∧ n ≤ 4
    case neg => simp [hn, zeroC]
    simp only [hn, and_self, decide_true, Bool.not_true, Bool.false_eq_true, if_false, if_true, a_obind_some, a_sumE_inl, copyConfig_eq k c (by omega), Bool.and_self, mayAdd]
    by_cases hf : c.2.2.1 = true
    · simp [hf]
    have hf' : c.2.2.1 = false := by simpa using hf
    simp only [hf', slices_Contains_eq k c.2.1 n (by omega) (by omega), a_obind_some, Bool.false_eq_true, if_false, decide_eq_true_eq]
    by_cases hm : n ∈ c.2.1
    · simp [hm]
    by_cases h4 : c.2.1.length = 4
    · simp [hm, h4]
    have h4' : ¬ (4 : Int) ≤ (c.2.1.length : Int) := by omega
    by_cases h60 : c.1 = 60
    · simp [hm, h4, h4', h60]
    have h60' : ¬ 60 ≤ c.1 := by omega
    have h1 : (c.2.1.length : Int) + 1 < 4294967296 := by omega
    simp (disch := omega) [hm, h4, h4', h60, h60', h1, a_wrap]
/-! ### a member taken away -/
theorem membersOk_iff {xs : List Int} : membersOk xs = true ↔ (∀ x ∈ xs, 0 ≤ x ∧ x ≤ 4) ∧ xs.Nodup := by
  rw [membersOk, range_all]
  simp only [Bool.and_eq_true, decide_eq_true_eq, Bool.not_eq_true', decide_eq_false_iff_not]
  constructor
  · intro h
    refine ⟨fun x hx => ?_, ?_⟩
    · obtain ⟨i, hi, rfl⟩ := List.mem_iff_getElem.1 hx
      have := (h i hi).1
      rwa [getD_lt hi] at this
    · rw [List.nodup_iff_pairwise_ne, List.pairwise_iff_getElem]
      intro i j hi hj hij e
      refine (h j hj).2 ?_
      rw [getD_lt hj, ← e]
      exact List.mem_iff_getElem.2 ⟨i, by simp; omega, by simp⟩
  · rintro ⟨h1, h2⟩ i hi
    rw [getD_lt hi]
    refine ⟨h1 _ (List.getElem_mem hi), fun hm => ?_⟩
    obtain ⟨j, hj, e⟩ := List.mem_iff_getElem.1 hm
    simp at hj e
    rw [List.nodup_iff_pairwise_ne, List.pairwise_iff_getElem] at h2
    exact h2 j i (by omega) hi (by omega) e
theorem membersOk_drop {xs : List Int} {i : Nat} (h : membersOk xs = true) : membersOk (xs.take i ++ xs.drop (i + 1)) = true := by
  rw [← List.eraseIdx_eq_take_drop_succ]
  rw [membersOk_iff] at h ⊢
  exact ⟨fun x hx => h.1 x (List.mem_of_mem_eraseIdx hx), h.2.sublist (List.eraseIdx_sublist _ _)⟩
theorem cfgOk_members {c : Cfg} (h : cfgOk c = true) : membersOk c.2.1 = true := by
  simp only [cfgOk, Bool.and_eq_true] at h; exact h.2.2.2
theorem without_ok {c : Cfg} {i : Nat} (h : cfgOk c = true) (hi : i < c.2.1.length) (h60 : ¬ c.1 = 60) :
    cfgOk (without c i) = !(decide ((complete c).length = 1) && (!c.2.2.1 || !decide ((i : Int) = (c.2.1.length : Int) - 1))) := by
  obtain ⟨ep, xs, fr, _⟩ := c
  have hl := cfgOk_len h
  have hm := membersOk_drop (i := i) (cfgOk_members h)
  simp only at hi hl h60 hm
  have e1 : 1 ≤ ep + 1 ∧ ep + 1 ≤ 60 := by omega
  have e2 : min i xs.length + (xs.length - (i + 1)) = xs.length - 1 := by omega
  have e3 : xs.length - 1 ≤ 4 := by omega
  cases fr with
  | false =>
    simp [cfgOk, without, complete, e1, hm, e2, e3]
    by_cases hx : xs.length = 1
    · simp [hx]
    · have : 1 ≤ xs.length - 1 := by omega
      simp [hx, this]
  | true =>
    have h2 := hl.2.2.2.2 rfl
    have h1 : 1 ≤ xs.length - 1 := by omega
    have e4 : min (xs.length - 1) xs.length = xs.length - 1 := by omega
    simp [cfgOk, without, complete, e1, hm, e2, e3, h1]
    by_cases hx : i = xs.length - 1
    · have : (i : Int) = (xs.length : Int) - 1 := by omega
      simp [hx]
      omega
    · have : ¬ (i : Int) = (xs.length : Int) - 1 := by omega
      simp [hx, this]
      by_cases hy : xs.length - 1 = 1
      · simp [hy]; omega
      · have : ¬ xs.length - 1 < 2 := by omega
        simp [hy, this]; omega
theorem replaced_eq (k : Nat) (xs : List Int) (i : Nat) (hi : i < xs.length) (hl : xs.length ≤ 1000000000) : impl_replaced_int_t A k (xs, ((i : Int), (1, ([], ())))) () = some ((xs.take i ++ xs.drop (i + 1), ()), ()) := by
  have e0 : (0 : Int) ≤ (xs.length : Int) - 1 := by omega
  have e1 : (xs.length : Int) - 1 < 4294967296 := by omega
  have e2 : (i : Int) ≤ (xs.length : Int) := by omega
  have e3 : ((min i xs.length : Nat) : Int) < 4294967296 := by omega
  have e4 : (0 : Int) ≤ (i : Int) + 1 := by omega
  have e5 : (i : Int) + 1 ≤ (xs.length : Int) := by omega
  have e6 : ((i : Int) + 1).toNat = i + 1 := by omega
  have e7 : ((min i xs.length : Nat) : Int) + ((xs.length - (i + 1) : Nat) : Int) < 4294967296 := by omega
  have e8 : min (i : Int) (xs.length : Int) < 4294967296 := by omega
  have e9 : min (i : Int) (xs.length : Int) + ((xs.length - (i + 1) : Nat) : Int) < 4294967296 := by omega
  simp (disch := omega) [impl_replaced_int_t, a_wrap, e0, e1, e2, e3, e4, e5, e6, e7, e8, e9]
  try omega
theorem impl_WithoutMember_eq (k : Nat) (hk : 10 ≤ k) (c : Cfg) (n : Int) : impl_WithoutMember_t A k (c, (n, ())) () = some (withoutMember c n, ()) := by
  simp only [impl_WithoutMember_t, impl_ConfigValid_eq k hk, a_obind_some, a_cndS, a_notB, withoutMember]
  cases h : cfgOk c with
  | false => simp [zeroC]
  | true =>
    have hl := cfgOk_len h
    simp only [Bool.not_true, Bool.false_eq_true, if_false, if_true, slices_Index_eq k c.2.1 n (by omega) (by omega), copyConfig_eq k c (by omega), a_obind_some, mayDrop]
    rcases idx_cases c.2.1 n with ⟨e, hm⟩ | ⟨i, e, hi, hv, _⟩
    · simp [e, hm]
    have hm : n ∈ c.2.1 := idx_mem.1 (by rw [e]; omega)
    have h0 : ¬ ((i : Int) < 0) := by omega
    by_cases h60 : c.1 = 60
    · simp [e, h0, h60, hm]
    have h60' : ¬ 60 ≤ c.1 := by omega
    have w := without_ok h hi h60
    have ew : (c.1 + 1, (c.2.1.take i ++ c.2.1.drop (i + 1), ((if c.2.2.1 = true then decide ((i : Int) < (c.2.1.length : Int) - 1) else false), ()))) = without c i := by
      simp only [without]
      cases c.2.2.1 with
      | false => rfl
      | true =>
        have : decide ((i : Int) < (c.2.1.length : Int) - 1) = !decide (i = c.2.1.length - 1) := by
          rw [Bool.eq_iff_iff]; simp; omega
        simp [this]
    simp only [e, a_ltI, h0, decide_false, a_leI, h60', Bool.false_eq_true, if_false, a_sumE_inl, replaced_eq k c.2.1 i hi (by omega), a_obind_some, hm, h60, decide_true, Bool.not_false, Bool.true_and, a_addI, a_subI, a_lenL, a_wrap (A := A) (n := c.1 + 1) (by omega) (by omega), a_wrap (A := A) (n := (c.2.1.length : Int) - 1) (by omega) (by omega), if_true, Int.toNat_natCast]
    have step : (if c.2.2.1 = true then (some (c, (zeroC, ((c.1 + 1, (c.2.1.take i ++ c.2.1.drop (i + 1), (decide ((i : Int) < (c.2.1.length : Int) - 1), ()))), ()))) : Option (Cfg × (Cfg × (Cfg × Unit)))) else some (c, (zeroC, ((c.1 + 1, (c.2.1.take i ++ c.2.1.drop (i + 1), (false, ()))), ())))) = some (c, (zeroC, (without c i, ()))) := by
      rw [← ew]; cases c.2.2.1 <;> rfl
    simp only [zeroC] at step
    rw [step]
    simp only [a_obind_some, impl_ConfigValid_eq k hk, w]
    cases (decide ((complete c).length = 1) && (!c.2.2.1 || !decide ((i : Int) = (c.2.1.length : Int) - 1))) <;> simp [copyConfig_eq k c (by omega)]
/-! ### exact laws -/
theorem len_1M {n : Nat} (h : ¬ (1048576 : Int) < n) : n ≤ 1048576 := by omega
theorem FnExactConfigValid_true (k : Nat) (hk : 2000000 ≤ k) (c : Cfg) (hc : c.2.1.length ≤ 9223372036854775807) : laws_FnExactConfigValid_t A k (c, ()) () = some ((true, ()), ()) := by
  simp only [laws_FnExactConfigValid_t, szConfig_eq k c 1048576 (by omega) (by omega) hc, a_obind_some]
  by_cases h : (1048576 : Int) < c.2.1.length
  · simp [h]
  have h1 : ¬ 1048576 - (c.2.1.length : Int) < 0 := by omega
  simp [h, h1, toConfig_eq k c (by omega) (by omega), impl_ConfigValid_eq k (by omega), spec_ConfigValid_eq k (by omega), eqConfig_eq k c c (by omega) (by omega)]
theorem FnExactMemberAfter_true (k : Nat) (hk : 2000000 ≤ k) (c : Cfg) (n : Int) (hc : c.2.1.length ≤ 9223372036854775807) : laws_FnExactMemberAfter_t A k (c, (n, ())) () = some ((true, ()), ()) := by
  simp only [laws_FnExactMemberAfter_t, szConfig_eq k c 1048576 (by omega) (by omega) hc, a_obind_some]
  by_cases h : (1048576 : Int) < c.2.1.length
  · simp [h]
  have h1 : ¬ 1048576 - (c.2.1.length : Int) < 0 := by omega
  simp [h, h1, toConfig_eq k c (by omega) (by omega), impl_MemberAfter_eq k (by omega), spec_MemberAfter_eq k (by omega) c n (by omega) (by omega), eqConfig_eq k c c (by omega) (by omega)]
theorem FnExactCompleteMembers_true (k : Nat) (hk : 2000000 ≤ k) (c : Cfg) (hc : c.2.1.length ≤ 9223372036854775807) : laws_FnExactCompleteMembers_t A k (c, ()) () = some ((true, ()), ()) := by
  simp only [laws_FnExactCompleteMembers_t, szConfig_eq k c 1048576 (by omega) (by omega) hc, a_obind_some]
  by_cases h : (1048576 : Int) < c.2.1.length
  · simp [h]
  have h1 : ¬ 1048576 - (c.2.1.length : Int) < 0 := by omega
  have hl := completeOr_len c
  have h2 : ¬ 1 + (c.2.1.length : Int) < 0 := by omega
  have h3 : ¬ 1 + ((completeOr c).length : Int) < 0 := by omega
  have e := spec_CompleteMembers_eq (A := A) k (by omega) c
  rw [← completeOr] at e
  simp [h, h1, h2, h3, toConfig_eq k c (by omega) (by omega), impl_CompleteMembers_eq k (by omega), e, eqConfig_eq k c c (by omega) (by omega), eqIntS_eq k (completeOr c) (completeOr c) (by omega) (by omega),
    markConfig_eq k 1 c (by omega) (by omega) (by omega) (by omega), markIntS_eq k 1 (completeOr c) (by omega) (by omega) (by omega) (by omega), heldIntS_eq k 1 (completeOr c).length (by omega) (by omega) (by omega) (by omega)]
theorem doneOr_len (c : Cfg) : (doneOr c).2.1.length ≤ 4 := by
  unfold doneOr
  cases h : cfgOk c with
  | false => simp [zeroC]
  | true => have := cfgOk_len h; simp; omega
theorem FnExactConfigDone_true (k : Nat) (hk : 2000000 ≤ k) (c : Cfg) (hc : c.2.1.length ≤ 9223372036854775807) : laws_FnExactConfigDone_t A k (c, ()) () = some ((true, ()), ()) := by
  simp only [laws_FnExactConfigDone_t, szConfig_eq k c 1048576 (by omega) (by omega) hc, a_obind_some]
  by_cases h : (1048576 : Int) < c.2.1.length
  · simp [h]
  have h1 : ¬ 1048576 - (c.2.1.length : Int) < 0 := by omega
  have hl := doneOr_len c
  have h2 : ¬ 1 + (c.2.1.length : Int) < 0 := by omega
  have h3 : ¬ 1 + ((doneOr c).2.1.length : Int) < 0 := by omega
  have e := spec_ConfigDone_eq (A := A) k (by omega) c
  rw [← doneOr] at e
  simp [h, h1, h2, h3, toConfig_eq k c (by omega) (by omega), impl_ConfigDone_eq k (by omega), e, eqConfig_eq k c c (by omega) (by omega), eqConfig_eq k (doneOr c) (doneOr c) (by omega) (by omega),
    markConfig_eq k 1 c (by omega) (by omega) (by omega) (by omega), markConfig_eq k 1 (doneOr c) (by omega) (by omega) (by omega) (by omega), heldConfig_eq k 1 _ (doneOr c).2.1.length _ (by omega) (by omega) (by omega) (by omega)]
theorem withMember_len' (c : Cfg) (n : Int) : (withMember c n).1.2.1.length ≤ 5 := by
  unfold withMember
  by_cases h : cfgOk c = true
  · have hl := cfgOk_len h
    split
    · split <;> simp <;> omega
    · simp [zeroC]
  · simp [h, zeroC]
theorem withoutMember_len' (c : Cfg) (n : Int) : (withoutMember c n).1.2.1.length ≤ 8 := by
  unfold withoutMember
  by_cases h : cfgOk c = true
  · have hl := cfgOk_len h
    simp only [h, if_true]
    split
    · simp [without]; omega
    · simp; omega
  · simp [h, zeroC]
theorem FnExactWithMember_true (k : Nat) (hk : 2000000 ≤ k) (c : Cfg) (n : Int) (hc : c.2.1.length ≤ 9223372036854775807) : laws_FnExactWithMember_t A k (c, (n, ())) () = some ((true, ()), ()) := by
  simp only [laws_FnExactWithMember_t, szConfig_eq k c 1048576 (by omega) (by omega) hc, a_obind_some]
  by_cases h : (1048576 : Int) < c.2.1.length
  · simp [h]
  have h1 : ¬ 1048576 - (c.2.1.length : Int) < 0 := by omega
  have e1 := impl_WithMember_eq (A := A) k (by omega) c n
  have e2 := spec_WithMember_eq (A := A) k (by omega) c n
  have hl := withMember_len' c n
  generalize withMember c n = d at e1 e2 hl
  have h2 : ¬ 1 + (c.2.1.length : Int) < 0 := by omega
  have h3 : ¬ 1 + (d.1.2.1.length : Int) < 0 := by omega
  simp [h, h1, h2, h3, toConfig_eq k c (by omega) (by omega), e1, e2, eqConfig_eq k c c (by omega) (by omega), eqConfig_eq k d.1 d.1 (by omega) (by omega),
    markConfig_eq k 1 c (by omega) (by omega) (by omega) (by omega), markConfig_eq k 1 d.1 (by omega) (by omega) (by omega) (by omega), heldConfig_eq k 1 _ d.1.2.1.length _ (by omega) (by omega) (by omega) (by omega)]
theorem FnExactWithoutMember_true (k : Nat) (hk : 2000000 ≤ k) (c : Cfg) (n : Int) (hc : c.2.1.length ≤ 9223372036854775807) : laws_FnExactWithoutMember_t A k (c, (n, ())) () = some ((true, ()), ()) := by
  simp only [laws_FnExactWithoutMember_t, szConfig_eq k c 1048576 (by omega) (by omega) hc, a_obind_some]
  by_cases h : (1048576 : Int) < c.2.1.length
  · simp [h]
  have h1 : ¬ 1048576 - (c.2.1.length : Int) < 0 := by omega
  have e1 := impl_WithoutMember_eq (A := A) k (by omega) c n
  have e2 := spec_WithoutMember_eq (A := A) k (by omega) c n
  have hl := withoutMember_len' c n
  generalize withoutMember c n = d at e1 e2 hl
  have h2 : ¬ 1 + (c.2.1.length : Int) < 0 := by omega
  have h3 : ¬ 1 + (d.1.2.1.length : Int) < 0 := by omega
  simp [h, h1, h2, h3, toConfig_eq k c (by omega) (by omega), e1, e2, eqConfig_eq k c c (by omega) (by omega), eqConfig_eq k d.1 d.1 (by omega) (by omega),
    markConfig_eq k 1 c (by omega) (by omega) (by omega) (by omega), markConfig_eq k 1 d.1 (by omega) (by omega) (by omega) (by omega), heldConfig_eq k 1 _ d.1.2.1.length _ (by omega) (by omega) (by omega) (by omega)]
end Go.Den.T
