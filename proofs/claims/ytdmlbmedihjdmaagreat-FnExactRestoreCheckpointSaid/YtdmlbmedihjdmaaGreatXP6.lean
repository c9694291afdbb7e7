/- Commands, entries, logs applied: both sides in one form. -/
import Derived.Test.YtdmlbmedihjdmaaGreatXP5

namespace Go.Den.T
set_option linter.unusedVariables false
set_option linter.unusedSimpArgs false
set_option linter.unusedSectionVars false
section
variable {A : Atoms} [IsReal A]
theorem pget_cases (l : List Pair) (s : List UInt8) : pget l s = -1 ∨ (0 ≤ pget l s ∧ pget l s ≤ 999) := by
  unfold pget
  split
  · rename_i h
    simp only [Bool.and_eq_true] at h
    obtain ⟨h1, h2⟩ := ph_lt h.2
    have := h.1
    simp only [pairsOk, Bool.and_eq_true, range_all] at this
    have := this.2 _ h1
    simp only [pairAt, valOk, Bool.and_eq_true, decide_eq_true_eq] at this
    exact .inr this.2.1
  · exact .inl rfl
def appC (l : List Pair) (c : Cmd) : List Pair × (Int × Unit) :=
  if (pairsOk l && cmdOk c) = true ∧ c.1 ≠ 5 then
    (if c.1 = 3 then ((pdrop l c.2.1).1, (pget l c.2.1, ())) else if c.1 = 1 ∨ (c.1 = 4 ∧ c.2.2.2.1 ≠ pget l c.2.1) then (l, (pget l c.2.1, ()))
      else if pget l c.2.1 = -1 ∧ 8 ≤ l.length then (l, (-2, ())) else ((pput l c.2.1 c.2.2.1).1, (pget l c.2.1, ())))
  else ([], (-3, ()))
theorem impl_ApplyCommand_eq (k : Nat) (hk : 100 ≤ k) (l : List Pair) (c : Cmd) : impl_ApplyCommand_t A k (l, (c, ())) () = some (appC l c, ()) := by
  obtain ⟨kd, key, val, old, _⟩ := c
  simp only [impl_ApplyCommand_t, impl_PairsValid_eq k (by omega : 60 ≤ k), impl_CommandValid_eq k (by omega : 10 ≤ k), a_obind_some, a_cndS, a_notB, a_eqI, appC]
  rcases Bool.eq_false_or_eq_true (pairsOk l) with h1 | h1
  case inr => simp [h1]
  rcases Bool.eq_false_or_eq_true (cmdOk (kd, (key, (val, (old, ()))))) with h2 | h2
  case inr => simp [h1, h2]
  have hl := pairs_len h1
  by_cases h5 : kd = 5
  · simp [h1, h2, h5]
  simp only [h1, h2, h5, decide_false, Bool.not_true, Bool.false_eq_true, if_false, a_sumE_inl, a_obind_some, impl_PairGet_eq k hk, impl_PairDrop_eq k hk, impl_PairPut_eq k hk, copyPair_eq k l (show l.length ≤ 1000000000 by omega), Bool.and_self, ne_eq, not_false_eq_true, and_self, if_true]
  generalize pget l key = g
  by_cases h3 : kd = 3
  · simp [h3]
  by_cases h11 : kd = 1
  · simp [h3, h11]
  by_cases h4 : kd = 4
  · subst h4
    by_cases ho : old = g
    · by_cases hg : g = -1
      · by_cases h8 : 8 ≤ l.length
        · have : (8 : Int) ≤ l.length := by omega
          simp [ho, hg, h8, this, copyPair_eq k l (show l.length ≤ 1000000000 by omega)]
        · have : ¬ (8 : Int) ≤ l.length := by omega
          simp [ho, hg, h8, this]
      · simp [ho, hg]
    · simp [ho]
  · by_cases hg : g = -1
    · by_cases h8 : 8 ≤ l.length
      · have : (8 : Int) ≤ l.length := by omega
        simp [h3, h11, h4, hg, h8, this, copyPair_eq k l (show l.length ≤ 1000000000 by omega)]
      · have : ¬ (8 : Int) ≤ l.length := by omega
        simp [h3, h11, h4, hg, h8, this]
    · simp [h3, h11, h4, hg]
theorem spec_ApplyCommand_eq (k : Nat) (hk : 100 ≤ k) (l : List Pair) (c : Cmd) : spec_ApplyCommand_t A k (l, (c, ())) () = some (appC l c, ()) := by
  obtain ⟨kd, key, val, old, _⟩ := c
  simp only [spec_ApplyCommand_t, spec_PairsValid_eq k (by omega : 60 ≤ k), spec_CommandValid_eq k (by omega : 10 ≤ k), a_obind_some, a_cndS, a_notB, a_eqI, appC]
  rcases Bool.eq_false_or_eq_true (pairsOk l) with h1 | h1
  case inr => simp [h1]
  rcases Bool.eq_false_or_eq_true (cmdOk (kd, (key, (val, (old, ()))))) with h2 | h2
  case inr => simp [h1, h2]
  have hl := pairs_len h1
  have hb : (l.length : Int) < 4294967296 := by omega
  by_cases h5 : kd = 5
  · simp [h1, h2, h5]
  simp only [h1, h2, h5, decide_false, Bool.not_true, Bool.false_eq_true, if_false, a_sumE_inl, a_obind_some, spec_PairGet_eq k hk l key (by omega) (by omega), spec_PairDrop_eq k hk, spec_PairPut_eq k hk, Bool.and_self, ne_eq, not_false_eq_true, and_self, if_true, a_lenL, a_ltI, a_addI, List.length_nil, Int.natCast_zero, Int.ofNat_zero, Int.zero_add, a_big, hb, decide_true, a_appL, List.nil_append]
  have hgc := pget_cases l key
  generalize pget l key = g at hgc
  by_cases h3 : kd = 3
  · simp [h3]
  by_cases h11 : kd = 1
  · simp [h3, h11]
  by_cases h4 : kd = 4
  · subst h4
    by_cases ho : old = g
    · by_cases hg : g = -1
      · by_cases h8 : 8 ≤ l.length
        · have : (8 : Int) ≤ l.length := by omega
          simp [ho, hg, h8, this]
        · have : ¬ (8 : Int) ≤ l.length := by omega
          simp [ho, hg, h8, this]
      · have : ¬ g < 0 := by omega
        simp [ho, hg, this]
    · simp [ho]
  · by_cases hg : g = -1
    · by_cases h8 : 8 ≤ l.length
      · have : (8 : Int) ≤ l.length := by omega
        simp [h3, h11, h4, hg, h8, this]
      · have : ¬ (8 : Int) ≤ l.length := by omega
        simp [h3, h11, h4, hg, h8, this]
    · have : ¬ g < 0 := by omega
      simp [h3, h11, h4, hg, this]
/-! ### entries -/
abbrev stt0 : Stt := (itv0, (([] : List Pair), (([] : List Ses), (false, (([] : List UInt8), ())))))
def takes (s : Stt) (c : Cmd) : Bool := if c.1 = 5 then (decide (c.2.1 = []) || (cut s.1 c.2.1).2.2.1) else inside s.1 c.2.1
def apE (s : Stt) (e : Ent) : Stt × (Int × Unit) :=
  if (stOk s && entOk e) = true then
    (if (sfind s.2.2.1 e.1).2.1 = e.2.1 then (s, ((sfind s.2.2.1 e.1).2.2.1, ())) else if e.2.1 < (sfind s.2.2.1 e.1).2.1 then (s, (-4, ()))
     else if (s.2.2.2.1 || !takes s e.2.2.1) = true then (s, (-3, ()))
     else if e.2.2.1.1 = 5 then ((s.1, (s.2.1, ((sput s.2.2.1 (e.1, (e.2.1, (0, ())))).1, (true, (e.2.2.1.2.1, ()))))), (0, ()))
     else ((s.1, ((appC s.2.1 e.2.2.1).1, ((sput s.2.2.1 (e.1, (e.2.1, ((appC s.2.1 e.2.2.1).2.1, ())))).1, s.2.2.2))), ((appC s.2.1 e.2.2.1).2.1, ())))
  else (stt0, (-3, ()))
theorem stOk_parts {s : Stt} (h : stOk s = true) : itvOk s.1 = true ∧ pairsOk s.2.1 = true ∧ sesOk s.2.2.1 = true ∧ s.2.1.all (fun p => inside s.1 p.1) = true ∧ (s.2.2.2.2.1 = [] ∨ (s.2.2.2.1 = true ∧ (cut s.1 s.2.2.2.2.1).2.2.1 = true)) := by
  simp only [stOk, Bool.and_eq_true, Bool.or_eq_true, decide_eq_true_eq] at h
  exact ⟨h.1, h.2.1, h.2.2.1, h.2.2.2.1, h.2.2.2.2⟩
theorem entOk_parts {e : Ent} (h : entOk e = true) : (0 ≤ e.1 ∧ e.1 ≤ 3) ∧ (1 ≤ e.2.1 ∧ e.2.1 ≤ 999) ∧ cmdOk e.2.2.1 = true := by
  simp only [entOk, Bool.and_eq_true, decide_eq_true_eq] at h
  exact ⟨h.1, h.2.1, h.2.2⟩
theorem cmd_key {c : Cmd} (h : cmdOk c = true) : keyOk c.2.1 = true ∨ (c.1 = 5 ∧ c.2.1 = []) := by
  simp only [cmdOk, Bool.and_eq_true, Bool.or_eq_true, decide_eq_true_eq] at h
  exact h.1
theorem copyState_eq (k : Nat) (s : Stt) (h1 : s.2.1.length ≤ 1000000000) (h2 : s.2.2.1.length ≤ 1000000000) : impl_copyState_t A k (s, ()) () = some ((s, ()), ()) := by
  simp only [impl_copyState_t, copyPair_eq k s.2.1 h1, copySes_eq k s.2.2.1 h2, a_obind_some]
theorem l10Copy_eq (k : Nat) (s : Stt) (h1 : s.2.1.length ≤ 1000000000) (h2 : s.2.2.1.length ≤ 1000000000) : spec_l10Copy_t A k (s, ()) () = some ((s, ()), ()) := by
  have g1 : (s.2.1.length : Int) < 4294967296 := by omega
  have g2 : (s.2.2.1.length : Int) < 4294967296 := by omega
  simp only [spec_l10Copy_t, a_lenL, List.length_nil, Int.natCast_zero, Int.ofNat_zero, a_addI, Int.zero_add, a_ltI, a_big, g1, g2, decide_true, a_cndS, if_true, a_appL, List.nil_append]
theorem stateTakes_eq (k : Nat) (hk : 10 ≤ k) (s : Stt) (c : Cmd) : impl_stateTakes_t A k (s, (c, ())) () = some ((takes s c, ()), ()) := by
  simp only [impl_stateTakes_t, inside_eq, impl_IntervalCut_eq k hk, a_obind_some, a_cndS, a_notB, a_eqI, a_eqS, takes]
  by_cases h5 : c.1 = 5
  · by_cases hn : c.2.1 = [] <;> simp [h5, hn]
  · simp [h5]
theorem impl_ApplyEntry_eq (k : Nat) (hk : 100 ≤ k) (s : Stt) (e : Ent) (hk2 : s.2.2.1.length < k) (hl : s.2.2.1.length ≤ 1000000000) : impl_ApplyEntry_t A k (s, (e, ())) () = some (apE s e, ()) := by
  simp only [impl_ApplyEntry_t, impl_StateValid_eq k (by omega : 60 ≤ k) s hk2 hl, impl_EntryValid_eq k (by omega : 10 ≤ k), a_obind_some, a_cndS, a_notB, apE]
  rcases Bool.eq_false_or_eq_true (stOk s) with h1 | h1
  case inr => simp [h1]
  rcases Bool.eq_false_or_eq_true (entOk e) with h2 | h2
  case inr => simp [h1, h2]
  obtain ⟨p1, p2, p3, p4, p5⟩ := stOk_parts h1
  obtain ⟨q1, q2, q3⟩ := entOk_parts h2
  have l1 := pairs_len p2
  have l2 := ses_le4 p3
  simp only [h1, h2, Bool.not_true, Bool.false_eq_true, if_false, if_true, a_sumE_inl, a_obind_some, Bool.and_self, copyState_eq k s (show s.2.1.length ≤ 1000000000 by omega) hl, sessionPlace_eq k s.2.2.1 e.1 (ses_mono p3 e.1) (by omega) hl]
  rcases Bool.eq_false_or_eq_true (sh s.2.2.1 e.1) with hh | hh
  · obtain ⟨m1, m2⟩ := sh_lt hh
    have m1' : (sp s.2.2.1 e.1 : Int) < s.2.2.1.length := by omega
    have ef : sfind s.2.2.1 e.1 = s.2.2.1.getD (sp s.2.2.1 e.1) ses0 := by simp only [sfind, hh, if_true]
    rw [ef]
    simp only [hh, if_true, a_le0, Int.natCast_nonneg, a_ltI, a_lenL, m1', decide_true, a_andB, Bool.and_self, a_atL, Int.toNat_natCast, a_leI, a_eqI]
    by_cases c1 : e.2.1 = (s.2.2.1.getD (sp s.2.2.1 e.1) ses0).2.1
    · have c2 : e.2.1 ≤ (s.2.2.1.getD (sp s.2.2.1 e.1) ses0).2.1 := by omega
      rw [if_pos c1.symm, decide_eq_true c1, decide_eq_true c2]
      simp only [if_true, a_obind_some, a_sumE_inr]
    · have c1' : ¬ (s.2.2.1.getD (sp s.2.2.1 e.1) ses0).2.1 = e.2.1 := fun h => c1 h.symm
      rw [if_neg c1', decide_eq_false c1]
      by_cases c2 : e.2.1 ≤ (s.2.2.1.getD (sp s.2.2.1 e.1) ses0).2.1
      · have c3 : e.2.1 < (s.2.2.1.getD (sp s.2.2.1 e.1) ses0).2.1 := by omega
        rw [if_pos c3, decide_eq_true c2]
        simp only [if_true, Bool.false_eq_true, if_false, a_obind_some, a_sumE_inr]
      · have c3 : ¬ e.2.1 < (s.2.2.1.getD (sp s.2.2.1 e.1) ses0).2.1 := by omega
        rw [if_neg c3, decide_eq_false c2]
        simp only [Bool.false_eq_true, if_false, a_obind_some, a_sumE_inl]
        simp only [stateTakes_eq k (by omega : 10 ≤ k), a_obind_some, a_cndS, a_notB, a_eqI]
        rcases Bool.eq_false_or_eq_true s.2.2.2.1 with hz | hz
        · simp [hz]
        rcases Bool.eq_false_or_eq_true (takes s e.2.2.1) with ht | ht
        case inr => simp [hz, ht]
        by_cases h5 : e.2.2.1.1 = 5
        · simp [hz, ht, h5, impl_SessionPut_eq k hk s.2.2.1 _ hk2 hl]
        · simp [hz, ht, h5, impl_SessionPut_eq k hk s.2.2.1 _ hk2 hl, impl_ApplyCommand_eq k hk]
  · have ef : sfind s.2.2.1 e.1 = ses0 := by simp only [sfind, hh, Bool.false_eq_true, if_false]
    have c1 : ¬ (0 : Int) = e.2.1 := by omega
    have c2 : ¬ e.2.1 < 0 := by omega
    rw [ef]
    simp only [hh, Bool.false_eq_true, if_false, a_obind_some, a_sumE_inl, c1, c2]
    simp only [stateTakes_eq k (by omega : 10 ≤ k), a_obind_some, a_cndS, a_notB, a_eqI]
    rcases Bool.eq_false_or_eq_true s.2.2.2.1 with hz | hz
    · simp [hz]
    rcases Bool.eq_false_or_eq_true (takes s e.2.2.1) with ht | ht
    case inr => simp [hz, ht]
    by_cases h5 : e.2.2.1.1 = 5
    · simp [hz, ht, h5, impl_SessionPut_eq k hk s.2.2.1 _ hk2 hl]
    · simp [hz, ht, h5, impl_SessionPut_eq k hk s.2.2.1 _ hk2 hl, impl_ApplyCommand_eq k hk]
theorem spec_ApplyEntry_eq (k : Nat) (hk : 100 ≤ k) (s : Stt) (e : Ent) (hk2 : s.2.2.1.length < k) (hl : s.2.2.1.length ≤ 1000000000) : spec_ApplyEntry_t A k (s, (e, ())) () = some (apE s e, ()) := by
  simp only [spec_ApplyEntry_t, spec_StateValid_eq k (by omega : 60 ≤ k) s hk2 hl, spec_EntryValid_eq k (by omega : 10 ≤ k), a_obind_some, a_cndS, a_notB, apE]
  rcases Bool.eq_false_or_eq_true (stOk s) with h1 | h1
  case inr => simp [h1]
  rcases Bool.eq_false_or_eq_true (entOk e) with h2 | h2
  case inr => simp [h1, h2]
  obtain ⟨p1, p2, p3, p4, p5⟩ := stOk_parts h1
  obtain ⟨q1, q2, q3⟩ := entOk_parts h2
  have l1 := pairs_len p2
  have l2 := ses_le4 p3
  simp only [h1, h2, Bool.not_true, Bool.false_eq_true, if_false, if_true, a_sumE_inl, a_obind_some, Bool.and_self, l10Copy_eq k s (show s.2.1.length ≤ 1000000000 by omega) hl, l9Find_eq k s.2.2.1 e.1 p3 hk2, a_eqI, a_ltI]
  by_cases c1 : (sfind s.2.2.1 e.1).2.1 = e.2.1
  · simp [c1]
  by_cases c2 : e.2.1 < (sfind s.2.2.1 e.1).2.1
  · simp [c1, c2]
  simp only [c1, c2, decide_false, Bool.false_eq_true, if_false]
  rcases Bool.eq_false_or_eq_true s.2.2.2.1 with hz | hz
  · simp [hz]
  simp only [hz, Bool.false_eq_true, if_false, Bool.false_or, spec_IntervalCut_eq k (by omega : 10 ≤ k), a_obind_some, IntervalHas_eq k (by omega : 10 ≤ k), p1, Bool.true_and, takes, a_eqS]
  by_cases h5 : e.2.2.1.1 = 5
  · simp only [h5, decide_true, if_true]
    by_cases hn : e.2.2.1.2.1 = []
    · simp [hn, spec_SessionPut_eq k hk s.2.2.1 _ hk2 hl]
    · rcases Bool.eq_false_or_eq_true (cut s.1 e.2.2.1.2.1).2.2.1 with hc | hc
      · simp [hn, hc, spec_SessionPut_eq k hk s.2.2.1 _ hk2 hl]
      · simp [hn, hc]
  · have hkey : keyOk e.2.2.1.2.1 = true := by
      rcases cmd_key q3 with h | h
      · exact h
      · exact absurd h.1 h5
    simp only [h5, hkey, decide_false, Bool.false_eq_true, if_false, Bool.not_false, if_true, Bool.true_and]
    rcases Bool.eq_false_or_eq_true (inside s.1 e.2.2.1.2.1) with hi | hi
    · simp [hi, h5, hz, spec_SessionPut_eq k hk s.2.2.1 _ hk2 hl, spec_ApplyCommand_eq k hk]
    · simp [hi]
/-! ### validity is kept -/
theorem pairsOk_iff {l : List Pair} : pairsOk l = true ↔ l.length ≤ 48 ∧ (∀ p ∈ l, keyOk p.1 = true ∧ valOk p.2.1 = true) ∧ l.Pairwise (fun a b => bless a.1 b.1 = true) := by
  constructor
  · intro h
    have hs := pairs_sorted h
    refine ⟨pairs_len h, fun p hp => ?_, ?_⟩
    · obtain ⟨i, hi, rfl⟩ := List.mem_iff_getElem.1 hp
      simp only [pairsOk, Bool.and_eq_true, range_all] at h
      have := h.2 i hi
      simp only [pairAt, Bool.and_eq_true] at this
      rw [getD_lt hi] at this
      exact ⟨this.1, this.2.1⟩
    · rw [List.pairwise_iff_getElem]
      intro i j hi hj hij
      have := hs i j hij hj
      rwa [getD_lt hi, getD_lt hj] at this
  · rintro ⟨h1, h2, h3⟩
    rw [List.pairwise_iff_getElem] at h3
    simp only [pairsOk, Bool.and_eq_true, range_all, decide_eq_true_eq]
    refine ⟨h1, fun i hi => ?_⟩
    have h4 := h2 l[i] (List.getElem_mem hi)
    simp only [pairAt, Bool.and_eq_true, Bool.or_eq_true, decide_eq_true_eq]
    rw [getD_lt hi]
    refine ⟨h4.1, h4.2, ?_⟩
    by_cases h0 : i = 0
    · exact .inl h0
    · have hi1 : i - 1 < l.length := by omega
      rw [getD_lt hi1]
      exact .inr (h3 (i - 1) i hi1 hi (by omega))
theorem sesOk_iff {l : List Ses} : sesOk l = true ↔ (∀ p ∈ l, (0 ≤ p.1 ∧ p.1 ≤ 3) ∧ (1 ≤ p.2.1 ∧ p.2.1 ≤ 999) ∧ -2 ≤ p.2.2.1 ∧ p.2.2.1 ≤ 999) ∧ l.Pairwise (fun a b => a.1 < b.1) := by
  constructor
  · intro h
    have hs := ses_sorted h
    refine ⟨fun p hp => ?_, ?_⟩
    · obtain ⟨i, hi, rfl⟩ := List.mem_iff_getElem.1 hp
      simp only [sesOk, range_all] at h
      have := h i hi
      simp only [sesAt, sesP, Bool.and_eq_true, decide_eq_true_eq] at this
      rw [getD_lt hi] at this
      exact ⟨this.1, this.2.1, this.2.2.1⟩
    · rw [List.pairwise_iff_getElem]
      intro i j hi hj hij
      have := hs i j hij hj
      rwa [getD_lt hi, getD_lt hj] at this
  · rintro ⟨h2, h3⟩
    rw [List.pairwise_iff_getElem] at h3
    simp only [sesOk, range_all]
    intro i hi
    have h4 := h2 l[i] (List.getElem_mem hi)
    simp only [sesAt, sesP, Bool.and_eq_true, Bool.or_eq_true, decide_eq_true_eq, Bool.not_eq_true', decide_eq_false_iff_not]
    rw [getD_lt hi]
    refine ⟨h4.1, h4.2.1, h4.2.2, ?_⟩
    by_cases h0 : i = 0
    · exact .inl h0
    · have hi1 : i - 1 < l.length := by omega
      rw [getD_lt hi1]
      have := h3 (i - 1) i hi1 hi (by omega)
      exact .inr (by omega)
theorem pdrop_ok {l : List Pair} (h : pairsOk l = true) (s : List UInt8) : pairsOk (pdrop l s).1 = true ∧ ∀ p ∈ (pdrop l s).1, p ∈ l := by
  unfold pdrop
  rw [if_pos h]
  split
  · have hsub : List.Sublist (l.take (pp l s) ++ l.drop (pp l s + 1)) l := by
      conv => rhs; rw [← List.take_append_drop (pp l s) l]
      exact List.Sublist.append (List.Sublist.refl _) (by rw [← List.drop_drop]; exact List.drop_sublist 1 _)
    rw [pairsOk_iff] at h
    refine ⟨pairsOk_iff.2 ⟨Nat.le_trans hsub.length_le h.1, fun p hp => h.2.1 p (hsub.subset hp), h.2.2.sublist hsub⟩, fun p hp => hsub.subset hp⟩
  · exact ⟨h, fun p hp => hp⟩
theorem place_order {l : List Pair} (h : pairsOk l = true) (s : List UInt8) : (∀ p ∈ l.take (pp l s), bless p.1 s = true) ∧ (ph l s = true → ∀ p ∈ l.drop (pp l s + 1), bless s p.1 = true) ∧ (ph l s = false → ∀ p ∈ l.drop (pp l s), bless s p.1 = true) := by
  have hs := pairs_sorted h
  have hsp : (∀ i, i < pp l s → ltP s (l.getD i pair0) = true) ∧ (pp l s < l.length → ltP s (l.getD (pp l s) pair0) = false) := ahead_spec (lt := ltP s) (d := pair0) (l := l)
  refine ⟨fun p hp => ?_, fun hh p hp => ?_, fun hh p hp => ?_⟩
  · obtain ⟨i, hi, rfl⟩ := List.mem_iff_getElem.1 hp
    rw [List.length_take] at hi
    have := hsp.1 i (by omega)
    rw [getD_lt (show i < l.length by omega)] at this
    rw [List.getElem_take]; exact this
  · obtain ⟨q1, q2⟩ := ph_lt hh
    obtain ⟨i, hi, rfl⟩ := List.mem_iff_getElem.1 hp
    rw [List.length_drop] at hi
    have := hs (pp l s) (pp l s + 1 + i) (by omega) (by omega)
    rw [q2, getD_lt (show pp l s + 1 + i < l.length by omega)] at this
    rw [List.getElem_drop]; exact this
  · obtain ⟨i, hi, rfl⟩ := List.mem_iff_getElem.1 hp
    rw [List.length_drop] at hi
    have hlt : pp l s < l.length := by omega
    have hne : ¬ (l.getD (pp l s) pair0).1 = s := fun e => by
      have : ph l s = true := by simp only [ph, hlt, e, decide_true, Bool.and_self]
      rw [this] at hh; cases hh
    have h0 : bless s (l.getD (pp l s) pair0).1 = true := by
      have h1 := hsp.2 hlt
      have h2 := bless_total s (l.getD (pp l s) pair0).1
      have h1 : bless (l.getD (pp l s) pair0).1 s = false := h1
      rw [h1, decide_eq_false hne] at h2
      exact h2
    rw [List.getElem_drop]
    by_cases hi0 : i = 0
    · subst hi0
      rw [getD_lt hlt] at h0
      simpa using h0
    · have := hs (pp l s) (pp l s + i) (by omega) (by omega)
      rw [getD_lt (show pp l s + i < l.length by omega)] at this
      exact bless_trans h0 this
theorem pput_ok {l : List Pair} (h : pairsOk l = true) {s : List UInt8} {v : Int} (hs : keyOk s = true) (hv : valOk v = true) : pairsOk (pput l s v).1 = true ∧ ∀ p ∈ (pput l s v).1, p ∈ l ∨ p = (s, (v, ())) := by
  obtain ⟨o1, o2, o3⟩ := place_order h s
  have hle := pp_le l s
  have hq := h
  rw [pairsOk_iff] at hq
  obtain ⟨q1, q2, q3⟩ := hq
  unfold pput
  rw [if_pos (by simp [h, hs, hv])]
  have gen : ∀ d : List Pair, List.Sublist d (l.drop (pp l s)) → (∀ p ∈ d, bless s p.1 = true) → (pp l s + 1 + d.length ≤ 48) → pairsOk (l.take (pp l s) ++ [(s, (v, ()))] ++ d) = true ∧ ∀ p ∈ l.take (pp l s) ++ [(s, (v, ()))] ++ d, p ∈ l ∨ p = (s, (v, ())) := by
    intro d hd ho hn
    have mem : ∀ p ∈ l.take (pp l s) ++ [(s, (v, ()))] ++ d, p ∈ l ∨ p = (s, (v, ())) := by
      intro p hp
      rcases List.mem_append.1 hp with hp | hp
      · rcases List.mem_append.1 hp with hp | hp
        · exact .inl (List.mem_of_mem_take hp)
        · exact .inr (by simpa using hp)
      · exact .inl (List.mem_of_mem_drop (hd.subset hp))
    have hsub : List.Sublist (l.take (pp l s) ++ d) l := by
      conv => rhs; rw [← List.take_append_drop (pp l s) l]
      exact List.Sublist.append (List.Sublist.refl _) hd
    have hpw := q3.sublist hsub
    rw [List.pairwise_append] at hpw
    refine ⟨pairsOk_iff.2 ⟨by simp only [List.length_append, List.length_take, List.length_cons, List.length_nil]; omega, fun p hp => ?_, ?_⟩, mem⟩
    · rcases mem p hp with hp | rfl
      · exact q2 p hp
      · exact ⟨hs, hv⟩
    · rw [List.append_assoc, List.pairwise_append]
      refine ⟨hpw.1, ?_, fun a ha b hb => ?_⟩
      · rw [List.singleton_append, List.pairwise_cons]
        exact ⟨fun a ha => ho a ha, hpw.2.1⟩
      · rcases List.mem_append.1 hb with hb | hb
        · have : b = (s, (v, ())) := by simpa using hb
          rw [this]; exact o1 a ha
        · exact hpw.2.2 a ha b hb
  rcases Bool.eq_false_or_eq_true (ph l s) with hh | hh
  · rw [if_pos hh]
    exact gen _ (by rw [← List.drop_drop]; exact List.drop_sublist 1 _) (o2 hh) (by have := (ph_lt hh).1; rw [List.length_drop]; omega)
  · rw [if_neg (by rw [hh]; simp)]
    split
    · exact ⟨h, fun p hp => .inl hp⟩
    · exact gen _ (List.Sublist.refl _) (o3 hh) (by rw [List.length_drop]; omega)
theorem sput_ok {l : List Ses} (h : sesOk l = true) {s : Ses} (hs : (0 ≤ s.1 ∧ s.1 ≤ 3) ∧ (1 ≤ s.2.1 ∧ s.2.1 ≤ 999) ∧ -2 ≤ s.2.2.1 ∧ s.2.2.1 ≤ 999) : sesOk (sput l s).1 = true := by
  have hsort := ses_sorted h
  have hsp : (∀ i, i < sp l s.1 → ltS s.1 (l.getD i ses0) = true) ∧ (sp l s.1 < l.length → ltS s.1 (l.getD (sp l s.1) ses0) = false) := ahead_spec (lt := ltS s.1) (d := ses0) (l := l)
  have hq := h
  rw [sesOk_iff] at hq
  obtain ⟨q2, q3⟩ := hq
  have h1 : sesOk [s] = true := sesOk_iff.2 ⟨fun p hp => by simp at hp; subst hp; exact hs, by simp⟩
  have o1 : ∀ p ∈ l.take (sp l s.1), p.1 < s.1 := fun p hp => by
    obtain ⟨i, hi, rfl⟩ := List.mem_iff_getElem.1 hp
    rw [List.length_take] at hi
    have := hsp.1 i (by omega)
    rw [getD_lt (show i < l.length by omega)] at this
    rw [List.getElem_take]; simpa [ltS] using this
  unfold sput
  rw [if_pos (by simp [h, h1])]
  have gen : ∀ d : List Ses, List.Sublist d (l.drop (sp l s.1)) → (∀ p ∈ d, s.1 < p.1) → sesOk (l.take (sp l s.1) ++ [s] ++ d) = true := by
    intro d hd ho
    have hsub : List.Sublist (l.take (sp l s.1) ++ d) l := by
      conv => rhs; rw [← List.take_append_drop (sp l s.1) l]
      exact List.Sublist.append (List.Sublist.refl _) hd
    have hpw := q3.sublist hsub
    rw [List.pairwise_append] at hpw
    refine sesOk_iff.2 ⟨fun p hp => ?_, ?_⟩
    · rcases List.mem_append.1 hp with hp | hp
      · rcases List.mem_append.1 hp with hp | hp
        · exact q2 p (List.mem_of_mem_take hp)
        · simp at hp; subst hp; exact hs
      · exact q2 p (List.mem_of_mem_drop (hd.subset hp))
    · rw [List.append_assoc, List.pairwise_append]
      refine ⟨hpw.1, ?_, fun a ha b hb => ?_⟩
      · rw [List.singleton_append, List.pairwise_cons]
        exact ⟨fun a ha => ho a ha, hpw.2.1⟩
      · rcases List.mem_append.1 hb with hb | hb
        · have : b = s := by simpa using hb
          rw [this]; exact o1 a ha
        · exact hpw.2.2 a ha b hb
  rcases Bool.eq_false_or_eq_true (sh l s.1) with hh | hh
  · rw [if_pos hh]
    obtain ⟨m1, m2⟩ := sh_lt hh
    split
    · exact h
    · refine gen _ (by rw [← List.drop_drop]; exact List.drop_sublist 1 _) (fun p hp => ?_)
      obtain ⟨i, hi, rfl⟩ := List.mem_iff_getElem.1 hp
      rw [List.length_drop] at hi
      have := hsort (sp l s.1) (sp l s.1 + 1 + i) (by omega) (by omega)
      rw [m2, getD_lt (show sp l s.1 + 1 + i < l.length by omega)] at this
      rw [List.getElem_drop]; exact this
  · rw [if_neg (by rw [hh]; simp)]
    refine gen _ (List.Sublist.refl _) (fun p hp => ?_)
    obtain ⟨i, hi, rfl⟩ := List.mem_iff_getElem.1 hp
    rw [List.length_drop] at hi
    have hlt : sp l s.1 < l.length := by omega
    have hne : ¬ (l.getD (sp l s.1) ses0).1 = s.1 := fun e => by
      have : sh l s.1 = true := by simp only [sh, hlt, e, decide_true, Bool.and_self]
      rw [this] at hh; cases hh
    have h0 : s.1 < (l.getD (sp l s.1) ses0).1 := by
      have h1 := hsp.2 hlt
      simp only [ltS, decide_eq_false_iff_not] at h1
      omega
    rw [List.getElem_drop]
    by_cases hi0 : i = 0
    · subst hi0
      rw [getD_lt hlt] at h0
      simpa using h0
    · have := hsort (sp l s.1) (sp l s.1 + i) (by omega) (by omega)
      rw [getD_lt (show sp l s.1 + i < l.length by omega)] at this
      omega
end
end Go.Den.T
