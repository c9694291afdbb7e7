/- Configurations: what the program's and the reference's functions come to. -/
import Derived.Test.YtkgmjndeeljpjaaXPw
import Derived.Test.YtkgmjndeeljpjaaXT

namespace Go.Den.T
set_option linter.unusedVariables false
set_option linter.unusedSimpArgs false
variable {A : Atoms} [IsReal A]
abbrev Cfg := Int × (List Int × (Bool × Unit))

theorem nodeValid_eq (k : Nat) (v : Int) : impl_nodeValid_t A k (v, ()) () = some ((decide (0 ≤ v ∧ v ≤ 4), ()), ()) := by
  simp only [impl_nodeValid_t, a_cndS, a_leI, a_ltI, if_true, decide_eq_true_eq]
  by_cases h : 0 ≤ v <;> simp [h]; omega
theorem l1In_eq (k : Nat) (v a b : Int) : spec_l1In_t A k (v, (a, (b, ()))) () = some ((decide (a ≤ v ∧ v ≤ b), ()), ()) := by
  simp only [spec_l1In_t, a_cndS, a_leI, if_true, decide_eq_true_eq]
  by_cases h : a ≤ v <;> simp [h]

/-- the first place of a number, or -1 -/
def idx (xs : List Int) (v : Int) : Int := ((List.range xs.length).findSome? fun i => if v = xs.getD i 0 then some (i : Int) else none).getD (-1)
theorem idx_cases (xs : List Int) (v : Int) : (idx xs v = -1 ∧ v ∉ xs) ∨ ∃ i : Nat, idx xs v = i ∧ i < xs.length ∧ xs.getD i 0 = v ∧ ∀ j, j < i → xs.getD j 0 ≠ v := by
  rcases range_find (n := xs.length) (f := fun i => if v = xs.getD i 0 then some (i : Int) else none) with ⟨e, h⟩ | ⟨i, x, h1, h2, h3, e⟩
  · refine .inl ⟨by rw [idx, e]; rfl, fun hm => ?_⟩
    obtain ⟨i, hi, rfl⟩ := List.mem_iff_getElem.1 hm
    have := h i hi
    rw [getD_lt hi, if_pos rfl] at this; cases this
  · by_cases hv : v = xs.getD i 0
    · rw [if_pos hv] at h2; cases h2
      exact .inr ⟨i, by rw [idx, e]; rfl, h1, hv.symm, fun j hj hjv => by have := h3 j hj; rw [if_pos hjv.symm] at this; cases this⟩
    · rw [if_neg hv] at h2; cases h2
theorem idx_mem {xs : List Int} {v : Int} : 0 ≤ idx xs v ↔ v ∈ xs := by
  rcases idx_cases xs v with ⟨e, h⟩ | ⟨i, e, h1, h2, _⟩
  · simp [e, h]
  · rw [e]; simp only [Int.natCast_nonneg, true_iff]; rw [← h2, getD_lt h1]; exact List.getElem_mem h1
theorem slices_Index_eq (k : Nat) (xs : List Int) (v : Int) (hk : xs.length < k) (hl : xs.length ≤ 1000000000000) : slices_Index_int_t A k (xs, (v, ())) () = some ((idx xs v, ()), ()) := by
  have h := iter_walk (A := A) (f := slices_Index_int_t_b0 A k) (fun i => (xs, (v, ((xs.length : Int), ((i : Int), ()))))) xs.length (fun i => if v = xs.getD i 0 then some (.inr (((i : Int), ()), ())) else none) (.inl ())
    (fun i hi => by
      simp (disch := omega) [slices_Index_int_t_b0, hi, a_wrap]
      by_cases hv : v = xs[i] <;> simp [hv])
    (by simp [slices_Index_int_t_b0]) hk
  simp only [slices_Index_int_t, a_lenL]
  rw [show ((0 : Int)) = ((0 : Nat) : Int) from rfl, h, idx]
  rw [findSome_map (List.range xs.length) (fun i => v = xs.getD i 0) (fun i => (i : Int)) (fun i => Sum.inr (α := Unit) ((i, ()), ()))]
  cases (List.range xs.length).findSome? fun i => if v = xs.getD i 0 then some (i : Int) else none <;> simp
theorem slices_Contains_eq (k : Nat) (xs : List Int) (v : Int) (hk : xs.length < k) (hl : xs.length ≤ 1000000000000) : slices_Contains_int_t A k (xs, (v, ())) () = some ((decide (v ∈ xs), ()), ()) := by
  simp [slices_Contains_int_t, slices_Index_eq k xs v hk hl, idx_mem]
/-! ### valid configurations -/
def membersOk (xs : List Int) : Bool := (List.range xs.length).all fun i => decide (0 ≤ xs.getD i 0 ∧ xs.getD i 0 ≤ 4) && !decide (xs.getD i 0 ∈ xs.take i)
def cfgOk (c : Cfg) : Bool := decide (1 ≤ c.1 ∧ c.1 ≤ 60) && (decide (1 ≤ c.2.1.length ∧ c.2.1.length ≤ 4) && (!(c.2.2.1 && decide (c.2.1.length < 2)) && membersOk c.2.1))

theorem impl_ConfigValid_eq (k : Nat) (hk : 10 ≤ k) (c : Cfg) : impl_ConfigValid_t A k (c, ()) () = some ((cfgOk c, ()), ()) := by
  obtain ⟨ep, xs, fr, _⟩ := c
  have h : xs.length ≤ 4 → A.iter k (impl_ConfigValid_t_b0 A k) (xs, ((xs.length : Int), (((0 : Nat) : Int), ((ep, (xs, (fr, ()))), ())))) = some (if membersOk xs = true then .inl () else .inr ((false, ()), ())) := fun hl =>
    iter_all (A := A) (f := impl_ConfigValid_t_b0 A k) (fun i => (xs, ((xs.length : Int), ((i : Int), ((ep, (xs, (fr, ()))), ()))))) xs.length (fun i => decide (0 ≤ xs.getD i 0 ∧ xs.getD i 0 ≤ 4) && !decide (xs.getD i 0 ∈ xs.take i)) (.inr ((false, ()), ())) (.inl ())
    (fun i hi => by
      have hle : (i : Int) ≤ (xs.length : Int) := by omega
      simp (disch := omega) [impl_ConfigValid_t_b0, hi, hle, a_wrap, nodeValid_eq]
      rw [slices_Contains_eq k (xs.take i) xs[i] (by simp; omega) (by simp; omega)]
      by_cases h1 : 0 ≤ xs[i] ∧ xs[i] ≤ 4
      · by_cases h2 : xs[i] ∈ xs.take i <;> simp [h1, h2]
      · simp [h1])
    (by simp [impl_ConfigValid_t_b0]) (by omega)
  have h' := fun hl => h hl
  simp only [Int.natCast_zero, Int.ofNat_zero] at h'
  simp only [impl_ConfigValid_t, cfgOk, a_cndS, a_ltI, a_lenL, decide_eq_true_eq, Bool.false_eq_true, if_true, if_false]
  by_cases h1 : ep < 1
  · simp [h1]; omega
  by_cases h2 : 60 < ep
  · simp [h1, h2]; omega
  by_cases h3 : (xs.length : Int) < 1
  · simp [h1, h2, h3]; omega
  by_cases h4 : (4 : Int) < (xs.length : Int)
  · simp [h1, h2, h3, h4]; omega
  have e1 : (1 ≤ ep ∧ ep ≤ 60) := by omega
  have e2 : (1 ≤ xs.length ∧ xs.length ≤ 4) := by omega
  by_cases h5 : fr = true
  · by_cases h6 : (xs.length : Int) < 2
    · have : xs.length < 2 := by omega
      simp [h1, h2, h3, h4, h5, h6, this]
    · have : ¬ xs.length < 2 := by omega
      subst h5
      simp [h1, h2, h3, h4, h6, this, e1, e2]
      rw [h' (by omega)]
      cases membersOk xs <;> simp
  · have h5 : fr = false := by simpa using h5
    subst h5
    simp [h1, h2, h3, h4, e1, e2]
    rw [h' (by omega)]
    cases membersOk xs <;> simp
theorem not_mem_take {xs : List Int} {i : Nat} (hi : i < xs.length) {v : Int} : (List.range i).all (fun j => !decide (xs.getD j 0 = v)) = !decide (v ∈ xs.take i) := by
  rw [Bool.eq_iff_iff, range_all]
  simp only [Bool.not_eq_true', decide_eq_false_iff_not]
  constructor
  · intro h hm
    obtain ⟨j, hj, he⟩ := List.mem_iff_getElem.1 hm
    simp at hj he
    exact h j (by omega) (by rw [getD_lt (by omega)]; exact he)
  · intro h j hj he
    refine h (List.mem_iff_getElem.2 ⟨j, by simp; omega, ?_⟩)
    rw [getD_lt (by omega)] at he
    simpa using he
theorem spec_ConfigValid_eq (k : Nat) (hk : 10 ≤ k) (c : Cfg) : spec_ConfigValid_t A k (c, ()) () = some ((cfgOk c, ()), ()) := by
  obtain ⟨ep, xs, fr, _⟩ := c
  have h0 : xs.length ≤ 4 → ∀ i, i < xs.length → A.iter k (spec_ConfigValid_t_b0 A k) ((i : Int), (((0 : Nat) : Int), ((ep, (xs, (fr, ()))), ()))) = some (if (!decide (xs.getD i 0 ∈ xs.take i)) = true then .inl ((i : Int), ((ep, (xs, (fr, ()))), ())) else .inr (.inr (.inr ((false, ()), ())))) := fun hl i hi => by
    rw [← not_mem_take hi]
    exact iter_all (A := A) (f := spec_ConfigValid_t_b0 A k) (fun j => ((i : Int), ((j : Int), ((ep, (xs, (fr, ()))), ())))) i (fun j => !decide (xs.getD j 0 = xs.getD i 0)) (.inr (.inr (.inr ((false, ()), ())))) (.inl ((i : Int), ((ep, (xs, (fr, ()))), ())))
      (fun j hj => by
        have h1 : j < xs.length := by omega
        simp (disch := omega) [spec_ConfigValid_t_b0, hi, hj, h1, a_wrap]
        by_cases hv : xs[j] = xs[i] <;> simp [hv])
      (by simp [spec_ConfigValid_t_b0]) (by omega)
  have h : xs.length ≤ 4 → A.iter k (spec_ConfigValid_t_b1 A k) (((0 : Nat) : Int), ((ep, (xs, (fr, ()))), ())) = some (if membersOk xs = true then .inl () else .inr ((false, ()), ())) := fun hl =>
    iter_all (A := A) (f := spec_ConfigValid_t_b1 A k) (fun i => ((i : Int), ((ep, (xs, (fr, ()))), ()))) xs.length (fun i => decide (0 ≤ xs.getD i 0 ∧ xs.getD i 0 ≤ 4) && !decide (xs.getD i 0 ∈ xs.take i)) (.inr ((false, ()), ())) (.inl ())
    (fun i hi => by
      have h0 := h0 hl i hi
      simp only [Int.ofNat_zero, Int.natCast_zero] at h0
      simp (disch := omega) [spec_ConfigValid_t_b1, hi, a_wrap, l1In_eq]
      rw [h0]
      by_cases h1 : 0 ≤ xs[i] ∧ xs[i] ≤ 4
      · by_cases h2 : xs[i] ∈ xs.take i <;> simp (disch := omega) [h1, h2, hi, a_wrap]
      · simp [h1])
    (by simp [spec_ConfigValid_t_b1]) (by omega)
  have h' := fun hl => h hl
  simp only [Int.natCast_zero, Int.ofNat_zero] at h'
  simp only [spec_ConfigValid_t, cfgOk, l1In_eq, a_obind_some, a_cndS, a_ltI, a_lenL, a_notB, decide_eq_true_eq, Bool.false_eq_true, if_true, if_false, Bool.not_eq_true', decide_eq_false_iff_not]
  by_cases h1 : 1 ≤ ep ∧ ep ≤ 60
  case neg => simp [h1]
  by_cases h2 : 1 ≤ (xs.length : Int) ∧ (xs.length : Int) ≤ 4
  case neg => simp [h1, h2]; omega
  have e2 : (1 ≤ xs.length ∧ xs.length ≤ 4) := by omega
  by_cases h5 : fr = true
  · by_cases h6 : (xs.length : Int) < 2
    · have : xs.length < 2 := by omega
      simp [h1, h2, h5, h6, this]
    · have : ¬ xs.length < 2 := by omega
      subst h5
      simp [h1, h2, h6, this, e2]
      rw [h' (by omega)]
      cases membersOk xs <;> simp
  · have h5 : fr = false := by simpa using h5
    subst h5
    simp [h1, h2, e2]
    rw [h' (by omega)]
    cases membersOk xs <;> simp

/-! ### the other functions -/
theorem cfgOk_len {c : Cfg} (h : cfgOk c = true) : 1 ≤ c.1 ∧ c.1 ≤ 60 ∧ 1 ≤ c.2.1.length ∧ c.2.1.length ≤ 4 ∧ (c.2.2.1 = true → 2 ≤ c.2.1.length) := by
  simp only [cfgOk, Bool.and_eq_true, decide_eq_true_eq, Bool.not_eq_true', Bool.and_eq_false_iff, decide_eq_false_iff_not] at h
  refine ⟨h.1.1, h.1.2, h.2.1.1, h.2.1.2, fun hf => ?_⟩
  rcases h.2.2.1 with h | h
  · rw [h] at hf; cases hf
  · omega
theorem l16Copy_eq (k : Nat) (c : Cfg) (h : c.2.1.length ≤ 1000000000) : spec_l16Copy_t A k (c, ()) () = some ((c, ()), ()) := by
  have : (c.2.1.length : Int) < 4294967296 := by omega
  simp [spec_l16Copy_t, this]
/-- a configuration without a member -/
def without (c : Cfg) (i : Nat) : Cfg := (c.1 + 1, (c.2.1.take i ++ c.2.1.drop (i + 1), ((c.2.2.1 && !decide (i = c.2.1.length - 1)), ())))
end Go.Den.T
