/- Bags: the laws on messages added, taken, repeated. -/
import Derived.Test.YtkgmjndeeljpjaaXR6

namespace Go.Den.T
set_option linter.unusedVariables false
set_option linter.unusedSimpArgs false
set_option linter.unusedSectionVars false
section
variable {A : Atoms} [IsReal A]
def addB (l : List Msg) (m : Msg) : List Msg × (Bool × Unit) :=
  if (bagOk l && msgOk m) = true then (if 10 ≤ l.length then (l, (false, ())) else (l ++ [m], (true, ()))) else ([], (false, ()))
theorem impl_BagAdd_eq (k : Nat) (hk : 30 ≤ k) (l : List Msg) (m : Msg) : impl_BagAdd_t A k (l, (m, ())) () = some (addB l m, ()) := by
  simp only [impl_BagAdd_t, impl_BagValid_eq k hk, impl_MessageValid_eq k hk, a_obind_some, a_cndS, a_notB, addB]
  rcases Bool.eq_false_or_eq_true (bagOk l) with hb | hb
  case inr => simp [hb]
  rcases Bool.eq_false_or_eq_true (msgOk m) with hm | hm
  case inr => simp [hb, hm]
  have hl := (bagOk_len hb).1
  have hf := bag_f hb
  have hml := msgOk_len hm
  have g : (l.length : Int) + 1 < 4294967296 := by omega
  simp only [hb, hm, Bool.not_true, Bool.false_eq_true, if_false, if_true, a_sumE_inl, copyBag_eq k l (by omega) (by omega) hf, a_obind_some, a_leI, a_lenL, Bool.and_self, copyMessage_eq k m ⟨by omega, by omega⟩]
  by_cases h10 : 10 ≤ l.length
  · have : (10 : Int) ≤ (l.length : Int) := by omega
    simp [h10, this]
  · have : ¬ (10 : Int) ≤ (l.length : Int) := by omega
    simp [h10, this, g]
theorem spec_BagAdd_eq (k : Nat) (hk : 30 ≤ k) (l : List Msg) (m : Msg) : spec_BagAdd_t A k (l, (m, ())) () = some (addB l m, ()) := by
  simp only [spec_BagAdd_t, spec_BagValid_eq k hk, spec_MessageValid_eq k hk, a_obind_some, a_cndS, a_notB, addB]
  rcases Bool.eq_false_or_eq_true (bagOk l) with hb | hb
  case inr => simp [hb]
  rcases Bool.eq_false_or_eq_true (msgOk m) with hm | hm
  case inr => simp [hb, hm]
  have hl := (bagOk_len hb).1
  have hf := bag_f hb
  have hml := msgOk_len hm
  have g : (l.length : Int) + 1 < 4294967296 := by omega
  simp only [hb, hm, Bool.not_true, Bool.false_eq_true, if_false, if_true, a_sumE_inl, l18Bag_eq k l _ (by omega) (by omega) hf, drop1_neg, a_obind_some, a_leI, a_lenL, Bool.and_self, l18Copy_eq k m ⟨by omega, by omega⟩]
  by_cases h10 : 10 ≤ l.length
  · have : (10 : Int) ≤ (l.length : Int) := by omega
    simp [h10, this]
  · have : ¬ (10 : Int) ≤ (l.length : Int) := by omega
    simp [h10, this, g]
def repeatB (l : List Msg) (n : Int) : List Msg × (Bool × Unit) :=
  if bagOk l = true then (if 0 ≤ n ∧ n < l.length then addB l (l.getD n.toNat msg0) else (l, (false, ()))) else ([], (false, ()))
theorem impl_BagRepeat_eq (k : Nat) (hk : 30 ≤ k) (l : List Msg) (n : Int) : impl_BagRepeat_t A k (l, (n, ())) () = some (repeatB l n, ()) := by
  simp only [impl_BagRepeat_t, impl_BagValid_eq k hk, a_obind_some, a_cndS, a_notB, repeatB]
  rcases Bool.eq_false_or_eq_true (bagOk l) with hb | hb
  case inr => simp [hb]
  have hl := (bagOk_len hb).1
  have hf := bag_f hb
  simp only [hb, Bool.not_true, Bool.false_eq_true, if_false, if_true, copyBag_eq k l (by omega) (by omega) hf, a_obind_some, a_ltI, a_leI, a_lenL]
  by_cases h1 : 0 ≤ n ∧ n < (l.length : Int)
  case neg =>
    by_cases h0 : n < 0
    · have : ¬ (0 ≤ n ∧ n < (l.length : Int)) := h1
      simp [h0, this]
    · have h2 : (l.length : Int) ≤ n := by omega
      simp [h0, h1, h2]
  obtain ⟨p, rfl⟩ : ∃ p : Nat, n = p := ⟨n.toNat, by omega⟩
  have hp : p < l.length := by omega
  have h0 : ¬ (p : Int) < 0 := by omega
  have h2 : ¬ (l.length : Int) ≤ (p : Int) := by omega
  have h3 : (p : Int) < (l.length : Int) := by omega
  simp only [h0, h2, h3, decide_false, decide_true, Bool.false_eq_true, if_false, if_true, a_obind_some, a_sumE_inl, a_le0, a_lenL, a_ltI, Int.natCast_nonneg, a_andB, Bool.and_self, a_atL, Int.toNat_natCast, getD_lt hp, impl_BagAdd_eq k hk, and_self]
theorem spec_BagRepeat_eq (k : Nat) (hk : 30 ≤ k) (l : List Msg) (n : Int) : spec_BagRepeat_t A k (l, (n, ())) () = some (repeatB l n, ()) := by
  simp only [spec_BagRepeat_t, spec_BagValid_eq k hk, a_obind_some, a_cndS, a_notB, repeatB]
  rcases Bool.eq_false_or_eq_true (bagOk l) with hb | hb
  case inr => simp [hb]
  have hl := (bagOk_len hb).1
  have hf := bag_f hb
  have w : A.wrapI .i64 ((l.length : Int) - 1) = (l.length : Int) - 1 := a_wrap (by omega) (by omega)
  simp only [hb, Bool.not_true, Bool.false_eq_true, if_false, if_true, l18Bag_eq k l _ (by omega) (by omega) hf, a_obind_some, a_ltI, a_subI, a_lenL, w, l1In_eq]
  by_cases h1 : 0 ≤ n ∧ n < (l.length : Int)
  case neg =>
    have h2 : ¬ (0 ≤ n ∧ n ≤ (l.length : Int) - 1) := by omega
    simp [h1, h2, drop1_neg]
  obtain ⟨p, rfl⟩ : ∃ p : Nat, n = p := ⟨n.toNat, by omega⟩
  have hp : p < l.length := by omega
  have h2 : 0 ≤ (p : Int) ∧ (p : Int) ≤ (l.length : Int) - 1 := by omega
  have h3 : (p : Int) < (l.length : Int) := by omega
  simp only [h1, h2, h3, and_self, decide_true, Bool.not_true, Bool.false_eq_true, if_false, if_true, a_le0, Int.natCast_nonneg, a_andB, Bool.and_self, a_atL, Int.toNat_natCast, getD_lt hp, spec_BagAdd_eq k hk, a_obind_some]
/-! ### compared -/
def MsgT (k : Nat) (m : Msg) : Prop := m.2.2.2.1.2.1.length < k ∧ m.2.2.2.2.1.length < k ∧ MsgF m
/-! ### drawn -/
theorem BagS.t {k : Nat} {l : List Msg} (hk : 200 ≤ k) (h : BagS l) : ∀ m ∈ l, MsgT k m := fun m hm => by
  have := h.2 m hm
  have h1 : m.2.2.2.1.2.1.length ≤ 100 := this.1
  have h2 : m.2.2.2.2.1.length ≤ 30 := this.2.1
  exact ⟨by omega, by omega, by omega, by omega⟩
end
end Go.Den.T
