/- Bags: the laws on messages added, taken, repeated. -/
import Derived.Test.YtkgmjndeeljpjaaXR6

namespace Go.Den.T
set_option linter.unusedVariables false
set_option linter.unusedSimpArgs false
set_option linter.unusedSectionVars false
section
variable {A : Atoms} [IsReal A]
def addB (l : List Msg) (m : Msg) : List Msg × (Bool × Unit) :=
  if (bagOk l && msgOk m) = true then (if 10 ≤ l.length then (l, (false, ())) else (l ++ [m], (true, ()))) else ([], (false, ()))
theorem impl_BagAdd_eq (k : Nat) (hk : 30 ≤ k) (l : List Msg) (m : Msg) : impl_BagAdd_t A k (l, (m, ())) () = some (addB l m, ()) := by
  simp only [impl_BagAdd_t, impl_BagValid_eq k hk, impl_MessageValid_eq k hk, a_obind_some, a_cndS, a_notB, addB]
  rcases Bool.eq_false_or_eq_true (bagOk l) with hb | hb
  case inr => simp [hb]
  rcases Bool.eq_false_or_eq_true (msgOk m) with hm | hm
  case inr => simp [hb, hm]
  have hl := (bagOk_len hb).1
  have hf := bag_f hb
  have hml := msgOk_len hm
  have g : (l.length : Int) + 1 < 4294967296 := by omega
  simp only [hb, hm, Bool.not_true, Bool.false_eq_true, if_false, if_true, a_sumE_inl, copyBag_eq k l (by omega) (by omega) hf, a_obind_some, a_leI, a_lenL, Bool.and_self, copyMessage_eq k m ⟨by omega, by omega⟩]
  by_cases h10 : 10 ≤ l.length
  · have : (10 : Int) ≤ (l.length : Int) := by omega
    simp [h10, this]
  · have : ¬ (10 : Int) ≤ (l.length : Int) := by omega
    simp [h10, this, g]
theorem spec_BagAdd_eq (k : Nat) (hk : 30 ≤ k) (l : List Msg) (m : Msg) : spec_BagAdd_t A k (l, (m, ())) () = some (addB l m, ()) := by
  simp only [spec_BagAdd_t, spec_BagValid_eq k hk, spec_MessageValid_eq k hk, a_obind_some, a_cndS, a_notB, addB]
  rcases Bool.eq_false_or_eq_true (bagOk l) with hb | hb
  case inr => simp [hb]
  rcases Bool.eq_false_or_eq_true (msgOk m) with hm | hm
  case inr => simp [hb, hm]
  have hl := (bagOk_len hb).1
  have hf := bag_f hb
  have hml := msgOk_len hm
  have g : (l.length : Int) + 1 < 4294967296 := by omega
  simp only [hb, hm, Bool.not_true, Bool.false_eq_true, if_false, if_true, a_sumE_inl, l18Bag_eq k l _ (by omega) (by omega) hf, drop1_neg, a_obind_some, a_leI, a_lenL, Bool.and_self, l18Copy_eq k m ⟨by omega, by omega⟩]
  by_cases h10 : 10 ≤ l.length
  · have : (10 : Int) ≤ (l.length : Int) := by omega
    simp [h10, this]
  · have : ¬ (10 : Int) ≤ (l.length : Int) := by omega
    simp [h10, this, g]
/-! ### compared -/
def MsgT (k : Nat) (m : Msg) : Prop := m.2.2.2.1.2.1.length < k ∧ m.2.2.2.2.1.length < k ∧ MsgF m
/-! ### drawn -/
theorem BagS.t {k : Nat} {l : List Msg} (hk : 200 ≤ k) (h : BagS l) : ∀ m ∈ l, MsgT k m := fun m hm => by
  have := h.2 m hm
  have h1 : m.2.2.2.1.2.1.length ≤ 100 := this.1
  have h2 : m.2.2.2.2.1.length ≤ 30 := this.2.1
  exact ⟨by omega, by omega, by omega, by omega⟩
end
end Go.Den.T
