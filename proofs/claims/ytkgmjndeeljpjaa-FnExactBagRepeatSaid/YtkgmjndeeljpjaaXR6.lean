/- Bags: copies, messages added, taken, repeated. -/
import Derived.Test.YtkgmjndeeljpjaaXR5
import Derived.Test.YtkgmjndeeljpjaaXTr4

namespace Go.Den.T
set_option linter.unusedVariables false
set_option linter.unusedSimpArgs false
set_option linter.unusedSectionVars false
section
variable {A : Atoms} [IsReal A]
abbrev msg0 : Msg := (0, (0, (0, ((0, ([], (false, ()))), ([], ())))))
def MsgF (m : Msg) : Prop := m.2.2.2.1.2.1.length ≤ 1000000000 ∧ m.2.2.2.2.1.length ≤ 1000000000
theorem copyMessage_eq (k : Nat) (m : Msg) (h : MsgF m) : impl_copyMessage_t A k (m, ()) () = some ((m, ()), ()) := by
  simp [impl_copyMessage_t, copyConfig_eq k m.2.2.2.1 h.1, copyOf_Entry_eq k m.2.2.2.2.1 h.2]
theorem l18Copy_eq (k : Nat) (m : Msg) (h : MsgF m) : spec_l18Copy_t A k (m, ()) () = some ((m, ()), ()) := by
  have h2 := h.2
  have : (m.2.2.2.2.1.length : Int) < 4294967296 := by omega
  simp [spec_l18Copy_t, l16Copy_eq k m.2.2.2.1 h.1, this]
theorem copyBag_eq (k : Nat) (l : List Msg) (hk : l.length < k) (hl : l.length ≤ 1000000000) (hf : ∀ m ∈ l, MsgF m) : impl_copyBag_t A k (l, ()) () = some ((l, ()), ()) := by
  have h := iter_for (A := A) (f := impl_copyBag_t_b0 A k) (fun i => (l.take i, (l, ((l.length : Int), ((i : Int), ()))))) l.length (l, ())
    (fun i hi => by
      have hm := hf l[i] (List.getElem_mem hi)
      have hi' : (i : Int) < (l.length : Int) := by omega
      have w : A.wrapI .i64 ((i : Int) + 1) = (i : Int) + 1 := a_wrap (by omega) (by omega)
      have tl : (l.take i).length ≤ 1000000000 := by rw [List.length_take]; omega
      have g : ((l.take i).length : Int) + 1 < 4294967296 := by omega
      have e : l.take (i + 1) = l.take i ++ [l[i]] := List.take_succ_eq_append_getElem hi
      simp only [impl_copyBag_t_b0, a_cndS, a_ltI, a_lenL, a_le0, a_andB, hi', Int.natCast_nonneg, decide_true, Bool.and_self, if_true, a_atL, Int.toNat_natCast, getD_lt hi, copyMessage_eq k l[i] hm, a_obind_some, a_addI, w, a_big, a_appL, e, List.length_cons, List.length_nil, Nat.zero_add, Int.natCast_one, Int.ofNat_one, g]
      rfl)
    (by simp [impl_copyBag_t_b0]) hk
  simp at h
  simp [impl_copyBag_t, h]
/-- a list without what stands at a place (if something stands there) -/
def drop1 {α : Type} (l : List α) (n : Int) : List α := if 0 ≤ n then l.eraseIdx n.toNat else l
theorem drop1_snoc {α : Type} (l : List α) (x : α) (n : Int) : drop1 (l ++ [x]) n = if n = (l.length : Int) then drop1 l n else drop1 l n ++ [x] := by
  unfold drop1
  by_cases h0 : 0 ≤ n
  · obtain ⟨p, rfl⟩ : ∃ p : Nat, n = p := ⟨n.toNat, by omega⟩
    simp only [h0, if_true, Int.toNat_natCast]
    by_cases hp : p < l.length
    · have hne : ¬ (p : Int) = (l.length : Int) := by omega
      rw [if_neg hne, List.eraseIdx_append_of_lt_length hp]
    · have e1 : l.eraseIdx p = l := List.eraseIdx_of_length_le (by omega)
      by_cases he : p = l.length
      · have hee : (p : Int) = (l.length : Int) := by omega
        rw [if_pos hee, e1, List.eraseIdx_append_of_length_le (by omega), he, Nat.sub_self]
        exact List.append_nil _
      · have hne : ¬ (p : Int) = (l.length : Int) := by omega
        have h2 : [x].eraseIdx (p - l.length) = [x] := List.eraseIdx_of_length_le (by show 1 ≤ p - l.length; omega)
        rw [if_neg hne, e1, List.eraseIdx_append_of_length_le (by omega), h2]
  · have hne : ¬ n = (l.length : Int) := by omega
    simp [h0, hne]
theorem drop1_len {α : Type} (l : List α) (n : Int) : (drop1 l n).length ≤ l.length := by
  unfold drop1; split
  · rw [List.length_eraseIdx]; split <;> omega
  · omega
theorem l18Bag_eq (k : Nat) (l : List Msg) (n : Int) (hk : l.length < k) (hl : l.length ≤ 1000000000) (hf : ∀ m ∈ l, MsgF m) : spec_l18Bag_t A k (l, (n, ())) () = some ((drop1 l n, ()), ()) := by
  have h := iter_for (A := A) (f := spec_l18Bag_t_b0 A k) (fun i => (l, (n, (drop1 (l.take i) n, ((i : Int), ()))))) l.length (drop1 l n, ())
    (fun i hi => by
      have hm := hf l[i] (List.getElem_mem hi)
      have hi' : (i : Int) < (l.length : Int) := by omega
      have w : A.wrapI .i64 ((i : Int) + 1) = (i : Int) + 1 := a_wrap (by omega) (by omega)
      have tl : (l.take i).length = i := by rw [List.length_take]; omega
      have dl := drop1_len (l.take i) n
      have g : ((drop1 (l.take i) n).length : Int) + 1 < 4294967296 := by omega
      have e : drop1 (l.take (i + 1)) n = if n = (i : Int) then drop1 (l.take i) n else drop1 (l.take i) n ++ [l[i]] := by
        rw [List.take_succ_eq_append_getElem hi, drop1_snoc, tl]
      rw [e]
      by_cases hn : n = (i : Int)
      · subst hn
        simp [spec_l18Bag_t_b0, hi, w]
      · have hn' : ¬ (i : Int) = n := fun e => hn e.symm
        simp only [spec_l18Bag_t_b0, a_cndS, a_ltI, a_lenL, a_le0, a_andB, hi', Int.natCast_nonneg, decide_true, decide_false, Bool.and_self, if_true, a_eqI, hn, hn', a_notB, Bool.not_false, if_false, a_atL, Int.toNat_natCast, getD_lt hi, l18Copy_eq k l[i] hm, a_obind_some, a_addI, w, a_big, a_appL, List.length_cons, List.length_nil, Nat.zero_add, Int.natCast_one, Int.ofNat_one, g]
        rfl)
    (by simp [spec_l18Bag_t_b0]) hk
  have z : drop1 ([] : List Msg) n = [] := by unfold drop1; split <;> simp
  simp [z] at h
  simp [spec_l18Bag_t, h]
theorem drop1_neg {α : Type} (l : List α) : drop1 l (-1) = l := by simp [drop1]
theorem bagOk_len {l : List Msg} (h : bagOk l = true) : l.length ≤ 10 ∧ ∀ m ∈ l, msgOk m = true := by
  simp only [bagOk, Bool.and_eq_true, decide_eq_true_eq, List.all_eq_true] at h; exact h
theorem msgOk_len {m : Msg} (h : msgOk m = true) : m.2.2.2.1.2.1.length ≤ 4 ∧ m.2.2.2.2.1.length ≤ 24 := by
  obtain ⟨kd, to, ep, c, l, _⟩ := m
  simp only [msgOk, Bool.and_eq_true, decide_eq_true_eq] at h
  have hcf : ∀ c : Cfg, noCfg c = true → c.2.1.length = 0 := fun c hc => by
    simp only [noCfg, Bool.and_eq_true, decide_eq_true_eq] at hc; exact hc.2.1
  have hlg : ∀ l : List Ent, logOk l = true → l.length ≤ 24 := fun l hl => by
    simp only [logOk, Bool.and_eq_true, decide_eq_true_eq] at hl; exact hl.1
  by_cases h1 : kd = 1
  · simp [h1] at h
    have h5 := cfgOk_len h.2.2.1
    have h6 := h.2.2.2.2
    refine ⟨by simp only; omega, by simp only; simp [h6]⟩
  · by_cases h2 : kd = 2
    · simp [h2] at h
      have hc := hcf c h.2.2.1
      have hl := hlg l h.2.2.2
      exact ⟨by simp only; omega, by simp only; omega⟩
    · by_cases h3 : kd = 3
      · simp [h3] at h
        have hc := hcf c h.2.2.1
        have h6 := h.2.2.2
        exact ⟨by simp only; omega, by simp only; simp [h6]⟩
      · simp [h1, h2, h3] at h
theorem bag_f {l : List Msg} (h : bagOk l = true) : ∀ m ∈ l, MsgF m := fun m hm => by
  have := msgOk_len ((bagOk_len h).2 m hm)
  exact ⟨by omega, by omega⟩
end
end Go.Den.T
