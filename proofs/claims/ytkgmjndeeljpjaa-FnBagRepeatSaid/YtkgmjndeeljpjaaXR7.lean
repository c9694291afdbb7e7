/- Bags: the laws on messages added, taken, repeated. -/
import Derived.Test.YtkgmjndeeljpjaaXR6

namespace Go.Den.T
set_option linter.unusedVariables false
set_option linter.unusedSimpArgs false
set_option linter.unusedSectionVars false
section
variable {A : Atoms} [IsReal A]
theorem replacedM_eq (k : Nat) (l : List Msg) (n : Nat) (hn : n < l.length) (hl : l.length ≤ 1000000) : impl_replaced_Message_t A k (l, ((n : Int), ((1 : Int), (([] : List Msg), ())))) () = some ((drop1 l (n : Int), ()), ()) := by
  have w1 : A.wrapI .i64 ((l.length : Int) - 1) = (l.length : Int) - 1 := a_wrap (by omega) (by omega)
  have w3 : A.wrapI .i64 ((n : Int) + 1) = ((n + 1 : Nat) : Int) := by rw [a_wrap (by omega) (by omega)]; rfl
  have g1 : 0 ≤ (l.length : Int) - 1 := by omega
  have g2 : (l.length : Int) - 1 < 4294967296 := by omega
  have g3 : (n : Int) ≤ (l.length : Int) := by omega
  have g4 : ((n + 1 : Nat) : Int) ≤ (l.length : Int) := by omega
  have t1 : (l.take n).length ≤ 1000000 := by rw [List.length_take]; omega
  have t2 : (l.drop (n + 1)).length ≤ 1000000 := by rw [List.length_drop]; omega
  have g5 : ((l.take n).length : Int) < 4294967296 := by omega
  have g6 : ((l.take n).length : Int) + ((l.drop (n + 1)).length : Int) < 4294967296 := by omega
  simp only [impl_replaced_Message_t, a_cndS, a_le0, a_leI, a_ltI, a_andB, a_subI, a_addI, a_lenL, w1, List.length_nil, Int.natCast_zero, Int.ofNat_zero, Int.add_zero, g1, g2, decide_true, Bool.and_self, if_true, Int.natCast_nonneg, g3, a_repL, Int.toNat_zero, List.replicate_zero, Int.zero_add, a_takeL, Int.toNat_natCast, a_big, g5, w3, g4, a_appL, List.nil_append, List.append_nil, a_dropL, g6, Int.le_refl]
  simp [drop1, List.eraseIdx_eq_take_drop_succ]
theorem impl_BagTake_eq (k : Nat) (hk : 30 ≤ k) (l : List Msg) (n : Int) : impl_BagTake_t A k (l, (n, ())) () = some (takeB l n, ()) := by
  simp only [impl_BagTake_t, impl_BagValid_eq k hk, a_obind_some, a_cndS, a_notB, takeB]
  rcases Bool.eq_false_or_eq_true (bagOk l) with hb | hb
  case inr => simp [hb]
  have hl := (bagOk_len hb).1
  have hf := bag_f hb
  simp only [hb, Bool.not_true, Bool.false_eq_true, if_false, if_true, copyBag_eq k l (by omega) (by omega) hf, a_obind_some, a_ltI, a_leI, a_lenL]
  by_cases h1 : 0 ≤ n ∧ n < (l.length : Int)
  case neg =>
    by_cases h0 : n < 0
    · have : ¬ (0 ≤ n ∧ n < (l.length : Int)) := h1
      simp [h0, this]
    · have h2 : (l.length : Int) ≤ n := by omega
      simp [h0, h1, h2]
  obtain ⟨p, rfl⟩ : ∃ p : Nat, n = p := ⟨n.toNat, by omega⟩
  have hp : p < l.length := by omega
  have h0 : ¬ (p : Int) < 0 := by omega
  have h2 : ¬ (l.length : Int) ≤ (p : Int) := by omega
  have h3 : (p : Int) < (l.length : Int) := by omega
  simp only [h0, h2, h3, decide_false, decide_true, Bool.false_eq_true, if_false, if_true, a_obind_some, a_sumE_inl, a_le0, a_lenL, Int.natCast_nonneg, a_andB, Bool.and_self, a_atL, Int.toNat_natCast, a_ltI, getD_lt hp, copyMessage_eq k l[p] (hf _ (List.getElem_mem hp)), replacedM_eq k l p hp (by omega), and_self]
theorem spec_BagTake_eq (k : Nat) (hk : 30 ≤ k) (l : List Msg) (n : Int) : spec_BagTake_t A k (l, (n, ())) () = some (takeB l n, ()) := by
  simp only [spec_BagTake_t, spec_BagValid_eq k hk, a_obind_some, a_cndS, a_notB, takeB]
  rcases Bool.eq_false_or_eq_true (bagOk l) with hb | hb
  case inr => simp [hb]
  have hl := (bagOk_len hb).1
  have hf := bag_f hb
  have w : A.wrapI .i64 ((l.length : Int) - 1) = (l.length : Int) - 1 := a_wrap (by omega) (by omega)
  simp only [hb, Bool.not_true, Bool.false_eq_true, if_false, if_true, l18Bag_eq k l _ (by omega) (by omega) hf, a_obind_some, a_ltI, a_subI, a_lenL, w, l1In_eq]
  by_cases h1 : 0 ≤ n ∧ n < (l.length : Int)
  case neg =>
    have h2 : ¬ (0 ≤ n ∧ n ≤ (l.length : Int) - 1) := by omega
    simp [h1, h2, drop1_neg]
  obtain ⟨p, rfl⟩ : ∃ p : Nat, n = p := ⟨n.toNat, by omega⟩
  have hp : p < l.length := by omega
  have h2 : 0 ≤ (p : Int) ∧ (p : Int) ≤ (l.length : Int) - 1 := by omega
  have h3 : (p : Int) < (l.length : Int) := by omega
  simp only [h1, h2, h3, and_self, decide_true, Bool.not_true, Bool.false_eq_true, if_false, if_true, a_le0, Int.natCast_nonneg, a_andB, Bool.and_self, a_atL, Int.toNat_natCast, getD_lt hp, l18Copy_eq k l[p] (hf _ (List.getElem_mem hp)), a_obind_some]
def addB (l : List Msg) (m : Msg) : List Msg × (Bool × Unit) :=
  if (bagOk l && msgOk m) = true then (if 10 ≤ l.length then (l, (false, ())) else (l ++ [m], (true, ()))) else ([], (false, ()))
theorem impl_BagAdd_eq (k : Nat) (hk : 30 ≤ k) (l : List Msg) (m : Msg) : impl_BagAdd_t A k (l, (m, ())) () = some (addB l m, ()) := by
  simp only [impl_BagAdd_t, impl_BagValid_eq k hk, impl_MessageValid_eq k hk, a_obind_some, a_cndS, a_notB, addB]
  rcases Bool.eq_false_or_eq_true (bagOk l) with hb | hb
  case inr => simp [hb]
  rcases Bool.eq_false_or_eq_true (msgOk m) with hm | hm
  case inr => simp [hb, hm]
  have hl := (bagOk_len hb).1
  have hf := bag_f hb
  have hml := msgOk_len hm
  have g : (l.length : Int) + 1 < 4294967296 := by omega
  simp only [hb, hm, Bool.not_true, Bool.false_eq_true, if_false, if_true, a_sumE_inl, copyBag_eq k l (by omega) (by omega) hf, a_obind_some, a_leI, a_lenL, Bool.and_self, copyMessage_eq k m ⟨by omega, by omega⟩]
  by_cases h10 : 10 ≤ l.length
  · have : (10 : Int) ≤ (l.length : Int) := by omega
    simp [h10, this]
  · have : ¬ (10 : Int) ≤ (l.length : Int) := by omega
    simp [h10, this, g]
theorem spec_BagAdd_eq (k : Nat) (hk : 30 ≤ k) (l : List Msg) (m : Msg) : spec_BagAdd_t A k (l, (m, ())) () = some (addB l m, ()) := by
  simp only [spec_BagAdd_t, spec_BagValid_eq k hk, spec_MessageValid_eq k hk, a_obind_some, a_cndS, a_notB, addB]
  rcases Bool.eq_false_or_eq_true (bagOk l) with hb | hb
  case inr => simp [hb]
  rcases Bool.eq_false_or_eq_true (msgOk m) with hm | hm
  case inr => simp [hb, hm]
  have hl := (bagOk_len hb).1
  have hf := bag_f hb
  have hml := msgOk_len hm
  have g : (l.length : Int) + 1 < 4294967296 := by omega
  simp only [hb, hm, Bool.not_true, Bool.false_eq_true, if_false, if_true, a_sumE_inl, l18Bag_eq k l _ (by omega) (by omega) hf, drop1_neg, a_obind_some, a_leI, a_lenL, Bool.and_self, l18Copy_eq k m ⟨by omega, by omega⟩]
  by_cases h10 : 10 ≤ l.length
  · have : (10 : Int) ≤ (l.length : Int) := by omega
    simp [h10, this]
  · have : ¬ (10 : Int) ≤ (l.length : Int) := by omega
    simp [h10, this, g]
def repeatB (l : List Msg) (n : Int) : List Msg × (Bool × Unit) :=
  if bagOk l = true then (if 0 ≤ n ∧ n < l.length then addB l (l.getD n.toNat msg0) else (l, (false, ()))) else ([], (false, ()))
theorem impl_BagRepeat_eq (k : Nat) (hk : 30 ≤ k) (l : List Msg) (n : Int) : impl_BagRepeat_t A k (l, (n, ())) () = some (repeatB l n, ()) := by
  simp only [impl_BagRepeat_t, impl_BagValid_eq k hk, a_obind_some, a_cndS, a_notB, repeatB]
  rcases Bool.eq_false_or_eq_true (bagOk l) with hb | hb
  case inr => simp [hb]
  have hl := (bagOk_len hb).1
  have hf := bag_f hb
  simp only [hb, Bool.not_true, Bool.false_eq_true, if_false, if_true, copyBag_eq k l (by omega) (by omega) hf, a_obind_some, a_ltI, a_leI, a_lenL]
  by_cases h1 : 0 ≤ n ∧ n < (l.length : Int)
  case neg =>
    by_cases h0 : n < 0
    · have : ¬ (0 ≤ n ∧ n < (l.length : Int)) := h1
      simp [h0, this]
    · have h2 : (l.length : Int) ≤ n := by omega
      simp [h0, h1, h2]
  obtain ⟨p, rfl⟩ : ∃ p : Nat, n = p := ⟨n.toNat, by omega⟩
  have hp : p < l.length := by omega
  have h0 : ¬ (p : Int) < 0 := by omega
  have h2 : ¬ (l.length : Int) ≤ (p : Int) := by omega
  have h3 : (p : Int) < (l.length : Int) := by omega
  simp only [h0, h2, h3, decide_false, decide_true, Bool.false_eq_true, if_false, if_true, a_obind_some, a_sumE_inl, a_le0, a_lenL, a_ltI, Int.natCast_nonneg, a_andB, Bool.and_self, a_atL, Int.toNat_natCast, getD_lt hp, impl_BagAdd_eq k hk, and_self]
theorem spec_BagRepeat_eq (k : Nat) (hk : 30 ≤ k) (l : List Msg) (n : Int) : spec_BagRepeat_t A k (l, (n, ())) () = some (repeatB l n, ()) := by
  simp only [spec_BagRepeat_t, spec_BagValid_eq k hk, a_obind_some, a_cndS, a_notB, repeatB]
  rcases Bool.eq_false_or_eq_true (bagOk l) with hb | hb
  case inr => simp [hb]
  have hl := (bagOk_len hb).1
  have hf := bag_f hb
  have w : A.wrapI .i64 ((l.length : Int) - 1) = (l.length : Int) - 1 := a_wrap (by omega) (by omega)
  simp only [hb, Bool.not_true, Bool.false_eq_true, if_false, if_true, l18Bag_eq k l _ (by omega) (by omega) hf, a_obind_some, a_ltI, a_subI, a_lenL, w, l1In_eq]
  by_cases h1 : 0 ≤ n ∧ n < (l.length : Int)
  case neg =>
    have h2 : ¬ (0 ≤ n ∧ n ≤ (l.length : Int) - 1) := by omega
    simp [h1, h2, drop1_neg]
  obtain ⟨p, rfl⟩ : ∃ p : Nat, n = p := ⟨n.toNat, by omega⟩
  have hp : p < l.length := by omega
  have h2 : 0 ≤ (p : Int) ∧ (p : Int) ≤ (l.length : Int) - 1 := by omega
  have h3 : (p : Int) < (l.length : Int) := by omega
  simp only [h1, h2, h3, and_self, decide_true, Bool.not_true, Bool.false_eq_true, if_false, if_true, a_le0, Int.natCast_nonneg, a_andB, Bool.and_self, a_atL, Int.toNat_natCast, getD_lt hp, spec_BagAdd_eq k hk, a_obind_some]
/-! ### compared -/
theorem sameMessage_eq (k : Nat) (m q : Msg) (h1 : m.2.2.2.1.2.1.length < k) (h2 : m.2.2.2.2.1.length < k) (hf : MsgF m) : laws_sameMessage_t A k (m, (q, ())) () = some ((decide (m = q), ()), ()) := by
  obtain ⟨a1, a2, a3, a4, a5, _⟩ := m
  obtain ⟨b1, b2, b3, b4, b5, _⟩ := q
  obtain ⟨f1, f2⟩ := hf
  simp only at h1 h2 f1 f2
  simp only [laws_sameMessage_t, sameConfig_eq k a4 b4 h1 f1, sameLog_eq k a5 b5 h2 f2, a_obind_some, a_cndS, a_eqI]
  by_cases g1 : a1 = b1
  · by_cases g2 : a2 = b2
    · by_cases g3 : a3 = b3
      · by_cases g4 : a4 = b4
        · by_cases g5 : a5 = b5 <;> simp [g1, g2, g3, g4, g5]
        · simp [g1, g2, g3, g4]
      · simp [g1, g2, g3]
    · simp [g1, g2]
  · simp [g1]
def MsgT (k : Nat) (m : Msg) : Prop := m.2.2.2.1.2.1.length < k ∧ m.2.2.2.2.1.length < k ∧ MsgF m
theorem sameBag_eq (k : Nat) (xs ys : List Msg) (hk : xs.length < k) (hl : xs.length ≤ 1000000000) (hf : ∀ m ∈ xs, MsgT k m) : laws_sameBag_t A k (xs, (ys, ())) () = some ((decide (xs = ys), ()), ()) := by
  by_cases he : xs.length = ys.length
  · have h := eq_loop (A := A) (f := laws_sameBag_t_b0 A k) msg0 xs ys hk he
      (fun i hi => by
        have hi' : i < ys.length := by omega
        have hx : (i : Int) < (xs.length : Int) := by omega
        have hy : (i : Int) < (ys.length : Int) := by omega
        have w : A.wrapI .i64 ((i : Int) + 1) = ((i + 1 : Nat) : Int) := by rw [a_wrap (by omega) (by omega)]; rfl
        have hm := hf xs[i] (List.getElem_mem hi)
        simp only [laws_sameBag_t_b0, a_cndS, a_ltI, a_lenL, a_le0, a_andB, hx, hy, Int.natCast_nonneg, decide_true, Bool.and_self, if_true, a_atL, Int.toNat_natCast, getD_lt hi, getD_lt hi', sameMessage_eq k xs[i] ys[i] hm.1 hm.2.1 hm.2.2, a_obind_some, a_notB, a_addI, w]
        by_cases hv : xs[i] = ys[i]
        · simp only [hv]; simp
        · simp only [hv]; simp)
      (by simp [laws_sameBag_t_b0])
    simp only [laws_sameBag_t, a_lenL, he, a_eqI, decide_true, a_notB, Bool.not_true, a_cndS, Bool.false_eq_true, if_false, h]
    by_cases hv : xs = ys <;> simp [hv]
  · have h2 : ¬ (xs.length : Int) = ys.length := by omega
    have h3 : ¬ xs = ys := fun e => he (by rw [e])
    simp [laws_sameBag_t, h2, h3]
/-! ### drawn -/
theorem DrawBagTake_ok (k : Nat) (hk : 100 ≤ k) (a : List Int) (hb : ∀ x ∈ a, 0 ≤ x ∧ x ≤ 255) : Ok (spec_DrawBagTake_t A k (a, ()) ()) (fun q => BagS q.1.1) := by
  rw [spec_DrawBagTake_t]
  refine (open_ok k a hb).bind fun q hq => ?_
  refine (l20Bag_ok k hk 12 0 q.1 hq (by omega) (by omega)).bind fun q1 h1 => ?_
  have hl : q1.1.1.length ≤ 30 := h1.2.1
  have w : A.wrapI .i64 (A.addI (A.lenL q1.1.1) 1) = (q1.1.1.length : Int) + 1 := by rw [a_addI, a_lenL]; exact a_wrap (by omega) (by omega)
  rw [w]
  refine (pick_ok k _ _ _ h1.1 (by omega) (by omega)).bind fun q2 h2 => ?_
  refine (pick_ok k 14 _ _ h2.1 (by omega) (by omega)).bind fun q3 h3 => ?_
  rw [ok_cndS]
  exact ⟨fun _ => ok_some.2 h1.2, fun hc => by simp at hc⟩
theorem BagS.t {k : Nat} {l : List Msg} (hk : 200 ≤ k) (h : BagS l) : ∀ m ∈ l, MsgT k m := fun m hm => by
  have := h.2 m hm
  have h1 : m.2.2.2.1.2.1.length ≤ 100 := this.1
  have h2 : m.2.2.2.2.1.length ≤ 30 := this.2.1
  exact ⟨by omega, by omega, by omega, by omega⟩
theorem bag_t {k : Nat} {l : List Msg} (hk : 200 ≤ k) (h : bagOk l = true) : ∀ m ∈ l, MsgT k m := fun m hm => by
  have := msgOk_len ((bagOk_len h).2 m hm)
  exact ⟨by omega, by omega, by omega, by omega⟩
theorem mem_drop1 {α : Type} {l : List α} {n : Int} {x : α} (h : x ∈ drop1 l n) : x ∈ l := by
  unfold drop1 at h; split at h
  · exact List.mem_of_mem_eraseIdx h
  · exact h
theorem bagOk_sub {l l' : List Msg} (h : bagOk l = true) (hl : l'.length ≤ l.length) (hm : ∀ m ∈ l', m ∈ l) : bagOk l' = true := by
  have := bagOk_len h
  simp only [bagOk, Bool.and_eq_true, decide_eq_true_eq, List.all_eq_true]
  exact ⟨by omega, fun m hm' => this.2 m (hm m hm')⟩
theorem FnBagTake_true (k : Nat) (hk : 300 ≤ k) (a : List Int) (hb : ∀ x ∈ a, 0 ≤ x ∧ x ≤ 255) : laws_FnBagTake_t A k (a, ()) () = some ((true, ()), ()) := by
  rw [← ok_eq, laws_FnBagTake_t, ok_cndS]
  refine ⟨fun _ => ok_some.2 rfl, fun _ => ?_⟩
  refine (DrawBagTake_ok k (by omega) a hb).bind fun q hs => ?_
  obtain ⟨⟨l, n, _⟩, _⟩ := q
  simp only at hs
  have hl : l.length ≤ 30 := hs.1
  have ht := hs.t (k := k) (by omega)
  have alive := alive_eq (A := A) k (by omega : 10 ≤ k)
  have m00 : laws_sameMessage_t A k (msg0, (msg0, ())) () = some ((true, ()), ()) := by
    have := sameMessage_eq (A := A) k msg0 msg0 (by simp; omega) (by simp; omega) MsgF0
    simp only [decide_true] at this; exact this
  have ll : laws_sameBag_t A k (l, (l, ())) () = some ((true, ()), ()) := by
    have := sameBag_eq (A := A) k l l (by omega) (by omega) ht
    simp only [decide_true] at this; exact this
  rw [ok_eq]
  simp only [impl_BagTake_eq k (by omega : 30 ≤ k), spec_BagTake_eq k (by omega : 30 ≤ k), a_obind_some]
  by_cases hv : bagOk l = true
  case neg =>
    have e : takeB l n = (msg0, ([], (false, ()))) := by simp only [takeB, hv]; rfl
    have nn : laws_sameBag_t A k (([] : List Msg), (([] : List Msg), ())) () = some ((true, ()), ()) := by
      have := sameBag_eq (A := A) k [] [] (by simp; omega) (by simp) (by simp)
      simp only [decide_true] at this; exact this
    have nl := sameBag_eq (A := A) k [] l (by simp; omega) (by simp) (by simp)
    have hne : ¬ ([] : List Msg) = l := fun e => hv (by rw [← e]; rfl)
    simp only [hne, decide_false] at nl
    simp only [e, m00, nn, a_obind_some, a_notB, Bool.not_true, a_cndS, Bool.false_eq_true, if_false, a_eqB, beq_self_eq_true, a_sumE_inl, Bool.not_false, if_true, nl, alive, a_eqI, a_lenL, List.length_nil, Int.natCast_zero, Int.ofNat_zero, decide_true, a_sumE_inr]
  have hbl := bagOk_len hv
  by_cases h1 : 0 ≤ n ∧ n < (l.length : Int)
  case neg =>
    have e : takeB l n = (msg0, (l, (false, ()))) := by simp only [takeB, hv, h1, if_true, if_false]
    simp only [e, m00, ll, a_obind_some, a_notB, Bool.not_true, a_cndS, Bool.false_eq_true, if_false, a_eqB, beq_self_eq_true, a_sumE_inl, Bool.not_false, if_true, alive, a_sumE_inr]
  obtain ⟨p, rfl⟩ : ∃ p : Nat, n = p := ⟨n.toNat, by omega⟩
  have hp : p < l.length := by omega
  have e : takeB l (p : Int) = (l[p], (drop1 l (p : Int), (true, ()))) := by simp only [takeB, hv, h1, and_self, if_true, Int.toNat_natCast, getD_lt hp]
  have hmt := ht l[p] (List.getElem_mem hp)
  have mm : laws_sameMessage_t A k (l[p], (l[p], ())) () = some ((true, ()), ()) := by
    have := sameMessage_eq (A := A) k l[p] l[p] hmt.1 hmt.2.1 hmt.2.2
    simp only [decide_true] at this; exact this
  have ed : drop1 l (p : Int) = l.take p ++ l.drop (p + 1) := by simp [drop1, List.eraseIdx_eq_take_drop_succ]
  have sub : ∀ xs : List Msg, xs.length ≤ 30 → (∀ m ∈ xs, m ∈ l) → laws_sameBag_t A k (xs, (xs, ())) () = some ((true, ()), ()) := fun xs h1 h2 => by
    have := sameBag_eq (A := A) k xs xs (by omega) (by omega) fun m hm => ht m (h2 m hm)
    simp only [decide_true] at this; exact this
  have dl := drop1_len l (p : Int)
  have s1 := sub (drop1 l (p : Int)) (by omega) (fun m hm => mem_drop1 hm)
  have s2 := sub (l.take p) (by rw [List.length_take]; omega) (fun m hm => List.mem_of_mem_take hm)
  have s3 := sub (l.drop (p + 1)) (by rw [List.length_drop]; omega) (fun m hm => List.mem_of_mem_drop hm)
  have hv2 : bagOk (drop1 l (p : Int)) = true := bagOk_sub hv (by omega) (fun m hm => mem_drop1 hm)
  have dlen : ((drop1 l (p : Int)).length : Int) = (l.length : Int) - 1 := by
    rw [ed, List.length_append, List.length_take, List.length_drop]; omega
  have w : A.wrapI .i64 ((l.length : Int) - 1) = (l.length : Int) - 1 := a_wrap (by omega) (by omega)
  have w2 : A.wrapI .i64 ((p : Int) + 1) = ((p + 1 : Nat) : Int) := by rw [a_wrap (by omega) (by omega)]; rfl
  have h2 : ¬ (p : Int) < 0 := by omega
  have h3 : ¬ (l.length : Int) ≤ (p : Int) := by omega
  have h4 : (p : Int) < (l.length : Int) := by omega
  have h5 : (p : Int) ≤ (l.length : Int) - 1 := by omega
  have h6 : (p : Int) ≤ (l.length : Int) := by omega
  have h7 : ((p + 1 : Nat) : Int) ≤ (l.length : Int) := by omega
  have tk : (drop1 l (p : Int)).take p = l.take p := by
    rw [ed, List.take_append_of_le_length (by rw [List.length_take]; omega), List.take_take]; simp
  have dk : (drop1 l (p : Int)).drop p = l.drop (p + 1) := by
    rw [ed, List.drop_append_of_le_length (by rw [List.length_take]; omega)]
    rw [List.drop_eq_nil_of_le (by rw [List.length_take]; omega), List.nil_append]
  simp only [e, mm, s1, a_obind_some, a_notB, Bool.not_true, a_cndS, Bool.false_eq_true, if_false, a_eqB, beq_self_eq_true, a_sumE_inl, Bool.not_false, if_true, a_ltI, a_leI, a_le0, a_lenL, h2, h3, decide_false, impl_BagValid_eq k (by omega : 30 ≤ k), hv2, h4, Int.natCast_nonneg, decide_true, a_andB, Bool.and_self, a_atL, Int.toNat_natCast, getD_lt hp, dlen, a_subI, w, a_eqI, h5, h6, a_takeL, tk, s2, a_addI, w2, h7, a_dropL, dk, s3]
theorem DrawBagAdd_ok (k : Nat) (hk : 100 ≤ k) (a : List Int) (hb : ∀ x ∈ a, 0 ≤ x ∧ x ≤ 255) : Ok (spec_DrawBagAdd_t A k (a, ()) ()) (fun q => BagS q.1.1 ∧ MsgS q.1.2.1) := by
  rw [spec_DrawBagAdd_t]
  refine (open_ok k a hb).bind fun q hq => ?_
  refine (l20Bag_ok k hk 12 0 q.1 hq (by omega) (by omega)).bind fun q1 h1 => ?_
  refine (l20Message_ok k hk 12 _ _ h1.1 (by omega) (by omega)).bind fun q2 h2 => ?_
  exact ok_some.2 ⟨h1.2, h2.2⟩
/-- what stands last is taken -/
theorem take_last {l : List Msg} {m : Msg} (h : bagOk (l ++ [m]) = true) : takeB (l ++ [m]) (l.length : Int) = (m, (l, (true, ()))) := by
  have h1 : 0 ≤ (l.length : Int) ∧ (l.length : Int) < ((l ++ [m]).length : Int) := by simp; omega
  have h2 : drop1 (l ++ [m]) (l.length : Int) = l := by
    rw [drop1_snoc, if_pos rfl]
    simp [drop1, List.eraseIdx_of_length_le]
  have h3 : (l ++ [m]).getD l.length msg0 = m := by rw [getD_lt (by simp)]; simp
  simp only [takeB, h, h1, and_self, if_true, Int.toNat_natCast, h2, h3]
theorem FnBagAdd_true (k : Nat) (hk : 300 ≤ k) (a : List Int) (hb : ∀ x ∈ a, 0 ≤ x ∧ x ≤ 255) : laws_FnBagAdd_t A k (a, ()) () = some ((true, ()), ()) := by
  rw [← ok_eq, laws_FnBagAdd_t, ok_cndS]
  refine ⟨fun _ => ok_some.2 rfl, fun _ => ?_⟩
  refine (DrawBagAdd_ok k (by omega) a hb).bind fun q hs => ?_
  obtain ⟨⟨l, m, _⟩, _⟩ := q
  simp only at hs
  obtain ⟨hs, hms⟩ := hs
  have hl : l.length ≤ 30 := hs.1
  have hm1 : m.2.2.2.1.2.1.length ≤ 100 := hms.1
  have hm2 : m.2.2.2.2.1.length ≤ 30 := hms.2.1
  have hmt : MsgT k m := ⟨by omega, by omega, by omega, by omega⟩
  have ht := hs.t (k := k) (by omega)
  have alive := alive_eq (A := A) k (by omega : 10 ≤ k)
  have same : ∀ xs : List Msg, xs.length ≤ 100 → (∀ q ∈ xs, MsgT k q) → laws_sameBag_t A k (xs, (xs, ())) () = some ((true, ()), ()) := fun xs h1 h2 => by
    have := sameBag_eq (A := A) k xs xs (by omega) (by omega) h2
    simp only [decide_true] at this; exact this
  rw [ok_eq]
  simp only [impl_BagAdd_eq k (by omega : 30 ≤ k), spec_BagAdd_eq k (by omega : 30 ≤ k), a_obind_some]
  by_cases hv : (bagOk l && msgOk m) = true
  case neg =>
    have e : addB l m = ([], (false, ())) := by simp only [addB, hv]; rfl
    have nl := sameBag_eq (A := A) k [] l (by simp; omega) (by simp) (by simp)
    simp only [e, same [] (by simp) (by simp), a_obind_some, a_notB, Bool.not_true, a_cndS, Bool.false_eq_true, if_false, a_eqB, beq_self_eq_true, a_sumE_inl, Bool.not_false, if_true, nl, alive, a_eqI, a_lenL, List.length_nil, Int.natCast_zero, Int.ofNat_zero, decide_true]
    by_cases hz : ([] : List Msg) = l <;> simp [hz]
  have hv' := hv
  simp only [Bool.and_eq_true] at hv'
  have hbl := bagOk_len hv'.1
  by_cases h10 : 10 ≤ l.length
  · have e : addB l m = (l, (false, ())) := by simp only [addB, hv, h10, if_true]
    simp only [e, same l (by omega) ht, a_obind_some, a_notB, Bool.not_true, a_cndS, Bool.false_eq_true, if_false, a_eqB, beq_self_eq_true, a_sumE_inl, Bool.not_false, if_true, alive]
  · have e : addB l m = (l ++ [m], (true, ())) := by simp only [addB, hv, h10, if_true, if_false]
    have hv2 : bagOk (l ++ [m]) = true := by
      simp only [bagOk, Bool.and_eq_true, decide_eq_true_eq, List.all_eq_true]
      refine ⟨by simp; omega, fun q hq => ?_⟩
      rcases List.mem_append.1 hq with hq | hq
      · exact hbl.2 q hq
      · simp at hq; subst hq; exact hv'.2
    have s1 := same (l ++ [m]) (by simp; omega) (fun q hq => by
      rcases List.mem_append.1 hq with hq | hq
      · exact ht q hq
      · simp at hq; subst hq; exact hmt)
    have mm : laws_sameMessage_t A k (m, (m, ())) () = some ((true, ()), ()) := by
      have := sameMessage_eq (A := A) k m m hmt.1 hmt.2.1 hmt.2.2
      simp only [decide_true] at this; exact this
    simp only [e, s1, a_obind_some, a_notB, Bool.not_true, a_cndS, Bool.false_eq_true, if_false, a_eqB, beq_self_eq_true, a_sumE_inl, Bool.not_false, if_true, a_lenL, impl_BagTake_eq k (by omega : 30 ≤ k), take_last hv2, impl_BagValid_eq k (by omega : 30 ≤ k), hv2, mm, same l (by omega) ht]
theorem FnBagRepeat_true (k : Nat) (hk : 300 ≤ k) (a : List Int) (hb : ∀ x ∈ a, 0 ≤ x ∧ x ≤ 255) : laws_FnBagRepeat_t A k (a, ()) () = some ((true, ()), ()) := by
  rw [← ok_eq, laws_FnBagRepeat_t, ok_cndS]
  refine ⟨fun _ => ok_some.2 rfl, fun _ => ?_⟩
  refine Ok.bind (P := fun q => BagS q.1.1) ?_ fun q hs => ?_
  · rw [spec_DrawBagRepeat_t]
    exact (DrawBagTake_ok k (by omega) a hb).bind fun q h => ok_some.2 h
  obtain ⟨⟨l, n, _⟩, _⟩ := q
  simp only at hs
  have hl : l.length ≤ 30 := hs.1
  have ht := hs.t (k := k) (by omega)
  have alive := alive_eq (A := A) k (by omega : 10 ≤ k)
  have same : ∀ xs : List Msg, xs.length ≤ 100 → (∀ q ∈ xs, MsgT k q) → laws_sameBag_t A k (xs, (xs, ())) () = some ((true, ()), ()) := fun xs h1 h2 => by
    have := sameBag_eq (A := A) k xs xs (by omega) (by omega) h2
    simp only [decide_true] at this; exact this
  rw [ok_eq]
  simp only [impl_BagRepeat_eq k (by omega : 30 ≤ k), spec_BagRepeat_eq k (by omega : 30 ≤ k), a_obind_some]
  by_cases hv : bagOk l = true
  case neg =>
    have e : repeatB l n = ([], (false, ())) := by simp only [repeatB, hv]; rfl
    have nl := sameBag_eq (A := A) k [] l (by simp; omega) (by simp) (by simp)
    have hne : ¬ ([] : List Msg) = l := fun e => hv (by rw [← e]; rfl)
    simp only [hne, decide_false] at nl
    simp only [e, same [] (by simp) (by simp), a_obind_some, a_notB, Bool.not_true, a_cndS, Bool.false_eq_true, if_false, a_eqB, beq_self_eq_true, a_sumE_inl, Bool.not_false, if_true, nl, alive, a_eqI, a_lenL, List.length_nil, Int.natCast_zero, Int.ofNat_zero, decide_true, a_sumE_inr]
  have hbl := bagOk_len hv
  by_cases h1 : 0 ≤ n ∧ n < (l.length : Int)
  case neg =>
    have e : repeatB l n = (l, (false, ())) := by simp only [repeatB, hv, h1, if_true, if_false]
    simp only [e, same l (by omega) ht, a_obind_some, a_notB, Bool.not_true, a_cndS, Bool.false_eq_true, if_false, a_eqB, beq_self_eq_true, a_sumE_inl, Bool.not_false, if_true, alive, a_sumE_inr]
  obtain ⟨p, rfl⟩ : ∃ p : Nat, n = p := ⟨n.toNat, by omega⟩
  have hp : p < l.length := by omega
  have hmo := hbl.2 _ (List.getElem_mem hp)
  have hmt := ht l[p] (List.getElem_mem hp)
  have hva : (bagOk l && msgOk l[p]) = true := by rw [hv, hmo]; rfl
  have e0 : repeatB l (p : Int) = addB l l[p] := by simp only [repeatB, hv, h1, and_self, if_true, Int.toNat_natCast, getD_lt hp]
  by_cases h10 : 10 ≤ l.length
  · have e : repeatB l (p : Int) = (l, (false, ())) := by rw [e0]; simp only [addB, hva, h10, if_true]
    simp only [e, same l (by omega) ht, a_obind_some, a_notB, Bool.not_true, a_cndS, Bool.false_eq_true, if_false, a_eqB, beq_self_eq_true, a_sumE_inl, Bool.not_false, if_true, alive, a_sumE_inr]
  · have e : repeatB l (p : Int) = (l ++ [l[p]], (true, ())) := by rw [e0]; simp only [addB, hva, h10, if_true, if_false]
    have hv2 : bagOk (l ++ [l[p]]) = true := by
      simp only [bagOk, Bool.and_eq_true, decide_eq_true_eq, List.all_eq_true]
      refine ⟨by simp; omega, fun q hq => ?_⟩
      rcases List.mem_append.1 hq with hq | hq
      · exact hbl.2 q hq
      · simp at hq; subst hq; exact hmo
    have s1 := same (l ++ [l[p]]) (by simp; omega) (fun q hq => by
      rcases List.mem_append.1 hq with hq | hq
      · exact ht q hq
      · simp at hq; subst hq; exact hmt)
    have mm : laws_sameMessage_t A k (l[p], (l[p], ())) () = some ((true, ()), ()) := by
      have := sameMessage_eq (A := A) k l[p] l[p] hmt.1 hmt.2.1 hmt.2.2
      simp only [decide_true] at this; exact this
    have h2 : ¬ (p : Int) < 0 := by omega
    have h3 : ¬ (l.length : Int) ≤ (p : Int) := by omega
    have h4 : (p : Int) < (l.length : Int) := by omega
    simp only [e, s1, a_obind_some, a_notB, Bool.not_true, a_cndS, Bool.false_eq_true, if_false, a_eqB, beq_self_eq_true, a_sumE_inl, Bool.not_false, if_true, a_lenL, a_ltI, a_leI, a_le0, h2, h3, decide_false, impl_BagTake_eq k (by omega : 30 ≤ k), take_last hv2, h4, Int.natCast_nonneg, decide_true, a_andB, Bool.and_self, a_atL, Int.toNat_natCast, getD_lt hp, mm, same l (by omega) ht]
end
theorem FnBagTake_pure (a : List Int) (h : InR (.slice (.int .u8)) a) : ∃ k, laws_FnBagTake_t real k (a, ()) () = some ((true, ()), ()) :=
  haveI := isReal_real
  ⟨300, FnBagTake_true 300 (by omega) a (code_bytes h)⟩
theorem FnBagAdd_pure (a : List Int) (h : InR (.slice (.int .u8)) a) : ∃ k, laws_FnBagAdd_t real k (a, ()) () = some ((true, ()), ()) :=
  haveI := isReal_real
  ⟨300, FnBagAdd_true 300 (by omega) a (code_bytes h)⟩
theorem FnBagRepeat_pure (a : List Int) (h : InR (.slice (.int .u8)) a) : ∃ k, laws_FnBagRepeat_t real k (a, ()) () = some ((true, ()), ()) :=
  haveI := isReal_real
  ⟨300, FnBagRepeat_true 300 (by omega) a (code_bytes h)⟩
end Go.Den.T
