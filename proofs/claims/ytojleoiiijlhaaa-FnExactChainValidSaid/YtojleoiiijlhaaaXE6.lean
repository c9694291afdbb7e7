/- Keys, intervals, pairs, sessions, states, checkpoints: what the checks come to. -/
import Derived.Test.YtojleoiiijlhaaaXE4

namespace Go.Den.T
set_option linter.unusedVariables false
set_option linter.unusedSimpArgs false
set_option linter.unusedSectionVars false
variable {A : Atoms} [IsReal A]
abbrev Itv := List UInt8 × (List UInt8 × Unit)
abbrev Pair := List UInt8 × (Int × Unit)
abbrev Ses := Int × (Int × (Int × Unit))
abbrev Stt := Itv × (List Pair × (List Ses × (Bool × (List UInt8 × Unit))))
abbrev Chk := Int × (Stt × Unit)
def keyOrNil (s : List UInt8) : Bool := decide (s = []) || keyOk s
def bless (a b : List UInt8) : Bool := Op.bytesLess a b
def lowest (s : List UInt8) : List UInt8 := if s = [] then [97] else s
def itvOk (i : Itv) : Bool := keyOrNil i.1 && (keyOrNil i.2.1 && (decide (i.2.1 = []) || bless (lowest i.1) i.2.1))
theorem impl_IntervalValid_eq (k : Nat) (hk : 10 ≤ k) (i : Itv) : impl_IntervalValid_t A k (i, ()) () = some ((itvOk i, ()), ()) := by
  obtain ⟨a, b, _⟩ := i
  simp only [impl_IntervalValid_t, impl_KeyValid_eq k hk, a_obind_some, a_cndS, a_notB, a_eqS, itvOk, keyOrNil, lowest, bless]
  by_cases h1 : a = [] <;> by_cases h2 : b = []
  · simp [h1, h2]
  · cases h3 : keyOk b <;> simp [h1, h2, h3, impl_lowestKey_t]
  · cases h3 : keyOk a <;> simp [h1, h2, h3, impl_lowestKey_t]
  · cases h3 : keyOk a <;> cases h4 : keyOk b <;> simp [h1, h2, h3, h4, impl_lowestKey_t]
theorem bless_nil (b : List UInt8) : bless [] b = decide (b ≠ []) := by cases b <;> simp [bless, Op.bytesLess]
theorem bless_to_nil (a : List UInt8) : bless a [] = false := by cases a <;> simp [bless, Op.bytesLess]
theorem bless_cons (x y : UInt8) (xs ys : List UInt8) : bless (x :: xs) (y :: ys) = (decide (x < y) || (x == y && bless xs ys)) := by simp [bless, Op.bytesLess]
theorem bless_total : ∀ a b : List UInt8, bless a b = !(bless b a || decide (b = a))
  | [], [] => by simp [bless_nil]
  | [], y :: ys => by simp [bless_nil, bless_to_nil]
  | x :: xs, [] => by simp [bless_nil, bless_to_nil]
  | x :: xs, y :: ys => by
    rw [bless_cons, bless_cons, bless_total xs ys]
    by_cases h : x = y
    · subst h
      have : ¬ x < x := by rw [UInt8.lt_iff_toNat_lt]; omega
      simp [this]
    · have h' : ¬ y = x := fun e => h e.symm
      have hn : x.toNat ≠ y.toNat := fun e => h (UInt8.toNat_inj.1 e)
      by_cases hl : x < y
      · have : ¬ y < x := by rw [UInt8.lt_iff_toNat_lt] at hl ⊢; omega
        simp [hl, this, h, h']
      · have : y < x := by rw [UInt8.lt_iff_toNat_lt] at hl ⊢; omega
        simp [hl, this, h, h']
/-- every valid key but "a" itself is greater than "a" -/
theorem less_a {b : List UInt8} (h : keyOk b = true) : bless [97] b = !decide (b = [97]) := by
  unfold keyOk at h
  simp only [Bool.and_eq_true, decide_eq_true_eq] at h
  obtain ⟨⟨h1, h2⟩, h3⟩ := h
  cases b with
  | nil => simp at h1
  | cons c cs =>
    have hc : letter c = true := by simp only [List.all_cons, Bool.and_eq_true] at h3; exact h3.1
    simp only [letter, decide_eq_true_eq] at hc
    rw [bless_cons, bless_nil]
    by_cases h : c = 97
    · subst h
      have : ¬ (97 : UInt8) < 97 := by decide
      simp [this]
    · have hn : c.toNat ≠ 97 := fun e => h (UInt8.toNat_inj.1 (by rw [e]; rfl))
      have : (97 : UInt8) < c := by rw [UInt8.lt_iff_toNat_lt]; show 97 < c.toNat; omega
      simp [this, h]
theorem spec_IntervalValid_eq (k : Nat) (hk : 10 ≤ k) (i : Itv) : spec_IntervalValid_t A k (i, ()) () = some ((itvOk i, ()), ()) := by
  obtain ⟨a, b, _⟩ := i
  simp only [spec_IntervalValid_t, spec_KeyValid_eq k hk, a_obind_some, a_cndS, a_notB, a_eqS, a_lessS, itvOk, keyOrNil, lowest]
  by_cases h1 : a = [] <;> by_cases h2 : b = []
  · simp [h1, h2]
  · cases h3 : keyOk b with
    | false => simp [h1, h2, h3]
    | true =>
      have e1 : Op.bytesLess [] b = true := by have := bless_nil b; simp only [bless] at this; rw [this]; simp [h2]
      have e2 := less_a h3
      simp [h1, h2, h3, e1, e2]
  · cases h3 : keyOk a <;> simp [h1, h2, h3]
  · cases h3 : keyOk a <;> cases h4 : keyOk b <;> simp [h1, h2, h3, h4]
    simp only [bless]
    cases Op.bytesLess a b <;> simp
def valOk (v : Int) : Bool := decide (0 ≤ v ∧ v ≤ 999)
def pairAt (l : List Pair) (i : Nat) : Bool := keyOk (l.getD i (([] : List UInt8), ((0 : Int), ()))).1 && (valOk (l.getD i (([] : List UInt8), ((0 : Int), ()))).2.1 && (decide (i = 0) || bless (l.getD (i - 1) (([] : List UInt8), ((0 : Int), ()))).1 (l.getD i (([] : List UInt8), ((0 : Int), ()))).1))
def pairsOk (l : List Pair) : Bool := decide (l.length ≤ 48) && (List.range l.length).all (pairAt l)
theorem spec_PairsValid_eq (k : Nat) (hk : 60 ≤ k) (l : List Pair) : spec_PairsValid_t A k (l, ()) () = some ((pairsOk l, ()), ()) := by
  by_cases hl : (48 : Int) < l.length
  · have : ¬ l.length ≤ 48 := by omega
    simp [spec_PairsValid_t, hl, pairsOk, this]
  · have hl' : l.length ≤ 48 := by omega
    have h := iter_all (A := A) (f := spec_PairsValid_t_b0 A k) (fun i => (l, ((i : Int), ()))) l.length (pairAt l) (.inr ((false, ()), ())) (.inl ())
      (fun i hi => by
        have hi' : (i : Int) < (l.length : Int) := by omega
        have w : A.wrapI .i64 ((i : Int) + 1) = (i : Int) + 1 := a_wrap (by omega) (by omega)
        simp only [spec_PairsValid_t_b0, a_cndS, a_ltI, a_lenL, a_le0, a_andB, hi', Int.natCast_nonneg, decide_true, Bool.and_self, if_true, a_atL, Int.toNat_natCast, spec_KeyValid_eq k (by omega : 10 ≤ k), l1In_eq, a_obind_some, a_notB, a_addI, w, pairAt, valOk, a_subI, a_orB, a_lessS, a_eqS]
        rcases Bool.eq_false_or_eq_true (keyOk (l.getD i (([] : List UInt8), ((0 : Int), ()))).1) with hkk | hkk
        case inr => simp only [hkk]; simp
        case inl =>
          by_cases hv : 0 ≤ (l.getD i (([] : List UInt8), ((0 : Int), ()))).2.1 ∧ (l.getD i (([] : List UInt8), ((0 : Int), ()))).2.1 ≤ 999
          · by_cases h0 : i = 0
            · subst h0; simp only [hkk, hv]; simp
            · have h1 : (0 : Int) < (i : Int) := by omega
              have w2 : A.wrapI .i64 ((i : Int) - 1) = (i : Int) - 1 := a_wrap (by omega) (by omega)
              have h2 : (0 : Int) ≤ (i : Int) - 1 := by omega
              have h3 : (i : Int) - 1 < (l.length : Int) := by omega
              have h4 : ((i : Int) - 1).toNat = i - 1 := by omega
              have ht := bless_total (l.getD (i - 1) (([] : List UInt8), ((0 : Int), ()))).1 (l.getD i (([] : List UInt8), ((0 : Int), ()))).1
              simp only [bless] at ht
              simp only [hkk, hv, h1, w2, h2, h3, h4, h0, ht, bless, decide_true, decide_false, Bool.and_self, Bool.true_and, Bool.false_or, if_true, Bool.not_true, Bool.false_eq_true, if_false, and_self]
              rcases Bool.eq_false_or_eq_true (Op.bytesLess (l.getD i (([] : List UInt8), ((0 : Int), ()))).1 (l.getD (i - 1) (([] : List UInt8), ((0 : Int), ()))).1 || decide ((l.getD i (([] : List UInt8), ((0 : Int), ()))).1 = (l.getD (i - 1) (([] : List UInt8), ((0 : Int), ()))).1)) with hq | hq <;> simp only [hq] <;> simp
          · simp only [hkk, hv]; simp)
      (by simp [spec_PairsValid_t_b0]) (k := k) (by omega)
    simp only [Int.natCast_zero, Int.ofNat_zero] at h
    simp only [spec_PairsValid_t, a_cndS, a_ltI, a_lenL, hl, decide_false, Bool.false_eq_true, if_false, h, a_obind_some, pairsOk, hl', decide_true, Bool.true_and]
    cases (List.range l.length).all (pairAt l) <;> simp
theorem impl_PairsValid_eq (k : Nat) (hk : 60 ≤ k) (l : List Pair) : impl_PairsValid_t A k (l, ()) () = some ((pairsOk l, ()), ()) := by
  by_cases hl : (48 : Int) < l.length
  · have : ¬ l.length ≤ 48 := by omega
    simp [impl_PairsValid_t, hl, pairsOk, this]
  · have hl' : l.length ≤ 48 := by omega
    have h := iter_all (A := A) (f := impl_PairsValid_t_b0 A k) (fun i => (l, (l, ((l.length : Int), ((i : Int), ()))))) l.length (pairAt l) (.inr ((false, ()), ())) (.inl ())
      (fun i hi => by
        have hi' : (i : Int) < (l.length : Int) := by omega
        have w : A.wrapI .i64 ((i : Int) + 1) = (i : Int) + 1 := a_wrap (by omega) (by omega)
        simp only [impl_PairsValid_t_b0, a_cndS, a_ltI, a_lenL, a_le0, a_andB, hi', Int.natCast_nonneg, decide_true, Bool.and_self, if_true, a_atL, Int.toNat_natCast, impl_KeyValid_eq k (by omega : 10 ≤ k), valueValid_eq, a_obind_some, a_notB, a_addI, pairAt, valOk, a_subI, a_lessS]
        rcases Bool.eq_false_or_eq_true (keyOk (l.getD i (([] : List UInt8), ((0 : Int), ()))).1) with hkk | hkk
        case inr => simp only [hkk]; simp
        case inl =>
          by_cases hv : 0 ≤ (l.getD i (([] : List UInt8), ((0 : Int), ()))).2.1 ∧ (l.getD i (([] : List UInt8), ((0 : Int), ()))).2.1 ≤ 999
          · by_cases h0 : i = 0
            · subst h0; simp only [hkk, hv]; simp [w]; exact w
            · have h1 : (0 : Int) < (i : Int) := by omega
              have w2 : A.wrapI .i64 ((i : Int) - 1) = (i : Int) - 1 := a_wrap (by omega) (by omega)
              have h2 : (0 : Int) ≤ (i : Int) - 1 := by omega
              have h3 : (i : Int) - 1 < (l.length : Int) := by omega
              have h4 : ((i : Int) - 1).toNat = i - 1 := by omega
              simp only [hkk, hv, h1, w, w2, h2, h3, h4, h0, bless, decide_true, decide_false, Bool.and_self, Bool.true_and, Bool.false_or, if_true, Bool.not_true, Bool.false_eq_true, if_false, and_self, a_sumE_inl, a_obind_some]
              rcases Bool.eq_false_or_eq_true (Op.bytesLess (l.getD (i - 1) (([] : List UInt8), ((0 : Int), ()))).1 (l.getD i (([] : List UInt8), ((0 : Int), ()))).1) with hq | hq <;> simp only [hq] <;> simp
          · simp only [hkk, hv]; simp)
      (by simp [impl_PairsValid_t_b0]) (k := k) (by omega)
    simp only [Int.natCast_zero, Int.ofNat_zero] at h
    simp only [impl_PairsValid_t, a_cndS, a_ltI, a_lenL, hl, decide_false, Bool.false_eq_true, if_false, h, a_obind_some, pairsOk, hl', decide_true, Bool.true_and]
    cases (List.range l.length).all (pairAt l) <;> simp
end Go.Den.T
