/- Keys, intervals, pairs, sessions, states, checkpoints: what the checks come to. -/
import Derived.Test.YtojleoiiijlhaaaGreatXPm1
import Derived.Test.YtojleoiiijlhaaaGreatXPm2
import Derived.Test.YtojleoiiijlhaaaGreatXPm3

namespace Go.Den.T
set_option linter.unusedVariables false
set_option linter.unusedSimpArgs false
set_option linter.unusedSectionVars false
variable {A : Atoms} [IsReal A]
abbrev Itv := List UInt8 × (List UInt8 × Unit)
abbrev Pair := List UInt8 × (Int × Unit)
abbrev Ses := Int × (Int × (Int × Unit))
abbrev Stt := Itv × (List Pair × (List Ses × (Bool × (List UInt8 × Unit))))
abbrev Chk := Int × (Stt × Unit)
def keyOrNil (s : List UInt8) : Bool := decide (s = []) || keyOk s
def bless (a b : List UInt8) : Bool := Op.bytesLess a b
def lowest (s : List UInt8) : List UInt8 := if s = [] then [97] else s
def itvOk (i : Itv) : Bool := keyOrNil i.1 && (keyOrNil i.2.1 && (decide (i.2.1 = []) || bless (lowest i.1) i.2.1))
theorem impl_IntervalValid_eq (k : Nat) (hk : 10 ≤ k) (i : Itv) : impl_IntervalValid_t A k (i, ()) () = some ((itvOk i, ()), ()) := by
  obtain ⟨a, b, _⟩ := i
  simp only [impl_IntervalValid_t, impl_KeyValid_eq k hk, a_obind_some, a_cndS, a_notB, a_eqS, itvOk, keyOrNil, lowest, bless]
  by_cases h1 : a = [] <;> by_cases h2 : b = []
  · simp [h1, h2]
  · cases h3 : keyOk b <;> simp [h1, h2, h3, impl_lowestKey_t]
  · cases h3 : keyOk a <;> simp [h1, h2, h3, impl_lowestKey_t]
  · cases h3 : keyOk a <;> cases h4 : keyOk b <;> simp [h1, h2, h3, h4, impl_lowestKey_t]
theorem bless_nil (b : List UInt8) : bless [] b = decide (b ≠ []) := by cases b <;> simp [bless, Op.bytesLess]
theorem bless_to_nil (a : List UInt8) : bless a [] = false := by cases a <;> simp [bless, Op.bytesLess]
theorem bless_cons (x y : UInt8) (xs ys : List UInt8) : bless (x :: xs) (y :: ys) = (decide (x < y) || (x == y && bless xs ys)) := by simp [bless, Op.bytesLess]
theorem bless_total : ∀ a b : List UInt8, bless a b = !(bless b a || decide (b = a))
  | [], [] => by simp [bless_nil]
  | [], y :: ys => by simp [bless_nil, bless_to_nil]
  | x :: xs, [] => by simp [bless_nil, bless_to_nil]
  | x :: xs, y :: ys => by
    rw [bless_cons, bless_cons, bless_total xs ys]
    by_cases h : x = y
    · subst h
      have : ¬ x < x := by rw [UInt8.lt_iff_toNat_lt]; omega
      simp [this]
    · have h' : ¬ y = x := fun e => h e.symm
      have hn : x.toNat ≠ y.toNat := fun e => h (UInt8.toNat_inj.1 e)
      by_cases hl : x < y
      · have : ¬ y < x := by rw [UInt8.lt_iff_toNat_lt] at hl ⊢; omega
        simp [hl, this, h, h']
      · have : y < x := by rw [UInt8.lt_iff_toNat_lt] at hl ⊢; omega
        simp [hl, this, h, h']
/-- every valid key but "a" itself is greater than "a" -/
theorem less_a {b : List UInt8} (h : keyOk b = true) : bless [97] b = !decide (b = [97]) := by
  unfold keyOk at h
  simp only [Bool.and_eq_true, decide_eq_true_eq] at h
  obtain ⟨⟨h1, h2⟩, h3⟩ := h
  cases b with
  | nil => simp at h1
  | cons c cs =>
    have hc : letter c = true := by simp only [List.all_cons, Bool.and_eq_true] at h3; exact h3.1
    simp only [letter, decide_eq_true_eq] at hc
    rw [bless_cons, bless_nil]
    by_cases h : c = 97
    · subst h
      have : ¬ (97 : UInt8) < 97 := by decide
      simp [this]
    · have hn : c.toNat ≠ 97 := fun e => h (UInt8.toNat_inj.1 (by rw [e]; rfl))
      have : (97 : UInt8) < c := by rw [UInt8.lt_iff_toNat_lt]; show 97 < c.toNat; omega
      simp [this, h]
theorem spec_IntervalValid_eq (k : Nat) (hk : 10 ≤ k) (i : Itv) : spec_IntervalValid_t A k (i, ()) () = some ((itvOk i, ()), ()) := by
  obtain ⟨a, b, _⟩ := i
  simp only [spec_IntervalValid_t, spec_KeyValid_eq k hk, a_obind_some, a_cndS, a_notB, a_eqS, a_lessS, itvOk, keyOrNil, lowest]
  by_cases h1 : a = [] <;> by_cases h2 : b = []
  · simp [h1, h2]
  · cases h3 : keyOk b with
    | false => simp [h1, h2, h3]
    | true =>
      have e1 : Op.bytesLess [] b = true := by have := bless_nil b; simp only [bless] at this; rw [this]; simp [h2]
      have e2 := less_a h3
      simp [h1, h2, h3, e1, e2]
  · cases h3 : keyOk a <;> simp [h1, h2, h3]
  · cases h3 : keyOk a <;> cases h4 : keyOk b <;> simp [h1, h2, h3, h4]
    simp only [bless]
    cases Op.bytesLess a b <;> simp
def valOk (v : Int) : Bool := decide (0 ≤ v ∧ v ≤ 999)
def pairAt (l : List Pair) (i : Nat) : Bool := keyOk (l.getD i (([] : List UInt8), ((0 : Int), ()))).1 && (valOk (l.getD i (([] : List UInt8), ((0 : Int), ()))).2.1 && (decide (i = 0) || bless (l.getD (i - 1) (([] : List UInt8), ((0 : Int), ()))).1 (l.getD i (([] : List UInt8), ((0 : Int), ()))).1))
def pairsOk (l : List Pair) : Bool := decide (l.length ≤ 48) && (List.range l.length).all (pairAt l)
theorem spec_PairsValid_eq (k : Nat) (hk : 60 ≤ k) (l : List Pair) : spec_PairsValid_t A k (l, ()) () = some ((pairsOk l, ()), ()) := by
  by_cases hl : (48 : Int) < l.length
  · have : ¬ l.length ≤ 48 := by omega
    simp [spec_PairsValid_t, hl, pairsOk, this]
  · have hl' : l.length ≤ 48 := by omega
    have h := iter_all (A := A) (f := spec_PairsValid_t_b0 A k) (fun i => (l, ((i : Int), ()))) l.length (pairAt l) (.inr ((false, ()), ())) (.inl ())
      (fun i hi => by
        have hi' : (i : Int) < (l.length : Int) := by omega
        have w : A.wrapI .i64 ((i : Int) + 1) = (i : Int) + 1 := a_wrap (by omega) (by omega)
        simp only [spec_PairsValid_t_b0, a_cndS, a_ltI, a_lenL, a_le0, a_andB, hi', Int.natCast_nonneg, decide_true, Bool.and_self, if_true, a_atL, Int.toNat_natCast, spec_KeyValid_eq k (by omega : 10 ≤ k), l1In_eq, a_obind_some, a_notB, a_addI, w, pairAt, valOk, a_subI, a_orB, a_lessS, a_eqS]
        rcases Bool.eq_false_or_eq_true (keyOk (l.getD i (([] : List UInt8), ((0 : Int), ()))).1) with hkk | hkk
        case inr => simp only [hkk]; simp
        case inl =>
          by_cases hv : 0 ≤ (l.getD i (([] : List UInt8), ((0 : Int), ()))).2.1 ∧ (l.getD i (([] : List UInt8), ((0 : Int), ()))).2.1 ≤ 999
          · by_cases h0 : i = 0
            · subst h0; simp only [hkk, hv]; simp
            · have h1 : (0 : Int) < (i : Int) := by omega
              have w2 : A.wrapI .i64 ((i : Int) - 1) = (i : Int) - 1 := a_wrap (by omega) (by omega)
              have h2 : (0 : Int) ≤ (i : Int) - 1 := by omega
              have h3 : (i : Int) - 1 < (l.length : Int) := by omega
              have h4 : ((i : Int) - 1).toNat = i - 1 := by omega
              have ht := bless_total (l.getD (i - 1) (([] : List UInt8), ((0 : Int), ()))).1 (l.getD i (([] : List UInt8), ((0 : Int), ()))).1
              simp only [bless] at ht
              simp only [hkk, hv, h1, w2, h2, h3, h4, h0, ht, bless, decide_true, decide_false, Bool.and_self, Bool.true_and, Bool.false_or, if_true, Bool.not_true, Bool.false_eq_true, if_false, and_self]
              rcases Bool.eq_false_or_eq_true (Op.bytesLess (l.getD i (([] : List UInt8), ((0 : Int), ()))).1 (l.getD (i - 1) (([] : List UInt8), ((0 : Int), ()))).1 || decide ((l.getD i (([] : List UInt8), ((0 : Int), ()))).1 = (l.getD (i - 1) (([] : List UInt8), ((0 : Int), ()))).1)) with hq | hq <;> simp only [hq] <;> simp
          · simp only [hkk, hv]; simp)
      (by simp [spec_PairsValid_t_b0]) (k := k) (by omega)
    simp only [Int.natCast_zero, Int.ofNat_zero] at h
    simp only [spec_PairsValid_t, a_cndS, a_ltI, a_lenL, hl, decide_false, Bool.false_eq_true, if_false, h, a_obind_some, pairsOk, hl', decide_true, Bool.true_and]
    cases (List.range l.length).all (pairAt l) <;> simp
theorem impl_PairsValid_eq (k : Nat) (hk : 60 ≤ k) (l : List Pair) : impl_PairsValid_t A k (l, ()) () = some ((pairsOk l, ()), ()) := by
  by_cases hl : (48 : Int) < l.length
  · have : ¬ l.length ≤ 48 := by omega
    simp [impl_PairsValid_t, hl, pairsOk, this]
  · have hl' : l.length ≤ 48 := by omega
    have h := iter_all (A := A) (f := impl_PairsValid_t_b0 A k) (fun i => (l, (l, ((l.length : Int), ((i : Int), ()))))) l.length (pairAt l) (.inr ((false, ()), ())) (.inl ())
      (fun i hi => by
        have hi' : (i : Int) < (l.length : Int) := by omega
        have w : A.wrapI .i64 ((i : Int) + 1) = (i : Int) + 1 := a_wrap (by omega) (by omega)
        simp only [impl_PairsValid_t_b0, a_cndS, a_ltI, a_lenL, a_le0, a_andB, hi', Int.natCast_nonneg, decide_true, Bool.and_self, if_true, a_atL, Int.toNat_natCast, impl_KeyValid_eq k (by omega : 10 ≤ k), valueValid_eq, a_obind_some, a_notB, a_addI, pairAt, valOk, a_subI, a_lessS]
        rcases Bool.eq_false_or_eq_true (keyOk (l.getD i (([] : List UInt8), ((0 : Int), ()))).1) with hkk | hkk
        case inr => simp only [hkk]; simp
        case inl =>
          by_cases hv : 0 ≤ (l.getD i (([] : List UInt8), ((0 : Int), ()))).2.1 ∧ (l.getD i (([] : List UInt8), ((0 : Int), ()))).2.1 ≤ 999
          · by_cases h0 : i = 0
            · subst h0; simp only [hkk, hv]; simp [w]; exact w
            · have h1 : (0 : Int) < (i : Int) := by omega
              have w2 : A.wrapI .i64 ((i : Int) - 1) = (i : Int) - 1 := a_wrap (by omega) (by omega)
              have h2 : (0 : Int) ≤ (i : Int) - 1 := by omega
              have h3 : (i : Int) - 1 < (l.length : Int) := by omega
              have h4 : ((i : Int) - 1).toNat = i - 1 := by omega
              simp only [hkk, hv, h1, w, w2, h2, h3, h4, h0, bless, decide_true, decide_false, Bool.and_self, Bool.true_and, Bool.false_or, if_true, Bool.not_true, Bool.false_eq_true, if_false, and_self, a_sumE_inl, a_obind_some]
              rcases Bool.eq_false_or_eq_true (Op.bytesLess (l.getD (i - 1) (([] : List UInt8), ((0 : Int), ()))).1 (l.getD i (([] : List UInt8), ((0 : Int), ()))).1) with hq | hq <;> simp only [hq] <;> simp
          · simp only [hkk, hv]; simp)
      (by simp [impl_PairsValid_t_b0]) (k := k) (by omega)
    simp only [Int.natCast_zero, Int.ofNat_zero] at h
    simp only [impl_PairsValid_t, a_cndS, a_ltI, a_lenL, hl, decide_false, Bool.false_eq_true, if_false, h, a_obind_some, pairsOk, hl', decide_true, Bool.true_and]
    cases (List.range l.length).all (pairAt l) <;> simp
end Go.Den.T

namespace Go.Den.T
set_option linter.unusedVariables false
set_option linter.unusedSimpArgs false
set_option linter.unusedSectionVars false
variable {A : Atoms} [IsReal A]
def sesP (s q : Ses) (i : Nat) : Bool := decide (0 ≤ s.1 ∧ s.1 ≤ 3) && (decide (1 ≤ s.2.1 ∧ s.2.1 ≤ 999) && (decide (-2 ≤ s.2.2.1 ∧ s.2.2.1 ≤ 999) && (decide (i = 0) || !decide (s.1 ≤ q.1))))
def sesAt (l : List Ses) (i : Nat) : Bool := sesP (l.getD i ((0 : Int), ((0 : Int), ((0 : Int), ())))) (l.getD (i - 1) ((0 : Int), ((0 : Int), ((0 : Int), ())))) i
def sesOk (l : List Ses) : Bool := (List.range l.length).all (sesAt l)
theorem spec_SessionsValid_eq (k : Nat) (l : List Ses) (hk : l.length < k) (hl : l.length ≤ 1000000000) : spec_SessionsValid_t A k (l, ()) () = some ((sesOk l, ()), ()) := by
  have h := iter_all (A := A) (f := spec_SessionsValid_t_b0 A k) (fun i => (l, ((i : Int), ()))) l.length (sesAt l) (.inr ((false, ()), ())) (.inl ())
    (fun i hi => by
      have hi' : (i : Int) < (l.length : Int) := by omega
      have w : A.wrapI .i64 ((i : Int) + 1) = (i : Int) + 1 := a_wrap (by omega) (by omega)
      rw [show sesAt l i = sesP (l.getD i ((0 : Int), ((0 : Int), ((0 : Int), ())))) (l.getD (i - 1) ((0 : Int), ((0 : Int), ((0 : Int), ())))) i from rfl]
      simp only [spec_SessionsValid_t_b0, a_atL, Int.toNat_natCast]
      by_cases h0 : i = 0
      · generalize l.getD i ((0 : Int), ((0 : Int), ((0 : Int), ()))) = s
        subst h0
        obtain ⟨c, q, v, _⟩ := s
        simp only [sesP, l1In_eq, a_obind_some, a_cndS, a_ltI, a_lenL, a_le0, a_andB, hi', a_notB, a_addI, w]
        by_cases h1 : 0 ≤ c ∧ c ≤ 3 <;> by_cases h2 : 1 ≤ q ∧ q ≤ 999 <;> by_cases h3 : -2 ≤ v ∧ v ≤ 999 <;> simp [h1, h2, h3, hi]
      · have g1 : (0 : Int) < (i : Int) := by omega
        have w2 : A.wrapI .i64 (A.subI (i : Int) 1) = (i : Int) - 1 := by rw [a_subI]; exact a_wrap (by omega) (by omega)
        have g2 : (0 : Int) ≤ (i : Int) - 1 := by omega
        have g2' : (1 : Int) ≤ (i : Int) := by omega
        have g3 : (i : Int) - 1 < (l.length : Int) := by omega
        have g4 : ((i : Int) - 1).toNat = i - 1 := by omega
        simp only [w2, g4]
        generalize l.getD i ((0 : Int), ((0 : Int), ((0 : Int), ()))) = s
        generalize l.getD (i - 1) ((0 : Int), ((0 : Int), ((0 : Int), ()))) = s'
        obtain ⟨c, q, v, _⟩ := s
        obtain ⟨c', _⟩ := s'
        simp only [sesP, l1In_eq, a_obind_some, a_cndS, a_ltI, a_lenL, a_le0, a_andB, hi', a_notB, a_addI, w, a_leI]
        by_cases h1 : 0 ≤ c ∧ c ≤ 3 <;> by_cases h2 : 1 ≤ q ∧ q ≤ 999 <;> by_cases h3 : -2 ≤ v ∧ v ≤ 999 <;> by_cases h4 : c ≤ c' <;> simp [h1, h2, h3, h4, hi, g1, g2, g2', g3, h0] <;> omega)
    (by simp [spec_SessionsValid_t_b0]) (k := k) hk
  simp only [Int.natCast_zero, Int.ofNat_zero] at h
  simp only [spec_SessionsValid_t, h, a_obind_some, sesOk]
  cases (List.range l.length).all (sesAt l) <;> simp
theorem impl_SessionsValid_eq (k : Nat) (l : List Ses) (hk : l.length < k) (hl : l.length ≤ 1000000000) : impl_SessionsValid_t A k (l, ()) () = some ((sesOk l, ()), ()) := by
  have h := iter_all (A := A) (f := impl_SessionsValid_t_b0 A k) (fun i => (l, (l, ((l.length : Int), ((i : Int), ()))))) l.length (sesAt l) (.inr ((false, ()), ())) (.inl ())
    (fun i hi => by
      have hi' : (i : Int) < (l.length : Int) := by omega
      have w : A.wrapI .i64 ((i : Int) + 1) = (i : Int) + 1 := a_wrap (by omega) (by omega)
      rw [show sesAt l i = sesP (l.getD i ((0 : Int), ((0 : Int), ((0 : Int), ())))) (l.getD (i - 1) ((0 : Int), ((0 : Int), ((0 : Int), ())))) i from rfl]
      simp only [impl_SessionsValid_t_b0, a_atL, Int.toNat_natCast]
      have hw : ∀ j : Int, A.wrapI .i64 (A.subI j 1) = A.wrapI .i64 (j - 1) := fun j => by rw [a_subI]
      by_cases h0 : i = 0
      · generalize l.getD i ((0 : Int), ((0 : Int), ((0 : Int), ()))) = s
        subst h0
        obtain ⟨c, q, v, _⟩ := s
        simp only [sesP, seqValid_eq, a_obind_some, a_cndS, a_ltI, a_leI, a_lenL, a_le0, a_andB, hi', a_notB]
        by_cases h1 : c < 0
        · have : ¬ (0 ≤ c ∧ c ≤ 3) := by omega
          simp [h1, this, hi]
        by_cases h1' : 4 ≤ c
        · have : ¬ (0 ≤ c ∧ c ≤ 3) := by omega
          simp [h1, h1', this, hi]
        have h1'' : 0 ≤ c ∧ c ≤ 3 := by omega
        by_cases h2 : 1 ≤ q ∧ q ≤ 999
        case neg => simp [h1, h1', h1'', h2, hi]
        by_cases h3 : v < -2
        · have : ¬ (-2 ≤ v ∧ v ≤ 999) := by omega
          simp [h1, h1', h1'', h2, h3, this, hi]
        by_cases h3' : 999 < v
        · have : ¬ (-2 ≤ v ∧ v ≤ 999) := by omega
          simp [h1, h1', h1'', h2, h3, h3', this, hi]
        have h3'' : -2 ≤ v ∧ v ≤ 999 := by omega
        simp [h1, h1', h1'', h2, h3, h3', h3'', hi]; exact w
      · have g1 : 0 < i := by omega
        have w2 : A.wrapI .i64 ((i : Int) - 1) = (i : Int) - 1 := a_wrap (by omega) (by omega)
        have g2' : (1 : Int) ≤ (i : Int) := by omega
        have g2 : (0 : Int) ≤ (i : Int) - 1 := by omega
        have g3 : (i : Int) - 1 < (l.length : Int) := by omega
        have g4 : ((i : Int) - 1).toNat = i - 1 := by omega
        generalize hs : l.getD i ((0 : Int), ((0 : Int), ((0 : Int), ()))) = s
        generalize hs' : l.getD (i - 1) ((0 : Int), ((0 : Int), ((0 : Int), ()))) = s'
        obtain ⟨c, q, v, _⟩ := s
        obtain ⟨c', _⟩ := s'
        have hs2 : l[i - 1]?.getD ((0 : Int), ((0 : Int), ((0 : Int), ()))) = (c', ‹_›) := by simpa [List.getD] using hs'
        simp only [sesP, seqValid_eq, a_obind_some, a_cndS, a_ltI, a_leI, a_lenL, a_le0, a_andB, hi', a_notB]
        by_cases h1 : c < 0
        · have : ¬ (0 ≤ c ∧ c ≤ 3) := by omega
          simp [h1, this, hi]
        by_cases h1' : 4 ≤ c
        · have : ¬ (0 ≤ c ∧ c ≤ 3) := by omega
          simp [h1, h1', this, hi]
        have h1'' : 0 ≤ c ∧ c ≤ 3 := by omega
        by_cases h2 : 1 ≤ q ∧ q ≤ 999
        case neg => simp [h1, h1', h1'', h2, hi]
        by_cases h3 : v < -2
        · have : ¬ (-2 ≤ v ∧ v ≤ 999) := by omega
          simp [h1, h1', h1'', h2, h3, this, hi]
        by_cases h3' : 999 < v
        · have : ¬ (-2 ≤ v ∧ v ≤ 999) := by omega
          simp [h1, h1', h1'', h2, h3, h3', this, hi]
        have h3'' : -2 ≤ v ∧ v ≤ 999 := by omega
        by_cases hq : c ≤ c'
        · have hq' : ¬ c' < c := by omega
          simp [h1, h1', h1'', h2, h3, h3', h3'', g1, w2, g2, g2', g3, g4, h0, w, hi, hs2, hq, hq']
        · have hq' : c' < c := by omega
          simp [h1, h1', h1'', h2, h3, h3', h3'', g1, w2, g2, g2', g3, g4, h0, w, hi, hs2, hq, hq']
      )
    (by simp [impl_SessionsValid_t_b0]) (k := k) hk
  simp only [Int.natCast_zero, Int.ofNat_zero] at h
  simp only [impl_SessionsValid_t, a_lenL, h, a_obind_some, sesOk]
  cases (List.range l.length).all (sesAt l) <;> simp
/-! ### intervals -/
def inside (i : Itv) (s : List UInt8) : Bool := !bless s i.1 && (decide (i.2.1 = []) || bless s i.2.1)
theorem inside_eq (k : Nat) (i : Itv) (s : List UInt8) : impl_inside_t A k (i, (s, ())) () = some ((inside i s, ()), ()) := by
  have ht := bless_total s i.1
  simp only [bless] at ht
  simp only [impl_inside_t, a_cndS, a_orB, a_lessS, a_eqS, inside, bless, ht, Bool.not_not]
  by_cases h : i.2.1 = [] <;> cases (Op.bytesLess i.1 s || decide (i.1 = s)) <;> simp [h]
theorem IntervalHas_eq (k : Nat) (hk : 10 ≤ k) (i : Itv) (s : List UInt8) : spec_IntervalHas_t A k (i, (s, ())) () = some (((itvOk i && (keyOk s && inside i s)), ()), ()) := by
  simp only [spec_IntervalHas_t, spec_IntervalValid_eq k hk, spec_KeyValid_eq k hk, a_obind_some, a_cndS, a_notB, a_lessS, a_eqS, inside, bless]
  cases itvOk i <;> cases keyOk s <;> cases Op.bytesLess s i.1 <;> by_cases h : i.2.1 = [] <;> simp [h]
abbrev itv0 : Itv := ([], ([], ()))
def cut (i : Itv) (s : List UInt8) : Itv × (Itv × (Bool × Unit)) :=
  if (itvOk i && (keyOk s && (itvOk (i.1, (s, ())) && itvOk (s, (i.2.1, ()))))) = true then ((i.1, (s, ())), ((s, (i.2.1, ())), (true, ()))) else (itv0, (itv0, (false, ())))
theorem spec_IntervalCut_eq (k : Nat) (hk : 10 ≤ k) (i : Itv) (s : List UInt8) : spec_IntervalCut_t A k (i, (s, ())) () = some (cut i s, ()) := by
  simp only [spec_IntervalCut_t, spec_IntervalValid_eq k hk, spec_KeyValid_eq k hk, a_obind_some, a_cndS, a_notB, cut]
  cases itvOk i <;> cases keyOk s <;> cases itvOk (i.1, (s, ())) <;> cases itvOk (s, (i.2.1, ())) <;> simp
theorem impl_IntervalCut_eq (k : Nat) (hk : 10 ≤ k) (i : Itv) (s : List UInt8) : impl_IntervalCut_t A k (i, (s, ())) () = some (cut i s, ()) := by
  simp only [impl_IntervalCut_t, impl_IntervalValid_eq k hk, impl_KeyValid_eq k hk, a_obind_some, a_cndS, a_notB, cut]
  cases itvOk i <;> cases keyOk s <;> cases h3 : itvOk (i.1, (s, ())) <;> cases h4 : itvOk (s, (i.2.1, ())) <;> simp [h3, h4]
/-! ### states -/
def stOk (s : Stt) : Bool := itvOk s.1 && (pairsOk s.2.1 && (sesOk s.2.2.1 && (s.2.1.all (fun p => inside s.1 p.1) && (decide (s.2.2.2.2.1 = []) || (s.2.2.2.1 && (cut s.1 s.2.2.2.2.1).2.2.1)))))
theorem pairs_keys {l : List Pair} (h : pairsOk l = true) : l.length ≤ 48 ∧ ∀ p ∈ l, keyOk p.1 = true := by
  simp only [pairsOk, Bool.and_eq_true, decide_eq_true_eq] at h
  refine ⟨h.1, fun p hp => ?_⟩
  obtain ⟨i, hi, rfl⟩ := List.mem_iff_getElem.1 hp
  have := range_all.1 h.2 i hi
  simp only [pairAt, Bool.and_eq_true] at this
  have := this.1
  rwa [getD_lt hi] at this
theorem impl_StateValid_eq (k : Nat) (hk : 60 ≤ k) (s : Stt) (hk2 : s.2.2.1.length < k) (hl : s.2.2.1.length ≤ 1000000000) : impl_StateValid_t A k (s, ()) () = some ((stOk s, ()), ()) := by
  obtain ⟨i, ps, ss, fz, ct, _⟩ := s
  simp only at hk2 hl
  simp only [impl_StateValid_t, impl_IntervalValid_eq k (by omega : 10 ≤ k), impl_PairsValid_eq k hk, impl_SessionsValid_eq k ss hk2 hl, a_obind_some, a_cndS, a_notB, stOk]
  cases itvOk i with
  | false => simp
  | true =>
    cases hp : pairsOk ps with
    | false => simp
    | true =>
      obtain ⟨hp1, hp2⟩ := pairs_keys hp
      cases sesOk ss with
      | false => simp
      | true =>
        have h := iter_all (A := A) (f := impl_StateValid_t_b0 A k) (fun j => (ps, ((ps.length : Int), ((j : Int), ((i, (ps, (ss, (fz, (ct, ()))))), ()))))) ps.length (fun j => inside i (ps.getD j (([] : List UInt8), ((0 : Int), ()))).1) (.inr ((false, ()), ())) (.inl ((i, (ps, (ss, (fz, (ct, ()))))), ()))
          (fun j hj => by
            have w : A.wrapI .i64 ((j : Int) + 1) = (j : Int) + 1 := a_wrap (by omega) (by omega)
            simp [impl_StateValid_t_b0, hj, w, inside_eq]
            cases inside i ps[j].1 <;> simp)
          (by simp [impl_StateValid_t_b0]) (k := k) (by omega)
        have e := all_range (xs := ps) (q := fun p => inside i p.1) (d := (([] : List UInt8), ((0 : Int), ())))
        rw [e] at h
        simp only [Int.natCast_zero, Int.ofNat_zero] at h
        simp only [Bool.not_true, Bool.false_eq_true, if_false, a_sumE_inl, a_lenL, h, a_obind_some, Bool.true_and]
        cases ps.all (fun p => inside i p.1) with
        | false => simp
        | true =>
          by_cases hc : ct = []
          · simp [hc]
          · have hcut := impl_IntervalCut_eq (A := A) k (by omega : 10 ≤ k) i ct
            cases fz <;> simp [hc, hcut]
theorem spec_StateValid_eq (k : Nat) (hk : 60 ≤ k) (s : Stt) (hk2 : s.2.2.1.length < k) (hl : s.2.2.1.length ≤ 1000000000) : spec_StateValid_t A k (s, ()) () = some ((stOk s, ()), ()) := by
  obtain ⟨i, ps, ss, fz, ct, _⟩ := s
  simp only at hk2 hl
  simp only [spec_StateValid_t, spec_IntervalValid_eq k (by omega : 10 ≤ k), spec_PairsValid_eq k hk, spec_SessionsValid_eq k ss hk2 hl, a_obind_some, a_cndS, a_notB, stOk]
  cases hi : itvOk i with
  | false => simp
  | true =>
    cases hp : pairsOk ps with
    | false => simp
    | true =>
      obtain ⟨hp1, hp2⟩ := pairs_keys hp
      cases sesOk ss with
      | false => simp
      | true =>
        have h := iter_all (A := A) (f := spec_StateValid_t_b0 A k) (fun j => ((j : Int), ((i, (ps, (ss, (fz, (ct, ()))))), ()))) ps.length (fun j => inside i (ps.getD j (([] : List UInt8), ((0 : Int), ()))).1) (.inr ((false, ()), ())) (.inl ((i, (ps, (ss, (fz, (ct, ()))))), ()))
          (fun j hj => by
            have w : A.wrapI .i64 ((j : Int) + 1) = (j : Int) + 1 := a_wrap (by omega) (by omega)
            have hkey := hp2 ps[j] (List.getElem_mem hj)
            simp [spec_StateValid_t_b0, hj, w, IntervalHas_eq k (by omega : 10 ≤ k), hi, hkey]
            cases inside i ps[j].1 <;> simp)
          (by simp [spec_StateValid_t_b0]) (k := k) (by omega)
        have e := all_range (xs := ps) (q := fun p => inside i p.1) (d := (([] : List UInt8), ((0 : Int), ())))
        rw [e] at h
        simp only [Int.natCast_zero, Int.ofNat_zero] at h
        simp only [Bool.not_true, Bool.false_eq_true, if_false, a_sumE_inl, h, a_obind_some, Bool.true_and]
        cases ps.all (fun p => inside i p.1) with
        | false => simp
        | true =>
          have hcut := spec_IntervalCut_eq (A := A) k (by omega : 10 ≤ k) i ct
          by_cases hc : ct = []
          · subst hc; simp [hcut]
          · cases fz <;> simp [hc, hcut]
end Go.Den.T

namespace Go.Den.T
set_option linter.unusedVariables false
set_option linter.unusedSimpArgs false
set_option linter.unusedSectionVars false
section
variable {A : Atoms} [IsReal A]
theorem toPairS_eq (k : Nat) (xs : List Pair) (hk : xs.length < k) (hl : xs.length ≤ 1000000000) : laws_toPairS_t A k (xs, ()) () = some ((xs, ()), ()) := by
  have h := to_loop (A := A) (f := laws_toPairS_t_b0 A k) (([] : List UInt8), ((0 : Int), ())) xs hk
    (fun i ys hi hy => by
      have hi' : i < ys.length := by omega
      simp (disch := omega) [laws_toPairS_t_b0, hi, hi', hy, a_wrap, laws_toPair_t])
    (fun ys hy => by simp [laws_toPairS_t_b0])
  have h1 : (xs.length : Int) < 4294967296 := by omega
  simp [laws_toPairS_t, h1, h]
theorem toSessionS_eq (k : Nat) (xs : List Ses) (hk : xs.length < k) (hl : xs.length ≤ 1000000000) : laws_toSessionS_t A k (xs, ()) () = some ((xs, ()), ()) := by
  have h := to_loop (A := A) (f := laws_toSessionS_t_b0 A k) ((0 : Int), ((0 : Int), ((0 : Int), ()))) xs hk
    (fun i ys hi hy => by
      have hi' : i < ys.length := by omega
      simp (disch := omega) [laws_toSessionS_t_b0, hi, hi', hy, a_wrap, laws_toSession_t])
    (fun ys hy => by simp [laws_toSessionS_t_b0])
  have h1 : (xs.length : Int) < 4294967296 := by omega
  simp [laws_toSessionS_t, h1, h]
instance : DecidableEq Pair := inferInstanceAs (DecidableEq (List UInt8 × (Int × Unit)))
instance : DecidableEq Ses := inferInstanceAs (DecidableEq (Int × (Int × (Int × Unit))))
instance : DecidableEq Itv := inferInstanceAs (DecidableEq (List UInt8 × (List UInt8 × Unit)))
set_option synthInstance.maxSize 2000 in
instance : DecidableEq Stt := inferInstanceAs (DecidableEq (Itv × (List Pair × (List Ses × (Bool × (List UInt8 × Unit))))))
instance : DecidableEq Chk := inferInstanceAs (DecidableEq (Int × (Stt × Unit)))
theorem eqPair_eq (k : Nat) (c d : Pair) : laws_eqPair_t A k (c, (d, ())) () = some ((decide (c = d), ()), ()) := by
  obtain ⟨a1, a2, _⟩ := c
  obtain ⟨b1, b2, _⟩ := d
  simp only [laws_eqPair_t, a_cndS, a_notB, a_eqI, a_eqS]
  by_cases h1 : a1 = b1 <;> by_cases h2 : a2 = b2 <;> simp [h1, h2]
theorem eqSession_eq (k : Nat) (c d : Ses) : laws_eqSession_t A k (c, (d, ())) () = some ((decide (c = d), ()), ()) := by
  obtain ⟨a1, a2, a3, _⟩ := c
  obtain ⟨b1, b2, b3, _⟩ := d
  simp only [laws_eqSession_t, a_cndS, a_notB, a_eqI]
  by_cases h1 : a1 = b1 <;> by_cases h2 : a2 = b2 <;> by_cases h3 : a3 = b3 <;> simp [h1, h2, h3]
theorem eqPairS_eq (k : Nat) (xs ys : List Pair) (hk : xs.length < k) (hl : xs.length ≤ 1000000000) : laws_eqPairS_t A k (xs, (ys, ())) () = some ((decide (xs = ys), ()), ()) := by
  by_cases he : xs.length = ys.length
  · have h := eq_loop (A := A) (f := laws_eqPairS_t_b0 A k) (([] : List UInt8), ((0 : Int), ())) xs ys hk he
      (fun i hi => by
        have hi' : i < ys.length := by omega
        simp (disch := omega) [laws_eqPairS_t_b0, hi, hi', a_wrap, eqPair_eq]
        by_cases hv : xs[i] = ys[i] <;> simp [hv])
      (by simp [laws_eqPairS_t_b0])
    simp only [laws_eqPairS_t, a_lenL, he, a_eqI, decide_true, a_notB, Bool.not_true, a_cndS, Bool.false_eq_true, if_false, h]
    by_cases hv : xs = ys <;> simp [hv]
  · have h2 : ¬ (xs.length : Int) = ys.length := by omega
    have h3 : ¬ xs = ys := fun e => he (by rw [e])
    simp [laws_eqPairS_t, h2, h3]
theorem eqSessionS_eq (k : Nat) (xs ys : List Ses) (hk : xs.length < k) (hl : xs.length ≤ 1000000000) : laws_eqSessionS_t A k (xs, (ys, ())) () = some ((decide (xs = ys), ()), ()) := by
  by_cases he : xs.length = ys.length
  · have h := eq_loop (A := A) (f := laws_eqSessionS_t_b0 A k) ((0 : Int), ((0 : Int), ((0 : Int), ()))) xs ys hk he
      (fun i hi => by
        have hi' : i < ys.length := by omega
        simp (disch := omega) [laws_eqSessionS_t_b0, hi, hi', a_wrap, eqSession_eq]
        by_cases hv : xs[i] = ys[i] <;> simp [hv])
      (by simp [laws_eqSessionS_t_b0])
    simp only [laws_eqSessionS_t, a_lenL, he, a_eqI, decide_true, a_notB, Bool.not_true, a_cndS, Bool.false_eq_true, if_false, h]
    by_cases hv : xs = ys <;> simp [hv]
  · have h2 : ¬ (xs.length : Int) = ys.length := by omega
    have h3 : ¬ xs = ys := fun e => he (by rw [e])
    simp [laws_eqSessionS_t, h2, h3]
/-- the lists of a state are short enough for the loops -/
def StShort (s : Stt) : Prop := s.2.1.length ≤ 1048576 ∧ s.2.2.1.length ≤ 1048576
theorem toState_eq (k : Nat) (hk : 2000000 ≤ k) (s : Stt) (h : StShort s) : laws_toState_t A k (s, ()) () = some ((s, ()), ()) := by
  simp [laws_toState_t, laws_toInterval_t, toPairS_eq k s.2.1 (by have := h.1; omega) (by have := h.1; omega), toSessionS_eq k s.2.2.1 (by have := h.2; omega) (by have := h.2; omega)]
theorem eqInterval_eq (k : Nat) (c d : Itv) : laws_eqInterval_t A k (c, (d, ())) () = some ((decide (c = d), ()), ()) := by
  obtain ⟨a1, a2, _⟩ := c
  obtain ⟨b1, b2, _⟩ := d
  simp only [laws_eqInterval_t, a_cndS, a_notB, a_eqS]
  by_cases h1 : a1 = b1 <;> by_cases h2 : a2 = b2 <;> simp [h1, h2]
theorem eqState_eq (k : Nat) (hk : 2000000 ≤ k) (c d : Stt) (h : StShort c) : laws_eqState_t A k (c, (d, ())) () = some ((decide (c = d), ()), ()) := by
  obtain ⟨a1, a2, a3, a4, a5, _⟩ := c
  obtain ⟨b1, b2, b3, b4, b5, _⟩ := d
  have g1 : a2.length ≤ 1048576 := h.1
  have g2 : a3.length ≤ 1048576 := h.2
  simp only [laws_eqState_t, eqInterval_eq, eqPairS_eq k a2 b2 (by omega) (by omega), eqSessionS_eq k a3 b3 (by omega) (by omega), a_obind_some, a_cndS, a_notB, a_eqB, a_eqS]
  by_cases h1 : a1 = b1
  · by_cases h2 : a2 = b2
    · by_cases h3 : a3 = b3
      · by_cases h4 : a4 = b4 <;> by_cases h5 : a5 = b5 <;> simp [h1, h2, h3, h4, h5]
      · simp [h1, h2, h3]
    · simp [h1, h2]
  · simp [h1]
/-- bounds of Go's own kind -/
def StFit (s : Stt) : Prop := s.1.1.length ≤ 9223372036854775807 ∧ s.1.2.1.length ≤ 9223372036854775807 ∧ s.2.1.length ≤ 9223372036854775807 ∧ (∀ p ∈ s.2.1, p.1.length ≤ 9223372036854775807) ∧ s.2.2.1.length ≤ 9223372036854775807 ∧ s.2.2.2.2.1.length ≤ 9223372036854775807
theorem szPairS_ok (k : Nat) (xs : List Pair) (n : Int) (hn : 0 ≤ n) (hn1 : n ≤ 1048576) (hk : 2000000 ≤ k) (hl : xs.length ≤ 9223372036854775807) (hs : ∀ p ∈ xs, p.1.length ≤ 9223372036854775807) :
    Ok (laws_szPairS_t A k (xs, (n, ())) ()) (fun q => q.1.1 = -1 ∨ (0 ≤ q.1.1 ∧ q.1.1 ≤ n ∧ xs.length ≤ 1048576)) := by
  have w : A.wrapI .i64 (n - (xs.length : Int)) = n - (xs.length : Int) := a_wrap (by omega) (by omega)
  rw [laws_szPairS_t, ok_cndS]
  simp only [a_lenL, a_subI, w, a_ltI, decide_eq_true_eq, decide_eq_false_iff_not]
  refine ⟨fun _ => ok_some.2 (.inl rfl), fun h => ?_⟩
  refine (sz_loop (A := A) (f := laws_szPairS_t_b0 A k) xs (n - xs.length) (by omega) (by omega) (fun i m hi h0 h1 => ?_) (fun m => by simp [laws_szPairS_t_b0])).bind fun r hr => ?_
  · have he := hs xs[i] (List.getElem_mem hi)
    have w2 : A.wrapI .i64 (m - (xs[i].1.length : Int)) = m - (xs[i].1.length : Int) := a_wrap (by omega) (by omega)
    by_cases hm : m - (xs[i].1.length : Int) < 0
    · refine ⟨.inr (.inr ((-1, ()), ())), ?_, .inr rfl⟩
      simp (disch := omega) [laws_szPairS_t_b0, hi, a_wrap, laws_szPair_t, w2, hm]
    · refine ⟨.inl (xs, (m - (xs[i].1.length : Int), (((i + 1 : Nat) : Int), ()))), ?_, .inl ⟨_, rfl, by omega, by omega⟩⟩
      simp (disch := omega) [laws_szPairS_t_b0, hi, a_wrap, laws_szPair_t, w2, hm]
  · rcases hr with ⟨m, rfl, h0, h1⟩ | rfl
    · rw [a_sumE_inl]; exact ok_some.2 (.inr ⟨h0, by show m ≤ n; omega, by omega⟩)
    · rw [a_sumE_inr]; exact ok_some.2 (.inl rfl)
end
abbrev TItv : Ty := .prod .str (.prod .str .unit)
abbrev TPair : Ty := .prod .str (.prod (.int .i64) .unit)
abbrev TSes : Ty := .prod (.int .i64) (.prod (.int .i64) (.prod (.int .i64) .unit))
abbrev TStt : Ty := .prod TItv (.prod (.slice TPair) (.prod (.slice TSes) (.prod .bool (.prod .str .unit))))
theorem st_fit {s : TStt.val} (h : InR TStt s) : StFit s :=
  ⟨Nat.le_trans h.1.1 (by decide), Nat.le_trans h.1.2.1 (by decide), Nat.le_trans h.2.1.1 (by decide), fun p hp => Nat.le_trans (h.2.1.2 p hp).1 (by decide), Nat.le_trans h.2.2.1.1 (by decide), Nat.le_trans h.2.2.2.2.1 (by decide)⟩
end Go.Den.T

namespace Go.Den.T
set_option linter.unusedVariables false
set_option linter.unusedSimpArgs false
set_option linter.unusedSectionVars false
abbrev Ans := Ent × (Int × Unit)
abbrev Chn := Stt × (Cfg × (List Rep × (List Bool × (List Msg × (List Ans × Unit)))))
instance : DecidableEq Msg := inferInstanceAs (DecidableEq (Int × (Int × (Int × (Cfg × (List Ent × Unit))))))
instance : DecidableEq Stt := inferInstanceAs (DecidableEq (Itv × (List Pair × (List Ses × (Bool × (List UInt8 × Unit))))))
instance : DecidableEq Ans := inferInstanceAs (DecidableEq (Ent × (Int × Unit)))
instance decMsgAns : DecidableEq (List Msg × (List Ans × Unit)) := inferInstance
instance decReps : DecidableEq (List Rep × (List Bool × (List Msg × (List Ans × Unit)))) := inferInstance
instance decCfgs : DecidableEq (Cfg × (List Rep × (List Bool × (List Msg × (List Ans × Unit))))) := inferInstance
instance : DecidableEq Chn := inferInstanceAs (DecidableEq (Stt × (Cfg × (List Rep × (List Bool × (List Msg × (List Ans × Unit)))))))
abbrev ans0 : Ans := (ent0, (0, ()))
section
variable {A : Atoms} [IsReal A]
/-! ### sizes -/
theorem szState_ok2 (k : Nat) (s : Stt) (hk : 2000000 ≤ k) (hf : StFit s) : Ok (laws_szState_t A k (s, (1048576, ())) ()) (fun q => q.1.1 = -1 ∨ (0 ≤ q.1.1 ∧ q.1.1 ≤ 1048576 ∧ StShort s)) := by
  obtain ⟨f1, f2, f3, f4, f5, f6⟩ := hf
  have w1 : A.wrapI .i64 (1048576 - (s.1.1.length : Int)) = 1048576 - (s.1.1.length : Int) := a_wrap (by omega) (by omega)
  have hi : Ok (laws_szInterval_t A k (s.1, (1048576, ())) ()) (fun q => q.1.1 = -1 ∨ (0 ≤ q.1.1 ∧ q.1.1 ≤ 1048576)) := by
    rw [laws_szInterval_t, ok_cndS]
    simp only [a_lenL, a_subI, w1, a_ltI, decide_eq_true_eq, decide_eq_false_iff_not]
    refine ⟨fun _ => ok_some.2 (.inl rfl), fun h => ?_⟩
    have w2 : A.wrapI .i64 (1048576 - (s.1.1.length : Int) - (s.1.2.1.length : Int)) = 1048576 - (s.1.1.length : Int) - (s.1.2.1.length : Int) := a_wrap (by omega) (by omega)
    rw [ok_cndS]
    simp only [w2, decide_eq_true_eq, decide_eq_false_iff_not]
    exact ⟨fun _ => ok_some.2 (.inl rfl), fun h => ok_some.2 (.inr ⟨by show (0 : Int) ≤ 1048576 - (s.1.1.length : Int) - (s.1.2.1.length : Int); omega, by show (1048576 : Int) - (s.1.1.length : Int) - (s.1.2.1.length : Int) ≤ 1048576; omega⟩)⟩
  rw [laws_szState_t]
  refine hi.bind fun q hq => ?_
  rw [ok_cndS]
  simp only [a_ltI, decide_eq_true_eq, decide_eq_false_iff_not]
  refine ⟨fun _ => ok_some.2 (.inl rfl), fun h => ?_⟩
  have hq' : 0 ≤ q.1.1 ∧ q.1.1 ≤ 1048576 := hq.resolve_left (fun e => h (by omega))
  refine (szPairS_ok k s.2.1 q.1.1 hq'.1 hq'.2 hk f3 f4).bind fun q1 hq1 => ?_
  rw [ok_cndS]
  simp only [a_ltI, decide_eq_true_eq, decide_eq_false_iff_not]
  refine ⟨fun _ => ok_some.2 (.inl rfl), fun h1 => ?_⟩
  have hq1' : 0 ≤ q1.1.1 ∧ q1.1.1 ≤ q.1.1 ∧ s.2.1.length ≤ 1048576 := hq1.resolve_left (fun e => h1 (by omega))
  have w3 : A.wrapI .i64 (q1.1.1 - (s.2.2.1.length : Int)) = q1.1.1 - (s.2.2.1.length : Int) := a_wrap (by omega) (by omega)
  rw [laws_szSessionS_t]
  simp only [a_lenL, a_subI, w3, a_ltI]
  by_cases hs : q1.1.1 - (s.2.2.1.length : Int) < 0
  · simp [hs, ok_some]
  · have hsh : StShort s := ⟨hq1'.2.2, by omega⟩
    have w4 : A.wrapI .i64 (q1.1.1 - (s.2.2.1.length : Int) - (s.2.2.2.2.1.length : Int)) = q1.1.1 - (s.2.2.1.length : Int) - (s.2.2.2.2.1.length : Int) := a_wrap (by omega) (by omega)
    simp only [hs, a_cndS, decide_false, Bool.false_eq_true, if_false, a_obind_some, w4, decide_eq_true_eq]
    split
    · exact ok_some.2 (.inl rfl)
    · exact ok_some.2 (.inr ⟨by show (0 : Int) ≤ q1.1.1 - (s.2.2.1.length : Int) - (s.2.2.2.2.1.length : Int); omega, by show q1.1.1 - (s.2.2.1.length : Int) - (s.2.2.2.2.1.length : Int) ≤ 1048576; omega, hsh⟩)
/-- what of a replica is short enough -/
def RepZ (r : Rep) : Prop := r.1.2.1.length ≤ 1048576 ∧ r.2.2.1.length ≤ 1048576
def RepI (r : Rep) : Prop := r.1.2.1.length ≤ 9223372036854775807 ∧ r.2.2.1.length ≤ 9223372036854775807 ∧ ∀ e ∈ r.2.2.1, e.2.2.1.2.1.length ≤ 9223372036854775807
theorem szReplica_n (k : Nat) (r : Rep) (n : Int) (h0 : 0 ≤ n) (hn : n ≤ 1048576) (hk : 2000000 ≤ k) (hr : RepI r) :
    Ok (laws_szReplica_t A k (r, (n, ())) ()) (fun q => q.1.1 = -1 ∨ (0 ≤ q.1.1 ∧ q.1.1 ≤ n ∧ RepZ r)) := by
  obtain ⟨h1, hl, hs⟩ := hr
  rw [laws_szReplica_t, szConfig_eq k r.1 n (by omega) (by omega) h1, a_obind_some, ok_cndS]
  simp only [a_ltI, decide_eq_true_eq, decide_eq_false_iff_not]
  refine ⟨fun _ => ok_some.2 (.inl rfl), fun h => ?_⟩
  by_cases hc : n < r.1.2.1.length
  · rw [if_pos hc] at h; omega
  rw [if_neg hc] at h ⊢
  refine (szEntryS_ok k r.2.2.1 _ (by omega) (by omega) hk hl hs).bind fun q hq => ?_
  rw [ok_cndS]
  simp only [a_ltI, decide_eq_true_eq, decide_eq_false_iff_not]
  refine ⟨fun _ => ok_some.2 (.inl rfl), fun hh => ok_some.2 (.inr ?_)⟩
  rcases hq with hq | hq
  · omega
  · exact ⟨hq.1, by show q.1.1 ≤ n; omega, by omega, hq.2.2⟩
theorem szReplicaS_ok (k : Nat) (xs : List Rep) (n : Int) (h0 : 0 ≤ n) (hn : n ≤ 1048576) (hk : 2000000 ≤ k) (hl : xs.length ≤ 9223372036854775807) (hm : ∀ m ∈ xs, RepI m) :
    Ok (laws_szReplicaS_t A k (xs, (n, ())) ()) (fun q => q.1.1 = -1 ∨ (0 ≤ q.1.1 ∧ q.1.1 ≤ n ∧ xs.length ≤ 1048576 ∧ ∀ m ∈ xs, RepZ m)) := by
  have w : A.wrapI .i64 (n - (xs.length : Int)) = n - (xs.length : Int) := a_wrap (by omega) (by omega)
  rw [laws_szReplicaS_t, ok_cndS]
  simp only [a_lenL, a_subI, w, a_ltI, decide_eq_true_eq, decide_eq_false_iff_not]
  refine ⟨fun _ => ok_some.2 (.inl rfl), fun h => ?_⟩
  refine (sz_loopP (A := A) RepZ (f := laws_szReplicaS_t_b0 A k) xs (n - xs.length) (by omega) (by omega) (fun i m hi g0 g1 => ?_) (fun m => by simp [laws_szReplicaS_t_b0])).bind fun r hr => ?_
  · have g := szReplica_n (A := A) k xs[i] m g0 (by omega) hk (hm _ (List.getElem_mem hi))
    have w2 : A.wrapI .i64 ((i : Int) + 1) = ((i + 1 : Nat) : Int) := by rw [a_wrap (by omega) (by omega)]; rfl
    have hi' : (i : Int) < (xs.length : Int) := by omega
    have ha : A.atL xs (i : Int) rep0 = xs[i] := by rw [a_atL]; simp [hi]
    simp only [laws_szReplicaS_t_b0, a_cndS, a_ltI, a_lenL, hi', decide_true, if_true, a_le0, Int.natCast_nonneg, a_andB, Bool.and_self, ha, a_addI, w2]
    refine g.bind fun q hq => ?_
    rcases hq with hq | ⟨q0, q1, q2⟩
    · have : q.1.1 < 0 := by omega
      simp only [this, decide_true, if_true]
      exact ok_some.2 (.inr rfl)
    · have : ¬ q.1.1 < 0 := by omega
      simp only [this, decide_false, Bool.false_eq_true, if_false]
      exact ok_some.2 (.inl ⟨_, rfl, q0, q1, q2⟩)
  · rcases hr with ⟨m, rfl, g0, g1, g2⟩ | rfl
    · rw [a_sumE_inl]; exact ok_some.2 (.inr ⟨g0, by show m ≤ n; omega, by omega, g2⟩)
    · rw [a_sumE_inr]; exact ok_some.2 (.inl rfl)
theorem szAnswerS_ok (k : Nat) (xs : List Ans) (n : Int) (h0 : 0 ≤ n) (hn : n ≤ 1048576) (hk : 2000000 ≤ k) (hl : xs.length ≤ 9223372036854775807) (hm : ∀ m ∈ xs, m.1.2.2.1.2.1.length ≤ 9223372036854775807) :
    Ok (laws_szAnswerS_t A k (xs, (n, ())) ()) (fun q => q.1.1 = -1 ∨ (0 ≤ q.1.1 ∧ q.1.1 ≤ n ∧ xs.length ≤ 1048576)) := by
  have w : A.wrapI .i64 (n - (xs.length : Int)) = n - (xs.length : Int) := a_wrap (by omega) (by omega)
  rw [laws_szAnswerS_t, ok_cndS]
  simp only [a_lenL, a_subI, w, a_ltI, decide_eq_true_eq, decide_eq_false_iff_not]
  refine ⟨fun _ => ok_some.2 (.inl rfl), fun h => ?_⟩
  refine (sz_loopP (A := A) (fun _ => True) (f := laws_szAnswerS_t_b0 A k) xs (n - xs.length) (by omega) (by omega) (fun i m hi g0 g1 => ?_) (fun m => by simp [laws_szAnswerS_t_b0])).bind fun r hr => ?_
  · have g := szEntry_eq (A := A) k xs[i].1 m g0 (by omega) (hm _ (List.getElem_mem hi))
    have w2 : A.wrapI .i64 ((i : Int) + 1) = ((i + 1 : Nat) : Int) := by rw [a_wrap (by omega) (by omega)]; rfl
    have hi' : (i : Int) < (xs.length : Int) := by omega
    have ha : A.atL xs (i : Int) ans0 = xs[i] := by rw [a_atL]; simp [hi]
    simp only [laws_szAnswerS_t_b0, a_cndS, a_ltI, a_lenL, hi', decide_true, if_true, a_le0, Int.natCast_nonneg, a_andB, Bool.and_self, ha, a_addI, w2, laws_szAnswer_t, g, a_obind_some, szOf]
    by_cases hh : m < (xs[i].1.2.2.1.2.1.length : Int)
    · have e1 : (-1 : Int) < 0 := by omega
      simp only [hh, if_true, e1, decide_true, a_obind_some]
      exact ok_some.2 (.inr rfl)
    · have e1 : ¬ m - (xs[i].1.2.2.1.2.1.length : Int) < 0 := by omega
      simp only [hh, if_false, e1, decide_false, Bool.false_eq_true, a_obind_some]
      exact ok_some.2 (.inl ⟨_, rfl, by omega, by omega, trivial⟩)
  · rcases hr with ⟨m, rfl, g0, g1, g2⟩ | rfl
    · rw [a_sumE_inl]; exact ok_some.2 (.inr ⟨g0, by show m ≤ n; omega, by omega⟩)
    · rw [a_sumE_inr]; exact ok_some.2 (.inl rfl)
def ChnI (c : Chn) : Prop := StFit c.1 ∧ c.2.1.2.1.length ≤ 9223372036854775807 ∧ (c.2.2.1.length ≤ 9223372036854775807 ∧ ∀ r ∈ c.2.2.1, RepI r) ∧ c.2.2.2.1.length ≤ 9223372036854775807 ∧ (c.2.2.2.2.1.length ≤ 9223372036854775807 ∧ ∀ m ∈ c.2.2.2.2.1, MsgI m) ∧
  c.2.2.2.2.2.1.length ≤ 9223372036854775807 ∧ ∀ m ∈ c.2.2.2.2.2.1, m.1.2.2.1.2.1.length ≤ 9223372036854775807
def ChnZ (c : Chn) : Prop := StShort c.1 ∧ c.2.1.2.1.length ≤ 1048576 ∧ (c.2.2.1.length ≤ 1048576 ∧ ∀ r ∈ c.2.2.1, RepZ r) ∧ c.2.2.2.1.length ≤ 1048576 ∧ (c.2.2.2.2.1.length ≤ 1048576 ∧ ∀ m ∈ c.2.2.2.2.1, MsgZ m) ∧ c.2.2.2.2.2.1.length ≤ 1048576
theorem szChain_ok (k : Nat) (c : Chn) (hk : 2000000 ≤ k) (hc : ChnI c) : Ok (laws_szChain_t A k (c, (1048576, ())) ()) (fun q => q.1.1 < 0 ∨ ChnZ c) := by
  obtain ⟨h1, h2, ⟨h3, h3'⟩, h4, ⟨h5, h5'⟩, h6, h6'⟩ := hc
  have neg : (-1 : Int) < 0 := by omega
  rw [laws_szChain_t]
  refine (szState_ok2 k c.1 hk h1).bind fun q hq => ?_
  rw [ok_cndS]
  simp only [a_ltI, decide_eq_true_eq, decide_eq_false_iff_not]
  refine ⟨fun _ => ok_some.2 (.inl neg), fun hn => ?_⟩
  obtain ⟨a0, a1, a2⟩ := hq.resolve_left (fun e => hn (by omega))
  rw [szConfig_eq k c.2.1 _ (by omega) (by omega) h2, a_obind_some, ok_cndS]
  simp only [decide_eq_true_eq, decide_eq_false_iff_not]
  refine ⟨fun _ => ok_some.2 (.inl neg), fun hn => ?_⟩
  by_cases hh : q.1.1 < (c.2.1.2.1.length : Int)
  · rw [if_pos hh] at hn; omega
  rw [if_neg hh] at hn ⊢
  refine (szReplicaS_ok k c.2.2.1 _ (by omega) (by omega) hk h3 h3').bind fun q1 hq1 => ?_
  rw [ok_cndS]
  simp only [decide_eq_true_eq, decide_eq_false_iff_not]
  refine ⟨fun _ => ok_some.2 (.inl neg), fun hn => ?_⟩
  obtain ⟨b0, b1, b2, b3⟩ := hq1.resolve_left (fun e => hn (by omega))
  have w : A.wrapI .i64 (q1.1.1 - (c.2.2.2.1.length : Int)) = q1.1.1 - (c.2.2.2.1.length : Int) := a_wrap (by omega) (by omega)
  rw [laws_szBoolS_t]
  simp only [a_lenL, a_subI, w, a_ltI]
  by_cases hu : q1.1.1 - (c.2.2.2.1.length : Int) < 0
  · simp [hu, ok_some]
  simp only [hu, a_cndS, decide_false, Bool.false_eq_true, if_false, a_obind_some]
  refine (szMessageS_ok k c.2.2.2.2.1 _ (by omega) (by omega) hk h5 h5').bind fun q2 hq2 => ?_
  by_cases hn2 : q2.1.1 < 0
  · simp only [hn2, decide_true, if_true]; exact ok_some.2 (.inl neg)
  simp only [hn2, decide_false, Bool.false_eq_true, if_false]
  obtain ⟨c0, c1, c2, c3⟩ := hq2.resolve_left (fun e => hn2 (by omega))
  refine (szAnswerS_ok k c.2.2.2.2.2.1 _ c0 (by omega) hk h6 h6').bind fun q3 hq3 => ?_
  by_cases hn3 : q3.1.1 < 0
  · simp only [hn3, decide_true, if_true]; exact ok_some.2 (.inl neg)
  simp only [hn3, decide_false, Bool.false_eq_true, if_false]
  obtain ⟨d0, d1, d2⟩ := hq3.resolve_left (fun e => hn3 (by omega))
  exact ok_some.2 (.inr ⟨a2, by omega, ⟨b2, b3⟩, by omega, ⟨c2, c3⟩, d2⟩)
/-! ### copies and comparisons -/
theorem toReplicaS_eq (k : Nat) (xs : List Rep) (hk : 2000000 ≤ k) (hl : xs.length ≤ 1048576) (hz : ∀ m ∈ xs, RepZ m) : laws_toReplicaS_t A k (xs, ()) () = some ((xs, ()), ()) := by
  have h := to_loop (A := A) (k := k) (f := laws_toReplicaS_t_b0 A k) rep0 xs (by omega)
    (fun i ys hi hy => by
      have hi' : i < ys.length := by omega
      have hm := hz xs[i] (List.getElem_mem hi)
      simp (disch := omega) [laws_toReplicaS_t_b0, hi, hi', hy, a_wrap, toReplica_eq k xs[i] hk hm.1 hm.2])
    (fun ys hy => by simp [laws_toReplicaS_t_b0])
  have h1 : (xs.length : Int) < 4294967296 := by omega
  simp [laws_toReplicaS_t, h1, h]
theorem eqReplicaS_eq (k : Nat) (xs ys : List Rep) (hk : 2000000 ≤ k) (hl : xs.length ≤ 1048576) (hz : ∀ m ∈ xs, RepZ m) : laws_eqReplicaS_t A k (xs, (ys, ())) () = some ((decide (xs = ys), ()), ()) := by
  by_cases he : xs.length = ys.length
  · have h := eq_loop (A := A) (k := k) (f := laws_eqReplicaS_t_b0 A k) rep0 xs ys (by omega) he
      (fun i hi => by
        have hi' : i < ys.length := by omega
        have hm := hz xs[i] (List.getElem_mem hi)
        simp (disch := omega) [laws_eqReplicaS_t_b0, hi, hi', a_wrap, eqReplica_eq k xs[i] ys[i] hk hm.1 hm.2]
        by_cases hv : xs[i] = ys[i] <;> simp [hv])
      (by simp [laws_eqReplicaS_t_b0])
    simp only [laws_eqReplicaS_t, a_lenL, he, a_eqI, decide_true, a_notB, Bool.not_true, a_cndS, Bool.false_eq_true, if_false, h]
    by_cases hv : xs = ys <;> simp [hv]
  · have h2 : ¬ (xs.length : Int) = ys.length := by omega
    have h3 : ¬ xs = ys := fun e => he (by rw [e])
    simp [laws_eqReplicaS_t, h2, h3]
theorem toBoolS_eq (k : Nat) (xs : List Bool) (hk : 2000000 ≤ k) (hl : xs.length ≤ 1048576) : laws_toBoolS_t A k (xs, ()) () = some ((xs, ()), ()) := by
  have h := to_loop (A := A) (k := k) (f := laws_toBoolS_t_b0 A k) false xs (by omega)
    (fun i ys hi hy => by
      have hi' : i < ys.length := by omega
      simp (disch := omega) [laws_toBoolS_t_b0, hi, hi', hy, a_wrap])
    (fun ys hy => by simp [laws_toBoolS_t_b0])
  have h1 : (xs.length : Int) < 4294967296 := by omega
  simp [laws_toBoolS_t, h1, h]
theorem eqBoolS_eq (k : Nat) (xs ys : List Bool) (hk : 2000000 ≤ k) (hl : xs.length ≤ 1048576) : laws_eqBoolS_t A k (xs, (ys, ())) () = some ((decide (xs = ys), ()), ()) := by
  by_cases he : xs.length = ys.length
  · have h := eq_loop (A := A) (k := k) (f := laws_eqBoolS_t_b0 A k) false xs ys (by omega) he
      (fun i hi => by
        have hi' : i < ys.length := by omega
        simp (disch := omega) [laws_eqBoolS_t_b0, hi, hi', a_wrap]
        by_cases hv : xs[i] = ys[i] <;> simp [hv])
      (by simp [laws_eqBoolS_t_b0])
    simp only [laws_eqBoolS_t, a_lenL, he, a_eqI, decide_true, a_notB, Bool.not_true, a_cndS, Bool.false_eq_true, if_false, h]
    by_cases hv : xs = ys <;> simp [hv]
  · have h2 : ¬ (xs.length : Int) = ys.length := by omega
    have h3 : ¬ xs = ys := fun e => he (by rw [e])
    simp [laws_eqBoolS_t, h2, h3]
theorem toAnswerS_eq (k : Nat) (xs : List Ans) (hk : 2000000 ≤ k) (hl : xs.length ≤ 1048576) : laws_toAnswerS_t A k (xs, ()) () = some ((xs, ()), ()) := by
  have h := to_loop (A := A) (k := k) (f := laws_toAnswerS_t_b0 A k) ans0 xs (by omega)
    (fun i ys hi hy => by
      have hi' : i < ys.length := by omega
      simp (disch := omega) [laws_toAnswerS_t_b0, hi, hi', hy, a_wrap, laws_toAnswer_t, toEntry_eq])
    (fun ys hy => by simp [laws_toAnswerS_t_b0])
  have h1 : (xs.length : Int) < 4294967296 := by omega
  simp [laws_toAnswerS_t, h1, h]
theorem eqAnswer_eq (k : Nat) (c d : Ans) : laws_eqAnswer_t A k (c, (d, ())) () = some ((decide (c = d), ()), ()) := by
  obtain ⟨a1, a2, _⟩ := c
  obtain ⟨b1, b2, _⟩ := d
  simp only [laws_eqAnswer_t, eqEntry_eq, a_obind_some, a_cndS, a_notB, a_eqI]
  by_cases h1 : a1 = b1
  · by_cases h2 : a2 = b2 <;> simp [h1, h2]
  · simp [h1]
theorem eqAnswerS_eq (k : Nat) (xs ys : List Ans) (hk : 2000000 ≤ k) (hl : xs.length ≤ 1048576) : laws_eqAnswerS_t A k (xs, (ys, ())) () = some ((decide (xs = ys), ()), ()) := by
  by_cases he : xs.length = ys.length
  · have h := eq_loop (A := A) (k := k) (f := laws_eqAnswerS_t_b0 A k) ans0 xs ys (by omega) he
      (fun i hi => by
        have hi' : i < ys.length := by omega
        simp (disch := omega) [laws_eqAnswerS_t_b0, hi, hi', a_wrap, eqAnswer_eq]
        by_cases hv : xs[i] = ys[i] <;> simp [hv])
      (by simp [laws_eqAnswerS_t_b0])
    simp only [laws_eqAnswerS_t, a_lenL, he, a_eqI, decide_true, a_notB, Bool.not_true, a_cndS, Bool.false_eq_true, if_false, h]
    by_cases hv : xs = ys <;> simp [hv]
  · have h2 : ¬ (xs.length : Int) = ys.length := by omega
    have h3 : ¬ xs = ys := fun e => he (by rw [e])
    simp [laws_eqAnswerS_t, h2, h3]
theorem toChain_eq (k : Nat) (c : Chn) (hk : 2000000 ≤ k) (hz : ChnZ c) : laws_toChain_t A k (c, ()) () = some ((c, ()), ()) := by
  obtain ⟨h1, h2, h3, h4, h5, h6⟩ := hz
  simp only [laws_toChain_t, toState_eq k hk c.1 h1, toConfig_eq k c.2.1 (by omega) (by omega), toReplicaS_eq k c.2.2.1 hk h3.1 h3.2, toBoolS_eq k c.2.2.2.1 hk h4, toMessageS_eq k c.2.2.2.2.1 hk h5.1 h5.2, toAnswerS_eq k c.2.2.2.2.2.1 hk h6, a_obind_some]
theorem eqChain_eq (k : Nat) (c d : Chn) (hk : 2000000 ≤ k) (hz : ChnZ c) : laws_eqChain_t A k (c, (d, ())) () = some ((decide (c = d), ()), ()) := by
  obtain ⟨h1, h2, h3, h4, h5, h6⟩ := hz
  obtain ⟨a1, a2, a3, a4, a5, a6, _⟩ := c
  obtain ⟨b1, b2, b3, b4, b5, b6, _⟩ := d
  simp only at h1 h2 h3 h4 h5 h6
  simp only [laws_eqChain_t, eqState_eq k hk a1 b1 h1, eqConfig_eq k a2 b2 (by omega) (by omega), eqReplicaS_eq k a3 b3 hk h3.1 h3.2, eqBoolS_eq k a4 b4 hk h4, eqMessageS_eq k a5 b5 hk h5.1 h5.2, eqAnswerS_eq k a6 b6 hk h6, a_obind_some, a_cndS, a_notB]
  by_cases e1 : a1 = b1
  · by_cases e2 : a2 = b2
    · by_cases e3 : a3 = b3
      · by_cases e4 : a4 = b4
        · by_cases e5 : a5 = b5
          · by_cases e6 : a6 = b6 <;> simp [e1, e2, e3, e4, e5, e6]
          · simp [e1, e2, e3, e4, e5]
        · simp [e1, e2, e3, e4]
      · simp [e1, e2, e3]
    · simp [e1, e2]
  · simp [e1]
/-! ### valid chains -/
def ansOk (a : Ans) : Bool := entOk a.1 && decide (-4 ≤ a.2.1 ∧ a.2.1 ≤ 999)
def chnOk (c : Chn) : Bool := stOk c.1 && (cfgOk c.2.1 && (decide (c.2.2.1.length = 5) && (decide (c.2.2.2.1.length = 5) && (bagOk c.2.2.2.2.1 && (decide (c.2.2.2.2.2.1.length ≤ 24) &&
  (c.2.2.1.all (fun r => repOk r && decide (r.1.1 ≤ c.2.1.1)) && (c.2.2.2.2.1.all (fun m => decide (m.2.2.1 ≤ c.2.1.1)) && c.2.2.2.2.2.1.all ansOk)))))))
theorem spec_ChainValid_eq (k : Nat) (hk : 2000000 ≤ k) (c : Chn) (hs : StShort c.1) : spec_ChainValid_t A k (c, ()) () = some ((chnOk c, ()), ()) := by
  have hs2 := hs.2
  simp only [spec_ChainValid_t, spec_StateValid_eq k (by omega) c.1 (by omega) (by omega), spec_ConfigValid_eq k (by omega) c.2.1, spec_BagValid_eq k (by omega) c.2.2.2.2.1, a_obind_some, a_cndS, a_notB, a_eqI, a_lenL, a_ltI, chnOk]
  rcases Bool.eq_false_or_eq_true (stOk c.1) with g1 | g1
  case inr => simp [g1]
  rcases Bool.eq_false_or_eq_true (cfgOk c.2.1) with g2 | g2
  case inr => simp [g1, g2]
  by_cases g3 : c.2.2.1.length = 5
  case neg =>
    have : ¬ (c.2.2.1.length : Int) = 5 := by omega
    simp [g1, g2, g3, this]
  by_cases g4 : c.2.2.2.1.length = 5
  case neg =>
    have : ¬ (c.2.2.2.1.length : Int) = 5 := by omega
    simp [g1, g2, g3, g4, this]
  rcases Bool.eq_false_or_eq_true (bagOk c.2.2.2.2.1) with g5 | g5
  case inr => simp [g1, g2, g3, g4, g5]
  by_cases g6 : c.2.2.2.2.2.1.length ≤ 24
  case neg =>
    have : (24 : Int) < (c.2.2.2.2.2.1.length : Int) := by omega
    simp [g1, g2, g3, g4, g5, g6, this]
  have g3' : (c.2.2.1.length : Int) = 5 := by omega
  have g4' : (c.2.2.2.1.length : Int) = 5 := by omega
  have g6' : ¬ (24 : Int) < (c.2.2.2.2.2.1.length : Int) := by omega
  have hb : c.2.2.2.2.1.length ≤ 10 := by simp [bagOk] at g5; exact g5.1
  have l0 := iter_all (A := A) (f := spec_ChainValid_t_b0 A k) (fun i => ((i : Int), (c, ()))) c.2.2.1.length (fun i => repOk (c.2.2.1.getD i rep0) && decide ((c.2.2.1.getD i rep0).1.1 ≤ c.2.1.1)) (.inr ((false, ()), ())) (.inl (c, ()))
    (fun i hi => by
      have i5 : (i : Int) < 5 := by omega
      have w : A.wrapI .i64 ((i : Int) + 1) = ((i + 1 : Nat) : Int) := by rw [a_wrap (by omega) (by omega)]; rfl
      have ha : A.atL c.2.2.1 (i : Int) rep0 = c.2.2.1.getD i rep0 := by rw [a_atL]; rfl
      simp only [spec_ChainValid_t_b0, a_cndS, a_ltI, i5, decide_true, if_true, a_lenL, g3', a_le0, Int.natCast_nonneg, a_andB, Bool.and_self, ha, spec_ReplicaValid_eq k (by omega), a_obind_some, a_notB, a_addI, w]
      generalize c.2.2.1.getD i rep0 = r
      rcases Bool.eq_false_or_eq_true (repOk r) with v | v
      · by_cases u : r.1.1 ≤ c.2.1.1
        · have : ¬ c.2.1.1 < r.1.1 := by omega
          simp [v, u, this]
        · have : c.2.1.1 < r.1.1 := by omega
          simp [v, u, this]
      · simp [v])
    (by rw [g3]; simp [spec_ChainValid_t_b0]) (k := k) (by omega)
  have l1 := iter_all (A := A) (f := spec_ChainValid_t_b1 A k) (fun i => ((i : Int), (c, ()))) c.2.2.2.2.1.length (fun i => decide ((c.2.2.2.2.1.getD i msg0).2.2.1 ≤ c.2.1.1)) (.inr ((false, ()), ())) (.inl (c, ()))
    (fun i hi => by
      have i5 : (i : Int) < (c.2.2.2.2.1.length : Int) := by omega
      have w : A.wrapI .i64 ((i : Int) + 1) = ((i + 1 : Nat) : Int) := by rw [a_wrap (by omega) (by omega)]; rfl
      have ha : A.atL c.2.2.2.2.1 (i : Int) msg0 = c.2.2.2.2.1.getD i msg0 := by rw [a_atL]; rfl
      simp only [spec_ChainValid_t_b1, a_cndS, a_ltI, i5, decide_true, if_true, a_lenL, a_le0, Int.natCast_nonneg, a_andB, Bool.and_self, ha, a_addI, w]
      generalize c.2.2.2.2.1.getD i msg0 = r
      by_cases u : r.2.2.1 ≤ c.2.1.1
      · have : ¬ c.2.1.1 < r.2.2.1 := by omega
        simp [u, this]
      · have : c.2.1.1 < r.2.2.1 := by omega
        simp [u, this])
    (by simp [spec_ChainValid_t_b1]) (k := k) (by omega)
  have l2 := iter_all (A := A) (f := spec_ChainValid_t_b2 A k) (fun i => ((i : Int), (c, ()))) c.2.2.2.2.2.1.length (fun i => ansOk (c.2.2.2.2.2.1.getD i ans0)) (.inr ((false, ()), ())) (.inl ())
    (fun i hi => by
      have i5 : (i : Int) < (c.2.2.2.2.2.1.length : Int) := by omega
      have w : A.wrapI .i64 ((i : Int) + 1) = ((i + 1 : Nat) : Int) := by rw [a_wrap (by omega) (by omega)]; rfl
      have ha : A.atL c.2.2.2.2.2.1 (i : Int) ans0 = c.2.2.2.2.2.1.getD i ans0 := by rw [a_atL]; rfl
      simp only [spec_ChainValid_t_b2, a_cndS, a_ltI, i5, decide_true, if_true, a_lenL, a_le0, Int.natCast_nonneg, a_andB, Bool.and_self, ha, a_addI, w, spec_EntryValid_eq k (by omega), l1In_eq, a_obind_some, a_notB]
      generalize c.2.2.2.2.2.1.getD i ans0 = r
      rcases Bool.eq_false_or_eq_true (entOk r.1) with v | v
      · by_cases u : -4 ≤ r.2.1 ∧ r.2.1 ≤ 999 <;> simp [ansOk, v, u]
      · simp [ansOk, v])
    (by simp [spec_ChainValid_t_b2]) (k := k) (by omega)
  rw [all_range (q := fun r : Rep => repOk r && decide (r.1.1 ≤ c.2.1.1))] at l0
  rw [all_range (q := fun m : Msg => decide (m.2.2.1 ≤ c.2.1.1))] at l1
  rw [all_range (q := ansOk)] at l2
  simp only [Int.natCast_zero, Int.ofNat_zero] at l0 l1 l2
  have e5 : ((5 : Nat) : Int) = 5 := rfl
  simp only [g1, g2, g3', g4', g5, g6', g3, g4, g6, e5, decide_true, decide_false, Bool.not_true, Bool.false_eq_true, if_false, a_sumE_inl, l0, a_obind_some, Bool.true_and]
  cases c.2.2.1.all (fun r => repOk r && decide (r.1.1 ≤ c.2.1.1)) with
  | false => simp
  | true =>
    simp only [if_true, a_sumE_inl, l1, a_obind_some, Bool.true_and]
    cases c.2.2.2.2.1.all (fun m => decide (m.2.2.1 ≤ c.2.1.1)) with
    | false => simp
    | true =>
      simp only [if_true, a_sumE_inl, l2, a_obind_some, Bool.true_and]
      cases c.2.2.2.2.2.1.all ansOk <;> simp
theorem answersValid_eq (k : Nat) (hk : 2000000 ≤ k) (l : List Ans) : impl_answersValid_t A k (l, ()) () = some (((decide (l.length ≤ 24) && l.all ansOk), ()), ()) := by
  rw [impl_answersValid_t]
  by_cases g6 : l.length ≤ 24
  case neg =>
    have : (24 : Int) < (l.length : Int) := by omega
    simp [g6, this]
  have g6' : ¬ (24 : Int) < (l.length : Int) := by omega
  have l2 := iter_all (A := A) (f := impl_answersValid_t_b0 A k) (fun i => (l, ((l.length : Int), ((i : Int), ())))) l.length (fun i => ansOk (l.getD i ans0)) (.inr ((false, ()), ())) (.inl ())
    (fun i hi => by
      have i5 : (i : Int) < (l.length : Int) := by omega
      have w : A.wrapI .i64 ((i : Int) + 1) = ((i + 1 : Nat) : Int) := by rw [a_wrap (by omega) (by omega)]; rfl
      have ha : A.atL l (i : Int) ans0 = l.getD i ans0 := by rw [a_atL]; rfl
      simp only [impl_answersValid_t_b0, a_cndS, a_ltI, i5, decide_true, if_true, a_lenL, a_le0, Int.natCast_nonneg, a_andB, Bool.and_self, ha, a_addI, w, impl_EntryValid_eq k (by omega), a_obind_some, a_notB]
      generalize l.getD i ans0 = r
      rcases Bool.eq_false_or_eq_true (entOk r.1) with v | v
      · by_cases u1 : r.2.1 < -4
        · have : ¬ (-4 ≤ r.2.1 ∧ r.2.1 ≤ 999) := by omega
          simp [ansOk, v, u1, this]
        · by_cases u2 : 999 < r.2.1
          · have : ¬ (-4 ≤ r.2.1 ∧ r.2.1 ≤ 999) := by omega
            simp [ansOk, v, u1, u2, this]
          · have : -4 ≤ r.2.1 ∧ r.2.1 ≤ 999 := by omega
            simp [ansOk, v, u1, u2, this]
      · simp [ansOk, v])
    (by simp [impl_answersValid_t_b0]) (k := k) (by omega)
  rw [all_range (q := ansOk)] at l2
  simp only [Int.natCast_zero, Int.ofNat_zero] at l2
  simp only [a_cndS, a_ltI, a_lenL, g6', decide_false, Bool.false_eq_true, if_false, l2, a_obind_some, g6, decide_true, Bool.true_and]
  cases l.all ansOk <;> simp
theorem impl_ChainValid_eq (k : Nat) (hk : 2000000 ≤ k) (c : Chn) (hs : StShort c.1) : impl_ChainValid_t A k (c, ()) () = some ((chnOk c, ()), ()) := by
  have hs2 := hs.2
  simp only [impl_ChainValid_t, impl_StateValid_eq k (by omega) c.1 (by omega) (by omega), impl_ConfigValid_eq k (by omega) c.2.1, impl_BagValid_eq k (by omega) c.2.2.2.2.1, a_obind_some, a_cndS, a_notB, a_eqI, a_lenL, chnOk]
  rcases Bool.eq_false_or_eq_true (stOk c.1) with g1 | g1
  case inr => simp [g1]
  rcases Bool.eq_false_or_eq_true (cfgOk c.2.1) with g2 | g2
  case inr => simp [g1, g2]
  by_cases g3 : c.2.2.1.length = 5
  case neg =>
    have : ¬ (c.2.2.1.length : Int) = 5 := by omega
    simp [g1, g2, g3, this]
  by_cases g4 : c.2.2.2.1.length = 5
  case neg =>
    have : ¬ (c.2.2.2.1.length : Int) = 5 := by omega
    simp [g1, g2, g3, g4, this]
  rcases Bool.eq_false_or_eq_true (bagOk c.2.2.2.2.1) with g5 | g5
  case inr => simp [g1, g2, g3, g4, g5]
  have g3' : (c.2.2.1.length : Int) = 5 := by omega
  have g4' : (c.2.2.2.1.length : Int) = 5 := by omega
  have hb : c.2.2.2.2.1.length ≤ 10 := by simp [bagOk] at g5; exact g5.1
  have l0 := iter_all (A := A) (f := impl_ChainValid_t_b0 A k) (fun i => (c.2.2.1, (((c.2.2.1.length : Nat) : Int), ((i : Int), (c, ()))))) c.2.2.1.length (fun i => repOk (c.2.2.1.getD i rep0) && decide ((c.2.2.1.getD i rep0).1.1 ≤ c.2.1.1)) (.inr ((false, ()), ())) (.inl (c, ()))
    (fun i hi => by
      have i5 : (i : Int) < (c.2.2.1.length : Int) := by omega
      have w : A.wrapI .i64 ((i : Int) + 1) = ((i + 1 : Nat) : Int) := by rw [a_wrap (by omega) (by omega)]; rfl
      have ha : A.atL c.2.2.1 (i : Int) rep0 = c.2.2.1.getD i rep0 := by rw [a_atL]; rfl
      simp only [impl_ChainValid_t_b0, a_cndS, a_ltI, i5, decide_true, if_true, a_lenL, a_le0, Int.natCast_nonneg, a_andB, Bool.and_self, ha, impl_ReplicaValid_eq k (by omega), a_obind_some, a_notB, a_addI, w]
      generalize c.2.2.1.getD i rep0 = r
      rcases Bool.eq_false_or_eq_true (repOk r) with v | v
      · by_cases u : r.1.1 ≤ c.2.1.1
        · have : ¬ c.2.1.1 < r.1.1 := by omega
          simp [v, u, this]
        · have : c.2.1.1 < r.1.1 := by omega
          simp [v, u, this]
      · simp [v])
    (by simp [impl_ChainValid_t_b0]) (k := k) (by omega)
  have l1 := iter_all (A := A) (f := impl_ChainValid_t_b1 A k) (fun i => (c.2.2.2.2.1, (((c.2.2.2.2.1.length : Nat) : Int), ((i : Int), (c, ()))))) c.2.2.2.2.1.length (fun i => decide ((c.2.2.2.2.1.getD i msg0).2.2.1 ≤ c.2.1.1)) (.inr ((false, ()), ())) (.inl (c, ()))
    (fun i hi => by
      have i5 : (i : Int) < (c.2.2.2.2.1.length : Int) := by omega
      have w : A.wrapI .i64 ((i : Int) + 1) = ((i + 1 : Nat) : Int) := by rw [a_wrap (by omega) (by omega)]; rfl
      have ha : A.atL c.2.2.2.2.1 (i : Int) msg0 = c.2.2.2.2.1.getD i msg0 := by rw [a_atL]; rfl
      simp only [impl_ChainValid_t_b1, a_cndS, a_ltI, i5, decide_true, if_true, a_lenL, a_le0, Int.natCast_nonneg, a_andB, Bool.and_self, ha, a_addI, w]
      generalize c.2.2.2.2.1.getD i msg0 = r
      by_cases u : r.2.2.1 ≤ c.2.1.1
      · have : ¬ c.2.1.1 < r.2.2.1 := by omega
        simp [u, this]
      · have : c.2.1.1 < r.2.2.1 := by omega
        simp [u, this])
    (by simp [impl_ChainValid_t_b1]) (k := k) (by omega)
  rw [all_range (q := fun r : Rep => repOk r && decide (r.1.1 ≤ c.2.1.1))] at l0
  rw [all_range (q := fun m : Msg => decide (m.2.2.1 ≤ c.2.1.1))] at l1
  simp only [Int.natCast_zero, Int.ofNat_zero] at l0 l1
  have e5 : ((5 : Nat) : Int) = 5 := rfl
  simp only [g1, g2, g3', g4', g5, g3, g4, e5, decide_true, decide_false, Bool.not_true, Bool.false_eq_true, if_false, a_sumE_inl, a_obind_some, Bool.true_and]
  rw [g3, e5] at l0
  simp only [l0, a_obind_some]
  cases c.2.2.1.all (fun r => repOk r && decide (r.1.1 ≤ c.2.1.1)) with
  | false => simp
  | true =>
    simp only [if_true, a_sumE_inl, l1, a_obind_some, Bool.true_and]
    cases c.2.2.2.2.1.all (fun m => decide (m.2.2.1 ≤ c.2.1.1)) with
    | false => simp
    | true => simp only [if_true, a_sumE_inl, answersValid_eq k hk, a_obind_some, Bool.true_and]
end
abbrev TAns : Ty := .prod TEnt (.prod (.int .i64) .unit)
abbrev TChn : Ty := .prod TStt (.prod TCfg' (.prod (.slice TRep) (.prod (.slice .bool) (.prod (.slice TMsg) (.prod (.slice TAns) .unit)))))
theorem repI_of {m : TRep.val} (h : InR TRep m) : RepI m := ⟨Nat.le_trans h.1.2.1.1 (by decide), Nat.le_trans h.2.2.1.1 (by decide), keys_of h.2.2.1⟩
theorem chnI_of {c : TChn.val} (h : InR TChn c) : ChnI c :=
  ⟨st_fit h.1, Nat.le_trans h.2.1.2.1.1 (by decide), ⟨Nat.le_trans h.2.2.1.1 (by decide), fun r hr => repI_of (h.2.2.1.2 r hr)⟩, Nat.le_trans h.2.2.2.1.1 (by decide), ⟨Nat.le_trans h.2.2.2.2.1.1 (by decide), fun r hr => msgI_of (h.2.2.2.2.1.2 r hr)⟩,
    Nat.le_trans h.2.2.2.2.2.1.1 (by decide), fun r hr => Nat.le_trans (h.2.2.2.2.2.1.2 r hr).1.2.2.1.2.1 (by decide)⟩
end Go.Den.T

namespace Go.Den.T
set_option linter.unusedVariables false
set_option linter.unusedSimpArgs false
set_option linter.unusedSectionVars false
section
variable {A : Atoms} [IsReal A]
theorem markText_ok (k : Nat) (hk : 100 ≤ k) (n : Int) (h1 : n ≤ 1000000000000000) : Ok (laws_markText_t A k (n, ()) ()) (fun q => q.1.1.length ≤ 30) := by
  rw [laws_markText_t, ok_cndS]
  refine ⟨fun _ => ok_some.2 (by simp), fun h => ?_⟩
  simp at h
  have e : (10 : Nat) ^ 17 = 100000000000000000 := by decide
  refine Ok.bind (P := fun e : List UInt8 × Unit => e.1.length ≤ 20) (iter_ok (fun j (s : Int × (List UInt8 × Unit)) => ∃ m : Nat, s.1 = (m : Int) ∧ m < 10 ^ j ∧ s.2.1.length + j ≤ 17 ∧ m ≤ 1000000000000000) _ ?_ (n := 17) (by omega) ⟨n.toNat, by simp only; omega, by omega, by simp, by omega⟩) fun e he => ?_
  · rintro j ⟨x, l, _⟩ ⟨m, g1, g2, g3, g4⟩
    simp only at g1 g2 g3
    subst g1
    rw [laws_markText_t_b0, ok_cndS]
    simp only [a_ltI, decide_eq_true_eq, decide_eq_false_iff_not]
    refine ⟨fun hpos => ?_, fun _ => ok_some.2 ⟨fun s' e => (by cases e), fun e he => (by injection he with he; subst he; show l.length ≤ 20; omega)⟩⟩
    have hj : j ≠ 0 := by rintro rfl; simp at g2; omega
    have hw : A.wrapI .i64 (A.quoI (m : Int) 10) = ((m / 10 : Nat) : Int) := by
      rw [a_quoI, show ((m : Int)).tdiv 10 = ((m / 10 : Nat) : Int) from rfl]
      exact a_wrap (by omega) (by omega)
    have g : 1 + (l.length : Int) < 4294967296 := by omega
    rw [hw]
    refine ⟨.inl (((m / 10 : Nat) : Int), (A.appL (A.byteList ((A.wrapI .u8 (A.wrapI .i64 (A.addI 48 (A.remI (m : Int) 10)))) :: ([] : List Int))) l, ())), by simp [g], fun s' e => ?_, fun e he => (by cases he)⟩
    injection e with e; subst e
    refine ⟨j - 1, by omega, m / 10, rfl, ?_, by simp; omega, by omega⟩
    have : j - 1 + 1 = j := by omega
    rw [← this, Nat.pow_succ] at g2
    exact Nat.div_lt_of_lt_mul (by rw [Nat.mul_comm]; exact g2)
  · rw [ok_cndS]
    refine ⟨fun _ => ok_some.2 (by simp; omega), fun hc => ?_⟩
    simp at hc; omega
/-- the text that marks a number -/
def mtx (A : Atoms) (k : Nat) (n : Int) : List UInt8 := match laws_markText_t A k (n, ()) () with
  | some r => r.1.1
  | none => []
theorem markText_eq (k : Nat) (hk : 100 ≤ k) (n : Int) (h1 : n ≤ 1000000000000000) : laws_markText_t A k (n, ()) () = some ((mtx A k n, ()), ()) := by
  obtain ⟨r, h, _⟩ := markText_ok (A := A) k hk n h1
  rw [mtx, h]
def mE (A : Atoms) (k : Nat) (n : Int) : Ent := (n, (n + 1, ((n + 2, (mtx A k (n + 3), (n + 4, (n + 5, ())))), ())))
def marksE (A : Atoms) (k : Nat) (n : Int) (m : Nat) : List Ent := (List.range m).map fun i : Nat => mE A k (n + 6 * (i : Int))
@[simp] theorem marksE_len (k : Nat) (n : Int) (m : Nat) : (marksE A k n m).length = m := by simp [marksE]
theorem marksE_get {k : Nat} {n : Int} {m i : Nat} (h : i < m) : (marksE A k n m).getD i ent0 = mE A k (n + 6 * (i : Int)) := by rw [getD_lt (by simpa using h)]; simp [marksE]
theorem marksE_succ (k : Nat) (n : Int) (m : Nat) : marksE A k n (m + 1) = marksE A k n m ++ [mE A k (n + 6 * (m : Int))] := by simp [marksE, List.range_succ]
theorem markE_set (k : Nat) (xs : List Ent) (n : Int) (i : Nat) (h : i < xs.length) : (marksE A k n i ++ xs.drop i).set i (mE A k (n + 6 * (i : Int))) = marksE A k n (i + 1) ++ xs.drop (i + 1) := by
  rw [List.set_append_right _ _ (by simp)]
  simp only [marksE_len, Nat.sub_self]
  rw [List.drop_eq_getElem_cons h, List.set_cons_zero, marksE_succ]
  simp
theorem markE_step (k : Nat) (hk : 100 ≤ k) (L : List Ent) (i : Nat) (hi : i < L.length) (hl : L.length ≤ 1000000000) (n : Int) (h0 : 0 ≤ n) (h1 : n ≤ 100000000000000) :
    laws_markEntryS_t_b0 A k (n, ((i : Int), (L, ()))) = some (.inl (n + 6, (((i + 1 : Nat) : Int), (L.set i (mE A k n), ())))) := by
  have hi' : (i : Int) < (L.length : Int) := by omega
  have w1 : A.wrapI .i64 (n + 1) = n + 1 := a_wrap (by omega) (by omega)
  have w2 : A.wrapI .i64 (n + 1 + 1) = n + 2 := by rw [a_wrap (by omega) (by omega)]; omega
  have w3 : A.wrapI .i64 (n + 2 + 1) = n + 3 := by rw [a_wrap (by omega) (by omega)]; omega
  have w4 : A.wrapI .i64 (n + 3 + 1) = n + 4 := by rw [a_wrap (by omega) (by omega)]; omega
  have w5 : A.wrapI .i64 (n + 4 + 1) = n + 5 := by rw [a_wrap (by omega) (by omega)]; omega
  have w6 : A.wrapI .i64 (n + 5 + 1) = n + 6 := by rw [a_wrap (by omega) (by omega)]; omega
  have w : A.wrapI .i64 ((i : Int) + 1) = ((i + 1 : Nat) : Int) := by rw [a_wrap (by omega) (by omega)]; rfl
  have ge : ∀ (M : List Ent) (x d : Ent), i < M.length → (M.set i x).getD i d = x := fun M x d h => by rw [getD_lt (by simpa using h)]; simp
  have ls : ∀ (M : List Ent) (x : Ent), (M.set i x).length = M.length := fun M x => by simp
  simp only [laws_markEntryS_t_b0, a_cndS, a_ltI, a_lenL, a_le0, a_andB, hi', Int.natCast_nonneg, decide_true, Bool.and_self, if_true, a_setL, a_atL, Int.toNat_natCast, a_obind_some, a_addI, w, w1, w2, w3, w4, w5, w6, ls, ge, List.set_set, markText_eq k hk (n + 3) (by omega), hi]
  rfl
theorem markEntryS_eq (k : Nat) (hk : 100 ≤ k) (n : Int) (xs : List Ent) (hkx : xs.length < k) (hl : xs.length ≤ 1000000000) (h0 : 0 ≤ n) (h1 : n ≤ 90000000000000) :
    laws_markEntryS_t A k ((), (n, ())) xs = some ((n + 6 * xs.length, ()), marksE A k n xs.length) := by
  have h := iter_for (A := A) (f := laws_markEntryS_t_b0 A k) (fun i => (n + 6 * (i : Int), ((i : Int), (marksE A k n i ++ xs.drop i, ())))) xs.length (n + 6 * (xs.length : Int), (marksE A k n xs.length, ()))
    (fun i hi => by
      rw [markE_step k hk _ i (by simp; omega) (by simp; omega) _ (by omega) (by omega), markE_set k xs n i hi]
      simp; omega)
    (by simp [laws_markEntryS_t_b0]) hkx
  have z : marksE A k n 0 = [] := rfl
  simp [z] at h
  simp [laws_markEntryS_t, h]
theorem heldEntryS_eq (k : Nat) (hk : 100 ≤ k) (n : Int) (m : Nat) (hkx : m < k) (hl : m ≤ 1000000000) (h0 : 0 ≤ n) (h1 : n ≤ 90000000000000) : laws_heldEntryS_t A k (marksE A k n m, (n, ())) () = some ((n + 6 * (m : Int), ()), ()) := by
  have h := iter_for (A := A) (f := laws_heldEntryS_t_b0 A k) (fun i => (marksE A k n m, (n + 6 * (i : Int), ((i : Int), ())))) m (.inl (n + 6 * (m : Int), ()))
    (fun i hi => by
      have e := marksE_get (A := A) (k := k) (n := n) hi
      have hi' : (i : Int) < (m : Int) := by omega
      generalize hq : n + 6 * (i : Int) = q at *
      have hq0 : 0 ≤ q := by omega
      have hq1 : q ≤ 100000000000000 := by omega
      have w1 : A.wrapI .i64 (q + 1) = q + 1 := a_wrap (by omega) (by omega)
      have w2 : A.wrapI .i64 (q + 1 + 1) = q + 2 := by rw [a_wrap (by omega) (by omega)]; omega
      have w3 : A.wrapI .i64 (q + 2 + 1) = q + 3 := by rw [a_wrap (by omega) (by omega)]; omega
      have w4 : A.wrapI .i64 (q + 3 + 1) = q + 4 := by rw [a_wrap (by omega) (by omega)]; omega
      have w5 : A.wrapI .i64 (q + 4 + 1) = q + 5 := by rw [a_wrap (by omega) (by omega)]; omega
      have w6 : A.wrapI .i64 (q + 5 + 1) = q + 6 := by rw [a_wrap (by omega) (by omega)]; omega
      have w : A.wrapI .i64 ((i : Int) + 1) = ((i + 1 : Nat) : Int) := by rw [a_wrap (by omega) (by omega)]; rfl
      simp only [laws_heldEntryS_t_b0, a_cndS, a_ltI, a_lenL, a_le0, a_andB, marksE_len, hi', Int.natCast_nonneg, decide_true, Bool.and_self, if_true, a_atL, Int.toNat_natCast, e, mE, a_eqI, a_eqS, a_notB, Bool.not_true, Bool.false_eq_true, if_false, a_addI, w, w1, w2, w3, w4, w5, w6, markText_eq k hk (q + 3) (by omega), a_obind_some]
      have : q + 6 = n + 6 * ((i + 1 : Nat) : Int) := by omega
      rw [this])
    (by simp [laws_heldEntryS_t_b0]) hkx
  simp at h
  simp [laws_heldEntryS_t, h]
end
end Go.Den.T

namespace Go.Den.T
set_option linter.unusedVariables false
set_option linter.unusedSimpArgs false
set_option linter.unusedSectionVars false
section
variable {A : Atoms} [IsReal A]
/-! ### compared -/
def MsgT (k : Nat) (m : Msg) : Prop := m.2.2.2.1.2.1.length < k ∧ m.2.2.2.2.1.length < k ∧ MsgF m
/-! ### drawn -/
theorem BagS.t {k : Nat} {l : List Msg} (hk : 200 ≤ k) (h : BagS l) : ∀ m ∈ l, MsgT k m := fun m hm => by
  have := h.2 m hm
  have h1 : m.2.2.2.1.2.1.length ≤ 100 := this.1
  have h2 : m.2.2.2.2.1.length ≤ 30 := this.2.1
  exact ⟨by omega, by omega, by omega, by omega⟩
end
end Go.Den.T

namespace Go.Den.T
set_option linter.unusedVariables false
set_option linter.unusedSimpArgs false
set_option linter.unusedSectionVars false
section
variable {A : Atoms} [IsReal A]
theorem markIntS_eq2 (k : Nat) (n : Int) (xs : List Int) (hk : xs.length < k) (hl : xs.length ≤ 1000000000) (h0 : 0 ≤ n) (h1 : n ≤ 100000000000000) : laws_markIntS_t A k ((), (n, ())) xs = some ((n + xs.length, ()), marks n xs.length) := by
  have h := iter_for (A := A) (f := laws_markIntS_t_b0 A k) (fun i => (n + (i : Int), ((i : Int), (marks n i ++ xs.drop i, ())))) xs.length (n + (xs.length : Int), (marks n xs.length, ()))
    (fun i hi => by
      have e : i + (xs.length - i) = xs.length := by omega
      have := mark_step xs n i hi
      simp (disch := omega) [laws_markIntS_t_b0, hi, a_wrap, e, this]
      omega)
    (by simp [laws_markIntS_t_b0]) hk
  have z : marks n 0 = [] := rfl
  simp [z] at h
  simp [laws_markIntS_t, h]
/-! marks, element by element -/
section
variable {α : Type} (mk : Int → α → α) (nx : Int → α → Int)
def marksG : Int → List α → List α
  | _, [] => []
  | n, x :: xs => mk n x :: marksG (nx n x) xs
def endG : Int → List α → Int
  | n, [] => n
  | n, x :: xs => endG (nx n x) xs
theorem marksG_len (n : Int) (xs : List α) : (marksG mk nx n xs).length = xs.length := by
  induction xs generalizing n with
  | nil => rfl
  | cons x xs ih => simp [marksG, ih]
theorem marksG_snoc (n : Int) (xs : List α) (x : α) : marksG mk nx n (xs ++ [x]) = marksG mk nx n xs ++ [mk (endG nx n xs) x] ∧ endG nx n (xs ++ [x]) = nx (endG nx n xs) x := by
  induction xs generalizing n with
  | nil => exact ⟨rfl, rfl⟩
  | cons v xs ih => obtain ⟨h1, h2⟩ := ih (nx n v); exact ⟨by simp only [List.cons_append, marksG, endG, h1], by simp only [List.cons_append, endG, h2]⟩
theorem endG_take {xs : List α} {i : Nat} (n : Int) (hi : i < xs.length) : endG nx n (xs.take (i + 1)) = nx (endG nx n (xs.take i)) xs[i] := by
  rw [List.take_succ_eq_append_getElem hi]; exact (marksG_snoc (fun _ x => x) nx n _ _).2
theorem markG_set {xs : List α} {n : Int} {i : Nat} (h : i < xs.length) : (marksG mk nx n (xs.take i) ++ xs.drop i).set i (mk (endG nx n (xs.take i)) xs[i]) = marksG mk nx n (xs.take (i + 1)) ++ xs.drop (i + 1) := by
  have hl : (marksG mk nx n (xs.take i)).length = i := by rw [marksG_len]; simp; omega
  rw [List.set_append_right _ _ (by omega), hl, Nat.sub_self]
  rw [List.drop_eq_getElem_cons h, List.set_cons_zero, List.take_succ_eq_append_getElem h, (marksG_snoc mk nx _ _ _).1]
  simp
theorem endG_bound {xs : List α} {C : Int} (hC : 0 ≤ C) (hnx : ∀ n x, x ∈ xs → 0 ≤ n → n ≤ nx n x ∧ nx n x ≤ n + C) {n : Int} (h0 : 0 ≤ n) : n ≤ endG nx n xs ∧ endG nx n xs ≤ n + C * xs.length := by
  induction xs generalizing n with
  | nil => simp [endG]
  | cons x xs ih =>
    obtain ⟨h1, h2⟩ := hnx n x (by simp) h0
    obtain ⟨h3, h4⟩ := ih (fun n y hy => hnx n y (by simp [hy])) (n := nx n x) (by omega)
    refine ⟨by simp only [endG]; omega, ?_⟩
    simp only [endG, List.length_cons]
    have : C * ((xs.length + 1 : Nat) : Int) = C * xs.length + C := by rw [Int.natCast_add, Int.mul_add]; simp
    omega
theorem mark_loop {f : Int × (Int × (List α × Unit)) → Option ((Int × (Int × (List α × Unit))) ⊕ (Int × (List α × Unit)))} {k : Nat} (d : α) (xs : List α) (hk : xs.length < k) {n C : Int} (h0 : 0 ≤ n) (hC : 0 ≤ C)
    (hnx : ∀ n x, x ∈ xs → 0 ≤ n → n ≤ nx n x ∧ nx n x ≤ n + C)
    (hs : ∀ (i : Nat) (m : Int) (ys : List α) (hi : i < xs.length), ys.length = xs.length → ys.getD i d = xs[i] → 0 ≤ m → m ≤ n + C * xs.length → f (m, ((i : Int), (ys, ()))) = some (.inl (nx m xs[i], (((i + 1 : Nat) : Int), (ys.set i (mk m xs[i]), ())))))
    (hd : ∀ (m : Int) (ys : List α), ys.length = xs.length → f (m, (((xs.length : Nat) : Int), (ys, ()))) = some (.inr (m, (ys, ())))) :
    A.iter k f (n, (0, (xs, ()))) = some (endG nx n xs, (marksG mk nx n xs, ())) := by
  have h := iter_for (A := A) (k := k) (f := f) (fun i => (endG nx n (xs.take i), ((i : Int), (marksG mk nx n (xs.take i) ++ xs.drop i, ())))) xs.length (endG nx n xs, (marksG mk nx n xs, ()))
    (fun i hi => by
      have hb := endG_bound nx hC (xs := xs.take i) (fun n x hx => hnx n x (List.mem_of_mem_take hx)) h0
      have hl : (marksG mk nx n (xs.take i)).length = i := by rw [marksG_len]; simp; omega
      have hm : C * ((xs.take i).length : Int) ≤ C * xs.length := Int.mul_le_mul_of_nonneg_left (by simp; omega) hC
      rw [hs i _ _ hi (by rw [List.length_append, hl]; simp; omega) (by simp [List.getD, List.getElem?_append_right (show (marksG mk nx n (xs.take i)).length ≤ i by omega), hl, hi]) (by omega) (by omega), markG_set mk nx hi, endG_take nx n hi])
    (by
      have := hd (endG nx n xs) (marksG mk nx n xs) (marksG_len mk nx n xs)
      simpa using this) hk
  simpa [marksG, endG] using h
end
/-! messages -/
def nxM (n : Int) (m : Msg) : Int := n + 5 + m.2.2.2.1.2.1.length + 6 * m.2.2.2.2.1.length
def mM (A : Atoms) (k : Nat) (n : Int) (m : Msg) : Msg :=
  (n, (n + 1, (n + 2, ((n + 3, (marks (n + 4) m.2.2.2.1.2.1.length, (decide ((n + 4 + (m.2.2.2.1.2.1.length : Int)).tmod 3 = 0), m.2.2.2.1.2.2.2))), (marksE A k (n + 5 + (m.2.2.2.1.2.1.length : Int)) m.2.2.2.2.1.length, m.2.2.2.2.2)))))
theorem markM_step (k : Nat) (hk : 2000000 ≤ k) (L : List Msg) (i : Nat) (hi : i < L.length) (hl : L.length ≤ 1000000000) (m : Msg) (hm : L.getD i msg0 = m) (hz : MsgZ m) (n : Int) (h0 : 0 ≤ n) (h1 : n ≤ 80000000000000) :
    laws_markMessageS_t_b0 A k (n, ((i : Int), (L, ()))) = some (.inl (nxM n m, (((i + 1 : Nat) : Int), (L.set i (mM A k n m), ())))) := by
  obtain ⟨z1, z2⟩ := hz
  have hi' : (i : Int) < (L.length : Int) := by omega
  have w1 : A.wrapI .i64 (n + 1) = n + 1 := a_wrap (by omega) (by omega)
  have w2 : A.wrapI .i64 (n + 1 + 1) = n + 2 := by rw [a_wrap (by omega) (by omega)]; omega
  have w3 : A.wrapI .i64 (n + 2 + 1) = n + 3 := by rw [a_wrap (by omega) (by omega)]; omega
  have w4 : A.wrapI .i64 (n + 3 + 1) = n + 4 := by rw [a_wrap (by omega) (by omega)]; omega
  have w5 : A.wrapI .i64 (n + 4 + (m.2.2.2.1.2.1.length : Int) + 1) = n + 5 + (m.2.2.2.1.2.1.length : Int) := by rw [a_wrap (by omega) (by omega)]; omega
  have w : A.wrapI .i64 ((i : Int) + 1) = ((i + 1 : Nat) : Int) := by rw [a_wrap (by omega) (by omega)]; rfl
  have ge : ∀ (M : List Msg) (x d : Msg), i < M.length → (M.set i x).getD i d = x := fun M x d h => by rw [getD_lt (by simpa using h)]; simp
  have ls : ∀ (M : List Msg) (x : Msg), (M.set i x).length = M.length := fun M x => by simp
  have h3 : ¬ (3 : Int) = 0 := by decide
  simp only [laws_markMessageS_t_b0, a_cndS, a_ltI, a_lenL, a_le0, a_andB, hi', Int.natCast_nonneg, decide_true, Bool.and_self, if_true, a_setL, a_atL, Int.toNat_natCast, a_obind_some, a_addI, w, w1, w2, w3, w4, w5, ls, ge, List.set_set, hm, hi,
    markIntS_eq2 k (n + 4) m.2.2.2.1.2.1 (by omega) (by omega) (by omega) (by omega), markEntryS_eq k (by omega) (n + 5 + (m.2.2.2.1.2.1.length : Int)) m.2.2.2.2.1 (by omega) (by omega) (by omega) (by omega), a_eqI, a_notB, a_remI, h3, decide_false, Bool.not_false]
  rfl
theorem nxM_bound (xs : List Msg) (hz : ∀ m ∈ xs, MsgZ m) : ∀ (n : Int) (x : Msg), x ∈ xs → 0 ≤ n → n ≤ nxM n x ∧ nxM n x ≤ n + 7340037 := fun n x hx h0 => by
  obtain ⟨z1, z2⟩ := hz x hx
  unfold nxM; omega
theorem markMessageS_eqn (k : Nat) (hk : 2000000 ≤ k) (n : Int) (xs : List Msg) (hl : xs.length ≤ 1048576) (hz : ∀ m ∈ xs, MsgZ m) (h0 : 0 ≤ n) (h1 : n ≤ 50000000000000) : laws_markMessageS_t A k ((), (n, ())) xs = some ((endG nxM n xs, ()), marksG (mM A k) nxM n xs) := by
  have h := mark_loop (A := A) (mM A k) nxM (f := laws_markMessageS_t_b0 A k) (k := k) msg0 xs (by omega) (n := n) (C := 7340037) (by omega) (by omega) (nxM_bound xs hz)
    (fun i m ys hi hy hg h0 h1 => markM_step k hk ys i (by omega) (by omega) xs[i] hg (hz _ (List.getElem_mem hi)) m h0 (by omega))
    (fun m ys hy => by simp [laws_markMessageS_t_b0, hy])
  simp only [laws_markMessageS_t, h, a_obind_some]
end
end Go.Den.T

namespace Go.Den.T
end Go.Den.T

namespace Go.Den.T
set_option linter.unusedVariables false
set_option linter.unusedSimpArgs false
set_option linter.unusedSectionVars false
section
variable {A : Atoms} [IsReal A]
end
end Go.Den.T

namespace Go.Den.T
set_option linter.unusedVariables false
set_option linter.unusedSimpArgs false
set_option linter.unusedSectionVars false
section
variable {A : Atoms} [IsReal A]
end
end Go.Den.T

namespace Go.Den.T
set_option linter.unusedVariables false
set_option linter.unusedSimpArgs false
set_option linter.unusedSectionVars false
section
variable {A : Atoms} [IsReal A]
/-- what the search by halves keeps -/
structure Halves {α : Type} (lt : α → Bool) (d : α) (l : List α) (i j : Nat) : Prop where
  le : i ≤ j
  len : j ≤ l.length
  below : ∀ t, t < i → lt (l.getD t d) = true
  above : ∀ t, j ≤ t → t < l.length → lt (l.getD t d) = false
end
end Go.Den.T

namespace Go.Den.T
set_option linter.unusedVariables false
set_option linter.unusedSimpArgs false
set_option linter.unusedSectionVars false
section
variable {A : Atoms} [IsReal A]
/-! ### pairs -/
end
end Go.Den.T

namespace Go.Den.T
set_option linter.unusedVariables false
set_option linter.unusedSimpArgs false
set_option linter.unusedSectionVars false
section
variable {A : Atoms} [IsReal A]
end
end Go.Den.T

namespace Go.Den.T
set_option linter.unusedVariables false
set_option linter.unusedSimpArgs false
set_option linter.unusedSectionVars false
section
variable {A : Atoms} [IsReal A]
/-! ### entries -/
def takes (s : Stt) (c : Cmd) : Bool := if c.1 = 5 then (decide (c.2.1 = []) || (cut s.1 c.2.1).2.2.1) else inside s.1 c.2.1
/-! ### validity is kept -/
end
end Go.Den.T

namespace Go.Den.T
set_option linter.unusedVariables false
set_option linter.unusedSimpArgs false
set_option linter.unusedSectionVars false
section
variable {A : Atoms} [IsReal A]
end
end Go.Den.T

namespace Go.Den.T
set_option linter.unusedVariables false
set_option linter.unusedSimpArgs false
set_option linter.unusedSectionVars false
section
variable {A : Atoms} [IsReal A]
end
end Go.Den.T

namespace Go.Den.T
set_option linter.unusedVariables false
set_option linter.unusedSimpArgs false
set_option linter.unusedSectionVars false
section
variable {A : Atoms} [IsReal A]
end
end Go.Den.T

namespace Go.Den.T
set_option linter.unusedVariables false
set_option linter.unusedSimpArgs false
set_option linter.unusedSectionVars false
section
variable {A : Atoms} [IsReal A]
end
end Go.Den.T

namespace Go.Den.T
set_option linter.unusedVariables false
set_option linter.unusedSimpArgs false
set_option linter.unusedSectionVars false
section
variable {A : Atoms} [IsReal A]
/-! ### marks -/
def mP (A : Atoms) (k : Nat) (n : Int) : Pair := (mtx A k n, (n + 1, ()))
def mS (n : Int) : Ses := (n, (n + 1, (n + 2, ())))
def marksP (A : Atoms) (k : Nat) (n : Int) (m : Nat) : List Pair := (List.range m).map fun i : Nat => mP A k (n + 2 * (i : Int))
def marksS (n : Int) (m : Nat) : List Ses := (List.range m).map fun i : Nat => mS (n + 3 * (i : Int))
@[simp] theorem marksP_len (k : Nat) (n : Int) (m : Nat) : (marksP A k n m).length = m := by simp [marksP]
@[simp] theorem marksS_len (n : Int) (m : Nat) : (marksS n m).length = m := by simp [marksS]
theorem marksP_succ (k : Nat) (n : Int) (m : Nat) : marksP A k n (m + 1) = marksP A k n m ++ [mP A k (n + 2 * (m : Int))] := by simp [marksP, List.range_succ]
theorem marksS_succ (n : Int) (m : Nat) : marksS n (m + 1) = marksS n m ++ [mS (n + 3 * (m : Int))] := by simp [marksS, List.range_succ]
theorem markP_set (k : Nat) (xs : List Pair) (n : Int) (i : Nat) (h : i < xs.length) : (marksP A k n i ++ xs.drop i).set i (mP A k (n + 2 * (i : Int))) = marksP A k n (i + 1) ++ xs.drop (i + 1) := by
  rw [List.set_append_right _ _ (by simp)]
  simp only [marksP_len, Nat.sub_self]
  rw [List.drop_eq_getElem_cons h, List.set_cons_zero, marksP_succ]
  simp
theorem markS_set (xs : List Ses) (n : Int) (i : Nat) (h : i < xs.length) : (marksS n i ++ xs.drop i).set i (mS (n + 3 * (i : Int))) = marksS n (i + 1) ++ xs.drop (i + 1) := by
  rw [List.set_append_right _ _ (by simp)]
  simp only [marksS_len, Nat.sub_self]
  rw [List.drop_eq_getElem_cons h, List.set_cons_zero, marksS_succ]
  simp
theorem markP_step (k : Nat) (hk : 100 ≤ k) (L : List Pair) (i : Nat) (hi : i < L.length) (hl : L.length ≤ 1000000000) (n : Int) (h0 : 0 ≤ n) (h1 : n ≤ 100000000000000) :
    laws_markPairS_t_b0 A k (n, ((i : Int), (L, ()))) = some (.inl (n + 2, (((i + 1 : Nat) : Int), (L.set i (mP A k n), ())))) := by
  have hi' : (i : Int) < (L.length : Int) := by omega
  have w1 : A.wrapI .i64 (n + 1) = n + 1 := a_wrap (by omega) (by omega)
  have w2 : A.wrapI .i64 (n + 1 + 1) = n + 2 := by rw [a_wrap (by omega) (by omega)]; omega
  have w : A.wrapI .i64 ((i : Int) + 1) = ((i + 1 : Nat) : Int) := by rw [a_wrap (by omega) (by omega)]; rfl
  have ge : ∀ (M : List Pair) (x d : Pair), i < M.length → (M.set i x).getD i d = x := fun M x d h => by rw [getD_lt (by simpa using h)]; simp
  have ls : ∀ (M : List Pair) (x : Pair), (M.set i x).length = M.length := fun M x => by simp
  simp only [laws_markPairS_t_b0, a_cndS, a_ltI, a_lenL, a_le0, a_andB, hi', Int.natCast_nonneg, decide_true, Bool.and_self, if_true, a_setL, a_atL, Int.toNat_natCast, a_obind_some, a_addI, w, w1, w2, ls, ge, List.set_set, markText_eq k hk n (by omega), hi]
  rfl
theorem markPairS_eq (k : Nat) (hk : 100 ≤ k) (n : Int) (xs : List Pair) (hkx : xs.length < k) (hl : xs.length ≤ 1000000000) (h0 : 0 ≤ n) (h1 : n ≤ 10000000000000) :
    laws_markPairS_t A k ((), (n, ())) xs = some ((n + 2 * xs.length, ()), marksP A k n xs.length) := by
  have h := iter_for (A := A) (f := laws_markPairS_t_b0 A k) (fun i => (n + 2 * (i : Int), ((i : Int), (marksP A k n i ++ xs.drop i, ())))) xs.length (n + 2 * (xs.length : Int), (marksP A k n xs.length, ()))
    (fun i hi => by
      rw [markP_step k hk _ i (by simp; omega) (by simp; omega) _ (by omega) (by omega), markP_set k xs n i hi]
      simp; omega)
    (by simp [laws_markPairS_t_b0]) hkx
  have z : marksP A k n 0 = [] := rfl
  simp [z] at h
  simp [laws_markPairS_t, h]
theorem markS_step (k : Nat) (L : List Ses) (i : Nat) (hi : i < L.length) (hl : L.length ≤ 1000000000) (n : Int) (h0 : 0 ≤ n) (h1 : n ≤ 100000000000000) :
    laws_markSessionS_t_b0 A k (n, ((i : Int), (L, ()))) = some (.inl (n + 3, (((i + 1 : Nat) : Int), (L.set i (mS n), ())))) := by
  have hi' : (i : Int) < (L.length : Int) := by omega
  have w1 : A.wrapI .i64 (n + 1) = n + 1 := a_wrap (by omega) (by omega)
  have w2 : A.wrapI .i64 (n + 1 + 1) = n + 2 := by rw [a_wrap (by omega) (by omega)]; omega
  have w3 : A.wrapI .i64 (n + 2 + 1) = n + 3 := by rw [a_wrap (by omega) (by omega)]; omega
  have w : A.wrapI .i64 ((i : Int) + 1) = ((i + 1 : Nat) : Int) := by rw [a_wrap (by omega) (by omega)]; rfl
  have ge : ∀ (M : List Ses) (x d : Ses), i < M.length → (M.set i x).getD i d = x := fun M x d h => by rw [getD_lt (by simpa using h)]; simp
  have ls : ∀ (M : List Ses) (x : Ses), (M.set i x).length = M.length := fun M x => by simp
  simp only [laws_markSessionS_t_b0, a_cndS, a_ltI, a_lenL, a_le0, a_andB, hi', Int.natCast_nonneg, decide_true, Bool.and_self, if_true, a_setL, a_atL, Int.toNat_natCast, a_obind_some, a_addI, w, w1, w2, w3, ls, ge, List.set_set, hi]
  rfl
theorem markSessionS_eq (k : Nat) (n : Int) (xs : List Ses) (hkx : xs.length < k) (hl : xs.length ≤ 1000000000) (h0 : 0 ≤ n) (h1 : n ≤ 10000000000000) :
    laws_markSessionS_t A k ((), (n, ())) xs = some ((n + 3 * xs.length, ()), marksS n xs.length) := by
  have h := iter_for (A := A) (f := laws_markSessionS_t_b0 A k) (fun i => (n + 3 * (i : Int), ((i : Int), (marksS n i ++ xs.drop i, ())))) xs.length (n + 3 * (xs.length : Int), (marksS n xs.length, ()))
    (fun i hi => by
      rw [markS_step k _ i (by simp; omega) (by simp; omega) _ (by omega) (by omega), markS_set xs n i hi]
      simp; omega)
    (by simp [laws_markSessionS_t_b0]) hkx
  have z : marksS n 0 = [] := rfl
  simp [z] at h
  simp [laws_markSessionS_t, h]
def mStt (A : Atoms) (k : Nat) (n : Int) (s : Stt) : Stt := (s.1, (marksP A k n s.2.1.length, (marksS (n + 2 * s.2.1.length) s.2.2.1.length, s.2.2.2)))
theorem markState_eq (k : Nat) (hk : 2000000 ≤ k) (n : Int) (s : Stt) (h : StShort s) (h0 : 0 ≤ n) (hn : n ≤ 100000000) :
    laws_markState_t A k ((), (n, ())) s = some ((n + 2 * s.2.1.length + 3 * s.2.2.1.length, ()), mStt A k n s) := by
  obtain ⟨h1, h2⟩ := h
  simp only [laws_markState_t, markPairS_eq k (by omega) n s.2.1 (by omega) (by omega) h0 (by omega), a_obind_some, markSessionS_eq k (n + 2 * s.2.1.length) s.2.2.1 (by omega) (by omega) (by omega) (by omega)]
  rfl
end
end Go.Den.T
