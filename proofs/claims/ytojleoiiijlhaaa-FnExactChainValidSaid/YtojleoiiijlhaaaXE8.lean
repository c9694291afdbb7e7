/- The exact law on checkpoints. -/
import Derived.Test.YtojleoiiijlhaaaXE7
import Derived.Test.YtojleoiiijlhaaaXV2

namespace Go.Den.T
set_option linter.unusedVariables false
set_option linter.unusedSimpArgs false
set_option linter.unusedSectionVars false
section
variable {A : Atoms} [IsReal A]
theorem toPairS_eq (k : Nat) (xs : List Pair) (hk : xs.length < k) (hl : xs.length ≤ 1000000000) : laws_toPairS_t A k (xs, ()) () = some ((xs, ()), ()) := by
  have h := to_loop (A := A) (f := laws_toPairS_t_b0 A k) (([] : List UInt8), ((0 : Int), ())) xs hk
    (fun i ys hi hy => by
      have hi' : i < ys.length := by omega
      simp (disch := omega) [laws_toPairS_t_b0, hi, hi', hy, a_wrap, laws_toPair_t])
    (fun ys hy => by simp [laws_toPairS_t_b0])
  have h1 : (xs.length : Int) < 4294967296 := by omega
  simp [laws_toPairS_t, h1, h]
theorem toSessionS_eq (k : Nat) (xs : List Ses) (hk : xs.length < k) (hl : xs.length ≤ 1000000000) : laws_toSessionS_t A k (xs, ()) () = some ((xs, ()), ()) := by
  have h := to_loop (A := A) (f := laws_toSessionS_t_b0 A k) ((0 : Int), ((0 : Int), ((0 : Int), ()))) xs hk
    (fun i ys hi hy => by
      have hi' : i < ys.length := by omega
      simp (disch := omega) [laws_toSessionS_t_b0, hi, hi', hy, a_wrap, laws_toSession_t])
    (fun ys hy => by simp [laws_toSessionS_t_b0])
  have h1 : (xs.length : Int) < 4294967296 := by omega
  simp [laws_toSessionS_t, h1, h]
instance : DecidableEq Pair := inferInstanceAs (DecidableEq (List UInt8 × (Int × Unit)))
instance : DecidableEq Ses := inferInstanceAs (DecidableEq (Int × (Int × (Int × Unit))))
instance : DecidableEq Itv := inferInstanceAs (DecidableEq (List UInt8 × (List UInt8 × Unit)))
set_option synthInstance.maxSize 2000 in
instance : DecidableEq Stt := inferInstanceAs (DecidableEq (Itv × (List Pair × (List Ses × (Bool × (List UInt8 × Unit))))))
instance : DecidableEq Chk := inferInstanceAs (DecidableEq (Int × (Stt × Unit)))
theorem eqPair_eq (k : Nat) (c d : Pair) : laws_eqPair_t A k (c, (d, ())) () = some ((decide (c = d), ()), ()) := by
  obtain ⟨a1, a2, _⟩ := c
  obtain ⟨b1, b2, _⟩ := d
  simp only [laws_eqPair_t, a_cndS, a_notB, a_eqI, a_eqS]
  by_cases h1 : a1 = b1 <;> by_cases h2 : a2 = b2 <;> simp [h1, h2]
theorem eqSession_eq (k : Nat) (c d : Ses) : laws_eqSession_t A k (c, (d, ())) () = some ((decide (c = d), ()), ()) := by
  obtain ⟨a1, a2, a3, _⟩ := c
  obtain ⟨b1, b2, b3, _⟩ := d
  simp only [laws_eqSession_t, a_cndS, a_notB, a_eqI]
  by_cases h1 : a1 = b1 <;> by_cases h2 : a2 = b2 <;> by_cases h3 : a3 = b3 <;> simp [h1, h2, h3]
theorem eqPairS_eq (k : Nat) (xs ys : List Pair) (hk : xs.length < k) (hl : xs.length ≤ 1000000000) : laws_eqPairS_t A k (xs, (ys, ())) () = some ((decide (xs = ys), ()), ()) := by
  by_cases he : xs.length = ys.length
  · have h := eq_loop (A := A) (f := laws_eqPairS_t_b0 A k) (([] : List UInt8), ((0 : Int), ())) xs ys hk he
      (fun i hi => by
        have hi' : i < ys.length := by omega
        simp (disch := omega) [laws_eqPairS_t_b0, hi, hi', a_wrap, eqPair_eq]
        by_cases hv : xs[i] = ys[i] <;> simp [hv])
      (by simp [laws_eqPairS_t_b0])
    simp only [laws_eqPairS_t, a_lenL, he, a_eqI, decide_true, a_notB, Bool.not_true, a_cndS, Bool.false_eq_true, if_false, h]
    by_cases hv : xs = ys <;> simp [hv]
  · have h2 : ¬ (xs.length : Int) = ys.length := by omega
    have h3 : ¬ xs = ys := fun e => he (by rw [e])
    simp [laws_eqPairS_t, h2, h3]
theorem eqSessionS_eq (k : Nat) (xs ys : List Ses) (hk : xs.length < k) (hl : xs.length ≤ 1000000000) : laws_eqSessionS_t A k (xs, (ys, ())) () = some ((decide (xs = ys), ()), ()) := by
  by_cases he : xs.length = ys.length
  · have h := eq_loop (A := A) (f := laws_eqSessionS_t_b0 A k) ((0 : Int), ((0 : Int), ((0 : Int), ()))) xs ys hk he
      (fun i hi => by
        have hi' : i < ys.length := by omega
        simp (disch := omega) [laws_eqSessionS_t_b0, hi, hi', a_wrap, eqSession_eq]
        by_cases hv : xs[i] = ys[i] <;> simp [hv])
      (by simp [laws_eqSessionS_t_b0])
    simp only [laws_eqSessionS_t, a_lenL, he, a_eqI, decide_true, a_notB, Bool.not_true, a_cndS, Bool.false_eq_true, if_false, h]
    by_cases hv : xs = ys <;> simp [hv]
  · have h2 : ¬ (xs.length : Int) = ys.length := by omega
    have h3 : ¬ xs = ys := fun e => he (by rw [e])
    simp [laws_eqSessionS_t, h2, h3]
/-- the lists of a state are short enough for the loops -/
def StShort (s : Stt) : Prop := s.2.1.length ≤ 1048576 ∧ s.2.2.1.length ≤ 1048576
theorem toState_eq (k : Nat) (hk : 2000000 ≤ k) (s : Stt) (h : StShort s) : laws_toState_t A k (s, ()) () = some ((s, ()), ()) := by
  simp [laws_toState_t, laws_toInterval_t, toPairS_eq k s.2.1 (by have := h.1; omega) (by have := h.1; omega), toSessionS_eq k s.2.2.1 (by have := h.2; omega) (by have := h.2; omega)]
theorem eqInterval_eq (k : Nat) (c d : Itv) : laws_eqInterval_t A k (c, (d, ())) () = some ((decide (c = d), ()), ()) := by
  obtain ⟨a1, a2, _⟩ := c
  obtain ⟨b1, b2, _⟩ := d
  simp only [laws_eqInterval_t, a_cndS, a_notB, a_eqS]
  by_cases h1 : a1 = b1 <;> by_cases h2 : a2 = b2 <;> simp [h1, h2]
theorem eqState_eq (k : Nat) (hk : 2000000 ≤ k) (c d : Stt) (h : StShort c) : laws_eqState_t A k (c, (d, ())) () = some ((decide (c = d), ()), ()) := by
  obtain ⟨a1, a2, a3, a4, a5, _⟩ := c
  obtain ⟨b1, b2, b3, b4, b5, _⟩ := d
  have g1 : a2.length ≤ 1048576 := h.1
  have g2 : a3.length ≤ 1048576 := h.2
  simp only [laws_eqState_t, eqInterval_eq, eqPairS_eq k a2 b2 (by omega) (by omega), eqSessionS_eq k a3 b3 (by omega) (by omega), a_obind_some, a_cndS, a_notB, a_eqB, a_eqS]
  by_cases h1 : a1 = b1
  · by_cases h2 : a2 = b2
    · by_cases h3 : a3 = b3
      · by_cases h4 : a4 = b4 <;> by_cases h5 : a5 = b5 <;> simp [h1, h2, h3, h4, h5]
      · simp [h1, h2, h3]
    · simp [h1, h2]
  · simp [h1]
/-- bounds of Go's own kind -/
def StFit (s : Stt) : Prop := s.1.1.length ≤ 9223372036854775807 ∧ s.1.2.1.length ≤ 9223372036854775807 ∧ s.2.1.length ≤ 9223372036854775807 ∧ (∀ p ∈ s.2.1, p.1.length ≤ 9223372036854775807) ∧ s.2.2.1.length ≤ 9223372036854775807 ∧ s.2.2.2.2.1.length ≤ 9223372036854775807
theorem szPairS_ok (k : Nat) (xs : List Pair) (n : Int) (hn : 0 ≤ n) (hn1 : n ≤ 1048576) (hk : 2000000 ≤ k) (hl : xs.length ≤ 9223372036854775807) (hs : ∀ p ∈ xs, p.1.length ≤ 9223372036854775807) :
    Ok (laws_szPairS_t A k (xs, (n, ())) ()) (fun q => q.1.1 = -1 ∨ (0 ≤ q.1.1 ∧ q.1.1 ≤ n ∧ xs.length ≤ 1048576)) := by
  have w : A.wrapI .i64 (n - (xs.length : Int)) = n - (xs.length : Int) := a_wrap (by omega) (by omega)
  rw [laws_szPairS_t, ok_cndS]
  simp only [a_lenL, a_subI, w, a_ltI, decide_eq_true_eq, decide_eq_false_iff_not]
  refine ⟨fun _ => ok_some.2 (.inl rfl), fun h => ?_⟩
  refine (sz_loop (A := A) (f := laws_szPairS_t_b0 A k) xs (n - xs.length) (by omega) (by omega) (fun i m hi h0 h1 => ?_) (fun m => by simp [laws_szPairS_t_b0])).bind fun r hr => ?_
  · have he := hs xs[i] (List.getElem_mem hi)
    have w2 : A.wrapI .i64 (m - (xs[i].1.length : Int)) = m - (xs[i].1.length : Int) := a_wrap (by omega) (by omega)
    by_cases hm : m - (xs[i].1.length : Int) < 0
    · refine ⟨.inr (.inr ((-1, ()), ())), ?_, .inr rfl⟩
      simp (disch := omega) [laws_szPairS_t_b0, hi, a_wrap, laws_szPair_t, w2, hm]
    · refine ⟨.inl (xs, (m - (xs[i].1.length : Int), (((i + 1 : Nat) : Int), ()))), ?_, .inl ⟨_, rfl, by omega, by omega⟩⟩
      simp (disch := omega) [laws_szPairS_t_b0, hi, a_wrap, laws_szPair_t, w2, hm]
  · rcases hr with ⟨m, rfl, h0, h1⟩ | rfl
    · rw [a_sumE_inl]; exact ok_some.2 (.inr ⟨h0, by show m ≤ n; omega, by omega⟩)
    · rw [a_sumE_inr]; exact ok_some.2 (.inl rfl)
end
abbrev TItv : Ty := .prod .str (.prod .str .unit)
abbrev TPair : Ty := .prod .str (.prod (.int .i64) .unit)
abbrev TSes : Ty := .prod (.int .i64) (.prod (.int .i64) (.prod (.int .i64) .unit))
abbrev TStt : Ty := .prod TItv (.prod (.slice TPair) (.prod (.slice TSes) (.prod .bool (.prod .str .unit))))
theorem st_fit {s : TStt.val} (h : InR TStt s) : StFit s :=
  ⟨Nat.le_trans h.1.1 (by decide), Nat.le_trans h.1.2.1 (by decide), Nat.le_trans h.2.1.1 (by decide), fun p hp => Nat.le_trans (h.2.1.2 p hp).1 (by decide), Nat.le_trans h.2.2.1.1 (by decide), Nat.le_trans h.2.2.2.2.1 (by decide)⟩
end Go.Den.T
