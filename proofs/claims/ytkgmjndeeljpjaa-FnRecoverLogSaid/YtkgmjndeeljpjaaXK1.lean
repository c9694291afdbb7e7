/- Disks: what the checks come to. -/
import Derived.Test.YtkgmjndeeljpjaaXE2
import Derived.Test.YtkgmjndeeljpjaaXTr2

namespace Go.Den.T
set_option linter.unusedVariables false
set_option linter.unusedSimpArgs false
set_option linter.unusedSectionVars false
variable {A : Atoms} [IsReal A]
abbrev Dsk := List Int × (List (List Int) × Unit)
def byteOk (x : Int) : Bool := decide (0 ≤ x ∧ x ≤ 255)
def bytesOk (xs : List Int) : Bool := decide (xs.length ≤ 2000) && xs.all byteOk
theorem spec_BytesValid_eq (k : Nat) (hk : 3000 ≤ k) (xs : List Int) : spec_BytesValid_t A k (xs, ()) () = some ((bytesOk xs, ()), ()) := by
  by_cases hl : (2000 : Int) < xs.length
  · have : ¬ xs.length ≤ 2000 := by omega
    simp [spec_BytesValid_t, hl, bytesOk, this]
  · have hl' : xs.length ≤ 2000 := by omega
    have h := iter_all (A := A) (f := spec_BytesValid_t_b0 A k) (fun i => (xs, ((i : Int), ()))) xs.length (fun i => byteOk (xs.getD i 0)) (.inr ((false, ()), ())) (.inl ())
      (fun i hi => by
        simp (disch := omega) [spec_BytesValid_t_b0, hi, a_wrap, l1In_eq, byteOk]
        by_cases hv : 0 ≤ xs[i] ∧ xs[i] ≤ 255 <;> simp [hv])
      (by simp [spec_BytesValid_t_b0]) (k := k) (by omega)
    rw [all_range] at h
    simp only [Int.natCast_zero, Int.ofNat_zero] at h
    simp only [spec_BytesValid_t, a_cndS, a_ltI, a_lenL, hl, decide_false, Bool.false_eq_true, if_false, h, a_obind_some, bytesOk, hl', decide_true, Bool.true_and]
    cases xs.all byteOk <;> simp
theorem impl_BytesValid_eq (k : Nat) (hk : 3000 ≤ k) (xs : List Int) : impl_BytesValid_t A k (xs, ()) () = some ((bytesOk xs, ()), ()) := by
  by_cases hl : (2000 : Int) < xs.length
  · have : ¬ xs.length ≤ 2000 := by omega
    simp [impl_BytesValid_t, hl, bytesOk, this]
  · have hl' : xs.length ≤ 2000 := by omega
    have h := iter_all (A := A) (f := impl_BytesValid_t_b0 A k) (fun i => (xs, ((xs.length : Int), ((i : Int), ())))) xs.length (fun i => byteOk (xs.getD i 0)) (.inr ((false, ()), ())) (.inl ())
      (fun i hi => by
        simp (disch := omega) [impl_BytesValid_t_b0, hi, a_wrap, byteOk]
        by_cases h1 : xs[i] < 0
        · have : ¬ (0 ≤ xs[i] ∧ xs[i] ≤ 255) := by omega
          simp [h1, this]
        · by_cases h2 : 255 < xs[i]
          · have : ¬ (0 ≤ xs[i] ∧ xs[i] ≤ 255) := by omega
            simp [h1, h2, this]
          · have : (0 ≤ xs[i] ∧ xs[i] ≤ 255) := by omega
            simp [h1, h2, this])
      (by simp [impl_BytesValid_t_b0]) (k := k) (by omega)
    rw [all_range] at h
    simp only [Int.natCast_zero, Int.ofNat_zero] at h
    simp only [impl_BytesValid_t, a_cndS, a_ltI, a_lenL, hl, decide_false, Bool.false_eq_true, if_false, h, a_obind_some, bytesOk, hl', decide_true, Bool.true_and]
    cases xs.all byteOk <;> simp
end Go.Den.T
