/- Entries, sums, frames and logs as bytes. -/
import Derived.Test.YtcpcboccflpbdaaXB1

namespace Go.Den.T
set_option linter.unusedVariables false
set_option linter.unusedSimpArgs false
set_option linter.unusedSectionVars false
section
variable {A : Atoms} [IsReal A]
/-! ### sums -/
/-- the sum of bytes, each times its place -/
def wsum : Int → List Int → Int
  | _, [] => 0
  | i, x :: xs => (i + 1) * x + wsum (i + 1) xs
def recSum (xs : List Int) : Int := if bytesOk xs = true then wsum 0 xs % 65521 else -1
theorem bytes_of {xs : List Int} (h : bytesOk xs = true) : xs.length ≤ 2000 ∧ ∀ x ∈ xs, 0 ≤ x ∧ x ≤ 255 := by
  simp only [bytesOk, Bool.and_eq_true, decide_eq_true_eq, List.all_eq_true, byteOk] at h
  exact h
/-! ### frames -/
/-- what a frame is but for its sum -/
def inner (n : Int) (e : Ent) : List Int := encNum n ++ encNum (body e).length ++ body e
def frame (n : Int) (e : Ent) : List Int := inner n e ++ encNum (recSum (inner n e))
/-! ### logs -/
/-- the frames of entries, from a number on -/
def frames : Nat → List Ent → List Int
  | _, [] => []
  | n, e :: l => frame n e ++ frames (n + 1) l
end
end Go.Den.T
