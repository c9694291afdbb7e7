/- Numbers, texts, entries and frames as bytes: what both sides come to. -/
import Derived.Test.YtcpcboccflpbdaaXK5
import Derived.Test.YtcpcboccflpbdaaXTr3

namespace Go.Den.T
set_option linter.unusedVariables false
set_option linter.unusedSimpArgs false
set_option linter.unusedSectionVars false
section
variable {A : Atoms} [IsReal A]
/-- the groups of a number -/
def encN (n : Nat) : List Int := if h : n < 128 then [(n : Int)] else ((n % 128 + 128 : Nat) : Int) :: encN (n / 128)
termination_by n
decreasing_by omega
def numOk (n : Int) : Bool := decide (0 ≤ n ∧ n ≤ 268435455)
def encNum (n : Int) : List Int := if numOk n = true then encN n.toNat else []
/-! ### texts -/
def chars (s : List UInt8) : List Int := s.map fun b => (b.toNat : Int)
@[simp] theorem chars_len (s : List UInt8) : (chars s).length = s.length := by simp [chars]
def encText (s : List UInt8) : List Int := if s.length ≤ 8 then encNum s.length ++ chars s else []
/-! ### entries -/
def body (e : Ent) : List Int := encNum e.1 ++ encNum e.2.1 ++ encNum e.2.2.1.1 ++ encText e.2.2.1.2.1 ++ encNum e.2.2.1.2.2.1 ++ encNum (e.2.2.1.2.2.2.1 + 1)
end
end Go.Den.T
