/- The exact law on a log's bytes. -/
import Derived.Test.YtjbhkegaabkhgaaXB2
import Derived.Test.YtjbhkegaabkhgaaXE3
import Derived.Test.YtjbhkegaabkhgaaXM1

namespace Go.Den.T
set_option linter.unusedVariables false
set_option linter.unusedSimpArgs false
set_option linter.unusedSectionVars false
section
variable {A : Atoms} [IsReal A]
theorem FnExactLogBytes_true (k : Nat) (hk : 2000000 ≤ k) (l : List Ent) (hl : l.length ≤ 9223372036854775807) (hs : ∀ e ∈ l, e.2.2.1.2.1.length ≤ 9223372036854775807) : laws_FnExactLogBytes_t A k (l, ()) () = some ((true, ()), ()) := by
  rw [← ok_eq, laws_FnExactLogBytes_t]
  refine (szEntryS_ok k l 1048576 (by omega) (by omega) hk hl hs).bind fun q hq => ?_
  rw [ok_cndS]
  simp only [a_ltI, decide_eq_true_eq, decide_eq_false_iff_not]
  refine ⟨fun _ => ok_some.2 rfl, fun hn => ?_⟩
  have hll : l.length ≤ 1048576 := by
    rcases hq with hq | hq
    · omega
    · omega
  have hb := logBytes_len l
  have g1 : ¬ 1 + 6 * (l.length : Int) < 0 := by omega
  have g2 : ¬ 1 + ((logBytes l).length : Int) < 0 := by omega
  rw [ok_eq]
  simp [toEntryS_eq k l (by omega) (by omega), spec_LogBytes_eq k (by omega : 3000 ≤ k), impl_LogBytes_eq k (by omega : 3000 ≤ k), eqIntS_eq k (logBytes l) (logBytes l) (by omega) (by omega), eqEntryS_eq k l l (by omega) (by omega),
    markEntryS_eq k (by omega) 1 l (by omega) (by omega) (by omega) (by omega), g1, markIntS_eq k 1 (logBytes l) (by omega) (by omega) (by omega) (by omega), heldIntS_eq k 1 (logBytes l).length (by omega) (by omega) (by omega) (by omega), g2]
end
theorem FnExactLogBytes_pure (l : (Ty.slice TEnt).val) (h : InR (.slice TEnt) l) : ∃ k, laws_FnExactLogBytes_t real k (l, ()) () = some ((true, ()), ()) :=
  haveI := isReal_real
  ⟨2000000, FnExactLogBytes_true 2000000 (by omega) l (Nat.le_trans h.1 (by decide)) (keys_of h)⟩
end Go.Den.T
