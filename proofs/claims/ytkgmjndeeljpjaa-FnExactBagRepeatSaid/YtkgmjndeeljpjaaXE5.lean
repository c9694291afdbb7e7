/- Exact laws on replicas and messages. -/
import Derived.Test.YtkgmjndeeljpjaaXE4
import Derived.Test.YtkgmjndeeljpjaaXV2

namespace Go.Den.T
set_option linter.unusedVariables false
set_option linter.unusedSimpArgs false
set_option linter.unusedSectionVars false
section
variable {A : Atoms} [IsReal A]
theorem toMessage_eq (k : Nat) (m : Msg) (hk : 2000000 ≤ k) (h1 : m.2.2.2.1.2.1.length ≤ 1048576) (h2 : m.2.2.2.2.1.length ≤ 1048576) : laws_toMessage_t A k (m, ()) () = some ((m, ()), ()) := by
  simp [laws_toMessage_t, toConfig_eq k m.2.2.2.1 (by omega) (by omega), toEntryS_eq k m.2.2.2.2.1 (by omega) (by omega)]
theorem eqMessage_eq (k : Nat) (r s : Msg) (hk : 2000000 ≤ k) (h1 : r.2.2.2.1.2.1.length ≤ 1048576) (h2 : r.2.2.2.2.1.length ≤ 1048576) : laws_eqMessage_t A k (r, (s, ())) () = some ((decide (r = s), ()), ()) := by
  obtain ⟨a1, a2, a3, a4, a5, _⟩ := r
  obtain ⟨b1, b2, b3, b4, b5, _⟩ := s
  simp only at h1 h2
  simp only [laws_eqMessage_t, eqConfig_eq k a4 b4 (by omega) (by omega), eqEntryS_eq k a5 b5 (by omega) (by omega), a_obind_some, a_cndS, a_notB, a_eqI]
  by_cases h1 : a1 = b1
  · by_cases h2 : a2 = b2
    · by_cases h3 : a3 = b3
      · by_cases h4 : a4 = b4
        · by_cases h5 : a5 = b5 <;> simp [h1, h2, h3, h4, h5]
        · simp [h1, h2, h3, h4]
      · simp [h1, h2, h3]
    · simp [h1, h2]
  · simp [h1]
end
abbrev TCfg' : Ty := .prod (.int .i64) (.prod (.slice (.int .i64)) (.prod .bool .unit))
abbrev TMsg : Ty := .prod (.int .i64) (.prod (.int .i64) (.prod (.int .i64) (.prod TCfg' (.prod (.slice TEnt) .unit))))
theorem keys_of {l : List TEnt.val} (h : InR (.slice TEnt) l) : ∀ e ∈ (show List Ent from l), e.2.2.1.2.1.length ≤ 9223372036854775807 :=
  fun e he => Nat.le_trans (h.2 e he).2.2.1.2.1 (by decide)
end Go.Den.T
