/- Drawn laws on configurations, as the rows take them. -/
import Derived.Test.YtjhehjbmbchbaaaXC6
import Derived.Test.YtjhehjbmbchbaaaXC4
set_option linter.unusedVariables false
set_option linter.unusedSimpArgs false
namespace Go.Den.T
theorem FnCompleteMembers_pure (a : List Int) (h : InR (.slice (.int .u8)) a) : ∃ k, laws_FnCompleteMembers_t real k (a, ()) () = some ((true, ()), ()) :=
  haveI := isReal_real
  ⟨200, FnCompleteMembers_true 200 (by omega) a (code_bytes h)⟩
theorem FnConfigDone_pure (a : List Int) (h : InR (.slice (.int .u8)) a) : ∃ k, laws_FnConfigDone_t real k (a, ()) () = some ((true, ()), ()) :=
  haveI := isReal_real
  ⟨200, FnConfigDone_true 200 (by omega) a (code_bytes h)⟩
theorem FnMemberAfter_pure (a : List Int) (h : InR (.slice (.int .u8)) a) : ∃ k, laws_FnMemberAfter_t real k (a, ()) () = some ((true, ()), ()) :=
  haveI := isReal_real
  ⟨200, FnMemberAfter_true 200 (by omega) a (code_bytes h)⟩
theorem FnWithoutMember_pure (a : List Int) (h : InR (.slice (.int .u8)) a) : ∃ k, laws_FnWithoutMember_t real k (a, ()) () = some ((true, ()), ()) :=
  haveI := isReal_real
  ⟨200, FnWithoutMember_true 200 (by omega) a (code_bytes h)⟩
end Go.Den.T
