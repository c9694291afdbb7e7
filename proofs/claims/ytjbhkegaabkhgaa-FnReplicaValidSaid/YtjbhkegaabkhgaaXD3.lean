/- The drawn law on replicas, as the row takes it. -/
import Derived.Test.YtjbhkegaabkhgaaXD2
import Derived.Test.YtjbhkegaabkhgaaXC4
set_option linter.unusedVariables false
set_option linter.unusedSimpArgs false
namespace Go.Den.T
theorem FnReplicaValid_pure (a : List Int) (h : InR (.slice (.int .u8)) a) : ∃ k, laws_FnReplicaValid_t real k (a, ()) () = some ((true, ()), ()) :=
  haveI := isReal_real
  ⟨200, FnReplicaValid_true 200 (by omega) a (code_bytes h)⟩
end Go.Den.T
