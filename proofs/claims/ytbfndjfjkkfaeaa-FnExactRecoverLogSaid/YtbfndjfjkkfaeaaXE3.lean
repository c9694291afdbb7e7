/- Exact laws on configurations, as the rows take them. -/
import Derived.Test.YtbfndjfjkkfaeaaXDm3
import Derived.Test.YtbfndjfjkkfaeaaXE2
set_option linter.unusedVariables false
set_option linter.unusedSimpArgs false
namespace Go.Den.T
theorem len_of {t : Ty} {xs : List t.val} (h : InR (.slice t) xs) : xs.length ≤ 9223372036854775807 := Nat.le_trans h.1 (by decide)
abbrev TCfg : Ty := .prod (.int .i64) (.prod (.slice (.int .i64)) (.prod .bool .unit))
theorem FnExactConfigValid_pure (c : TCfg.val) (h : InR TCfg c) : ∃ k, laws_FnExactConfigValid_t real k (c, ()) () = some ((true, ()), ()) :=
  haveI := isReal_real
  ⟨2000000, FnExactConfigValid_true 2000000 (by omega) c (len_of h.2.1)⟩
theorem FnExactMemberAfter_pure (c : TCfg.val) (h : InR TCfg c) (n : Int) (_ : InR (.int .i64) n) : ∃ k, laws_FnExactMemberAfter_t real k (c, (n, ())) () = some ((true, ()), ()) :=
  haveI := isReal_real
  ⟨2000000, FnExactMemberAfter_true 2000000 (by omega) c n (len_of h.2.1)⟩
theorem FnExactCompleteMembers_pure (c : TCfg.val) (h : InR TCfg c) : ∃ k, laws_FnExactCompleteMembers_t real k (c, ()) () = some ((true, ()), ()) :=
  haveI := isReal_real
  ⟨2000000, FnExactCompleteMembers_true 2000000 (by omega) c (len_of h.2.1)⟩
theorem FnExactConfigDone_pure (c : TCfg.val) (h : InR TCfg c) : ∃ k, laws_FnExactConfigDone_t real k (c, ()) () = some ((true, ()), ()) :=
  haveI := isReal_real
  ⟨2000000, FnExactConfigDone_true 2000000 (by omega) c (len_of h.2.1)⟩
theorem FnExactWithMember_pure (c : TCfg.val) (h : InR TCfg c) (n : Int) (_ : InR (.int .i64) n) : ∃ k, laws_FnExactWithMember_t real k (c, (n, ())) () = some ((true, ()), ()) :=
  haveI := isReal_real
  ⟨2000000, FnExactWithMember_true 2000000 (by omega) c n (len_of h.2.1)⟩
theorem FnExactWithoutMember_pure (c : TCfg.val) (h : InR TCfg c) (n : Int) (_ : InR (.int .i64) n) : ∃ k, laws_FnExactWithoutMember_t real k (c, (n, ())) () = some ((true, ()), ()) :=
  haveI := isReal_real
  ⟨2000000, FnExactWithoutMember_true 2000000 (by omega) c n (len_of h.2.1)⟩
end Go.Den.T
