/- Exact laws on replicas and messages. -/
import Derived.Test.YtbfndjfjkkfaeaaXE4
import Derived.Test.YtbfndjfjkkfaeaaXV2

namespace Go.Den.T
set_option linter.unusedVariables false
set_option linter.unusedSimpArgs false
set_option linter.unusedSectionVars false
section
variable {A : Atoms} [IsReal A]
theorem FnExactReplicaValid_true (k : Nat) (hk : 2000000 ≤ k) (r : Rep) (h1 : r.1.2.1.length ≤ 9223372036854775807) (hl : r.2.2.1.length ≤ 9223372036854775807) (hs : ∀ e ∈ r.2.2.1, e.2.2.1.2.1.length ≤ 9223372036854775807) :
    laws_FnExactReplicaValid_t A k (r, ()) () = some ((true, ()), ()) := by
  rw [← ok_eq, laws_FnExactReplicaValid_t]
  refine (szReplica_ok k r hk h1 hl hs).bind fun q hq => ?_
  rw [ok_cndS]
  simp only [a_ltI, decide_eq_true_eq, decide_eq_false_iff_not]
  refine ⟨fun _ => ok_some.2 rfl, fun hn => ?_⟩
  rcases hq with hq | ⟨_, h2, h3⟩
  · omega
  rw [ok_eq]
  simp [toReplica_eq k r hk h2 h3, eqReplica_eq k r r hk h2 h3, impl_ReplicaValid_eq k (by omega), spec_ReplicaValid_eq k (by omega)]
theorem FnExactIsTail_true (k : Nat) (hk : 2000000 ≤ k) (r : Rep) (n : Int) (h1 : r.1.2.1.length ≤ 9223372036854775807) (hl : r.2.2.1.length ≤ 9223372036854775807) (hs : ∀ e ∈ r.2.2.1, e.2.2.1.2.1.length ≤ 9223372036854775807) :
    laws_FnExactIsTail_t A k (r, (n, ())) () = some ((true, ()), ()) := by
  rw [← ok_eq, laws_FnExactIsTail_t]
  refine (szReplica_ok k r hk h1 hl hs).bind fun q hq => ?_
  rw [ok_cndS]
  simp only [a_ltI, decide_eq_true_eq, decide_eq_false_iff_not]
  refine ⟨fun _ => ok_some.2 rfl, fun hn => ?_⟩
  rcases hq with hq | ⟨_, h2, h3⟩
  · omega
  rw [ok_eq]
  simp [toReplica_eq k r hk h2 h3, eqReplica_eq k r r hk h2 h3, impl_IsTail_eq k (by omega), spec_IsTail_eq k (by omega)]
theorem FnExactCopyTarget_true (k : Nat) (hk : 2000000 ≤ k) (r : Rep) (n : Int) (h1 : r.1.2.1.length ≤ 9223372036854775807) (hl : r.2.2.1.length ≤ 9223372036854775807) (hs : ∀ e ∈ r.2.2.1, e.2.2.1.2.1.length ≤ 9223372036854775807) :
    laws_FnExactCopyTarget_t A k (r, (n, ())) () = some ((true, ()), ()) := by
  rw [← ok_eq, laws_FnExactCopyTarget_t]
  refine (szReplica_ok k r hk h1 hl hs).bind fun q hq => ?_
  rw [ok_cndS]
  simp only [a_ltI, decide_eq_true_eq, decide_eq_false_iff_not]
  refine ⟨fun _ => ok_some.2 rfl, fun hn => ?_⟩
  rcases hq with hq | ⟨_, h2, h3⟩
  · omega
  rw [ok_eq]
  simp [toReplica_eq k r hk h2 h3, eqReplica_eq k r r hk h2 h3, impl_CopyTarget_eq k (by omega), spec_CopyTarget_eq k (by omega) r n (by omega) (by omega)]
theorem szMessage_ok (k : Nat) (m : Msg) (hk : 2000000 ≤ k) (h1 : m.2.2.2.1.2.1.length ≤ 9223372036854775807) (hl : m.2.2.2.2.1.length ≤ 9223372036854775807) (hs : ∀ e ∈ m.2.2.2.2.1, e.2.2.1.2.1.length ≤ 9223372036854775807) :
    Ok (laws_szMessage_t A k (m, (1048576, ())) ()) (fun q => q.1.1 < 0 ∨ (0 ≤ q.1.1 ∧ m.2.2.2.1.2.1.length ≤ 1048576 ∧ m.2.2.2.2.1.length ≤ 1048576)) := by
  rw [laws_szMessage_t, szConfig_eq k m.2.2.2.1 1048576 (by omega) (by omega) h1, a_obind_some, ok_cndS]
  simp only [a_ltI, decide_eq_true_eq, decide_eq_false_iff_not]
  refine ⟨fun _ => ok_some.2 (.inl (by show (-1 : Int) < 0; omega)), fun h => ?_⟩
  by_cases hc : (1048576 : Int) < m.2.2.2.1.2.1.length
  · rw [if_pos hc] at h; omega
  rw [if_neg hc] at h ⊢
  refine (szEntryS_ok k m.2.2.2.2.1 _ (by omega) (by omega) hk hl hs).bind fun q hq => ?_
  rw [ok_cndS]
  simp only [a_ltI, decide_eq_true_eq, decide_eq_false_iff_not]
  refine ⟨fun _ => ok_some.2 (.inl (by show (-1 : Int) < 0; omega)), fun hh => ok_some.2 (.inr ?_)⟩
  rcases hq with hq | hq
  · omega
  · exact ⟨hq.1, by omega, hq.2.2⟩
theorem toMessage_eq (k : Nat) (m : Msg) (hk : 2000000 ≤ k) (h1 : m.2.2.2.1.2.1.length ≤ 1048576) (h2 : m.2.2.2.2.1.length ≤ 1048576) : laws_toMessage_t A k (m, ()) () = some ((m, ()), ()) := by
  simp [laws_toMessage_t, toConfig_eq k m.2.2.2.1 (by omega) (by omega), toEntryS_eq k m.2.2.2.2.1 (by omega) (by omega)]
theorem eqMessage_eq (k : Nat) (r s : Msg) (hk : 2000000 ≤ k) (h1 : r.2.2.2.1.2.1.length ≤ 1048576) (h2 : r.2.2.2.2.1.length ≤ 1048576) : laws_eqMessage_t A k (r, (s, ())) () = some ((decide (r = s), ()), ()) := by
  obtain ⟨a1, a2, a3, a4, a5, _⟩ := r
  obtain ⟨b1, b2, b3, b4, b5, _⟩ := s
  simp only at h1 h2
  simp only [laws_eqMessage_t, eqConfig_eq k a4 b4 (by omega) (by omega), eqEntryS_eq k a5 b5 (by omega) (by omega), a_obind_some, a_cndS, a_notB, a_eqI]
  by_cases h1 : a1 = b1
  · by_cases h2 : a2 = b2
    · by_cases h3 : a3 = b3
      · by_cases h4 : a4 = b4
        · by_cases h5 : a5 = b5 <;> simp [h1, h2, h3, h4, h5]
        · simp [h1, h2, h3, h4]
      · simp [h1, h2, h3]
    · simp [h1, h2]
  · simp [h1]
theorem FnExactMessageValid_true (k : Nat) (hk : 2000000 ≤ k) (m : Msg) (h1 : m.2.2.2.1.2.1.length ≤ 9223372036854775807) (hl : m.2.2.2.2.1.length ≤ 9223372036854775807) (hs : ∀ e ∈ m.2.2.2.2.1, e.2.2.1.2.1.length ≤ 9223372036854775807) :
    laws_FnExactMessageValid_t A k (m, ()) () = some ((true, ()), ()) := by
  rw [← ok_eq, laws_FnExactMessageValid_t]
  refine (szMessage_ok k m hk h1 hl hs).bind fun q hq => ?_
  rw [ok_cndS]
  simp only [a_ltI, decide_eq_true_eq, decide_eq_false_iff_not]
  refine ⟨fun _ => ok_some.2 rfl, fun hn => ?_⟩
  rcases hq with hq | ⟨_, h2, h3⟩
  · omega
  rw [ok_eq]
  simp [toMessage_eq k m hk h2 h3, eqMessage_eq k m m hk h2 h3, impl_MessageValid_eq k (by omega), spec_MessageValid_eq k (by omega)]
end
abbrev TCfg' : Ty := .prod (.int .i64) (.prod (.slice (.int .i64)) (.prod .bool .unit))
abbrev TRep : Ty := .prod TCfg' (.prod .bool (.prod (.slice TEnt) .unit))
abbrev TMsg : Ty := .prod (.int .i64) (.prod (.int .i64) (.prod (.int .i64) (.prod TCfg' (.prod (.slice TEnt) .unit))))
theorem keys_of {l : List TEnt.val} (h : InR (.slice TEnt) l) : ∀ e ∈ (show List Ent from l), e.2.2.1.2.1.length ≤ 9223372036854775807 :=
  fun e he => Nat.le_trans (h.2 e he).2.2.1.2.1 (by decide)
theorem FnExactReplicaValid_pure (r : TRep.val) (h : InR TRep r) : ∃ k, laws_FnExactReplicaValid_t real k (r, ()) () = some ((true, ()), ()) :=
  haveI := isReal_real
  ⟨2000000, FnExactReplicaValid_true 2000000 (by omega) r (Nat.le_trans h.1.2.1.1 (by decide)) (Nat.le_trans h.2.2.1.1 (by decide)) (keys_of h.2.2.1)⟩
theorem FnExactIsTail_pure (r : TRep.val) (h : InR TRep r) (n : Int) (_ : InR (.int .i64) n) : ∃ k, laws_FnExactIsTail_t real k (r, (n, ())) () = some ((true, ()), ()) :=
  haveI := isReal_real
  ⟨2000000, FnExactIsTail_true 2000000 (by omega) r n (Nat.le_trans h.1.2.1.1 (by decide)) (Nat.le_trans h.2.2.1.1 (by decide)) (keys_of h.2.2.1)⟩
theorem FnExactCopyTarget_pure (r : TRep.val) (h : InR TRep r) (n : Int) (_ : InR (.int .i64) n) : ∃ k, laws_FnExactCopyTarget_t real k (r, (n, ())) () = some ((true, ()), ()) :=
  haveI := isReal_real
  ⟨2000000, FnExactCopyTarget_true 2000000 (by omega) r n (Nat.le_trans h.1.2.1.1 (by decide)) (Nat.le_trans h.2.2.1.1 (by decide)) (keys_of h.2.2.1)⟩
theorem FnExactMessageValid_pure (m : TMsg.val) (h : InR TMsg m) : ∃ k, laws_FnExactMessageValid_t real k (m, ()) () = some ((true, ()), ()) :=
  haveI := isReal_real
  ⟨2000000, FnExactMessageValid_true 2000000 (by omega) m (Nat.le_trans h.2.2.2.1.2.1.1 (by decide)) (Nat.le_trans h.2.2.2.2.1.1 (by decide)) (keys_of h.2.2.2.2.1)⟩
end Go.Den.T
