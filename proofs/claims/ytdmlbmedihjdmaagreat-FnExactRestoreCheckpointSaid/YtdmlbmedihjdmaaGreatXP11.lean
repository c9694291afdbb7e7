/- The exact law on checkpoints restored. -/
import Derived.Test.YtdmlbmedihjdmaaGreatXP10
import Derived.Test.YtdmlbmedihjdmaaGreatXTr6z

namespace Go.Den.T
set_option linter.unusedVariables false
set_option linter.unusedSimpArgs false
set_option linter.unusedSectionVars false
section
variable {A : Atoms} [IsReal A]
theorem szCheckpoint_ok' (k : Nat) (c : Chk) (hk : 2000000 ≤ k) (hf : StFit c.2.1) : Ok (laws_szCheckpoint_t A k (c, (1048576, ())) ()) (fun q => q.1.1 < 0 ∨ (0 ≤ q.1.1 ∧ q.1.1 ≤ 1048576 ∧ StShort c.2.1)) := by
  rw [laws_szCheckpoint_t]
  refine (szState_ok' k c.2.1 hk hf).bind fun q hq => ?_
  rw [ok_cndS]
  exact ⟨fun _ => ok_some.2 (.inl (by show (-1 : Int) < 0; omega)), fun _ => ok_some.2 hq⟩
theorem restK_short {c : Chk} {l : List Ent} : StShort (restK c l).1 ∧ (restK c l).2.1.length ≤ 24 := by
  unfold restK
  split
  · rename_i h
    obtain ⟨h, _⟩ := h
    simp only [Bool.and_eq_true] at h
    have hcc : (0 ≤ c.1 ∧ c.1 ≤ 24) ∧ stOk c.2.1 = true := by simpa [chkOk] using h.1
    obtain ⟨l1, l2⟩ := logOk_iff'.1 h.2
    have := st_short (rep_ok hcc.2 l2)
    refine ⟨⟨by show (rep c.2.1 l).1.2.1.length ≤ _; omega, by show (rep c.2.1 l).1.2.2.1.length ≤ _; omega⟩, ?_⟩
    show (rep c.2.1 l).2.length ≤ 24
    rw [(rep_append c.2.1 l []).2]; exact l1
  · exact ⟨⟨by simp, by simp⟩, by simp⟩
theorem FnExactRestoreCheckpoint_true (k : Nat) (hk : 2000000 ≤ k) (c : Chk) (l : List Ent) (hf : StFit c.2.1) (hl : l.length ≤ 9223372036854775807) (hs : ∀ e ∈ l, e.2.2.1.2.1.length ≤ 9223372036854775807) : laws_FnExactRestoreCheckpoint_t A k (c, (l, ())) () = some ((true, ()), ()) := by
  rw [← ok_eq, laws_FnExactRestoreCheckpoint_t]
  refine (szCheckpoint_ok' k c hk hf).bind fun q hq => ?_
  rw [ok_cndS]
  simp only [a_ltI, decide_eq_true_eq, decide_eq_false_iff_not]
  refine ⟨fun _ => ok_some.2 rfl, fun hn => ?_⟩
  obtain ⟨hq1, hq2, hsh⟩ := hq.resolve_left hn
  refine (szEntryS_ok k l q.1.1 hq1 hq2 hk hl hs).bind fun q2 h2 => ?_
  rw [ok_cndS]
  simp only [decide_eq_true_eq, decide_eq_false_iff_not]
  refine ⟨fun _ => ok_some.2 rfl, fun hn2 => ?_⟩
  have hll : l.length ≤ 1048576 := by
    rcases h2 with h2 | h2
    · omega
    · exact h2.2.2
  have s1 := hsh.1
  have s2 := hsh.2
  obtain ⟨ht, hi⟩ := restK_short (c := c) (l := l)
  have t1 := ht.1
  have t2 := ht.2
  have g0 : ¬ 1 + 2 * (c.2.1.2.1.length : Int) + 3 * (c.2.1.2.2.1.length : Int) + 6 * (l.length : Int) < 0 := by omega
  have g1 : ¬ 1 + 2 * ((restK c l).1.2.1.length : Int) + 3 * ((restK c l).1.2.2.1.length : Int) < 0 := by omega
  have g2 : ¬ 1 + 2 * ((restK c l).1.2.1.length : Int) + 3 * ((restK c l).1.2.2.1.length : Int) + ((restK c l).2.1.length : Int) < 0 := by omega
  have tk := impl_RestoreCheckpoint_eq (A := A) k (by omega : 100 ≤ k) c l (by omega) (by omega)
  have ts := spec_RestoreCheckpoint_eq (A := A) k (by omega : 100 ≤ k) c l (by omega) (by omega)
  have c1 := eqCheckpoint_eq (A := A) k hk c c hsh
  have c2 := eqState_eq (A := A) k hk (restK c l).1 (restK c l).1 ht
  have c3 := eqEntryS_eq (A := A) k l l (by omega) (by omega)
  have c4 := eqIntS_eq (A := A) k (restK c l).2.1 (restK c l).2.1 (by omega) (by omega)
  simp only [decide_true] at c1 c2 c3 c4
  have m1 := markCheckpoint_eq (A := A) k hk 1 c hsh (by omega) (by omega)
  have m2 := markEntryS_eq (A := A) k (by omega) (1 + 2 * c.2.1.2.1.length + 3 * c.2.1.2.2.1.length) l (by omega) (by omega) (by omega) (by omega)
  have m3 := markState_eq (A := A) k hk 1 (restK c l).1 ht (by omega) (by omega)
  have m4 := heldState_eq (A := A) k hk 1 (restK c l).1 ht (by omega) (by omega)
  have m5 := markIntS_eq (A := A) k (1 + 2 * (restK c l).1.2.1.length + 3 * (restK c l).1.2.2.1.length) (restK c l).2.1 (by omega) (by omega) (by omega) (by omega)
  have m6 := heldIntS_eq (A := A) k (1 + 2 * (restK c l).1.2.1.length + 3 * (restK c l).1.2.2.1.length) (restK c l).2.1.length (by omega) (by omega) (by omega) (by omega)
  rw [ok_eq]
  simp only [toCheckpoint_eq k hk c hsh, toEntryS_eq k l (by omega) (by omega), a_obind_some, tk, ts, c1, c2, c3, c4, a_eqB, beq_self_eq_true, a_notB, Bool.not_true, a_cndS, Bool.false_eq_true, if_false, if_true, a_sumE_inl, m1, m2, m3, m4, m5, m6, a_ltI, g0, g1, g2, decide_false, a_eqI, decide_true]
end
theorem FnExactRestoreCheckpoint_pure (c : TChk.val) (h : InR TChk c) (l : (Ty.slice TEnt).val) (hl : InR (.slice TEnt) l) : ∃ k, laws_FnExactRestoreCheckpoint_t real k (c, (l, ())) () = some ((true, ()), ()) :=
  haveI := isReal_real
  ⟨2000000, FnExactRestoreCheckpoint_true 2000000 (by omega) c l (st_fit h.2.1) (Nat.le_trans hl.1 (by decide)) (keys_of hl)⟩
end Go.Den.T
