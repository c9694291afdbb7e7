/- Replay: validity is kept; checkpoints taken and restored. -/
import Derived.Test.YtdmlbmedihjdmaaGreatXP6
import Derived.Test.YtdmlbmedihjdmaaGreatXR5

namespace Go.Den.T
set_option linter.unusedVariables false
set_option linter.unusedSimpArgs false
set_option linter.unusedSectionVars false
section
variable {A : Atoms} [IsReal A]
theorem logOk_iff' {l : List Ent} : logOk l = true ↔ l.length ≤ 24 ∧ ∀ e ∈ l, entOk e = true := by
  simp only [logOk, Bool.and_eq_true, decide_eq_true_eq, List.all_eq_true]
theorem cmd_val {c : Cmd} (h : cmdOk c = true) (h5 : c.1 ≠ 5) (h1 : c.1 ≠ 1) (h3 : c.1 ≠ 3) : valOk c.2.2.1 = true := by
  simp only [cmdOk, Bool.and_eq_true] at h
  have h := h.2
  rw [if_neg (by simp [h1, h3, h5])] at h
  split at h
  · simp only [decide_eq_true_eq] at h
    simp [valOk, h.1]
  · split at h
    · simp only [decide_eq_true_eq] at h
      simp [valOk, h.1]
    · cases h
theorem appC_ok {l : List Pair} (h : pairsOk l = true) {c : Cmd} (hc : cmdOk c = true) (h5 : c.1 ≠ 5) : pairsOk (appC l c).1 = true ∧ (∀ p ∈ (appC l c).1, p ∈ l ∨ p.1 = c.2.1) ∧ -2 ≤ (appC l c).2.1 ∧ (appC l c).2.1 ≤ 999 := by
  have hg := pget_cases l c.2.1
  have hkey : keyOk c.2.1 = true := by
    rcases cmd_key hc with h | h
    · exact h
    · exact absurd h.1 h5
  unfold appC
  rw [if_pos ⟨by simp [h, hc], h5⟩]
  split
  · obtain ⟨k1, k2⟩ := pdrop_ok h c.2.1
    exact ⟨k1, fun p hp => .inl (k2 p hp), by show -2 ≤ pget l c.2.1; omega, by show pget l c.2.1 ≤ 999; omega⟩
  · rename_i h3
    split
    · exact ⟨h, fun p hp => .inl hp, by show -2 ≤ pget l c.2.1; omega, by show pget l c.2.1 ≤ 999; omega⟩
    · rename_i h1
      have h1 : c.1 ≠ 1 := fun e => h1 (.inl e)
      split
      · exact ⟨h, fun p hp => .inl hp, by simp, by simp⟩
      · obtain ⟨k1, k2⟩ := pput_ok h hkey (cmd_val hc h5 h1 h3)
        exact ⟨k1, fun p hp => (k2 p hp).imp id (fun e => by rw [e]), by show -2 ≤ pget l c.2.1; omega, by show pget l c.2.1 ≤ 999; omega⟩
theorem apE_ok {s : Stt} (h : stOk s = true) {e : Ent} (he : entOk e = true) : stOk (apE s e).1 = true := by
  obtain ⟨p1, p2, p3, p4, p5⟩ := stOk_parts h
  obtain ⟨q1, q2, q3⟩ := entOk_parts he
  unfold apE
  rw [if_pos (by simp [h, he])]
  split
  · exact h
  split
  · exact h
  split
  · exact h
  rename_i hm
  simp only [Bool.or_eq_true, Bool.not_eq_true', not_or, Bool.not_eq_true, Bool.not_eq_false] at hm
  obtain ⟨hz, ht⟩ := hm
  split
  · rename_i h5
    have hs := sput_ok p3 (s := (e.1, (e.2.1, (0, ())))) ⟨q1, q2, by simp, by simp⟩
    have hcut : e.2.2.1.2.1 = [] ∨ (cut s.1 e.2.2.1.2.1).2.2.1 = true := by
      simp only [takes, h5, if_true, Bool.or_eq_true, decide_eq_true_eq] at ht
      exact ht
    simp only [stOk, p1, p2, hs, p4, Bool.true_and, Bool.or_eq_true, decide_eq_true_eq]
    exact hcut
  · rename_i h5
    obtain ⟨k1, k2, k3, k4⟩ := appC_ok p2 q3 h5
    have hs := sput_ok p3 (s := (e.1, (e.2.1, ((appC s.2.1 e.2.2.1).2.1, ())))) ⟨q1, q2, k3, k4⟩
    have hin : inside s.1 e.2.2.1.2.1 = true := by simpa only [takes, h5, if_false] using ht
    have hall : (appC s.2.1 e.2.2.1).1.all (fun p => inside s.1 p.1) = true := by
      rw [List.all_eq_true]
      intro p hp
      rcases k2 p hp with hp | hp
      · exact (List.all_eq_true.1 p4) p hp
      · rw [hp]; exact hin
    simp only [stOk, p1, k1, hs, hall, Bool.true_and, Bool.or_eq_true, decide_eq_true_eq, Bool.and_eq_true]
    exact p5
/-- a log applied to a state, with the replies -/
def rep (s : Stt) : List Ent → Stt × List Int
  | [] => (s, [])
  | e :: l => ((rep (apE s e).1 l).1, (apE s e).2.1 :: (rep (apE s e).1 l).2)
theorem rep_append (s : Stt) : ∀ (l m : List Ent), rep s (l ++ m) = ((rep (rep s l).1 m).1, (rep s l).2 ++ (rep (rep s l).1 m).2) ∧ (rep s l).2.length = l.length := by
  intro l
  induction l generalizing s with
  | nil => intro m; exact ⟨rfl, rfl⟩
  | cons e l ih =>
    intro m
    obtain ⟨h1, h2⟩ := ih (apE s e).1 m
    exact ⟨by simp only [List.cons_append, rep, h1], by simp only [rep, List.length_cons, h2]⟩
theorem rep_snoc (s : Stt) (l : List Ent) (e : Ent) : rep s (l ++ [e]) = ((apE (rep s l).1 e).1, (rep s l).2 ++ [(apE (rep s l).1 e).2.1]) := (rep_append s l [e]).1
theorem rep_ok {s : Stt} (h : stOk s = true) : ∀ {l : List Ent}, (∀ e ∈ l, entOk e = true) → stOk (rep s l).1 = true := by
  intro l
  induction l generalizing s with
  | nil => intro _; exact h
  | cons e l ih => intro hl; exact ih (apE_ok h (hl e (by simp))) (fun x hx => hl x (by simp [hx]))
def replay (s : Stt) (l : List Ent) : Stt × (List Int × Unit) := if (stOk s && logOk l) = true then ((rep s l).1, ((rep s l).2, ())) else (stt0, ([], ()))
theorem st_short {s : Stt} (h : stOk s = true) : s.2.1.length ≤ 48 ∧ s.2.2.1.length ≤ 4 := by
  obtain ⟨_, p2, p3, _⟩ := stOk_parts h
  exact ⟨pairs_len p2, ses_le4 p3⟩
theorem impl_Replay_eq (k : Nat) (hk : 100 ≤ k) (s : Stt) (l : List Ent) (hk2 : s.2.2.1.length < k) (hl : s.2.2.1.length ≤ 1000000000) : impl_Replay_t A k (s, (l, ())) () = some (replay s l, ()) := by
  simp only [impl_Replay_t, impl_StateValid_eq k (by omega : 60 ≤ k) s hk2 hl, entriesValid_eq k (by omega : 30 ≤ k), a_obind_some, a_cndS, a_notB, replay]
  rcases Bool.eq_false_or_eq_true (stOk s) with h1 | h1
  case inr => simp [h1]
  rcases Bool.eq_false_or_eq_true (logOk l) with h2 | h2
  case inr => simp [h1, h2]
  obtain ⟨g1, g2⟩ := st_short h1
  obtain ⟨m1, m2⟩ := logOk_iff'.1 h2
  have hloop : A.iter k (impl_Replay_t_b0 A k) (([] : List Int), (l, ((l.length : Int), ((0 : Int), (stt0, (s, ())))))) = some ((rep s l).2, (stt0, ((rep s l).1, ()))) := by
    rw [← ok_eq]
    refine iter_ok (fun m (st : List Int × (List Ent × (Int × (Int × (Stt × (Stt × Unit)))))) => ∃ i : Nat, st = ((rep s (l.take i)).2, (l, ((l.length : Int), ((i : Int), (stt0, ((rep s (l.take i)).1, ())))))) ∧ i ≤ l.length ∧ m = l.length - i) _ ?_ (n := l.length) (by omega) ⟨0, by simp [rep], by omega, by omega⟩
    rintro m st ⟨i, rfl, hi, rfl⟩
    have w : A.wrapI .i64 (A.addI (i : Int) 1) = ((i + 1 : Nat) : Int) := by rw [a_addI, a_wrap (by omega) (by omega)]; rfl
    have hv := rep_ok h1 (l := l.take i) (fun e he => m2 e (List.mem_of_mem_take he))
    obtain ⟨v1, v2⟩ := st_short hv
    have hrl : (rep s (l.take i)).2.length = i := by rw [(rep_append s (l.take i) []).2, List.length_take]; omega
    rw [impl_Replay_t_b0, ok_cndS]
    refine ⟨fun q1 => ?_, fun q1 => ok_some.2 ⟨fun s' e => (by cases e), fun r e => ?_⟩⟩
    · have hlt' : (i : Int) < l.length := by simpa using q1
      have hlt : i < l.length := by omega
      have hb := in_bounds (A := A) (l := l) (i := (i : Int)) (by omega) hlt'
      have hgo : l.take (i + 1) = l.take i ++ [l.getD i ent0] := by rw [List.take_succ_eq_append_getElem hlt, getD_lt hlt]
      rw [ok_cndS]
      refine ⟨fun _ => ?_, fun hc => (by rw [hb] at hc; cases hc)⟩
      rw [a_atL, Int.toNat_natCast, impl_ApplyEntry_eq k hk (rep s (l.take i)).1 _ (by omega) (by omega), a_obind_some, ok_cndS]
      refine ⟨fun _ => ok_some.2 ⟨fun s' e => ?_, fun r e => (by cases e)⟩, fun hc => (by simp [hrl] at hc; omega)⟩
      injection e with e; subst e
      exact ⟨l.length - (i + 1), by omega, i + 1, by rw [hgo, rep_snoc, w, a_appL], by omega, rfl⟩
    · injection e with e; subst e
      have hge : ¬ (i : Int) < l.length := by simpa using q1
      have : i = l.length := by omega
      subst this
      rw [List.take_length]
  simp only [h1, h2, Bool.not_true, Bool.false_eq_true, if_false, if_true, a_sumE_inl, a_obind_some, copyState_eq k s (show s.2.1.length ≤ 1000000000 by omega) hl, a_lenL, hloop, Bool.and_self]
theorem spec_Replay_eq (k : Nat) (hk : 100 ≤ k) (s : Stt) (l : List Ent) (hk2 : s.2.2.1.length < k) (hl : s.2.2.1.length ≤ 1000000000) : spec_Replay_t A k (s, (l, ())) () = some (replay s l, ()) := by
  simp only [spec_Replay_t, spec_StateValid_eq k (by omega : 60 ≤ k) s hk2 hl, l10Log_eq k (by omega : 30 ≤ k), a_obind_some, a_cndS, a_notB, replay]
  rcases Bool.eq_false_or_eq_true (stOk s) with h1 | h1
  case inr => simp [h1]
  rcases Bool.eq_false_or_eq_true (logOk l) with h2 | h2
  case inr => simp [h1, h2]
  obtain ⟨g1, g2⟩ := st_short h1
  obtain ⟨m1, m2⟩ := logOk_iff'.1 h2
  have hloop : A.iter k (spec_Replay_t_b0 A k) (l, (([] : List Int), ((0 : Int), (stt0, (s, ()))))) = some ((rep s l).2, (stt0, ((rep s l).1, ()))) := by
    rw [← ok_eq]
    refine iter_ok (fun m (st : List Ent × (List Int × (Int × (Stt × (Stt × Unit))))) => ∃ i : Nat, st = (l, ((rep s (l.take i)).2, ((i : Int), (stt0, ((rep s (l.take i)).1, ()))))) ∧ i ≤ l.length ∧ m = l.length - i) _ ?_ (n := l.length) (by omega) ⟨0, by simp [rep], by omega, by omega⟩
    rintro m st ⟨i, rfl, hi, rfl⟩
    have w : A.wrapI .i64 (A.addI (i : Int) 1) = ((i + 1 : Nat) : Int) := by rw [a_addI, a_wrap (by omega) (by omega)]; rfl
    have hv := rep_ok h1 (l := l.take i) (fun e he => m2 e (List.mem_of_mem_take he))
    obtain ⟨v1, v2⟩ := st_short hv
    have hrl : (rep s (l.take i)).2.length = i := by rw [(rep_append s (l.take i) []).2, List.length_take]; omega
    rw [spec_Replay_t_b0, ok_cndS]
    refine ⟨fun q1 => ?_, fun q1 => ok_some.2 ⟨fun s' e => (by cases e), fun r e => ?_⟩⟩
    · have hlt' : (i : Int) < l.length := by simpa using q1
      have hlt : i < l.length := by omega
      have hb := in_bounds (A := A) (l := l) (i := (i : Int)) (by omega) hlt'
      have hgo : l.take (i + 1) = l.take i ++ [l.getD i ent0] := by rw [List.take_succ_eq_append_getElem hlt, getD_lt hlt]
      rw [ok_cndS]
      refine ⟨fun _ => ?_, fun hc => (by rw [hb] at hc; cases hc)⟩
      rw [a_atL, Int.toNat_natCast, spec_ApplyEntry_eq k hk (rep s (l.take i)).1 _ (by omega) (by omega), a_obind_some, ok_cndS]
      refine ⟨fun _ => ok_some.2 ⟨fun s' e => ?_, fun r e => (by cases e)⟩, fun hc => (by simp [hrl] at hc; omega)⟩
      injection e with e; subst e
      exact ⟨l.length - (i + 1), by omega, i + 1, by rw [hgo, rep_snoc, w, a_appL], by omega, rfl⟩
    · injection e with e; subst e
      have hge : ¬ (i : Int) < l.length := by simpa using q1
      have : i = l.length := by omega
      subst this
      rw [List.take_length]
  simp only [h1, h2, Bool.not_true, Bool.false_eq_true, if_false, if_true, a_sumE_inl, a_obind_some, l10Copy_eq k s (show s.2.1.length ≤ 1000000000 by omega) hl, a_lenL, hloop, Bool.and_self]
def restK (c : Chk) (l : List Ent) : Stt × (List Int × (Bool × Unit)) := if (chkOk c && logOk l) = true ∧ c.1 + l.length ≤ 24 then ((rep c.2.1 l).1, ((rep c.2.1 l).2, (true, ()))) else (stt0, ([], (false, ())))
theorem impl_RestoreCheckpoint_eq (k : Nat) (hk : 100 ≤ k) (c : Chk) (l : List Ent) (hk2 : c.2.1.2.2.1.length < k) (hl : c.2.1.2.2.1.length ≤ 1000000000) : impl_RestoreCheckpoint_t A k (c, (l, ())) () = some (restK c l, ()) := by
  simp only [impl_RestoreCheckpoint_t, impl_CheckpointValid_eq k (by omega : 60 ≤ k) c hk2 hl, entriesValid_eq k (by omega : 30 ≤ k), a_obind_some, a_cndS, a_notB, restK, a_ltI, a_lenL, a_addI]
  rcases Bool.eq_false_or_eq_true (chkOk c) with h1 | h1
  case inr => simp [h1]
  rcases Bool.eq_false_or_eq_true (logOk l) with h2 | h2
  case inr => simp [h1, h2]
  have hc : (0 ≤ c.1 ∧ c.1 ≤ 24) ∧ stOk c.2.1 = true := by simpa [chkOk] using h1
  have hll := (logOk_iff'.1 h2).1
  have w : A.wrapI .i64 (c.1 + (l.length : Int)) = c.1 + (l.length : Int) := a_wrap (by omega) (by omega)
  rw [w]
  by_cases n1 : 24 < c.1 + (l.length : Int)
  · have : ¬ c.1 + (l.length : Int) ≤ 24 := by omega
    simp [h1, h2, n1, this]
  · have m1 : c.1 + (l.length : Int) ≤ 24 := by omega
    simp only [h1, h2, n1, m1, decide_false, decide_true, Bool.not_true, Bool.false_eq_true, if_false, if_true, a_sumE_inl, a_obind_some, Bool.and_self, impl_Replay_eq k hk c.2.1 _ hk2 hl, replay, hc.2, and_self]
theorem spec_RestoreCheckpoint_eq (k : Nat) (hk : 100 ≤ k) (c : Chk) (l : List Ent) (hk2 : c.2.1.2.2.1.length < k) (hl : c.2.1.2.2.1.length ≤ 1000000000) : spec_RestoreCheckpoint_t A k (c, (l, ())) () = some (restK c l, ()) := by
  simp only [spec_RestoreCheckpoint_t, spec_CheckpointValid_eq k (by omega : 60 ≤ k) c hk2 hl, l10Log_eq k (by omega : 30 ≤ k), a_obind_some, a_cndS, a_notB, restK, a_ltI, a_lenL, a_subI]
  rcases Bool.eq_false_or_eq_true (chkOk c) with h1 | h1
  case inr => simp [h1]
  rcases Bool.eq_false_or_eq_true (logOk l) with h2 | h2
  case inr => simp [h1, h2]
  have hc : (0 ≤ c.1 ∧ c.1 ≤ 24) ∧ stOk c.2.1 = true := by simpa [chkOk] using h1
  have hll := (logOk_iff'.1 h2).1
  have w : A.wrapI .i64 (24 - c.1) = 24 - c.1 := a_wrap (by omega) (by omega)
  rw [w]
  by_cases n1 : 24 - c.1 < (l.length : Int)
  · have : ¬ c.1 + (l.length : Int) ≤ 24 := by omega
    simp [h1, h2, n1, this]
  · have m1 : c.1 + (l.length : Int) ≤ 24 := by omega
    simp only [h1, h2, n1, m1, decide_false, decide_true, Bool.not_true, Bool.false_eq_true, if_false, if_true, a_sumE_inl, a_obind_some, Bool.and_self, spec_Replay_eq k hk c.2.1 _ hk2 hl, replay, hc.2, and_self]
end
end Go.Den.T
