/- Drawn laws on configurations. -/
import Derived.Test.YtbfndjfjkkfaeaaXC3
import Derived.Test.YtbfndjfjkkfaeaaXE2

namespace Go.Den.T
set_option linter.unusedVariables false
set_option linter.unusedSimpArgs false
variable {A : Atoms} [IsReal A]
theorem sameInts_eq (k : Nat) (xs ys : List Int) (hk : xs.length < k) (hl : xs.length ≤ 1000000000) : laws_sameInts_t A k (xs, (ys, ())) () = some ((decide (xs = ys), ()), ()) := by
  by_cases he : xs.length = ys.length
  · have h := iter_all (A := A) (f := laws_sameInts_t_b0 A k) (fun i => (xs, (ys, ((i : Int), ())))) xs.length (fun i => decide (xs.getD i 0 = ys.getD i 0)) (.inr ((false, ()), ())) (.inl ())
      (fun i hi => by
        have hi' : i < ys.length := by omega
        simp (disch := omega) [laws_sameInts_t_b0, hi, hi', a_wrap]
        by_cases hv : xs[i] = ys[i] <;> simp [hv])
      (by simp [laws_sameInts_t_b0]) hk
    rw [list_eq_iff he] at h
    simp [laws_sameInts_t, he]
    simp at h
    rw [h]
    by_cases hv : xs = ys <;> simp [hv]
  · have h2 : ¬ (xs.length : Int) = ys.length := by omega
    have h3 : ¬ xs = ys := fun e => he (by rw [e])
    simp [laws_sameInts_t, h2, h3]
theorem sameConfig_eq (k : Nat) (c d : Cfg) (hk : c.2.1.length < k) (hl : c.2.1.length ≤ 1000000000) : laws_sameConfig_t A k (c, (d, ())) () = some ((decide (c = d), ()), ()) := by
  obtain ⟨e1, xs, f1, _⟩ := c
  obtain ⟨e2, ys, f2, _⟩ := d
  simp only at hk hl
  simp [laws_sameConfig_t, sameInts_eq k xs ys hk hl]
  by_cases h1 : e1 = e2
  · by_cases h2 : xs = ys
    · by_cases h3 : f1 = f2 <;> simp [h1, h2, h3]
    · simp [h1, h2]
  · simp [h1]
theorem not_mem_take' {xs : List Int} {v : Int} : (List.range xs.length).all (fun j => !decide (xs.getD j 0 = v)) = !decide (v ∈ xs) := by
  have h := all_range (xs := xs) (q := fun x => !decide (x = v)) (d := 0)
  rw [h, Bool.eq_iff_iff, List.all_eq_true]
  simp only [Bool.not_eq_true', decide_eq_false_iff_not]
  exact ⟨fun h hm => h v hm rfl, fun h x hx e => h (e ▸ hx)⟩
theorem hasInt_eq (k : Nat) (xs : List Int) (v : Int) (hk : xs.length < k) (hl : xs.length ≤ 1000000000) : laws_hasInt_t A k (xs, (v, ())) () = some ((decide (v ∈ xs), ()), ()) := by
  have h := iter_all (A := A) (f := laws_hasInt_t_b0 A k) (fun i => (xs, (v, ((i : Int), ())))) xs.length (fun i => !decide (xs.getD i 0 = v)) (.inr ((true, ()), ())) (.inl ())
    (fun i hi => by
      simp (disch := omega) [laws_hasInt_t_b0, hi, a_wrap]
      by_cases hv : xs[i] = v <;> simp [hv])
    (by simp [laws_hasInt_t_b0]) hk
  have e := not_mem_take' (xs := xs) (v := v)
  rw [e] at h
  simp at h
  simp [laws_hasInt_t, h]
  by_cases hv : v ∈ xs <;> simp [hv]
theorem DrawCompleteMembers_ok (k : Nat) (hk : 10 ≤ k) (a : List Int) (hb : ∀ x ∈ a, 0 ≤ x ∧ x ≤ 255) : Ok (spec_DrawCompleteMembers_t A k (a, ()) ()) (fun q => Short q.1.1) := by
  rw [spec_DrawCompleteMembers_t]
  refine (open_ok k a hb).bind fun q hq => ?_
  refine (l20Config_ok k hk 6 0 q.1 hq (by omega) (by omega)).bind fun q1 h1 => ok_some.2 h1.2
theorem DrawConfigDone_ok (k : Nat) (hk : 10 ≤ k) (a : List Int) (hb : ∀ x ∈ a, 0 ≤ x ∧ x ≤ 255) : Ok (spec_DrawConfigDone_t A k (a, ()) ()) (fun q => Short q.1.1) := by
  rw [spec_DrawConfigDone_t]
  refine (open_ok k a hb).bind fun q hq => ?_
  refine (l20Config_ok k hk 6 0 q.1 hq (by omega) (by omega)).bind fun q1 h1 => ok_some.2 h1.2
theorem Node_ok (k : Nat) (n N : Int) (r : Rd) (h : RdOk N r) (hp : N ≤ 900000000) (hn : n ≤ 1000000000) : Ok (spec_l20Node_t A k ((), (n, ())) r) (fun q => RdOk (N + 2) q.2 ∧ -1 ≤ q.1.1 ∧ q.1.1 ≤ 5) := by
  rw [spec_l20Node_t]
  refine (odd_ok k n N r h (by omega) (by omega)).bind fun q hq => ?_
  rw [ok_cndS]
  refine ⟨fun _ => ?_, fun _ => ?_⟩
  · refine (pick_ok k 2 _ _ hq (by omega) (by omega)).bind fun q1 hq1 => ?_
    have b1 := hq1.2.1
    have b2 := hq1.2.2.2.1 (by omega)
    rw [ok_cndS]
    refine ⟨fun _ => ok_some.2 ⟨hq1.1.le (by omega), ?_⟩, fun hc => ?_⟩
    · rw [a_atL]
      have : ∀ i : Nat, i < 2 → -1 ≤ ([-1, 5] : List Int).getD i 0 ∧ ([-1, 5] : List Int).getD i 0 ≤ 5 := by
        intro i hi
        rcases i with _ | _ | i <;> simp
      exact this _ (by omega)
    · simp at hc; omega
  · refine (pick_ok k 5 _ _ hq (by omega) (by omega)).bind fun q1 hq1 => ?_
    have b1 := hq1.2.1
    have b2 := hq1.2.2.2.1 (by omega)
    exact ok_some.2 ⟨hq1.1.le (by omega), by show -1 ≤ q1.1.1; omega, by show q1.1.1 ≤ 5; omega⟩
theorem DrawMemberAfter_ok (k : Nat) (hk : 10 ≤ k) (a : List Int) (hb : ∀ x ∈ a, 0 ≤ x ∧ x ≤ 255) : Ok (spec_DrawMemberAfter_t A k (a, ()) ()) (fun q => Short q.1.1) := by
  rw [spec_DrawMemberAfter_t]
  refine (open_ok k a hb).bind fun q hq => ?_
  refine (l20Config_ok k hk 9 0 q.1 hq (by omega) (by omega)).bind fun q1 h1 => ?_
  exact (Node_ok k 12 _ _ h1.1 (by omega) (by omega)).bind fun q2 h2 => ok_some.2 h1.2
theorem DrawWithoutMember_ok (k : Nat) (hk : 10 ≤ k) (a : List Int) (hb : ∀ x ∈ a, 0 ≤ x ∧ x ≤ 255) : Ok (spec_DrawWithoutMember_t A k (a, ()) ()) (fun q => Short q.1.1) := by
  rw [spec_DrawWithoutMember_t]
  exact (DrawMemberAfter_ok k hk a hb).bind fun q hq => ok_some.2 hq
theorem complete_get {c : Cfg} (h : 0 < (complete c).length) : (complete c).getD 0 0 = c.2.1.getD 0 0 := by
  unfold complete at h ⊢
  split
  · rename_i hf
    rw [if_pos hf] at h
    rw [getD_lt h, getD_lt (by simp at h; omega)]
    simp
  · rfl
theorem FnCompleteMembers_true (k : Nat) (hk : 200 ≤ k) (a : List Int) (hb : ∀ x ∈ a, 0 ≤ x ∧ x ≤ 255) : laws_FnCompleteMembers_t A k (a, ()) () = some ((true, ()), ()) := by
  rw [← ok_eq, laws_FnCompleteMembers_t, ok_cndS]
  refine ⟨fun _ => ok_some.2 rfl, fun _ => ?_⟩
  refine (DrawCompleteMembers_ok k (by omega) a hb).bind fun q hs => ?_
  obtain ⟨⟨c, _⟩, _⟩ := q
  simp only at hs
  have hl := completeOr_len c
  have e := spec_CompleteMembers_eq (A := A) k (by omega) c
  rw [← completeOr] at e
  simp only [impl_ConfigValid_eq k (by omega : 10 ≤ k), impl_CompleteMembers_eq k (by omega : 10 ≤ k), e, alive_eq k (by omega : 10 ≤ k), a_obind_some, sameInts_eq k (completeOr c) (completeOr c) (by omega) (by omega), sameInts_eq k (completeOr c) (A.takeL c.2.1 (A.lenL (completeOr c))) (by omega) (by omega)]
  rw [ok_eq]
  cases h : cfgOk c with
  | false => simp [completeOr, h]
  | true =>
    have hx := cfgOk_len h
    have e1 : completeOr c = complete c := by simp [completeOr, h]
    have e2 : c.2.2.1 = true → (complete c).length = c.2.1.length - 1 := by intro hf; simp [complete, hf]
    have e3 : c.2.2.1 = false → complete c = c.2.1 := by intro hf; simp [complete, hf]
    have hpos : 0 < (complete c).length := by
      cases hf : c.2.2.1 with
      | true => rw [e2 hf]; have := hx.2.2.2.2 hf; omega
      | false => rw [e3 hf]; omega
    have h0 : (0 : Int) < ((complete c).length : Int) := by omega
    have h0' : 0 < c.2.1.length := by omega
    have hg := complete_get hpos
    have hle := complete_len c
    have ht : complete c = c.2.1.take (complete c).length := by
      cases hf : c.2.2.1 with
      | true => rw [e2 hf]; simp [complete, hf]
      | false => rw [e3 hf]; simp
    have hle' : ((complete c).length : Int) ≤ (c.2.1.length : Int) := by omega
    simp only [List.getD] at hg
    cases hf : c.2.2.1 with
    | true =>
      have q1 : ¬ ((complete c).length : Int) = (c.2.1.length : Int) := by have := e2 hf; omega
      have q2 : ((complete c).length : Int) = (c.2.1.length : Int) - 1 := by have := e2 hf; omega
      have q3 : (1 : Int) < (c.2.1.length : Int) := by omega
      have q4 : ¬ (c.2.1.length : Int) - 1 = (c.2.1.length : Int) := by omega
      have q5 : (1 : Int) ≤ (c.2.1.length : Int) := by omega
      have q6 : (c.2.1.length : Int) - 1 ≤ (c.2.1.length : Int) := by omega
      have q7 : (complete c)[0] = c.2.1[0] := by simpa [hpos, h0'] using hg
      have q8 : complete c = c.2.1.take (c.2.1.length - 1) := by simp [complete, hf]
      simp (disch := omega) [e1, h0, hpos, h0', hf, q1, q2, a_wrap, q3, q4, q5, q6, q7]
      exact q8
    | false =>
      have q1 := e3 hf
      simp (disch := omega) [e1, q1, h0', hf, a_wrap]
theorem FnConfigDone_true (k : Nat) (hk : 200 ≤ k) (a : List Int) (hb : ∀ x ∈ a, 0 ≤ x ∧ x ≤ 255) : laws_FnConfigDone_t A k (a, ()) () = some ((true, ()), ()) := by
  rw [← ok_eq, laws_FnConfigDone_t, ok_cndS]
  refine ⟨fun _ => ok_some.2 rfl, fun _ => ?_⟩
  refine (DrawConfigDone_ok k (by omega) a hb).bind fun q hs => ?_
  obtain ⟨⟨c, _⟩, _⟩ := q
  simp only at hs
  have hl := doneOr_len c
  have hl2 := completeOr_len (doneOr c)
  have e := spec_ConfigDone_eq (A := A) k (by omega) c
  rw [← doneOr] at e
  simp only [impl_ConfigValid_eq k (by omega : 10 ≤ k), impl_ConfigDone_eq k (by omega : 10 ≤ k), impl_CompleteMembers_eq k (by omega : 10 ≤ k), e, alive_eq k (by omega : 10 ≤ k), a_obind_some, sameConfig_eq k (doneOr c) (doneOr c) (by omega) (by omega), sameConfig_eq k (doneOr c) (0, ([], (false, ()))) (by omega) (by omega),
    sameInts_eq k (doneOr c).2.1 c.2.1 (by omega) (by omega), sameInts_eq k (completeOr (doneOr c)) c.2.1 (by omega) (by omega)]
  rw [ok_eq]
  cases h : cfgOk c with
  | false => simp [doneOr, h, zeroC]
  | true =>
    have h2 : cfgOk (c.1, (c.2.1, (false, ()))) = true := by
      simp only [cfgOk, Bool.and_eq_true] at h ⊢
      exact ⟨h.1, h.2.1, by simp, h.2.2.2⟩
    simp [doneOr, h, h2, completeOr, complete]
end Go.Den.T
