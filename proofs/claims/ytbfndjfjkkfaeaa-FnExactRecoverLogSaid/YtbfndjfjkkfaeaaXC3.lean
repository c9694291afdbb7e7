/- Drawn configurations, and the first law. -/
import Derived.Test.YtbfndjfjkkfaeaaXC2

namespace Go.Den.T
set_option linter.unusedVariables false
set_option linter.unusedSimpArgs false
variable {A : Atoms} [IsReal A]
theorem withMember_len (c : Cfg) (n : Int) : (withMember c n).1.2.1.length ≤ 5 ∧ ((withMember c n).2.1 = true → cfgOk c = true) := by
  unfold withMember
  by_cases h : cfgOk c = true
  · have hl := cfgOk_len h
    split
    · split
      · simp; exact ⟨by omega, h⟩
      · simp; omega
    · simp [zeroC]
  · simp [h, zeroC]
theorem without_len (c : Cfg) (i : Nat) : (without c i).2.1.length ≤ c.2.1.length + c.2.1.length := by
  simp [without]; omega
theorem withoutMember_len (c : Cfg) (n : Int) : (withoutMember c n).1.2.1.length ≤ 8 := by
  unfold withoutMember
  by_cases h : cfgOk c = true
  · have hl := cfgOk_len h
    have := without_len c (idx c.2.1 n).toNat
    simp only [h, if_true]
    split <;> simp <;> omega
  · simp [h, zeroC]
/-- a configuration whose lists are short -/
def Short (c : Cfg) : Prop := c.2.1.length ≤ 100
theorem l20Config_loop (k : Nat) (hk : 10 ≤ k) (n N : Int) (hp : N ≤ 900000000) : ∀ m c z r, 0 ≤ m → m ≤ 6 → RdOk (N + 2) r → Short c → Short z → Ok (A.iter k (spec_l20Config_t_b0 A k) (n, (m, (z, (c, r))))) (fun e => e.1 = n ∧ Short e.2.2.1 ∧ RdOk (N + 50) e.2.2.2) := by
  intro m c z r hm hm6 hr hc hz
  refine iter_ok (fun j s => (j : Int) = s.2.1 ∧ s.1 = n ∧ 0 ≤ s.2.1 ∧ s.2.1 ≤ 6 ∧ Short s.2.2.1 ∧ Short s.2.2.2.1 ∧ RdOk (N + 2 + 6 * (6 - s.2.1)) s.2.2.2.2) _ ?_ (n := m.toNat) (by omega) ⟨by simp; omega, rfl, hm, hm6, hz, hc, hr.le (by show N + 2 ≤ N + 2 + 6 * (6 - m); omega)⟩
  rintro j ⟨n', m, z, c, r⟩ ⟨h1, h2, h3, h4, h5, h6, h7⟩
  simp only at h1 h2 h3 h4 h5 h6 h7
  subst h2
  have wm : A.wrapI .i64 (m - 1) = m - 1 := a_wrap (by omega) (by omega)
  rw [spec_l20Config_t_b0, ok_cndS, a_ltI]
  simp only [decide_eq_true_eq, decide_eq_false_iff_not]
  refine ⟨fun hpos => ?_, fun hneg => ok_some.2 ⟨fun s' e => (by cases e), fun e he => (by cases he; exact ⟨rfl, h6, h7.le (by omega)⟩)⟩⟩
  refine (pick_ok k 5 _ r h7 (by omega) (by omega)).bind fun q hq => ?_
  rw [spec_WithMember_eq k hk, a_obind_some]
  have L1 := withMember_len c q.1.1
  refine Ok.bind (P := fun r5 => r5.1 = n' ∧ r5.2.1 = m ∧ Short r5.2.2.2.1 ∧ Short r5.2.2.2.2.1 ∧ Short r5.2.2.2.2.2.1 ∧ RdOk (N + 2 + 6 * (6 - m) + 3) r5.2.2.2.2.2.2) ?_ fun r5 h5' => ?_
  · refine (pick_ok k 4 _ q.2 hq.1 (by omega) (by omega)).bind fun q2 hq2 => ?_
    rw [ok_cndS]
    refine ⟨fun e0 => ?_, fun e0 => ok_some.2 ⟨rfl, rfl, h5, h6, by simp only [Short]; omega, hq2.1.le (by omega)⟩⟩
    refine (pick_ok k 5 _ q2.2 hq2.1 (by omega) (by omega)).bind fun q3 hq3 => ?_
    rw [spec_WithoutMember_eq k hk, a_obind_some]
    have L2 := withoutMember_len c q3.1.1
    exact ok_some.2 ⟨rfl, rfl, h5, h6, by simp only [Short]; omega, hq3.1.le (by omega)⟩
  obtain ⟨g1, g2, g3, g4, g5, g6⟩ := h5'
  refine Ok.bind (P := fun r6 => r6.1 = n' ∧ r6.2.1 = m ∧ Short r6.2.2.1 ∧ Short r6.2.2.2.1 ∧ RdOk (N + 2 + 6 * (6 - m) + 3) r6.2.2.2.2) ?_ fun r6 h6' => ?_
  · rw [ok_cndS]
    exact ⟨fun _ => ok_some.2 ⟨g1, g2, g3, g5, g6⟩, fun _ => ok_some.2 ⟨g1, g2, g3, g4, g6⟩⟩
  obtain ⟨f1, f2, f3, f4, f5⟩ := h6'
  refine (pick_ok k 3 _ _ f5 (by omega) (by omega)).bind fun q4 hq4 => ?_
  have hq5 : RdOk (N + 2 + 6 * (6 - (m - 1))) q4.2 := hq4.1.le (by omega)
  rw [ok_cndS]
  simp only [a_subI, f2, wm, f1]
  refine ⟨fun e2 => ?_, fun e2 => ok_some.2 ⟨fun s' e => ?_, fun e he => (by cases he)⟩⟩
  · rw [spec_ConfigDone_eq k hk, a_obind_some]
    refine ok_some.2 ⟨fun s' e => ?_, fun e he => (by cases he)⟩
    cases e
    refine ⟨(m - 1).toNat, by omega, by simp; omega, rfl, by simp; omega, by simp; omega, f3, ?_, hq5⟩
    simp only [Short] at f4 ⊢
    split
    · exact f4
    · simp [zeroC]
  · cases e
    exact ⟨(m - 1).toNat, by omega, by simp; omega, rfl, by simp; omega, by simp; omega, f3, f4, hq5⟩
theorem l20Config_ok (k : Nat) (hk : 10 ≤ k) (n N : Int) (r : Rd) (h : RdOk N r) (hp : N ≤ 900000000) (hn : n ≤ 1000000000) : Ok (spec_l20Config_t A k ((), (n, ())) r) (fun q => RdOk (N + 100) q.2 ∧ Short q.1.1) := by
  rw [spec_l20Config_t]
  refine (pick_ok k 5 _ r h (by omega) (by omega)).bind fun q hq => ?_
  refine (pick_ok k 6 _ _ hq.1 (by omega) (by omega)).bind fun q1 hq1 => ?_
  refine (l20Config_loop k hk n N hp q1.1.1 (1, ([q.1.1], (false, ()))) (0, ([], (false, ()))) q1.2 hq1.2.1 (by have := hq1.2.2.2.1 (by omega); omega) (hq1.1.le (by omega)) (by simp [Short]) (by simp [Short])).bind fun e he => ?_
  refine Ok.bind (P := fun r5 => r5.1 = n ∧ Short r5.2.2.1 ∧ RdOk (N + 60) r5.2.2.2) ?_ fun r5 h5 => ?_
  · refine (pick_ok k 12 _ _ he.2.2 (by omega) (by omega)).bind fun q3 hq3 => ?_
    rw [ok_cndS]
    refine ⟨fun _ => ?_, fun _ => ok_some.2 ⟨he.1, he.2.1, hq3.1.le (by omega)⟩⟩
    refine (pick_ok k 2 _ _ hq3.1 (by omega) (by omega)).bind fun q4 hq4 => ?_
    have b1 := hq4.2.1
    have b2 := hq4.2.2.2.1 (by omega)
    rw [ok_cndS]
    refine ⟨fun _ => ok_some.2 ⟨he.1, he.2.1, hq4.1.le (by omega)⟩, fun hc => ?_⟩
    simp at hc; omega
  refine (odd_ok k _ _ _ h5.2.2 (by omega) (by rw [h5.1]; omega)).bind fun q6 hq6 => ?_
  rw [ok_cndS]
  refine ⟨fun _ => ?_, fun _ => ok_some.2 ⟨hq6.le (by omega), h5.2.1⟩⟩
  refine (pick_ok k 8 _ _ hq6 (by omega) (by omega)).bind fun q7 hq7 => ?_
  have b1 := hq7.2.1
  have b2 := hq7.2.2.2.1 (by omega)
  rw [ok_cndS]
  refine ⟨fun _ => ok_some.2 ⟨hq7.1.le (by omega), ?_⟩, fun hc => ?_⟩
  · rw [a_atL]
    have : ∀ i : Nat, i < 8 → Short (([(0, ([], (false, ()))), (1, ([], (false, ()))), (0, ([1], (false, ()))), (61, ([1], (false, ()))), (1, ([5], (false, ()))), (1, ([1, 2, 1], (false, ()))), (1, ([1], (true, ()))), (1, ([0, 1, 2, 3, 4], (false, ())))] : List Cfg).getD i (0, ([], (false, ())))) := by
      intro i hi
      rcases i with _ | _ | _ | _ | _ | _ | _ | _ | i <;> simp [Short]
    exact this _ (by omega)
  · simp at hc; omega
theorem DrawConfigValid_ok (k : Nat) (hk : 10 ≤ k) (a : List Int) (hb : ∀ x ∈ a, 0 ≤ x ∧ x ≤ 255) : Ok (spec_DrawConfigValid_t A k (a, ()) ()) (fun q => Short q.1.1) := by
  rw [spec_DrawConfigValid_t]
  refine (open_ok k a hb).bind fun q hq => ?_
  refine (l20Config_ok k hk 2 0 q.1 hq (by omega) (by omega)).bind fun q1 h1 => ok_some.2 h1.2
theorem keyRank_aa (k : Nat) : impl_KeyRank_t real (k + 10) ([97, 97], ()) () = some ((1, ()), ()) := by rfl
theorem keyRank_nil (k : Nat) : impl_KeyRank_t real (k + 10) ([], ()) () = some ((-1, ()), ()) := by rfl
theorem alive_eq (k : Nat) (hk : 10 ≤ k) : laws_alive_t A k () () = some ((true, ()), ()) := by
  obtain ⟨k, rfl⟩ : ∃ q, k = q + 10 := ⟨k - 10, by omega⟩
  have e1 := keyRank_aa k
  have e2 := keyRank_nil k
  rw [← IsReal.eq (A := A)] at e1 e2
  simp [laws_alive_t, e1, e2]
theorem membersOk_snoc {xs : List Int} {x : Int} (h : membersOk (xs ++ [x]) = true) : x ∉ xs := by
  have := range_all.1 h xs.length (by simp)
  simp at this
  exact this.2
theorem not_again {ep : Int} {xs : List Int} {b : Bool} (h : xs.length ≠ 0) : cfgOk (ep, (xs ++ [xs.getD 0 0], (b, ()))) = false := by
  rw [← Bool.not_eq_true]
  intro hc
  simp only [cfgOk, Bool.and_eq_true] at hc
  refine membersOk_snoc hc.2.2.2 ?_
  rw [getD_lt (by omega)]; exact List.getElem_mem _
theorem FnConfigValid_true (k : Nat) (hk : 10 ≤ k) (a : List Int) (hb : ∀ x ∈ a, 0 ≤ x ∧ x ≤ 255) : laws_FnConfigValid_t A k (a, ()) () = some ((true, ()), ()) := by
  rw [← ok_eq, laws_FnConfigValid_t, ok_cndS]
  refine ⟨fun _ => ok_some.2 rfl, fun _ => ?_⟩
  refine (DrawConfigValid_ok k hk a hb).bind fun q hs => ?_
  obtain ⟨⟨⟨ep, xs, fr, _⟩, _⟩, _⟩ := q
  simp only [Short] at hs
  simp only [impl_ConfigValid_eq k hk, spec_ConfigValid_eq k hk, alive_eq k hk, a_obind_some]
  by_cases h0 : xs.length = 0
  · have : xs = [] := List.eq_nil_of_length_eq_zero h0
    subst this
    simp [ok_some, cfgOk]
  have h1 : (xs.length : Int) < 4294967296 := by omega
  have h2 : (0 : Int) < xs.length := by omega
  have h3 : (xs.length : Int) + 1 < 4294967296 := by omega
  have h4 : ¬ xs = [] := fun e => h0 (by rw [e]; rfl)
  have h5 : 0 < xs.length := by omega
  have hn := not_again (ep := ep) (b := false) h0
  have hf : cfgOk (ep, (xs, (fr, ()))) = true → cfgOk (ep, (xs, (false, ()))) = true := by
    simp only [cfgOk, Bool.and_eq_true]
    exact fun h => ⟨h.1, h.2.1, by simp, h.2.2.2⟩
  have e : A.appL (A.appL ([] : List Int) xs) ((A.atL xs 0 0) :: ([] : List Int)) = xs ++ [xs.getD 0 0] := by simp
  rw [e, hn]
  simp only [a_eqI, a_lenL, a_addI, a_le0, a_ltI, a_andB, a_big, a_appL, a_atL, a_notB, a_eqB, a_cndS]
  cases h : cfgOk (ep, (xs, (fr, ()))) with
  | false => simp [h1, h3, h4, h5, ok_some]
  | true => simp [h1, h3, h4, h5, ok_some, hf h]
end Go.Den.T
