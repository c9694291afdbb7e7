/- Sessions found and put: both sides in one form. -/
import Derived.Test.YtflnpeebpdibbaaXP4

namespace Go.Den.T
set_option linter.unusedVariables false
set_option linter.unusedSimpArgs false
set_option linter.unusedSectionVars false
section
variable {A : Atoms} [IsReal A]
theorem ses_le4 {l : List Ses} (h : sesOk l = true) : l.length ≤ 4 := by
  have hs := ses_sorted h
  simp only [sesOk, range_all] at h
  rcases Nat.lt_or_ge 4 l.length with hl | hl
  · exfalso
    have r : ∀ i, i < l.length → 0 ≤ (l.getD i ses0).1 ∧ (l.getD i ses0).1 ≤ 3 := fun i hi => by
      have := h i hi
      simp only [sesAt, sesP, Bool.and_eq_true, decide_eq_true_eq] at this
      exact this.1
    have a0 := (r 0 (by omega)).1
    have a4 := (r 4 (by omega)).2
    have b1 := hs 0 1 (by omega) (by omega)
    have b2 := hs 1 2 (by omega) (by omega)
    have b3 := hs 2 3 (by omega) (by omega)
    have b4 := hs 3 4 (by omega) (by omega)
    omega
  · exact hl
/-- the session of a client, or the empty one -/
def sfind (l : List Ses) (c : Int) : Ses := if sh l c = true then l.getD (sp l c) ses0 else ses0
theorem sp_le (l : List Ses) (c : Int) : sp l c ≤ l.length := ahead_le ..
theorem sh_lt {l : List Ses} {c : Int} (h : sh l c = true) : sp l c < l.length ∧ (l.getD (sp l c) ses0).1 = c := by simpa [sh] using h
theorem ses_at {l : List Ses} (h : sesOk l = true) {c : Int} {i : Nat} (hi : i < l.length) : (l.getD i ses0).1 = c ↔ sh l c = true ∧ i = sp l c := by
  have hsort := ses_sorted h
  have hsp := ahead_spec (lt := ltS c) (d := ses0) (l := l)
  constructor
  · intro e
    have h1 : ¬ i < sp l c := fun hlt => by
      have := hsp.1 i hlt
      simp only [ltS, decide_eq_true_eq] at this
      omega
    have h2 : ¬ sp l c < i := fun hlt => by
      have := hsp.2 (show sp l c < l.length by omega)
      simp only [ltS, decide_eq_false_iff_not] at this
      have := hsort _ i hlt hi
      have : (l.getD (sp l c) ses0).1 < (l.getD i ses0).1 := this
      have h3 : ¬ (l.getD (sp l c) ses0).1 < c := by assumption
      omega
    have e2 : sp l c = i := by omega
    exact ⟨by simp only [sh, e2, hi, e, decide_true, Bool.and_self], e2.symm⟩
  · rintro ⟨h1, rfl⟩
    exact (sh_lt h1).2
theorem l9Find_eq (k : Nat) (l : List Ses) (c : Int) (h : sesOk l = true) (hk : l.length < k) : spec_l9Find_t A k (l, (c, ())) () = some ((sfind l c, ()), ()) := by
  have hl := ses_le4 h
  rw [← ok_eq, spec_l9Find_t]
  refine Ok.bind (P := fun e : (Ses × Unit) ⊕ ((Ses × Unit) × Unit) => (e = .inr ((sfind l c, ()), ())) ∨ (∃ z, e = .inl z ∧ sfind l c = ses0)) (iter_ok (fun m (st : List Ses × (Int × (Int × (Ses × Unit)))) => ∃ i : Nat, st = (l, (c, ((i : Int), (ses0, ())))) ∧ i ≤ l.length ∧ m = l.length - i ∧ ∀ t, t < i → (l.getD t ses0).1 ≠ c) _ ?_ (n := l.length) (by omega) ⟨0, rfl, by omega, by omega, fun t ht => by omega⟩) fun e he => ?_
  · rintro m st ⟨i, rfl, hi, rfl, ha⟩
    have w : A.wrapI .i64 (A.addI (i : Int) 1) = ((i + 1 : Nat) : Int) := by rw [a_addI, a_wrap (by omega) (by omega)]; rfl
    rw [spec_l9Find_t_b0, ok_cndS]
    refine ⟨fun h1 => ?_, fun h1 => ok_some.2 ⟨fun s' e => (by cases e), fun r e => ?_⟩⟩
    · have hlt : (i : Int) < l.length := by simpa using h1
      have hb := in_bounds (A := A) (l := l) (i := (i : Int)) (by omega) hlt
      rw [ok_cndS]
      refine ⟨fun _ => ?_, fun hc => (by rw [hb] at hc; cases hc)⟩
      rw [ok_cndS]
      simp only [a_eqI, a_atL, Int.toNat_natCast, decide_eq_true_eq, decide_eq_false_iff_not]
      refine ⟨fun he => ?_, fun hne => ok_some.2 ⟨fun s' e => ?_, fun r e => (by cases e)⟩⟩
      · rw [ok_cndS]
        refine ⟨fun _ => ok_some.2 ⟨fun s' e => (by cases e), fun r e => ?_⟩, fun hc => (by rw [hb] at hc; cases hc)⟩
        injection e with e; subst e
        obtain ⟨k1, k2⟩ := (ses_at h (show i < l.length by omega)).1 he
        left
        simp only [sfind, k1, if_true, ← k2]
      · injection e with e; subst e
        exact ⟨l.length - (i + 1), by omega, i + 1, by rw [w], by omega, rfl, fun t ht => by
          rcases Nat.lt_or_ge t i with h2 | h2
          · exact ha t h2
          · have : t = i := by omega
            subst this; exact hne⟩
    · injection e with e; subst e
      have hge : ¬ (i : Int) < l.length := by simpa using h1
      right
      refine ⟨_, rfl, ?_⟩
      rcases Bool.eq_false_or_eq_true (sh l c) with hq | hq
      · obtain ⟨q1, q2⟩ := sh_lt hq
        exact absurd q2 (ha _ (by omega))
      · simp only [sfind, hq, Bool.false_eq_true, if_false]
  · rcases he with rfl | ⟨z, rfl, hz⟩
    · rw [a_sumE_inr]; exact ok_some.2 rfl
    · rw [a_sumE_inl]; exact ok_some.2 (by rw [hz])
def sput (l : List Ses) (s : Ses) : List Ses × (Bool × Unit) :=
  if (sesOk l && sesOk [s]) = true then (if sh l s.1 = true then (if s.2.1 ≤ (l.getD (sp l s.1) ses0).2.1 then (l, (false, ())) else (l.take (sp l s.1) ++ [s] ++ l.drop (sp l s.1 + 1), (true, ()))) else (l.take (sp l s.1) ++ [s] ++ l.drop (sp l s.1), (true, ()))) else ([], (false, ()))
/-- the walk's list up to a place -/
def walked (l : List Ses) (s : Ses) (i : Nat) : List Ses := if i ≤ sp l s.1 then l.take i else l.take (sp l s.1) ++ [s] ++ (l.take i).drop (sp l s.1 + (if sh l s.1 = true then 1 else 0))
theorem spec_SessionPut_eq (k : Nat) (hk : 100 ≤ k) (l : List Ses) (s : Ses) (hkl : l.length < k) (hl : l.length ≤ 1000000000) : spec_SessionPut_t A k (l, (s, ())) () = some (sput l s, ()) := by
  simp only [spec_SessionPut_t, spec_SessionsValid_eq k l hkl hl, spec_SessionsValid_eq k [s] (by simp; omega) (by simp), a_obind_some, a_cndS, a_notB, sput]
  rcases Bool.eq_false_or_eq_true (sesOk l) with h1 | h1
  case inr => simp [h1]
  rcases Bool.eq_false_or_eq_true (sesOk [s]) with h2 | h2
  case inr => simp [h1, h2]
  have h4 := ses_le4 h1
  have hs : (0 ≤ s.1 ∧ s.1 ≤ 3) ∧ 1 ≤ s.2.1 := by
    have := (range_all.1 h2) 0 (by simp)
    simp only [sesAt, sesP, Bool.and_eq_true, decide_eq_true_eq] at this
    exact ⟨this.1, this.2.1.1⟩
  have hb : (l.length : Int) < 4294967296 := by omega
  have hseq : spec_SessionSeq_t A k (l, (s.1, ())) () = some (((sfind l s.1).2.1, ()), ()) := by
    simp only [spec_SessionSeq_t, spec_SessionsValid_eq k l hkl hl, h1, l1In_eq, hs.1, and_self, decide_true, a_notB, Bool.not_true, a_cndS, Bool.false_eq_true, if_false, a_obind_some, a_sumE_inl, l9Find_eq k l s.1 h1 hkl]
  simp only [h1, h2, Bool.not_true, Bool.false_eq_true, if_false, if_true, Bool.and_self, a_obind_some, a_sumE_inl, hseq, a_leI]
  have hsort := ses_sorted h1
  have hsp : (∀ i, i < sp l s.1 → ltS s.1 (l.getD i ses0) = true) ∧ (sp l s.1 < l.length → ltS s.1 (l.getD (sp l s.1) ses0) = false) := ahead_spec (lt := ltS s.1) (d := ses0) (l := l)
  have hle := sp_le l s.1
  have hloop : A.iter k (spec_SessionPut_t_b0 A k) (l, (([] : List Ses), (false, ((0 : Int), (s, ()))))) = some (walked l s l.length, (decide (sp l s.1 < l.length), (s, ()))) := by
    rw [← ok_eq]
    refine iter_ok (fun m (st : List Ses × (List Ses × (Bool × (Int × (Ses × Unit))))) => ∃ i : Nat, st = (l, (walked l s i, (decide (sp l s.1 < i), ((i : Int), (s, ()))))) ∧ i ≤ l.length ∧ m = l.length - i) _ ?_ (n := l.length) (by omega) ⟨0, by simp [walked], by omega, by omega⟩
    rintro m st ⟨i, rfl, hi, rfl⟩
    have w : A.wrapI .i64 (A.addI (i : Int) 1) = ((i + 1 : Nat) : Int) := by rw [a_addI, a_wrap (by omega) (by omega)]; rfl
    rw [spec_SessionPut_t_b0, ok_cndS]
    refine ⟨fun q1 => ?_, fun q1 => ok_some.2 ⟨fun s' e => (by cases e), fun r e => ?_⟩⟩
    · have hlt' : (i : Int) < l.length := by simpa using q1
      have hlt : i < l.length := by omega
      have hb2 := in_bounds (A := A) (l := l) (i := (i : Int)) (by omega) hlt'
      have hbi : A.ltI (A.addI (A.lenL (walked l s i)) (A.lenL (s :: ([] : List Ses)))) A.big = true := by
        have : (walked l s i).length ≤ l.length + 1 := by
          unfold walked; split
          · rw [List.length_take]; omega
          · simp; omega
        simp; omega
      have hw : ∀ x : Ses, A.ltI (A.addI (A.lenL (walked l s i ++ [s])) (A.lenL (x :: ([] : List Ses)))) A.big = true := fun x => by
        have : (walked l s i).length ≤ l.length + 1 := by
          unfold walked; split
          · rw [List.length_take]; omega
          · simp; omega
        simp; omega
      have hw2 : ∀ x : Ses, A.ltI (A.addI (A.lenL (walked l s i)) (A.lenL (x :: ([] : List Ses)))) A.big = true := fun x => by
        have : (walked l s i).length ≤ l.length + 1 := by
          unfold walked; split
          · rw [List.length_take]; omega
          · simp; omega
        simp; omega
      have hgo : l.take (i + 1) = l.take i ++ [l.getD i ses0] := by rw [List.take_succ_eq_append_getElem hlt, getD_lt hlt]
      -- three kinds of rounds
      rcases Nat.lt_trichotomy i (sp l s.1) with hk1 | hk1 | hk1
      · have ht : (l.getD i ses0).1 < s.1 := by simpa [ltS] using hsp.1 i hk1
        have n1 : ¬ sp l s.1 < i := by omega
        have n2 : ¬ s.1 ≤ (l.getD i ses0).1 := by omega
        have n3 : ¬ (l.getD i ses0).1 = s.1 := by omega
        have n4 : ¬ sp l s.1 < i + 1 := by omega
        have e1 : walked l s i = l.take i := by unfold walked; rw [if_pos (by omega)]
        have e2 : walked l s (i + 1) = l.take i ++ [l.getD i ses0] := by unfold walked; rw [if_pos (by omega), hgo]
        have hw2' := hw2 (l.getD i ses0)
        rw [e1] at hw2'
        simp only [e1, n1, decide_false, a_notB, Bool.not_false, a_cndS, if_true, hb2, a_leI, a_atL, Int.toNat_natCast, n2, Bool.false_eq_true, if_false, a_obind_some, a_eqI, n3, hw2', a_appL, w]
        exact ok_some.2 ⟨fun s' e => (by injection e with e; subst e; exact ⟨l.length - (i + 1), by omega, i + 1, by rw [e2, decide_eq_false n4], by omega, rfl⟩), fun r e => (by cases e)⟩
      · have ht : ¬ (l.getD i ses0).1 < s.1 := by
          have := hsp.2 (show sp l s.1 < l.length by omega)
          rw [hk1]; simpa [ltS] using this
        have n1 : ¬ sp l s.1 < i := by omega
        have n2 : s.1 ≤ (l.getD i ses0).1 := by omega
        have n4 : sp l s.1 < i + 1 := by omega
        have e1 : walked l s i = l.take i := by unfold walked; rw [if_pos (by omega)]
        have e2 : walked l s (i + 1) = l.take i ++ [s] ++ (if (l.getD i ses0).1 = s.1 then [] else [l.getD i ses0]) := by
          unfold walked; rw [if_neg (by omega), hgo, ← hk1]
          congr 1
          have tl : (l.take i).length = i := by rw [List.length_take]; omega
          by_cases he : (l.getD i ses0).1 = s.1
          · have hh : sh l s.1 = true := ((ses_at h1 hlt).1 he).1
            rw [hh, if_pos rfl, if_pos he, List.drop_of_length_le (by simp; omega)]
          · have hh : ¬ sh l s.1 = true := fun hh => he ((ses_at h1 hlt).2 ⟨hh, hk1⟩)
            rw [if_neg hh, if_neg he, Nat.add_zero]
            conv => lhs; rw [← tl]
            rw [tl]
            rw [List.drop_append_of_le_length (by omega)]
            rw [List.drop_of_length_le (by omega), List.nil_append]
        have hbi' := hbi
        rw [e1] at hbi'
        simp only [e1, n1, decide_false, a_notB, Bool.not_false, a_cndS, if_true, hb2, a_leI, a_atL, Int.toNat_natCast, n2, decide_true, hbi', a_appL, a_obind_some, a_eqI]
        by_cases he : (l.getD i ses0).1 = s.1
        · simp only [he, decide_true, Bool.not_true, Bool.false_eq_true, if_false, w]
          exact ok_some.2 ⟨fun s' e => (by injection e with e; subst e; exact ⟨l.length - (i + 1), by omega, i + 1, by rw [e2, decide_eq_true n4, if_pos he, List.append_nil], by omega, rfl⟩), fun r e => (by cases e)⟩
        · have hw' := hw (l.getD i ses0)
          rw [e1] at hw'
          simp only [he, decide_false, Bool.not_false, if_true, hw', w]
          exact ok_some.2 ⟨fun s' e => (by injection e with e; subst e; exact ⟨l.length - (i + 1), by omega, i + 1, by rw [e2, decide_eq_true n4, if_neg he], by omega, rfl⟩), fun r e => (by cases e)⟩
      · have ht : s.1 < (l.getD i ses0).1 := by
          have q2 := hsort _ i hk1 hlt
          have q3 := hsp.2 (show sp l s.1 < l.length by omega)
          simp only [ltS, decide_eq_false_iff_not] at q3
          have q3 : ¬ (l.getD (sp l s.1) ses0).1 < s.1 := q3
          omega
        have n3 : ¬ (l.getD i ses0).1 = s.1 := by omega
        have n4 : sp l s.1 < i + 1 := by omega
        have e2 : walked l s (i + 1) = walked l s i ++ [l.getD i ses0] := by
          obtain ⟨z, hz1, hz2⟩ : ∃ z, (if sh l s.1 = true then 1 else 0) = z ∧ z ≤ 1 := ⟨_, rfl, by split <;> omega⟩
          have tl : (l.take i).length = i := by rw [List.length_take]; omega
          simp only [walked, hz1]
          rw [if_neg (show ¬ i + 1 ≤ sp l s.1 by omega), if_neg (show ¬ i ≤ sp l s.1 by omega), hgo, List.drop_append_of_le_length (by omega)]
          simp only [List.append_assoc]
        simp only [hk1, decide_true, a_notB, Bool.not_true, a_cndS, Bool.false_eq_true, if_false, a_obind_some, hb2, if_true, a_eqI, a_atL, Int.toNat_natCast, n3, decide_false, Bool.not_false, hw2 (l.getD i ses0), a_appL, w]
        exact ok_some.2 ⟨fun s' e => (by injection e with e; subst e; exact ⟨l.length - (i + 1), by omega, i + 1, by rw [e2, decide_eq_true n4], by omega, rfl⟩), fun r e => (by cases e)⟩
    · injection e with e; subst e
      have hge : ¬ (i : Int) < l.length := by simpa using q1
      have : i = l.length := by omega
      subst this; rfl
  rcases Bool.eq_false_or_eq_true (sh l s.1) with h | h
  · obtain ⟨q1, q2⟩ := sh_lt h
    have e1 : sfind l s.1 = l.getD (sp l s.1) ses0 := by simp only [sfind, h, if_true]
    have e2 : walked l s l.length = l.take (sp l s.1) ++ [s] ++ l.drop (sp l s.1 + 1) := by
      unfold walked; rw [if_neg (by omega), h, if_pos rfl, List.take_length]
    rw [e1]
    by_cases hq : s.2.1 ≤ (l.getD (sp l s.1) ses0).2.1
    · rw [if_pos hq, decide_eq_true hq]
      simp [h, hb]
    · rw [if_neg hq, decide_eq_false hq]
      simp only [Bool.false_eq_true, if_false, hloop, a_obind_some, q1, decide_true, Bool.not_true, h, if_true, e2]
  · have e1 : sfind l s.1 = ses0 := by simp only [sfind, h, Bool.false_eq_true, if_false]
    have n1 : ¬ s.2.1 ≤ 0 := by omega
    rw [e1]
    simp only [n1, decide_false, Bool.false_eq_true, if_false, hloop, a_obind_some, h]
    by_cases hq : sp l s.1 < l.length
    · have e2 : walked l s l.length = l.take (sp l s.1) ++ [s] ++ l.drop (sp l s.1) := by
        unfold walked; rw [if_neg (by omega), h, List.take_length]; simp
      simp only [hq, decide_true, Bool.not_true, Bool.false_eq_true, if_false, e2]
    · have e3 : sp l s.1 = l.length := by omega
      have e2 : walked l s l.length = l := by unfold walked; rw [if_pos (by omega), List.take_length]
      have hb3 : (l.length : Int) + 1 < 4294967296 := by omega
      simp [e2, e3, hb3]
end
end Go.Den.T
