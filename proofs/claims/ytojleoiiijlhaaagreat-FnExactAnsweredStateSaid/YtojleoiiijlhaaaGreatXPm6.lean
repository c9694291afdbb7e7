/- Sessions found and put: both sides in one form. -/
import Derived.Test.YtojleoiiijlhaaaGreatXPm3
import Derived.Test.YtojleoiiijlhaaaGreatXPm4
import Derived.Test.YtojleoiiijlhaaaGreatXPm5

namespace Go.Den.T
set_option linter.unusedVariables false
set_option linter.unusedSimpArgs false
set_option linter.unusedSectionVars false
section
variable {A : Atoms} [IsReal A]
theorem ses_le4 {l : List Ses} (h : sesOk l = true) : l.length ≤ 4 := by
  have hs := ses_sorted h
  simp only [sesOk, range_all] at h
  rcases Nat.lt_or_ge 4 l.length with hl | hl
  · exfalso
    have r : ∀ i, i < l.length → 0 ≤ (l.getD i ses0).1 ∧ (l.getD i ses0).1 ≤ 3 := fun i hi => by
      have := h i hi
      simp only [sesAt, sesP, Bool.and_eq_true, decide_eq_true_eq] at this
      exact this.1
    have a0 := (r 0 (by omega)).1
    have a4 := (r 4 (by omega)).2
    have b1 := hs 0 1 (by omega) (by omega)
    have b2 := hs 1 2 (by omega) (by omega)
    have b3 := hs 2 3 (by omega) (by omega)
    have b4 := hs 3 4 (by omega) (by omega)
    omega
  · exact hl
def sfind (l : List Ses) (c : Int) : Ses := if sh l c = true then l.getD (sp l c) ses0 else ses0
theorem sp_le (l : List Ses) (c : Int) : sp l c ≤ l.length := ahead_le ..
theorem sh_lt {l : List Ses} {c : Int} (h : sh l c = true) : sp l c < l.length ∧ (l.getD (sp l c) ses0).1 = c := by simpa [sh] using h
theorem ses_at {l : List Ses} (h : sesOk l = true) {c : Int} {i : Nat} (hi : i < l.length) : (l.getD i ses0).1 = c ↔ sh l c = true ∧ i = sp l c := by
  have hsort := ses_sorted h
  have hsp := ahead_spec (lt := ltS c) (d := ses0) (l := l)
  constructor
  · intro e
    have h1 : ¬ i < sp l c := fun hlt => by
      have := hsp.1 i hlt
      simp only [ltS, decide_eq_true_eq] at this
      omega
    have h2 : ¬ sp l c < i := fun hlt => by
      have := hsp.2 (show sp l c < l.length by omega)
      simp only [ltS, decide_eq_false_iff_not] at this
      have := hsort _ i hlt hi
      have : (l.getD (sp l c) ses0).1 < (l.getD i ses0).1 := this
      have h3 : ¬ (l.getD (sp l c) ses0).1 < c := by assumption
      omega
    have e2 : sp l c = i := by omega
    exact ⟨by simp only [sh, e2, hi, e, decide_true, Bool.and_self], e2.symm⟩
  · rintro ⟨h1, rfl⟩
    exact (sh_lt h1).2
theorem l9Find_eq (k : Nat) (l : List Ses) (c : Int) (h : sesOk l = true) (hk : l.length < k) : spec_l9Find_t A k (l, (c, ())) () = some ((sfind l c, ()), ()) := by
  have hl := ses_le4 h
  rw [← ok_eq, spec_l9Find_t]
  refine Ok.bind (P := fun e : (Ses × Unit) ⊕ ((Ses × Unit) × Unit) => (e = .inr ((sfind l c, ()), ())) ∨ (∃ z, e = .inl z ∧ sfind l c = ses0)) (iter_ok (fun m (st : List Ses × (Int × (Int × (Ses × Unit)))) => ∃ i : Nat, st = (l, (c, ((i : Int), (ses0, ())))) ∧ i ≤ l.length ∧ m = l.length - i ∧ ∀ t, t < i → (l.getD t ses0).1 ≠ c) _ ?_ (n := l.length) (by omega) ⟨0, rfl, by omega, by omega, fun t ht => by omega⟩) fun e he => ?_
  · rintro m st ⟨i, rfl, hi, rfl, ha⟩
    have w : A.wrapI .i64 (A.addI (i : Int) 1) = ((i + 1 : Nat) : Int) := by rw [a_addI, a_wrap (by omega) (by omega)]; rfl
    rw [spec_l9Find_t_b0, ok_cndS]
    refine ⟨fun h1 => ?_, fun h1 => ok_some.2 ⟨fun s' e => (by cases e), fun r e => ?_⟩⟩
    · have hlt : (i : Int) < l.length := by simpa using h1
      have hb := in_bounds (A := A) (l := l) (i := (i : Int)) (by omega) hlt
      rw [ok_cndS]
      refine ⟨fun _ => ?_, fun hc => (by rw [hb] at hc; cases hc)⟩
      rw [ok_cndS]
      simp only [a_eqI, a_atL, Int.toNat_natCast, decide_eq_true_eq, decide_eq_false_iff_not]
      refine ⟨fun he => ?_, fun hne => ok_some.2 ⟨fun s' e => ?_, fun r e => (by cases e)⟩⟩
      · rw [ok_cndS]
        refine ⟨fun _ => ok_some.2 ⟨fun s' e => (by cases e), fun r e => ?_⟩, fun hc => (by rw [hb] at hc; cases hc)⟩
        injection e with e; subst e
        obtain ⟨k1, k2⟩ := (ses_at h (show i < l.length by omega)).1 he
        left
        simp only [sfind, k1, if_true, ← k2]
      · injection e with e; subst e
        exact ⟨l.length - (i + 1), by omega, i + 1, by rw [w], by omega, rfl, fun t ht => by
          rcases Nat.lt_or_ge t i with h2 | h2
          · exact ha t h2
          · have : t = i := by omega
            subst this; exact hne⟩
    · injection e with e; subst e
      have hge : ¬ (i : Int) < l.length := by simpa using h1
      right
      refine ⟨_, rfl, ?_⟩
      rcases Bool.eq_false_or_eq_true (sh l c) with hq | hq
      · obtain ⟨q1, q2⟩ := sh_lt hq
        exact absurd q2 (ha _ (by omega))
      · simp only [sfind, hq, Bool.false_eq_true, if_false]
  · rcases he with rfl | ⟨z, rfl, hz⟩
    · rw [a_sumE_inr]; exact ok_some.2 rfl
    · rw [a_sumE_inl]; exact ok_some.2 (by rw [hz])
def sput (l : List Ses) (s : Ses) : List Ses × (Bool × Unit) :=
  if (sesOk l && sesOk [s]) = true then (if sh l s.1 = true then (if s.2.1 ≤ (l.getD (sp l s.1) ses0).2.1 then (l, (false, ())) else (l.take (sp l s.1) ++ [s] ++ l.drop (sp l s.1 + 1), (true, ()))) else (l.take (sp l s.1) ++ [s] ++ l.drop (sp l s.1), (true, ()))) else ([], (false, ()))
theorem impl_SessionPut_eq (k : Nat) (hk : 100 ≤ k) (l : List Ses) (s : Ses) (hkl : l.length < k) (hl : l.length ≤ 1000000000) : impl_SessionPut_t A k (l, (s, ())) () = some (sput l s, ()) := by
  simp only [impl_SessionPut_t, impl_SessionsValid_eq k l hkl hl, impl_SessionsValid_eq k [s] (by simp; omega) (by simp), a_obind_some, a_cndS, a_notB, sput]
  rcases Bool.eq_false_or_eq_true (sesOk l) with h1 | h1
  case inr => simp [h1]
  rcases Bool.eq_false_or_eq_true (sesOk [s]) with h2 | h2
  case inr => simp [h1, h2]
  have h4 := ses_le4 h1
  simp only [h1, h2, Bool.not_true, Bool.false_eq_true, if_false, if_true, Bool.and_self, a_obind_some, a_sumE_inl, sessionPlace_eq k l s.1 (ses_mono h1 s.1) (by omega) (by omega)]
  rcases Bool.eq_false_or_eq_true (sh l s.1) with h | h
  · obtain ⟨q1, q2⟩ := sh_lt h
    have q1' : (sp l s.1 : Int) < l.length := by omega
    have hr := replacedSes_eq (A := A) k l (sp l s.1) 1 [s] (by omega) (by simp) (by omega)
    simp only [Int.natCast_one, Int.ofNat_one] at hr
    simp only [h, Bool.not_true, Bool.false_eq_true, if_false, if_true, a_le0, Int.natCast_nonneg, a_ltI, a_lenL, q1', decide_true, a_andB, Bool.and_self, a_leI, a_atL, Int.toNat_natCast, copySes_eq k l (by omega), hr, a_obind_some]
    by_cases hq : s.2.1 ≤ (l.getD (sp l s.1) ses0).2.1
    · rw [if_pos hq, decide_eq_true hq]; simp
    · rw [if_neg hq, decide_eq_false hq]; simp
  · have hr := replacedSes_eq (A := A) k l (sp l s.1) 0 [s] (by omega) (by simp) (by have := sp_le l s.1; omega)
    simp only [Int.natCast_zero, Int.ofNat_zero, Nat.add_zero] at hr
    simp only [h, Bool.not_false, Bool.false_eq_true, if_false, if_true, hr, a_obind_some]
def walked (l : List Ses) (s : Ses) (i : Nat) : List Ses := if i ≤ sp l s.1 then l.take i else l.take (sp l s.1) ++ [s] ++ (l.take i).drop (sp l s.1 + (if sh l s.1 = true then 1 else 0))
theorem spec_SessionPut_eq (k : Nat) (hk : 100 ≤ k) (l : List Ses) (s : Ses) (hkl : l.length < k) (hl : l.length ≤ 1000000000) : spec_SessionPut_t A k (l, (s, ())) () = some (sput l s, ()) := by
  simp only [spec_SessionPut_t, spec_SessionsValid_eq k l hkl hl, spec_SessionsValid_eq k [s] (by simp; omega) (by simp), a_obind_some, a_cndS, a_notB, sput]
  rcases Bool.eq_false_or_eq_true (sesOk l) with h1 | h1
  case inr => simp [h1]
  rcases Bool.eq_false_or_eq_true (sesOk [s]) with h2 | h2
  case inr => simp [h1, h2]
  have h4 := ses_le4 h1
  have hs : (0 ≤ s.1 ∧ s.1 ≤ 3) ∧ 1 ≤ s.2.1 := by
    have := (range_all.1 h2) 0 (by simp)
    simp only [sesAt, sesP, Bool.and_eq_true, decide_eq_true_eq] at this
    exact ⟨this.1, this.2.1.1⟩
  have hb : (l.length : Int) < 4294967296 := by omega
  have hseq : spec_SessionSeq_t A k (l, (s.1, ())) () = some (((sfind l s.1).2.1, ()), ()) := by
    simp only [spec_SessionSeq_t, spec_SessionsValid_eq k l hkl hl, h1, l1In_eq, hs.1, and_self, decide_true, a_notB, Bool.not_true, a_cndS, Bool.false_eq_true, if_false, a_obind_some, a_sumE_inl, l9Find_eq k l s.1 h1 hkl]
  simp only [h1, h2, Bool.not_true, Bool.false_eq_true, if_false, if_true, Bool.and_self, a_obind_some, a_sumE_inl, hseq, a_leI]
  have hsort := ses_sorted h1
  have hsp : (∀ i, i < sp l s.1 → ltS s.1 (l.getD i ses0) = true) ∧ (sp l s.1 < l.length → ltS s.1 (l.getD (sp l s.1) ses0) = false) := ahead_spec (lt := ltS s.1) (d := ses0) (l := l)
  have hle := sp_le l s.1
  have hloop : A.iter k (spec_SessionPut_t_b0 A k) (l, (([] : List Ses), (false, ((0 : Int), (s, ()))))) = some (walked l s l.length, (decide (sp l s.1 < l.length), (s, ()))) := by
    rw [← ok_eq]
    refine iter_ok (fun m (st : List Ses × (List Ses × (Bool × (Int × (Ses × Unit))))) => ∃ i : Nat, st = (l, (walked l s i, (decide (sp l s.1 < i), ((i : Int), (s, ()))))) ∧ i ≤ l.length ∧ m = l.length - i) _ ?_ (n := l.length) (by omega) ⟨0, by simp [walked], by omega, by omega⟩
    rintro m st ⟨i, rfl, hi, rfl⟩
    have w : A.wrapI .i64 (A.addI (i : Int) 1) = ((i + 1 : Nat) : Int) := by rw [a_addI, a_wrap (by omega) (by omega)]; rfl
    rw [spec_SessionPut_t_b0, ok_cndS]
    refine ⟨fun q1 => ?_, fun q1 => ok_some.2 ⟨fun s' e => (by cases e), fun r e => ?_⟩⟩
    · have hlt' : (i : Int) < l.length := by simpa using q1
      have hlt : i < l.length := by omega
      have hb2 := in_bounds (A := A) (l := l) (i := (i : Int)) (by omega) hlt'
      have hbi : A.ltI (A.addI (A.lenL (walked l s i)) (A.lenL (s :: ([] : List Ses)))) A.big = true := by
        have : (walked l s i).length ≤ l.length + 1 := by
          unfold walked; split
          · rw [List.length_take]; omega
          · simp; omega
        simp; omega
      have hw : ∀ x : Ses, A.ltI (A.addI (A.lenL (walked l s i ++ [s])) (A.lenL (x :: ([] : List Ses)))) A.big = true := fun x => by
        have : (walked l s i).length ≤ l.length + 1 := by
          unfold walked; split
          · rw [List.length_take]; omega
          · simp; omega
        simp; omega
      have hw2 : ∀ x : Ses, A.ltI (A.addI (A.lenL (walked l s i)) (A.lenL (x :: ([] : List Ses)))) A.big = true := fun x => by
        have : (walked l s i).length ≤ l.length + 1 := by
          unfold walked; split
          · rw [List.length_take]; omega
          · simp; omega
        simp; omega
      have hgo : l.take (i + 1) = l.take i ++ [l.getD i ses0] := by rw [List.take_succ_eq_append_getElem hlt, getD_lt hlt]
      -- three kinds of rounds
      rcases Nat.lt_trichotomy i (sp l s.1) with hk1 | hk1 | hk1
      · have ht : (l.getD i ses0).1 < s.1 := by simpa [ltS] using hsp.1 i hk1
        have n1 : ¬ sp l s.1 < i := by omega
        have n2 : ¬ s.1 ≤ (l.getD i ses0).1 := by omega
        have n3 : ¬ (l.getD i ses0).1 = s.1 := by omega
        have n4 : ¬ sp l s.1 < i + 1 := by omega
        have e1 : walked l s i = l.take i := by unfold walked; rw [if_pos (by omega)]
        have e2 : walked l s (i + 1) = l.take i ++ [l.getD i ses0] := by unfold walked; rw [if_pos (by omega), hgo]
        have hw2' := hw2 (l.getD i ses0)
        rw [e1] at hw2'
        simp only [e1, n1, decide_false, a_notB, Bool.not_false, a_cndS, if_true, hb2, a_leI, a_atL, Int.toNat_natCast, n2, Bool.false_eq_true, if_false, a_obind_some, a_eqI, n3, hw2', a_appL, w]
        exact ok_some.2 ⟨fun s' e => (by injection e with e; subst e; exact ⟨l.length - (i + 1), by omega, i + 1, by rw [e2, decide_eq_false n4], by omega, rfl⟩), fun r e => (by cases e)⟩
      · have ht : ¬ (l.getD i ses0).1 < s.1 := by
          have := hsp.2 (show sp l s.1 < l.length by omega)
          rw [hk1]; simpa [ltS] using this
        have n1 : ¬ sp l s.1 < i := by omega
        have n2 : s.1 ≤ (l.getD i ses0).1 := by omega
        have n4 : sp l s.1 < i + 1 := by omega
        have e1 : walked l s i = l.take i := by unfold walked; rw [if_pos (by omega)]
        have e2 : walked l s (i + 1) = l.take i ++ [s] ++ (if (l.getD i ses0).1 = s.1 then [] else [l.getD i ses0]) := by
          unfold walked; rw [if_neg (by omega), hgo, ← hk1]
          congr 1
          have tl : (l.take i).length = i := by rw [List.length_take]; omega
          by_cases he : (l.getD i ses0).1 = s.1
          · have hh : sh l s.1 = true := ((ses_at h1 hlt).1 he).1
            rw [hh, if_pos rfl, if_pos he, List.drop_of_length_le (by simp; omega)]
          · have hh : ¬ sh l s.1 = true := fun hh => he ((ses_at h1 hlt).2 ⟨hh, hk1⟩)
            rw [if_neg hh, if_neg he, Nat.add_zero]
            conv => lhs; rw [← tl]
            rw [tl]
            rw [List.drop_append_of_le_length (by omega)]
            rw [List.drop_of_length_le (by omega), List.nil_append]
        have hbi' := hbi
        rw [e1] at hbi'
        simp only [e1, n1, decide_false, a_notB, Bool.not_false, a_cndS, if_true, hb2, a_leI, a_atL, Int.toNat_natCast, n2, decide_true, hbi', a_appL, a_obind_some, a_eqI]
        by_cases he : (l.getD i ses0).1 = s.1
        · simp only [he, decide_true, Bool.not_true, Bool.false_eq_true, if_false, w]
          exact ok_some.2 ⟨fun s' e => (by injection e with e; subst e; exact ⟨l.length - (i + 1), by omega, i + 1, by rw [e2, decide_eq_true n4, if_pos he, List.append_nil], by omega, rfl⟩), fun r e => (by cases e)⟩
        · have hw' := hw (l.getD i ses0)
          rw [e1] at hw'
          simp only [he, decide_false, Bool.not_false, if_true, hw', w]
          exact ok_some.2 ⟨fun s' e => (by injection e with e; subst e; exact ⟨l.length - (i + 1), by omega, i + 1, by rw [e2, decide_eq_true n4, if_neg he], by omega, rfl⟩), fun r e => (by cases e)⟩
      · have ht : s.1 < (l.getD i ses0).1 := by
          have q2 := hsort _ i hk1 hlt
          have q3 := hsp.2 (show sp l s.1 < l.length by omega)
          simp only [ltS, decide_eq_false_iff_not] at q3
          have q3 : ¬ (l.getD (sp l s.1) ses0).1 < s.1 := q3
          omega
        have n3 : ¬ (l.getD i ses0).1 = s.1 := by omega
        have n4 : sp l s.1 < i + 1 := by omega
        have e2 : walked l s (i + 1) = walked l s i ++ [l.getD i ses0] := by
          obtain ⟨z, hz1, hz2⟩ : ∃ z, (if sh l s.1 = true then 1 else 0) = z ∧ z ≤ 1 := ⟨_, rfl, by split <;> omega⟩
          have tl : (l.take i).length = i := by rw [List.length_take]; omega
          simp only [walked, hz1]
          rw [if_neg (show ¬ i + 1 ≤ sp l s.1 by omega), if_neg (show ¬ i ≤ sp l s.1 by omega), hgo, List.drop_append_of_le_length (by omega)]
          simp only [List.append_assoc]
        simp only [hk1, decide_true, a_notB, Bool.not_true, a_cndS, Bool.false_eq_true, if_false, a_obind_some, hb2, if_true, a_eqI, a_atL, Int.toNat_natCast, n3, decide_false, Bool.not_false, hw2 (l.getD i ses0), a_appL, w]
        exact ok_some.2 ⟨fun s' e => (by injection e with e; subst e; exact ⟨l.length - (i + 1), by omega, i + 1, by rw [e2, decide_eq_true n4], by omega, rfl⟩), fun r e => (by cases e)⟩
    · injection e with e; subst e
      have hge : ¬ (i : Int) < l.length := by simpa using q1
      have : i = l.length := by omega
      subst this; rfl
  rcases Bool.eq_false_or_eq_true (sh l s.1) with h | h
  · obtain ⟨q1, q2⟩ := sh_lt h
    have e1 : sfind l s.1 = l.getD (sp l s.1) ses0 := by simp only [sfind, h, if_true]
    have e2 : walked l s l.length = l.take (sp l s.1) ++ [s] ++ l.drop (sp l s.1 + 1) := by
      unfold walked; rw [if_neg (by omega), h, if_pos rfl, List.take_length]
    rw [e1]
    by_cases hq : s.2.1 ≤ (l.getD (sp l s.1) ses0).2.1
    · rw [if_pos hq, decide_eq_true hq]
      simp [h, hb]
    · rw [if_neg hq, decide_eq_false hq]
      simp only [Bool.false_eq_true, if_false, hloop, a_obind_some, q1, decide_true, Bool.not_true, h, if_true, e2]
  · have e1 : sfind l s.1 = ses0 := by simp only [sfind, h, Bool.false_eq_true, if_false]
    have n1 : ¬ s.2.1 ≤ 0 := by omega
    rw [e1]
    simp only [n1, decide_false, Bool.false_eq_true, if_false, hloop, a_obind_some, h]
    by_cases hq : sp l s.1 < l.length
    · have e2 : walked l s l.length = l.take (sp l s.1) ++ [s] ++ l.drop (sp l s.1) := by
        unfold walked; rw [if_neg (by omega), h, List.take_length]; simp
      simp only [hq, decide_true, Bool.not_true, Bool.false_eq_true, if_false, e2]
    · have e3 : sp l s.1 = l.length := by omega
      have e2 : walked l s l.length = l := by unfold walked; rw [if_pos (by omega), List.take_length]
      have hb3 : (l.length : Int) + 1 < 4294967296 := by omega
      simp [e2, e3, hb3]
end
end Go.Den.T

namespace Go.Den.T
set_option linter.unusedVariables false
set_option linter.unusedSimpArgs false
set_option linter.unusedSectionVars false
section
variable {A : Atoms} [IsReal A]
theorem pget_cases (l : List Pair) (s : List UInt8) : pget l s = -1 ∨ (0 ≤ pget l s ∧ pget l s ≤ 999) := by
  unfold pget
  split
  · rename_i h
    simp only [Bool.and_eq_true] at h
    obtain ⟨h1, h2⟩ := ph_lt h.2
    have := h.1
    simp only [pairsOk, Bool.and_eq_true, range_all] at this
    have := this.2 _ h1
    simp only [pairAt, valOk, Bool.and_eq_true, decide_eq_true_eq] at this
    exact .inr this.2.1
  · exact .inl rfl
def appC (l : List Pair) (c : Cmd) : List Pair × (Int × Unit) :=
  if (pairsOk l && cmdOk c) = true ∧ c.1 ≠ 5 then
    (if c.1 = 3 then ((pdrop l c.2.1).1, (pget l c.2.1, ())) else if c.1 = 1 ∨ (c.1 = 4 ∧ c.2.2.2.1 ≠ pget l c.2.1) then (l, (pget l c.2.1, ()))
      else if pget l c.2.1 = -1 ∧ 8 ≤ l.length then (l, (-2, ())) else ((pput l c.2.1 c.2.2.1).1, (pget l c.2.1, ())))
  else ([], (-3, ()))
theorem impl_ApplyCommand_eq (k : Nat) (hk : 100 ≤ k) (l : List Pair) (c : Cmd) : impl_ApplyCommand_t A k (l, (c, ())) () = some (appC l c, ()) := by
  obtain ⟨kd, key, val, old, _⟩ := c
  simp only [impl_ApplyCommand_t, impl_PairsValid_eq k (by omega : 60 ≤ k), impl_CommandValid_eq k (by omega : 10 ≤ k), a_obind_some, a_cndS, a_notB, a_eqI, appC]
  rcases Bool.eq_false_or_eq_true (pairsOk l) with h1 | h1
  case inr => simp [h1]
  rcases Bool.eq_false_or_eq_true (cmdOk (kd, (key, (val, (old, ()))))) with h2 | h2
  case inr => simp [h1, h2]
  have hl := pairs_len h1
  by_cases h5 : kd = 5
  · simp [h1, h2, h5]
  simp only [h1, h2, h5, decide_false, Bool.not_true, Bool.false_eq_true, if_false, a_sumE_inl, a_obind_some, impl_PairGet_eq k hk, impl_PairDrop_eq k hk, impl_PairPut_eq k hk, copyPair_eq k l (show l.length ≤ 1000000000 by omega), Bool.and_self, ne_eq, not_false_eq_true, and_self, if_true]
  generalize pget l key = g
  by_cases h3 : kd = 3
  · simp [h3]
  by_cases h11 : kd = 1
  · simp [h3, h11]
  by_cases h4 : kd = 4
  · subst h4
    by_cases ho : old = g
    · by_cases hg : g = -1
      · by_cases h8 : 8 ≤ l.length
        · have : (8 : Int) ≤ l.length := by omega
          simp [ho, hg, h8, this, copyPair_eq k l (show l.length ≤ 1000000000 by omega)]
        · have : ¬ (8 : Int) ≤ l.length := by omega
          simp [ho, hg, h8, this]
      · simp [ho, hg]
    · simp [ho]
  · by_cases hg : g = -1
    · by_cases h8 : 8 ≤ l.length
      · have : (8 : Int) ≤ l.length := by omega
        simp [h3, h11, h4, hg, h8, this, copyPair_eq k l (show l.length ≤ 1000000000 by omega)]
      · have : ¬ (8 : Int) ≤ l.length := by omega
        simp [h3, h11, h4, hg, h8, this]
    · simp [h3, h11, h4, hg]
theorem spec_ApplyCommand_eq (k : Nat) (hk : 100 ≤ k) (l : List Pair) (c : Cmd) : spec_ApplyCommand_t A k (l, (c, ())) () = some (appC l c, ()) := by
  obtain ⟨kd, key, val, old, _⟩ := c
  simp only [spec_ApplyCommand_t, spec_PairsValid_eq k (by omega : 60 ≤ k), spec_CommandValid_eq k (by omega : 10 ≤ k), a_obind_some, a_cndS, a_notB, a_eqI, appC]
  rcases Bool.eq_false_or_eq_true (pairsOk l) with h1 | h1
  case inr => simp [h1]
  rcases Bool.eq_false_or_eq_true (cmdOk (kd, (key, (val, (old, ()))))) with h2 | h2
  case inr => simp [h1, h2]
  have hl := pairs_len h1
  have hb : (l.length : Int) < 4294967296 := by omega
  by_cases h5 : kd = 5
  · simp [h1, h2, h5]
  simp only [h1, h2, h5, decide_false, Bool.not_true, Bool.false_eq_true, if_false, a_sumE_inl, a_obind_some, spec_PairGet_eq k hk l key (by omega) (by omega), spec_PairDrop_eq k hk, spec_PairPut_eq k hk, Bool.and_self, ne_eq, not_false_eq_true, and_self, if_true, a_lenL, a_ltI, a_addI, List.length_nil, Int.natCast_zero, Int.ofNat_zero, Int.zero_add, a_big, hb, decide_true, a_appL, List.nil_append]
  have hgc := pget_cases l key
  generalize pget l key = g at hgc
  by_cases h3 : kd = 3
  · simp [h3]
  by_cases h11 : kd = 1
  · simp [h3, h11]
  by_cases h4 : kd = 4
  · subst h4
    by_cases ho : old = g
    · by_cases hg : g = -1
      · by_cases h8 : 8 ≤ l.length
        · have : (8 : Int) ≤ l.length := by omega
          simp [ho, hg, h8, this]
        · have : ¬ (8 : Int) ≤ l.length := by omega
          simp [ho, hg, h8, this]
      · have : ¬ g < 0 := by omega
        simp [ho, hg, this]
    · simp [ho]
  · by_cases hg : g = -1
    · by_cases h8 : 8 ≤ l.length
      · have : (8 : Int) ≤ l.length := by omega
        simp [h3, h11, h4, hg, h8, this]
      · have : ¬ (8 : Int) ≤ l.length := by omega
        simp [h3, h11, h4, hg, h8, this]
    · have : ¬ g < 0 := by omega
      simp [h3, h11, h4, hg, this]
/-! ### entries -/
abbrev stt0 : Stt := (itv0, (([] : List Pair), (([] : List Ses), (false, (([] : List UInt8), ())))))
def takes (s : Stt) (c : Cmd) : Bool := if c.1 = 5 then (decide (c.2.1 = []) || (cut s.1 c.2.1).2.2.1) else inside s.1 c.2.1
def apE (s : Stt) (e : Ent) : Stt × (Int × Unit) :=
  if (stOk s && entOk e) = true then
    (if (sfind s.2.2.1 e.1).2.1 = e.2.1 then (s, ((sfind s.2.2.1 e.1).2.2.1, ())) else if e.2.1 < (sfind s.2.2.1 e.1).2.1 then (s, (-4, ()))
     else if (s.2.2.2.1 || !takes s e.2.2.1) = true then (s, (-3, ()))
     else if e.2.2.1.1 = 5 then ((s.1, (s.2.1, ((sput s.2.2.1 (e.1, (e.2.1, (0, ())))).1, (true, (e.2.2.1.2.1, ()))))), (0, ()))
     else ((s.1, ((appC s.2.1 e.2.2.1).1, ((sput s.2.2.1 (e.1, (e.2.1, ((appC s.2.1 e.2.2.1).2.1, ())))).1, s.2.2.2))), ((appC s.2.1 e.2.2.1).2.1, ())))
  else (stt0, (-3, ()))
theorem stOk_parts {s : Stt} (h : stOk s = true) : itvOk s.1 = true ∧ pairsOk s.2.1 = true ∧ sesOk s.2.2.1 = true ∧ s.2.1.all (fun p => inside s.1 p.1) = true ∧ (s.2.2.2.2.1 = [] ∨ (s.2.2.2.1 = true ∧ (cut s.1 s.2.2.2.2.1).2.2.1 = true)) := by
  simp only [stOk, Bool.and_eq_true, Bool.or_eq_true, decide_eq_true_eq] at h
  exact ⟨h.1, h.2.1, h.2.2.1, h.2.2.2.1, h.2.2.2.2⟩
theorem entOk_parts {e : Ent} (h : entOk e = true) : (0 ≤ e.1 ∧ e.1 ≤ 3) ∧ (1 ≤ e.2.1 ∧ e.2.1 ≤ 999) ∧ cmdOk e.2.2.1 = true := by
  simp only [entOk, Bool.and_eq_true, decide_eq_true_eq] at h
  exact ⟨h.1, h.2.1, h.2.2⟩
theorem cmd_key {c : Cmd} (h : cmdOk c = true) : keyOk c.2.1 = true ∨ (c.1 = 5 ∧ c.2.1 = []) := by
  simp only [cmdOk, Bool.and_eq_true, Bool.or_eq_true, decide_eq_true_eq] at h
  exact h.1
theorem copyState_eq (k : Nat) (s : Stt) (h1 : s.2.1.length ≤ 1000000000) (h2 : s.2.2.1.length ≤ 1000000000) : impl_copyState_t A k (s, ()) () = some ((s, ()), ()) := by
  simp only [impl_copyState_t, copyPair_eq k s.2.1 h1, copySes_eq k s.2.2.1 h2, a_obind_some]
theorem l10Copy_eq (k : Nat) (s : Stt) (h1 : s.2.1.length ≤ 1000000000) (h2 : s.2.2.1.length ≤ 1000000000) : spec_l10Copy_t A k (s, ()) () = some ((s, ()), ()) := by
  have g1 : (s.2.1.length : Int) < 4294967296 := by omega
  have g2 : (s.2.2.1.length : Int) < 4294967296 := by omega
  simp only [spec_l10Copy_t, a_lenL, List.length_nil, Int.natCast_zero, Int.ofNat_zero, a_addI, Int.zero_add, a_ltI, a_big, g1, g2, decide_true, a_cndS, if_true, a_appL, List.nil_append]
theorem stateTakes_eq (k : Nat) (hk : 10 ≤ k) (s : Stt) (c : Cmd) : impl_stateTakes_t A k (s, (c, ())) () = some ((takes s c, ()), ()) := by
  simp only [impl_stateTakes_t, inside_eq, impl_IntervalCut_eq k hk, a_obind_some, a_cndS, a_notB, a_eqI, a_eqS, takes]
  by_cases h5 : c.1 = 5
  · by_cases hn : c.2.1 = [] <;> simp [h5, hn]
  · simp [h5]
theorem impl_ApplyEntry_eq (k : Nat) (hk : 100 ≤ k) (s : Stt) (e : Ent) (hk2 : s.2.2.1.length < k) (hl : s.2.2.1.length ≤ 1000000000) : impl_ApplyEntry_t A k (s, (e, ())) () = some (apE s e, ()) := by
  simp only [impl_ApplyEntry_t, impl_StateValid_eq k (by omega : 60 ≤ k) s hk2 hl, impl_EntryValid_eq k (by omega : 10 ≤ k), a_obind_some, a_cndS, a_notB, apE]
  rcases Bool.eq_false_or_eq_true (stOk s) with h1 | h1
  case inr => simp [h1]
  rcases Bool.eq_false_or_eq_true (entOk e) with h2 | h2
  case inr => simp [h1, h2]
  obtain ⟨p1, p2, p3, p4, p5⟩ := stOk_parts h1
  obtain ⟨q1, q2, q3⟩ := entOk_parts h2
  have l1 := pairs_len p2
  have l2 := ses_le4 p3
  simp only [h1, h2, Bool.not_true, Bool.false_eq_true, if_false, if_true, a_sumE_inl, a_obind_some, Bool.and_self, copyState_eq k s (show s.2.1.length ≤ 1000000000 by omega) hl, sessionPlace_eq k s.2.2.1 e.1 (ses_mono p3 e.1) (by omega) hl]
  rcases Bool.eq_false_or_eq_true (sh s.2.2.1 e.1) with hh | hh
  · obtain ⟨m1, m2⟩ := sh_lt hh
    have m1' : (sp s.2.2.1 e.1 : Int) < s.2.2.1.length := by omega
    have ef : sfind s.2.2.1 e.1 = s.2.2.1.getD (sp s.2.2.1 e.1) ses0 := by simp only [sfind, hh, if_true]
    rw [ef]
    simp only [hh, if_true, a_le0, Int.natCast_nonneg, a_ltI, a_lenL, m1', decide_true, a_andB, Bool.and_self, a_atL, Int.toNat_natCast, a_leI, a_eqI]
    by_cases c1 : e.2.1 = (s.2.2.1.getD (sp s.2.2.1 e.1) ses0).2.1
    · have c2 : e.2.1 ≤ (s.2.2.1.getD (sp s.2.2.1 e.1) ses0).2.1 := by omega
      rw [if_pos c1.symm, decide_eq_true c1, decide_eq_true c2]
      simp only [if_true, a_obind_some, a_sumE_inr]
    · have c1' : ¬ (s.2.2.1.getD (sp s.2.2.1 e.1) ses0).2.1 = e.2.1 := fun h => c1 h.symm
      rw [if_neg c1', decide_eq_false c1]
      by_cases c2 : e.2.1 ≤ (s.2.2.1.getD (sp s.2.2.1 e.1) ses0).2.1
      · have c3 : e.2.1 < (s.2.2.1.getD (sp s.2.2.1 e.1) ses0).2.1 := by omega
        rw [if_pos c3, decide_eq_true c2]
        simp only [if_true, Bool.false_eq_true, if_false, a_obind_some, a_sumE_inr]
      · have c3 : ¬ e.2.1 < (s.2.2.1.getD (sp s.2.2.1 e.1) ses0).2.1 := by omega
        rw [if_neg c3, decide_eq_false c2]
        simp only [Bool.false_eq_true, if_false, a_obind_some, a_sumE_inl]
        simp only [stateTakes_eq k (by omega : 10 ≤ k), a_obind_some, a_cndS, a_notB, a_eqI]
        rcases Bool.eq_false_or_eq_true s.2.2.2.1 with hz | hz
        · simp [hz]
        rcases Bool.eq_false_or_eq_true (takes s e.2.2.1) with ht | ht
        case inr => simp [hz, ht]
        by_cases h5 : e.2.2.1.1 = 5
        · simp [hz, ht, h5, impl_SessionPut_eq k hk s.2.2.1 _ hk2 hl]
        · simp [hz, ht, h5, impl_SessionPut_eq k hk s.2.2.1 _ hk2 hl, impl_ApplyCommand_eq k hk]
  · have ef : sfind s.2.2.1 e.1 = ses0 := by simp only [sfind, hh, Bool.false_eq_true, if_false]
    have c1 : ¬ (0 : Int) = e.2.1 := by omega
    have c2 : ¬ e.2.1 < 0 := by omega
    rw [ef]
    simp only [hh, Bool.false_eq_true, if_false, a_obind_some, a_sumE_inl, c1, c2]
    simp only [stateTakes_eq k (by omega : 10 ≤ k), a_obind_some, a_cndS, a_notB, a_eqI]
    rcases Bool.eq_false_or_eq_true s.2.2.2.1 with hz | hz
    · simp [hz]
    rcases Bool.eq_false_or_eq_true (takes s e.2.2.1) with ht | ht
    case inr => simp [hz, ht]
    by_cases h5 : e.2.2.1.1 = 5
    · simp [hz, ht, h5, impl_SessionPut_eq k hk s.2.2.1 _ hk2 hl]
    · simp [hz, ht, h5, impl_SessionPut_eq k hk s.2.2.1 _ hk2 hl, impl_ApplyCommand_eq k hk]
theorem spec_ApplyEntry_eq (k : Nat) (hk : 100 ≤ k) (s : Stt) (e : Ent) (hk2 : s.2.2.1.length < k) (hl : s.2.2.1.length ≤ 1000000000) : spec_ApplyEntry_t A k (s, (e, ())) () = some (apE s e, ()) := by
  simp only [spec_ApplyEntry_t, spec_StateValid_eq k (by omega : 60 ≤ k) s hk2 hl, spec_EntryValid_eq k (by omega : 10 ≤ k), a_obind_some, a_cndS, a_notB, apE]
  rcases Bool.eq_false_or_eq_true (stOk s) with h1 | h1
  case inr => simp [h1]
  rcases Bool.eq_false_or_eq_true (entOk e) with h2 | h2
  case inr => simp [h1, h2]
  obtain ⟨p1, p2, p3, p4, p5⟩ := stOk_parts h1
  obtain ⟨q1, q2, q3⟩ := entOk_parts h2
  have l1 := pairs_len p2
  have l2 := ses_le4 p3
  simp only [h1, h2, Bool.not_true, Bool.false_eq_true, if_false, if_true, a_sumE_inl, a_obind_some, Bool.and_self, l10Copy_eq k s (show s.2.1.length ≤ 1000000000 by omega) hl, l9Find_eq k s.2.2.1 e.1 p3 hk2, a_eqI, a_ltI]
  by_cases c1 : (sfind s.2.2.1 e.1).2.1 = e.2.1
  · simp [c1]
  by_cases c2 : e.2.1 < (sfind s.2.2.1 e.1).2.1
  · simp [c1, c2]
  simp only [c1, c2, decide_false, Bool.false_eq_true, if_false]
  rcases Bool.eq_false_or_eq_true s.2.2.2.1 with hz | hz
  · simp [hz]
  simp only [hz, Bool.false_eq_true, if_false, Bool.false_or, spec_IntervalCut_eq k (by omega : 10 ≤ k), a_obind_some, IntervalHas_eq k (by omega : 10 ≤ k), p1, Bool.true_and, takes, a_eqS]
  by_cases h5 : e.2.2.1.1 = 5
  · simp only [h5, decide_true, if_true]
    by_cases hn : e.2.2.1.2.1 = []
    · simp [hn, spec_SessionPut_eq k hk s.2.2.1 _ hk2 hl]
    · rcases Bool.eq_false_or_eq_true (cut s.1 e.2.2.1.2.1).2.2.1 with hc | hc
      · simp [hn, hc, spec_SessionPut_eq k hk s.2.2.1 _ hk2 hl]
      · simp [hn, hc]
  · have hkey : keyOk e.2.2.1.2.1 = true := by
      rcases cmd_key q3 with h | h
      · exact h
      · exact absurd h.1 h5
    simp only [h5, hkey, decide_false, Bool.false_eq_true, if_false, Bool.not_false, if_true, Bool.true_and]
    rcases Bool.eq_false_or_eq_true (inside s.1 e.2.2.1.2.1) with hi | hi
    · simp [hi, h5, hz, spec_SessionPut_eq k hk s.2.2.1 _ hk2 hl, spec_ApplyCommand_eq k hk]
    · simp [hi]
/-! ### validity is kept -/
theorem pairsOk_iff {l : List Pair} : pairsOk l = true ↔ l.length ≤ 48 ∧ (∀ p ∈ l, keyOk p.1 = true ∧ valOk p.2.1 = true) ∧ l.Pairwise (fun a b => bless a.1 b.1 = true) := by
  constructor
  · intro h
    have hs := pairs_sorted h
    refine ⟨pairs_len h, fun p hp => ?_, ?_⟩
    · obtain ⟨i, hi, rfl⟩ := List.mem_iff_getElem.1 hp
      simp only [pairsOk, Bool.and_eq_true, range_all] at h
      have := h.2 i hi
      simp only [pairAt, Bool.and_eq_true] at this
      rw [getD_lt hi] at this
      exact ⟨this.1, this.2.1⟩
    · rw [List.pairwise_iff_getElem]
      intro i j hi hj hij
      have := hs i j hij hj
      rwa [getD_lt hi, getD_lt hj] at this
  · rintro ⟨h1, h2, h3⟩
    rw [List.pairwise_iff_getElem] at h3
    simp only [pairsOk, Bool.and_eq_true, range_all, decide_eq_true_eq]
    refine ⟨h1, fun i hi => ?_⟩
    have h4 := h2 l[i] (List.getElem_mem hi)
    simp only [pairAt, Bool.and_eq_true, Bool.or_eq_true, decide_eq_true_eq]
    rw [getD_lt hi]
    refine ⟨h4.1, h4.2, ?_⟩
    by_cases h0 : i = 0
    · exact .inl h0
    · have hi1 : i - 1 < l.length := by omega
      rw [getD_lt hi1]
      exact .inr (h3 (i - 1) i hi1 hi (by omega))
theorem sesOk_iff {l : List Ses} : sesOk l = true ↔ (∀ p ∈ l, (0 ≤ p.1 ∧ p.1 ≤ 3) ∧ (1 ≤ p.2.1 ∧ p.2.1 ≤ 999) ∧ -2 ≤ p.2.2.1 ∧ p.2.2.1 ≤ 999) ∧ l.Pairwise (fun a b => a.1 < b.1) := by
  constructor
  · intro h
    have hs := ses_sorted h
    refine ⟨fun p hp => ?_, ?_⟩
    · obtain ⟨i, hi, rfl⟩ := List.mem_iff_getElem.1 hp
      simp only [sesOk, range_all] at h
      have := h i hi
      simp only [sesAt, sesP, Bool.and_eq_true, decide_eq_true_eq] at this
      rw [getD_lt hi] at this
      exact ⟨this.1, this.2.1, this.2.2.1⟩
    · rw [List.pairwise_iff_getElem]
      intro i j hi hj hij
      have := hs i j hij hj
      rwa [getD_lt hi, getD_lt hj] at this
  · rintro ⟨h2, h3⟩
    rw [List.pairwise_iff_getElem] at h3
    simp only [sesOk, range_all]
    intro i hi
    have h4 := h2 l[i] (List.getElem_mem hi)
    simp only [sesAt, sesP, Bool.and_eq_true, Bool.or_eq_true, decide_eq_true_eq, Bool.not_eq_true', decide_eq_false_iff_not]
    rw [getD_lt hi]
    refine ⟨h4.1, h4.2.1, h4.2.2, ?_⟩
    by_cases h0 : i = 0
    · exact .inl h0
    · have hi1 : i - 1 < l.length := by omega
      rw [getD_lt hi1]
      have := h3 (i - 1) i hi1 hi (by omega)
      exact .inr (by omega)
theorem pdrop_ok {l : List Pair} (h : pairsOk l = true) (s : List UInt8) : pairsOk (pdrop l s).1 = true ∧ ∀ p ∈ (pdrop l s).1, p ∈ l := by
  unfold pdrop
  rw [if_pos h]
  split
  · have hsub : List.Sublist (l.take (pp l s) ++ l.drop (pp l s + 1)) l := by
      conv => rhs; rw [← List.take_append_drop (pp l s) l]
      exact List.Sublist.append (List.Sublist.refl _) (by rw [← List.drop_drop]; exact List.drop_sublist 1 _)
    rw [pairsOk_iff] at h
    refine ⟨pairsOk_iff.2 ⟨Nat.le_trans hsub.length_le h.1, fun p hp => h.2.1 p (hsub.subset hp), h.2.2.sublist hsub⟩, fun p hp => hsub.subset hp⟩
  · exact ⟨h, fun p hp => hp⟩
theorem place_order {l : List Pair} (h : pairsOk l = true) (s : List UInt8) : (∀ p ∈ l.take (pp l s), bless p.1 s = true) ∧ (ph l s = true → ∀ p ∈ l.drop (pp l s + 1), bless s p.1 = true) ∧ (ph l s = false → ∀ p ∈ l.drop (pp l s), bless s p.1 = true) := by
  have hs := pairs_sorted h
  have hsp : (∀ i, i < pp l s → ltP s (l.getD i pair0) = true) ∧ (pp l s < l.length → ltP s (l.getD (pp l s) pair0) = false) := ahead_spec (lt := ltP s) (d := pair0) (l := l)
  refine ⟨fun p hp => ?_, fun hh p hp => ?_, fun hh p hp => ?_⟩
  · obtain ⟨i, hi, rfl⟩ := List.mem_iff_getElem.1 hp
    rw [List.length_take] at hi
    have := hsp.1 i (by omega)
    rw [getD_lt (show i < l.length by omega)] at this
    rw [List.getElem_take]; exact this
  · obtain ⟨q1, q2⟩ := ph_lt hh
    obtain ⟨i, hi, rfl⟩ := List.mem_iff_getElem.1 hp
    rw [List.length_drop] at hi
    have := hs (pp l s) (pp l s + 1 + i) (by omega) (by omega)
    rw [q2, getD_lt (show pp l s + 1 + i < l.length by omega)] at this
    rw [List.getElem_drop]; exact this
  · obtain ⟨i, hi, rfl⟩ := List.mem_iff_getElem.1 hp
    rw [List.length_drop] at hi
    have hlt : pp l s < l.length := by omega
    have hne : ¬ (l.getD (pp l s) pair0).1 = s := fun e => by
      have : ph l s = true := by simp only [ph, hlt, e, decide_true, Bool.and_self]
      rw [this] at hh; cases hh
    have h0 : bless s (l.getD (pp l s) pair0).1 = true := by
      have h1 := hsp.2 hlt
      have h2 := bless_total s (l.getD (pp l s) pair0).1
      have h1 : bless (l.getD (pp l s) pair0).1 s = false := h1
      rw [h1, decide_eq_false hne] at h2
      exact h2
    rw [List.getElem_drop]
    by_cases hi0 : i = 0
    · subst hi0
      rw [getD_lt hlt] at h0
      simpa using h0
    · have := hs (pp l s) (pp l s + i) (by omega) (by omega)
      rw [getD_lt (show pp l s + i < l.length by omega)] at this
      exact bless_trans h0 this
theorem pput_ok {l : List Pair} (h : pairsOk l = true) {s : List UInt8} {v : Int} (hs : keyOk s = true) (hv : valOk v = true) : pairsOk (pput l s v).1 = true ∧ ∀ p ∈ (pput l s v).1, p ∈ l ∨ p = (s, (v, ())) := by
  obtain ⟨o1, o2, o3⟩ := place_order h s
  have hle := pp_le l s
  have hq := h
  rw [pairsOk_iff] at hq
  obtain ⟨q1, q2, q3⟩ := hq
  unfold pput
  rw [if_pos (by simp [h, hs, hv])]
  have gen : ∀ d : List Pair, List.Sublist d (l.drop (pp l s)) → (∀ p ∈ d, bless s p.1 = true) → (pp l s + 1 + d.length ≤ 48) → pairsOk (l.take (pp l s) ++ [(s, (v, ()))] ++ d) = true ∧ ∀ p ∈ l.take (pp l s) ++ [(s, (v, ()))] ++ d, p ∈ l ∨ p = (s, (v, ())) := by
    intro d hd ho hn
    have mem : ∀ p ∈ l.take (pp l s) ++ [(s, (v, ()))] ++ d, p ∈ l ∨ p = (s, (v, ())) := by
      intro p hp
      rcases List.mem_append.1 hp with hp | hp
      · rcases List.mem_append.1 hp with hp | hp
        · exact .inl (List.mem_of_mem_take hp)
        · exact .inr (by simpa using hp)
      · exact .inl (List.mem_of_mem_drop (hd.subset hp))
    have hsub : List.Sublist (l.take (pp l s) ++ d) l := by
      conv => rhs; rw [← List.take_append_drop (pp l s) l]
      exact List.Sublist.append (List.Sublist.refl _) hd
    have hpw := q3.sublist hsub
    rw [List.pairwise_append] at hpw
    refine ⟨pairsOk_iff.2 ⟨by simp only [List.length_append, List.length_take, List.length_cons, List.length_nil]; omega, fun p hp => ?_, ?_⟩, mem⟩
    · rcases mem p hp with hp | rfl
      · exact q2 p hp
      · exact ⟨hs, hv⟩
    · rw [List.append_assoc, List.pairwise_append]
      refine ⟨hpw.1, ?_, fun a ha b hb => ?_⟩
      · rw [List.singleton_append, List.pairwise_cons]
        exact ⟨fun a ha => ho a ha, hpw.2.1⟩
      · rcases List.mem_append.1 hb with hb | hb
        · have : b = (s, (v, ())) := by simpa using hb
          rw [this]; exact o1 a ha
        · exact hpw.2.2 a ha b hb
  rcases Bool.eq_false_or_eq_true (ph l s) with hh | hh
  · rw [if_pos hh]
    exact gen _ (by rw [← List.drop_drop]; exact List.drop_sublist 1 _) (o2 hh) (by have := (ph_lt hh).1; rw [List.length_drop]; omega)
  · rw [if_neg (by rw [hh]; simp)]
    split
    · exact ⟨h, fun p hp => .inl hp⟩
    · exact gen _ (List.Sublist.refl _) (o3 hh) (by rw [List.length_drop]; omega)
theorem sput_ok {l : List Ses} (h : sesOk l = true) {s : Ses} (hs : (0 ≤ s.1 ∧ s.1 ≤ 3) ∧ (1 ≤ s.2.1 ∧ s.2.1 ≤ 999) ∧ -2 ≤ s.2.2.1 ∧ s.2.2.1 ≤ 999) : sesOk (sput l s).1 = true := by
  have hsort := ses_sorted h
  have hsp : (∀ i, i < sp l s.1 → ltS s.1 (l.getD i ses0) = true) ∧ (sp l s.1 < l.length → ltS s.1 (l.getD (sp l s.1) ses0) = false) := ahead_spec (lt := ltS s.1) (d := ses0) (l := l)
  have hq := h
  rw [sesOk_iff] at hq
  obtain ⟨q2, q3⟩ := hq
  have h1 : sesOk [s] = true := sesOk_iff.2 ⟨fun p hp => by simp at hp; subst hp; exact hs, by simp⟩
  have o1 : ∀ p ∈ l.take (sp l s.1), p.1 < s.1 := fun p hp => by
    obtain ⟨i, hi, rfl⟩ := List.mem_iff_getElem.1 hp
    rw [List.length_take] at hi
    have := hsp.1 i (by omega)
    rw [getD_lt (show i < l.length by omega)] at this
    rw [List.getElem_take]; simpa [ltS] using this
  unfold sput
  rw [if_pos (by simp [h, h1])]
  have gen : ∀ d : List Ses, List.Sublist d (l.drop (sp l s.1)) → (∀ p ∈ d, s.1 < p.1) → sesOk (l.take (sp l s.1) ++ [s] ++ d) = true := by
    intro d hd ho
    have hsub : List.Sublist (l.take (sp l s.1) ++ d) l := by
      conv => rhs; rw [← List.take_append_drop (sp l s.1) l]
      exact List.Sublist.append (List.Sublist.refl _) hd
    have hpw := q3.sublist hsub
    rw [List.pairwise_append] at hpw
    refine sesOk_iff.2 ⟨fun p hp => ?_, ?_⟩
    · rcases List.mem_append.1 hp with hp | hp
      · rcases List.mem_append.1 hp with hp | hp
        · exact q2 p (List.mem_of_mem_take hp)
        · simp at hp; subst hp; exact hs
      · exact q2 p (List.mem_of_mem_drop (hd.subset hp))
    · rw [List.append_assoc, List.pairwise_append]
      refine ⟨hpw.1, ?_, fun a ha b hb => ?_⟩
      · rw [List.singleton_append, List.pairwise_cons]
        exact ⟨fun a ha => ho a ha, hpw.2.1⟩
      · rcases List.mem_append.1 hb with hb | hb
        · have : b = s := by simpa using hb
          rw [this]; exact o1 a ha
        · exact hpw.2.2 a ha b hb
  rcases Bool.eq_false_or_eq_true (sh l s.1) with hh | hh
  · rw [if_pos hh]
    obtain ⟨m1, m2⟩ := sh_lt hh
    split
    · exact h
    · refine gen _ (by rw [← List.drop_drop]; exact List.drop_sublist 1 _) (fun p hp => ?_)
      obtain ⟨i, hi, rfl⟩ := List.mem_iff_getElem.1 hp
      rw [List.length_drop] at hi
      have := hsort (sp l s.1) (sp l s.1 + 1 + i) (by omega) (by omega)
      rw [m2, getD_lt (show sp l s.1 + 1 + i < l.length by omega)] at this
      rw [List.getElem_drop]; exact this
  · rw [if_neg (by rw [hh]; simp)]
    refine gen _ (List.Sublist.refl _) (fun p hp => ?_)
    obtain ⟨i, hi, rfl⟩ := List.mem_iff_getElem.1 hp
    rw [List.length_drop] at hi
    have hlt : sp l s.1 < l.length := by omega
    have hne : ¬ (l.getD (sp l s.1) ses0).1 = s.1 := fun e => by
      have : sh l s.1 = true := by simp only [sh, hlt, e, decide_true, Bool.and_self]
      rw [this] at hh; cases hh
    have h0 : s.1 < (l.getD (sp l s.1) ses0).1 := by
      have h1 := hsp.2 hlt
      simp only [ltS, decide_eq_false_iff_not] at h1
      omega
    rw [List.getElem_drop]
    by_cases hi0 : i = 0
    · subst hi0
      rw [getD_lt hlt] at h0
      simpa using h0
    · have := hsort (sp l s.1) (sp l s.1 + i) (by omega) (by omega)
      rw [getD_lt (show sp l s.1 + i < l.length by omega)] at this
      omega
end
end Go.Den.T

namespace Go.Den.T
set_option linter.unusedVariables false
set_option linter.unusedSimpArgs false
set_option linter.unusedSectionVars false
section
variable {A : Atoms} [IsReal A]
theorem logOk_iff' {l : List Ent} : logOk l = true ↔ l.length ≤ 24 ∧ ∀ e ∈ l, entOk e = true := by
  simp only [logOk, Bool.and_eq_true, decide_eq_true_eq, List.all_eq_true]
theorem cmd_val {c : Cmd} (h : cmdOk c = true) (h5 : c.1 ≠ 5) (h1 : c.1 ≠ 1) (h3 : c.1 ≠ 3) : valOk c.2.2.1 = true := by
  simp only [cmdOk, Bool.and_eq_true] at h
  have h := h.2
  rw [if_neg (by simp [h1, h3, h5])] at h
  split at h
  · simp only [decide_eq_true_eq] at h
    simp [valOk, h.1]
  · split at h
    · simp only [decide_eq_true_eq] at h
      simp [valOk, h.1]
    · cases h
theorem appC_ok {l : List Pair} (h : pairsOk l = true) {c : Cmd} (hc : cmdOk c = true) (h5 : c.1 ≠ 5) : pairsOk (appC l c).1 = true ∧ (∀ p ∈ (appC l c).1, p ∈ l ∨ p.1 = c.2.1) ∧ -2 ≤ (appC l c).2.1 ∧ (appC l c).2.1 ≤ 999 := by
  have hg := pget_cases l c.2.1
  have hkey : keyOk c.2.1 = true := by
    rcases cmd_key hc with h | h
    · exact h
    · exact absurd h.1 h5
  unfold appC
  rw [if_pos ⟨by simp [h, hc], h5⟩]
  split
  · obtain ⟨k1, k2⟩ := pdrop_ok h c.2.1
    exact ⟨k1, fun p hp => .inl (k2 p hp), by show -2 ≤ pget l c.2.1; omega, by show pget l c.2.1 ≤ 999; omega⟩
  · rename_i h3
    split
    · exact ⟨h, fun p hp => .inl hp, by show -2 ≤ pget l c.2.1; omega, by show pget l c.2.1 ≤ 999; omega⟩
    · rename_i h1
      have h1 : c.1 ≠ 1 := fun e => h1 (.inl e)
      split
      · exact ⟨h, fun p hp => .inl hp, by simp, by simp⟩
      · obtain ⟨k1, k2⟩ := pput_ok h hkey (cmd_val hc h5 h1 h3)
        exact ⟨k1, fun p hp => (k2 p hp).imp id (fun e => by rw [e]), by show -2 ≤ pget l c.2.1; omega, by show pget l c.2.1 ≤ 999; omega⟩
theorem apE_ok {s : Stt} (h : stOk s = true) {e : Ent} (he : entOk e = true) : stOk (apE s e).1 = true := by
  obtain ⟨p1, p2, p3, p4, p5⟩ := stOk_parts h
  obtain ⟨q1, q2, q3⟩ := entOk_parts he
  unfold apE
  rw [if_pos (by simp [h, he])]
  split
  · exact h
  split
  · exact h
  split
  · exact h
  rename_i hm
  simp only [Bool.or_eq_true, Bool.not_eq_true', not_or, Bool.not_eq_true, Bool.not_eq_false] at hm
  obtain ⟨hz, ht⟩ := hm
  split
  · rename_i h5
    have hs := sput_ok p3 (s := (e.1, (e.2.1, (0, ())))) ⟨q1, q2, by simp, by simp⟩
    have hcut : e.2.2.1.2.1 = [] ∨ (cut s.1 e.2.2.1.2.1).2.2.1 = true := by
      simp only [takes, h5, if_true, Bool.or_eq_true, decide_eq_true_eq] at ht
      exact ht
    simp only [stOk, p1, p2, hs, p4, Bool.true_and, Bool.or_eq_true, decide_eq_true_eq]
    exact hcut
  · rename_i h5
    obtain ⟨k1, k2, k3, k4⟩ := appC_ok p2 q3 h5
    have hs := sput_ok p3 (s := (e.1, (e.2.1, ((appC s.2.1 e.2.2.1).2.1, ())))) ⟨q1, q2, k3, k4⟩
    have hin : inside s.1 e.2.2.1.2.1 = true := by simpa only [takes, h5, if_false] using ht
    have hall : (appC s.2.1 e.2.2.1).1.all (fun p => inside s.1 p.1) = true := by
      rw [List.all_eq_true]
      intro p hp
      rcases k2 p hp with hp | hp
      · exact (List.all_eq_true.1 p4) p hp
      · rw [hp]; exact hin
    simp only [stOk, p1, k1, hs, hall, Bool.true_and, Bool.or_eq_true, decide_eq_true_eq, Bool.and_eq_true]
    exact p5
def rep (s : Stt) : List Ent → Stt × List Int
  | [] => (s, [])
  | e :: l => ((rep (apE s e).1 l).1, (apE s e).2.1 :: (rep (apE s e).1 l).2)
theorem rep_append (s : Stt) : ∀ (l m : List Ent), rep s (l ++ m) = ((rep (rep s l).1 m).1, (rep s l).2 ++ (rep (rep s l).1 m).2) ∧ (rep s l).2.length = l.length := by
  intro l
  induction l generalizing s with
  | nil => intro m; exact ⟨rfl, rfl⟩
  | cons e l ih =>
    intro m
    obtain ⟨h1, h2⟩ := ih (apE s e).1 m
    exact ⟨by simp only [List.cons_append, rep, h1], by simp only [rep, List.length_cons, h2]⟩
theorem rep_snoc (s : Stt) (l : List Ent) (e : Ent) : rep s (l ++ [e]) = ((apE (rep s l).1 e).1, (rep s l).2 ++ [(apE (rep s l).1 e).2.1]) := (rep_append s l [e]).1
theorem rep_ok {s : Stt} (h : stOk s = true) : ∀ {l : List Ent}, (∀ e ∈ l, entOk e = true) → stOk (rep s l).1 = true := by
  intro l
  induction l generalizing s with
  | nil => intro _; exact h
  | cons e l ih => intro hl; exact ih (apE_ok h (hl e (by simp))) (fun x hx => hl x (by simp [hx]))
def replay (s : Stt) (l : List Ent) : Stt × (List Int × Unit) := if (stOk s && logOk l) = true then ((rep s l).1, ((rep s l).2, ())) else (stt0, ([], ()))
theorem st_short {s : Stt} (h : stOk s = true) : s.2.1.length ≤ 48 ∧ s.2.2.1.length ≤ 4 := by
  obtain ⟨_, p2, p3, _⟩ := stOk_parts h
  exact ⟨pairs_len p2, ses_le4 p3⟩
theorem impl_Replay_eq (k : Nat) (hk : 100 ≤ k) (s : Stt) (l : List Ent) (hk2 : s.2.2.1.length < k) (hl : s.2.2.1.length ≤ 1000000000) : impl_Replay_t A k (s, (l, ())) () = some (replay s l, ()) := by
  simp only [impl_Replay_t, impl_StateValid_eq k (by omega : 60 ≤ k) s hk2 hl, entriesValid_eq k (by omega : 30 ≤ k), a_obind_some, a_cndS, a_notB, replay]
  rcases Bool.eq_false_or_eq_true (stOk s) with h1 | h1
  case inr => simp [h1]
  rcases Bool.eq_false_or_eq_true (logOk l) with h2 | h2
  case inr => simp [h1, h2]
  obtain ⟨g1, g2⟩ := st_short h1
  obtain ⟨m1, m2⟩ := logOk_iff'.1 h2
  have hloop : A.iter k (impl_Replay_t_b0 A k) (([] : List Int), (l, ((l.length : Int), ((0 : Int), (stt0, (s, ())))))) = some ((rep s l).2, (stt0, ((rep s l).1, ()))) := by
    rw [← ok_eq]
    refine iter_ok (fun m (st : List Int × (List Ent × (Int × (Int × (Stt × (Stt × Unit)))))) => ∃ i : Nat, st = ((rep s (l.take i)).2, (l, ((l.length : Int), ((i : Int), (stt0, ((rep s (l.take i)).1, ())))))) ∧ i ≤ l.length ∧ m = l.length - i) _ ?_ (n := l.length) (by omega) ⟨0, by simp [rep], by omega, by omega⟩
    rintro m st ⟨i, rfl, hi, rfl⟩
    have w : A.wrapI .i64 (A.addI (i : Int) 1) = ((i + 1 : Nat) : Int) := by rw [a_addI, a_wrap (by omega) (by omega)]; rfl
    have hv := rep_ok h1 (l := l.take i) (fun e he => m2 e (List.mem_of_mem_take he))
    obtain ⟨v1, v2⟩ := st_short hv
    have hrl : (rep s (l.take i)).2.length = i := by rw [(rep_append s (l.take i) []).2, List.length_take]; omega
    rw [impl_Replay_t_b0, ok_cndS]
    refine ⟨fun q1 => ?_, fun q1 => ok_some.2 ⟨fun s' e => (by cases e), fun r e => ?_⟩⟩
    · have hlt' : (i : Int) < l.length := by simpa using q1
      have hlt : i < l.length := by omega
      have hb := in_bounds (A := A) (l := l) (i := (i : Int)) (by omega) hlt'
      have hgo : l.take (i + 1) = l.take i ++ [l.getD i ent0] := by rw [List.take_succ_eq_append_getElem hlt, getD_lt hlt]
      rw [ok_cndS]
      refine ⟨fun _ => ?_, fun hc => (by rw [hb] at hc; cases hc)⟩
      rw [a_atL, Int.toNat_natCast, impl_ApplyEntry_eq k hk (rep s (l.take i)).1 _ (by omega) (by omega), a_obind_some, ok_cndS]
      refine ⟨fun _ => ok_some.2 ⟨fun s' e => ?_, fun r e => (by cases e)⟩, fun hc => (by simp [hrl] at hc; omega)⟩
      injection e with e; subst e
      exact ⟨l.length - (i + 1), by omega, i + 1, by rw [hgo, rep_snoc, w, a_appL], by omega, rfl⟩
    · injection e with e; subst e
      have hge : ¬ (i : Int) < l.length := by simpa using q1
      have : i = l.length := by omega
      subst this
      rw [List.take_length]
  simp only [h1, h2, Bool.not_true, Bool.false_eq_true, if_false, if_true, a_sumE_inl, a_obind_some, copyState_eq k s (show s.2.1.length ≤ 1000000000 by omega) hl, a_lenL, hloop, Bool.and_self]
theorem spec_Replay_eq (k : Nat) (hk : 100 ≤ k) (s : Stt) (l : List Ent) (hk2 : s.2.2.1.length < k) (hl : s.2.2.1.length ≤ 1000000000) : spec_Replay_t A k (s, (l, ())) () = some (replay s l, ()) := by
  simp only [spec_Replay_t, spec_StateValid_eq k (by omega : 60 ≤ k) s hk2 hl, l10Log_eq k (by omega : 30 ≤ k), a_obind_some, a_cndS, a_notB, replay]
  rcases Bool.eq_false_or_eq_true (stOk s) with h1 | h1
  case inr => simp [h1]
  rcases Bool.eq_false_or_eq_true (logOk l) with h2 | h2
  case inr => simp [h1, h2]
  obtain ⟨g1, g2⟩ := st_short h1
  obtain ⟨m1, m2⟩ := logOk_iff'.1 h2
  have hloop : A.iter k (spec_Replay_t_b0 A k) (l, (([] : List Int), ((0 : Int), (stt0, (s, ()))))) = some ((rep s l).2, (stt0, ((rep s l).1, ()))) := by
    rw [← ok_eq]
    refine iter_ok (fun m (st : List Ent × (List Int × (Int × (Stt × (Stt × Unit))))) => ∃ i : Nat, st = (l, ((rep s (l.take i)).2, ((i : Int), (stt0, ((rep s (l.take i)).1, ()))))) ∧ i ≤ l.length ∧ m = l.length - i) _ ?_ (n := l.length) (by omega) ⟨0, by simp [rep], by omega, by omega⟩
    rintro m st ⟨i, rfl, hi, rfl⟩
    have w : A.wrapI .i64 (A.addI (i : Int) 1) = ((i + 1 : Nat) : Int) := by rw [a_addI, a_wrap (by omega) (by omega)]; rfl
    have hv := rep_ok h1 (l := l.take i) (fun e he => m2 e (List.mem_of_mem_take he))
    obtain ⟨v1, v2⟩ := st_short hv
    have hrl : (rep s (l.take i)).2.length = i := by rw [(rep_append s (l.take i) []).2, List.length_take]; omega
    rw [spec_Replay_t_b0, ok_cndS]
    refine ⟨fun q1 => ?_, fun q1 => ok_some.2 ⟨fun s' e => (by cases e), fun r e => ?_⟩⟩
    · have hlt' : (i : Int) < l.length := by simpa using q1
      have hlt : i < l.length := by omega
      have hb := in_bounds (A := A) (l := l) (i := (i : Int)) (by omega) hlt'
      have hgo : l.take (i + 1) = l.take i ++ [l.getD i ent0] := by rw [List.take_succ_eq_append_getElem hlt, getD_lt hlt]
      rw [ok_cndS]
      refine ⟨fun _ => ?_, fun hc => (by rw [hb] at hc; cases hc)⟩
      rw [a_atL, Int.toNat_natCast, spec_ApplyEntry_eq k hk (rep s (l.take i)).1 _ (by omega) (by omega), a_obind_some, ok_cndS]
      refine ⟨fun _ => ok_some.2 ⟨fun s' e => ?_, fun r e => (by cases e)⟩, fun hc => (by simp [hrl] at hc; omega)⟩
      injection e with e; subst e
      exact ⟨l.length - (i + 1), by omega, i + 1, by rw [hgo, rep_snoc, w, a_appL], by omega, rfl⟩
    · injection e with e; subst e
      have hge : ¬ (i : Int) < l.length := by simpa using q1
      have : i = l.length := by omega
      subst this
      rw [List.take_length]
  simp only [h1, h2, Bool.not_true, Bool.false_eq_true, if_false, if_true, a_sumE_inl, a_obind_some, l10Copy_eq k s (show s.2.1.length ≤ 1000000000 by omega) hl, a_lenL, hloop, Bool.and_self]
end
end Go.Den.T

namespace Go.Den.T
set_option linter.unusedVariables false
set_option linter.unusedSimpArgs false
set_option linter.unusedSectionVars false
section
variable {A : Atoms} [IsReal A]
end
end Go.Den.T

namespace Go.Den.T
set_option linter.unusedVariables false
set_option linter.unusedSimpArgs false
set_option linter.unusedSectionVars false
section
variable {A : Atoms} [IsReal A]
end
end Go.Den.T

namespace Go.Den.T
set_option linter.unusedVariables false
set_option linter.unusedSimpArgs false
set_option linter.unusedSectionVars false
section
variable {A : Atoms} [IsReal A]
end
end Go.Den.T

namespace Go.Den.T
set_option linter.unusedVariables false
set_option linter.unusedSimpArgs false
set_option linter.unusedSectionVars false
section
variable {A : Atoms} [IsReal A]
/-! ### marks -/
def mP (A : Atoms) (k : Nat) (n : Int) : Pair := (mtx A k n, (n + 1, ()))
def mS (n : Int) : Ses := (n, (n + 1, (n + 2, ())))
def marksP (A : Atoms) (k : Nat) (n : Int) (m : Nat) : List Pair := (List.range m).map fun i : Nat => mP A k (n + 2 * (i : Int))
def marksS (n : Int) (m : Nat) : List Ses := (List.range m).map fun i : Nat => mS (n + 3 * (i : Int))
@[simp] theorem marksP_len (k : Nat) (n : Int) (m : Nat) : (marksP A k n m).length = m := by simp [marksP]
@[simp] theorem marksS_len (n : Int) (m : Nat) : (marksS n m).length = m := by simp [marksS]
theorem marksP_get {k : Nat} {n : Int} {m i : Nat} (h : i < m) : (marksP A k n m).getD i pair0 = mP A k (n + 2 * (i : Int)) := by rw [getD_lt (by simpa using h)]; simp [marksP]
theorem marksS_get {n : Int} {m i : Nat} (h : i < m) : (marksS n m).getD i ses0 = mS (n + 3 * (i : Int)) := by rw [getD_lt (by simpa using h)]; simp [marksS]
theorem marksP_succ (k : Nat) (n : Int) (m : Nat) : marksP A k n (m + 1) = marksP A k n m ++ [mP A k (n + 2 * (m : Int))] := by simp [marksP, List.range_succ]
theorem marksS_succ (n : Int) (m : Nat) : marksS n (m + 1) = marksS n m ++ [mS (n + 3 * (m : Int))] := by simp [marksS, List.range_succ]
theorem markP_set (k : Nat) (xs : List Pair) (n : Int) (i : Nat) (h : i < xs.length) : (marksP A k n i ++ xs.drop i).set i (mP A k (n + 2 * (i : Int))) = marksP A k n (i + 1) ++ xs.drop (i + 1) := by
  rw [List.set_append_right _ _ (by simp)]
  simp only [marksP_len, Nat.sub_self]
  rw [List.drop_eq_getElem_cons h, List.set_cons_zero, marksP_succ]
  simp
theorem markS_set (xs : List Ses) (n : Int) (i : Nat) (h : i < xs.length) : (marksS n i ++ xs.drop i).set i (mS (n + 3 * (i : Int))) = marksS n (i + 1) ++ xs.drop (i + 1) := by
  rw [List.set_append_right _ _ (by simp)]
  simp only [marksS_len, Nat.sub_self]
  rw [List.drop_eq_getElem_cons h, List.set_cons_zero, marksS_succ]
  simp
theorem markP_step (k : Nat) (hk : 100 ≤ k) (L : List Pair) (i : Nat) (hi : i < L.length) (hl : L.length ≤ 1000000000) (n : Int) (h0 : 0 ≤ n) (h1 : n ≤ 100000000000000) :
    laws_markPairS_t_b0 A k (n, ((i : Int), (L, ()))) = some (.inl (n + 2, (((i + 1 : Nat) : Int), (L.set i (mP A k n), ())))) := by
  have hi' : (i : Int) < (L.length : Int) := by omega
  have w1 : A.wrapI .i64 (n + 1) = n + 1 := a_wrap (by omega) (by omega)
  have w2 : A.wrapI .i64 (n + 1 + 1) = n + 2 := by rw [a_wrap (by omega) (by omega)]; omega
  have w : A.wrapI .i64 ((i : Int) + 1) = ((i + 1 : Nat) : Int) := by rw [a_wrap (by omega) (by omega)]; rfl
  have ge : ∀ (M : List Pair) (x d : Pair), i < M.length → (M.set i x).getD i d = x := fun M x d h => by rw [getD_lt (by simpa using h)]; simp
  have ls : ∀ (M : List Pair) (x : Pair), (M.set i x).length = M.length := fun M x => by simp
  simp only [laws_markPairS_t_b0, a_cndS, a_ltI, a_lenL, a_le0, a_andB, hi', Int.natCast_nonneg, decide_true, Bool.and_self, if_true, a_setL, a_atL, Int.toNat_natCast, a_obind_some, a_addI, w, w1, w2, ls, ge, List.set_set, markText_eq k hk n (by omega), hi]
  rfl
theorem markPairS_eq (k : Nat) (hk : 100 ≤ k) (n : Int) (xs : List Pair) (hkx : xs.length < k) (hl : xs.length ≤ 1000000000) (h0 : 0 ≤ n) (h1 : n ≤ 10000000000000) :
    laws_markPairS_t A k ((), (n, ())) xs = some ((n + 2 * xs.length, ()), marksP A k n xs.length) := by
  have h := iter_for (A := A) (f := laws_markPairS_t_b0 A k) (fun i => (n + 2 * (i : Int), ((i : Int), (marksP A k n i ++ xs.drop i, ())))) xs.length (n + 2 * (xs.length : Int), (marksP A k n xs.length, ()))
    (fun i hi => by
      rw [markP_step k hk _ i (by simp; omega) (by simp; omega) _ (by omega) (by omega), markP_set k xs n i hi]
      simp; omega)
    (by simp [laws_markPairS_t_b0]) hkx
  have z : marksP A k n 0 = [] := rfl
  simp [z] at h
  simp [laws_markPairS_t, h]
theorem heldPairS_eq (k : Nat) (hk : 100 ≤ k) (n : Int) (m : Nat) (hkx : m < k) (hl : m ≤ 1000000000) (h0 : 0 ≤ n) (h1 : n ≤ 10000000000000) : laws_heldPairS_t A k (marksP A k n m, (n, ())) () = some ((n + 2 * (m : Int), ()), ()) := by
  have h := iter_for (A := A) (f := laws_heldPairS_t_b0 A k) (fun i => (marksP A k n m, (n + 2 * (i : Int), ((i : Int), ())))) m (.inl (n + 2 * (m : Int), ()))
    (fun i hi => by
      have e := marksP_get (A := A) (k := k) (n := n) hi
      have hi' : (i : Int) < (m : Int) := by omega
      generalize hq : n + 2 * (i : Int) = q at *
      have w1 : A.wrapI .i64 (q + 1) = q + 1 := a_wrap (by omega) (by omega)
      have w2 : A.wrapI .i64 (q + 1 + 1) = q + 2 := by rw [a_wrap (by omega) (by omega)]; omega
      have w : A.wrapI .i64 ((i : Int) + 1) = ((i + 1 : Nat) : Int) := by rw [a_wrap (by omega) (by omega)]; rfl
      simp only [laws_heldPairS_t_b0, a_cndS, a_ltI, a_lenL, a_le0, a_andB, marksP_len, hi', Int.natCast_nonneg, decide_true, Bool.and_self, if_true, a_atL, Int.toNat_natCast, e, mP, a_eqI, a_eqS, a_notB, Bool.not_true, Bool.false_eq_true, if_false, a_addI, w, w1, w2, markText_eq k hk q (by omega), a_obind_some]
      have : q + 2 = n + 2 * ((i + 1 : Nat) : Int) := by omega
      rw [this])
    (by simp [laws_heldPairS_t_b0]) hkx
  simp at h
  simp [laws_heldPairS_t, h]
theorem markS_step (k : Nat) (L : List Ses) (i : Nat) (hi : i < L.length) (hl : L.length ≤ 1000000000) (n : Int) (h0 : 0 ≤ n) (h1 : n ≤ 100000000000000) :
    laws_markSessionS_t_b0 A k (n, ((i : Int), (L, ()))) = some (.inl (n + 3, (((i + 1 : Nat) : Int), (L.set i (mS n), ())))) := by
  have hi' : (i : Int) < (L.length : Int) := by omega
  have w1 : A.wrapI .i64 (n + 1) = n + 1 := a_wrap (by omega) (by omega)
  have w2 : A.wrapI .i64 (n + 1 + 1) = n + 2 := by rw [a_wrap (by omega) (by omega)]; omega
  have w3 : A.wrapI .i64 (n + 2 + 1) = n + 3 := by rw [a_wrap (by omega) (by omega)]; omega
  have w : A.wrapI .i64 ((i : Int) + 1) = ((i + 1 : Nat) : Int) := by rw [a_wrap (by omega) (by omega)]; rfl
  have ge : ∀ (M : List Ses) (x d : Ses), i < M.length → (M.set i x).getD i d = x := fun M x d h => by rw [getD_lt (by simpa using h)]; simp
  have ls : ∀ (M : List Ses) (x : Ses), (M.set i x).length = M.length := fun M x => by simp
  simp only [laws_markSessionS_t_b0, a_cndS, a_ltI, a_lenL, a_le0, a_andB, hi', Int.natCast_nonneg, decide_true, Bool.and_self, if_true, a_setL, a_atL, Int.toNat_natCast, a_obind_some, a_addI, w, w1, w2, w3, ls, ge, List.set_set, hi]
  rfl
theorem markSessionS_eq (k : Nat) (n : Int) (xs : List Ses) (hkx : xs.length < k) (hl : xs.length ≤ 1000000000) (h0 : 0 ≤ n) (h1 : n ≤ 10000000000000) :
    laws_markSessionS_t A k ((), (n, ())) xs = some ((n + 3 * xs.length, ()), marksS n xs.length) := by
  have h := iter_for (A := A) (f := laws_markSessionS_t_b0 A k) (fun i => (n + 3 * (i : Int), ((i : Int), (marksS n i ++ xs.drop i, ())))) xs.length (n + 3 * (xs.length : Int), (marksS n xs.length, ()))
    (fun i hi => by
      rw [markS_step k _ i (by simp; omega) (by simp; omega) _ (by omega) (by omega), markS_set xs n i hi]
      simp; omega)
    (by simp [laws_markSessionS_t_b0]) hkx
  have z : marksS n 0 = [] := rfl
  simp [z] at h
  simp [laws_markSessionS_t, h]
theorem heldSessionS_eq (k : Nat) (n : Int) (m : Nat) (hkx : m < k) (hl : m ≤ 1000000000) (h0 : 0 ≤ n) (h1 : n ≤ 10000000000000) : laws_heldSessionS_t A k (marksS n m, (n, ())) () = some ((n + 3 * (m : Int), ()), ()) := by
  have h := iter_for (A := A) (f := laws_heldSessionS_t_b0 A k) (fun i => (marksS n m, (n + 3 * (i : Int), ((i : Int), ())))) m (.inl (n + 3 * (m : Int), ()))
    (fun i hi => by
      have e := marksS_get (n := n) hi
      have hi' : (i : Int) < (m : Int) := by omega
      generalize hq : n + 3 * (i : Int) = q at *
      have w1 : A.wrapI .i64 (q + 1) = q + 1 := a_wrap (by omega) (by omega)
      have w2 : A.wrapI .i64 (q + 1 + 1) = q + 2 := by rw [a_wrap (by omega) (by omega)]; omega
      have w3 : A.wrapI .i64 (q + 2 + 1) = q + 3 := by rw [a_wrap (by omega) (by omega)]; omega
      have w : A.wrapI .i64 ((i : Int) + 1) = ((i + 1 : Nat) : Int) := by rw [a_wrap (by omega) (by omega)]; rfl
      simp only [laws_heldSessionS_t_b0, a_cndS, a_ltI, a_lenL, a_le0, a_andB, marksS_len, hi', Int.natCast_nonneg, decide_true, Bool.and_self, if_true, a_atL, Int.toNat_natCast, e, mS, a_eqI, a_notB, Bool.not_true, Bool.false_eq_true, if_false, a_addI, w, w1, w2, w3]
      have : q + 3 = n + 3 * ((i + 1 : Nat) : Int) := by omega
      rw [this])
    (by simp [laws_heldSessionS_t_b0]) hkx
  simp at h
  simp [laws_heldSessionS_t, h]
def mStt (A : Atoms) (k : Nat) (n : Int) (s : Stt) : Stt := (s.1, (marksP A k n s.2.1.length, (marksS (n + 2 * s.2.1.length) s.2.2.1.length, s.2.2.2)))
theorem markState_eq (k : Nat) (hk : 2000000 ≤ k) (n : Int) (s : Stt) (h : StShort s) (h0 : 0 ≤ n) (hn : n ≤ 100000000) :
    laws_markState_t A k ((), (n, ())) s = some ((n + 2 * s.2.1.length + 3 * s.2.2.1.length, ()), mStt A k n s) := by
  obtain ⟨h1, h2⟩ := h
  simp only [laws_markState_t, markPairS_eq k (by omega) n s.2.1 (by omega) (by omega) h0 (by omega), a_obind_some, markSessionS_eq k (n + 2 * s.2.1.length) s.2.2.1 (by omega) (by omega) (by omega) (by omega)]
  rfl
theorem heldState_eq (k : Nat) (hk : 2000000 ≤ k) (n : Int) (s : Stt) (h : StShort s) (h0 : 0 ≤ n) (hn : n ≤ 100000000) :
    laws_heldState_t A k (mStt A k n s, (n, ())) () = some ((n + 2 * s.2.1.length + 3 * s.2.2.1.length, ()), ()) := by
  obtain ⟨h1, h2⟩ := h
  have g1 : ¬ n + 2 * (s.2.1.length : Int) < 0 := by omega
  have g2 : ¬ n + 2 * (s.2.1.length : Int) + 3 * (s.2.2.1.length : Int) < 0 := by omega
  simp only [laws_heldState_t, mStt, heldPairS_eq k (by omega) n s.2.1.length (by omega) (by omega) h0 (by omega), a_obind_some, a_ltI, g1, decide_false, a_cndS, Bool.false_eq_true, if_false, heldSessionS_eq k (n + 2 * s.2.1.length) s.2.2.1.length (by omega) (by omega) (by omega) (by omega), g2]
end
end Go.Den.T

namespace Go.Den.T
set_option linter.unusedVariables false
set_option linter.unusedSimpArgs false
set_option linter.unusedSectionVars false
section
variable {A : Atoms} [IsReal A]
def nxR (n : Int) (r : Rep) : Int := n + 3 + r.1.2.1.length + 6 * r.2.2.1.length
def mR (A : Atoms) (k : Nat) (n : Int) (r : Rep) : Rep :=
  ((n, (marks (n + 1) r.1.2.1.length, (decide ((n + 1 + (r.1.2.1.length : Int)).tmod 3 = 0), r.1.2.2.2))), (decide ((n + 2 + (r.1.2.1.length : Int)).tmod 3 = 0), (marksE A k (n + 3 + (r.1.2.1.length : Int)) r.2.2.1.length, r.2.2.2)))
theorem markR_step (k : Nat) (hk : 2000000 ≤ k) (L : List Rep) (i : Nat) (hi : i < L.length) (hl : L.length ≤ 1000000000) (m : Rep) (hm : L.getD i rep0 = m) (hz : RepZ m) (n : Int) (h0 : 0 ≤ n) (h1 : n ≤ 80000000000000) :
    laws_markReplicaS_t_b0 A k (n, ((i : Int), (L, ()))) = some (.inl (nxR n m, (((i + 1 : Nat) : Int), (L.set i (mR A k n m), ())))) := by
  obtain ⟨z1, z2⟩ := hz
  have hi' : (i : Int) < (L.length : Int) := by omega
  have w1 : A.wrapI .i64 (n + 1) = n + 1 := a_wrap (by omega) (by omega)
  have w4 : A.wrapI .i64 (n + 1 + (m.1.2.1.length : Int) + 1) = n + 2 + (m.1.2.1.length : Int) := by rw [a_wrap (by omega) (by omega)]; omega
  have w5 : A.wrapI .i64 (n + 2 + (m.1.2.1.length : Int) + 1) = n + 3 + (m.1.2.1.length : Int) := by rw [a_wrap (by omega) (by omega)]; omega
  have w : A.wrapI .i64 ((i : Int) + 1) = ((i + 1 : Nat) : Int) := by rw [a_wrap (by omega) (by omega)]; rfl
  have ge : ∀ (M : List Rep) (x d : Rep), i < M.length → (M.set i x).getD i d = x := fun M x d h => by rw [getD_lt (by simpa using h)]; simp
  have ls : ∀ (M : List Rep) (x : Rep), (M.set i x).length = M.length := fun M x => by simp
  have h3 : ¬ (3 : Int) = 0 := by decide
  simp only [laws_markReplicaS_t_b0, a_cndS, a_ltI, a_lenL, a_le0, a_andB, hi', Int.natCast_nonneg, decide_true, Bool.and_self, if_true, a_setL, a_atL, Int.toNat_natCast, a_obind_some, a_addI, w, w1, w4, w5, ls, ge, List.set_set, hm, hi,
    markIntS_eq2 k (n + 1) m.1.2.1 (by omega) (by omega) (by omega) (by omega), markEntryS_eq k (by omega) (n + 3 + (m.1.2.1.length : Int)) m.2.2.1 (by omega) (by omega) (by omega) (by omega), a_eqI, a_notB, a_remI, h3, decide_false, Bool.not_false]
  rfl
theorem nxR_bound (xs : List Rep) (hz : ∀ m ∈ xs, RepZ m) : ∀ (n : Int) (x : Rep), x ∈ xs → 0 ≤ n → n ≤ nxR n x ∧ nxR n x ≤ n + 7340037 := fun n x hx h0 => by
  obtain ⟨z1, z2⟩ := hz x hx
  unfold nxR; omega
theorem markReplicaS_eqn (k : Nat) (hk : 2000000 ≤ k) (n : Int) (xs : List Rep) (hl : xs.length ≤ 1048576) (hz : ∀ m ∈ xs, RepZ m) (h0 : 0 ≤ n) (h1 : n ≤ 50000000000000) : laws_markReplicaS_t A k ((), (n, ())) xs = some ((endG nxR n xs, ()), marksG (mR A k) nxR n xs) := by
  have h := mark_loop (A := A) (mR A k) nxR (f := laws_markReplicaS_t_b0 A k) (k := k) rep0 xs (by omega) (n := n) (C := 7340037) (by omega) (by omega) (nxR_bound xs hz)
    (fun i m ys hi hy hg h0 h1 => markR_step k hk ys i (by omega) (by omega) xs[i] hg (hz _ (List.getElem_mem hi)) m h0 (by omega))
    (fun m ys hy => by simp [laws_markReplicaS_t_b0, hy])
  simp only [laws_markReplicaS_t, h, a_obind_some]
def nxB (n : Int) (_ : Bool) : Int := n + 1
def mB (n : Int) (_ : Bool) : Bool := decide (n.tmod 3 = 0)
theorem nxB_bound (xs : List Bool) : ∀ (n : Int) (x : Bool), x ∈ xs → 0 ≤ n → n ≤ nxB n x ∧ nxB n x ≤ n + 1 := fun n x hx h0 => by unfold nxB; omega
theorem markBoolS_eqn (k : Nat) (hk : 2000000 ≤ k) (n : Int) (xs : List Bool) (hl : xs.length ≤ 1048576) (h0 : 0 ≤ n) (h1 : n ≤ 50000000000000) : laws_markBoolS_t A k ((), (n, ())) xs = some ((endG nxB n xs, ()), marksG mB nxB n xs) := by
  have h := mark_loop (A := A) mB nxB (f := laws_markBoolS_t_b0 A k) (k := k) false xs (by omega) (n := n) (C := 1) (by omega) (by omega) (nxB_bound xs)
    (fun i m ys hi hy hg h0 h1 => by
      have hi' : (i : Int) < (ys.length : Int) := by omega
      have h3 : ¬ (3 : Int) = 0 := by decide
      have w1 : A.wrapI .i64 (m + 1) = m + 1 := a_wrap (by omega) (by omega)
      have w : A.wrapI .i64 ((i : Int) + 1) = ((i + 1 : Nat) : Int) := by rw [a_wrap (by omega) (by omega)]; rfl
      simp only [laws_markBoolS_t_b0, a_cndS, a_ltI, a_lenL, a_le0, a_andB, hi', Int.natCast_nonneg, decide_true, Bool.and_self, if_true, a_setL, Int.toNat_natCast, a_addI, w, w1, a_eqI, a_notB, a_remI, h3, decide_false, Bool.not_false]
      rfl)
    (fun m ys hy => by simp [laws_markBoolS_t_b0, hy])
  simp only [laws_markBoolS_t, h, a_obind_some]
def nxA (n : Int) (_ : Ans) : Int := n + 7
def mA (A : Atoms) (k : Nat) (n : Int) (a : Ans) : Ans := (mE A k n, (n + 6, a.2.2))
theorem nxA_bound (xs : List Ans) : ∀ (n : Int) (x : Ans), x ∈ xs → 0 ≤ n → n ≤ nxA n x ∧ nxA n x ≤ n + 7 := fun n x hx h0 => by unfold nxA; omega
theorem markAnswerS_eqn (k : Nat) (hk : 2000000 ≤ k) (n : Int) (xs : List Ans) (hl : xs.length ≤ 1048576) (h0 : 0 ≤ n) (h1 : n ≤ 50000000000000) : laws_markAnswerS_t A k ((), (n, ())) xs = some ((endG nxA n xs, ()), marksG (mA A k) nxA n xs) := by
  have h := mark_loop (A := A) (mA A k) nxA (f := laws_markAnswerS_t_b0 A k) (k := k) ans0 xs (by omega) (n := n) (C := 7) (by omega) (by omega) (nxA_bound xs)
    (fun i m L hi hy hg h0 h1 => by
      have hiL : i < L.length := by omega
      have hi' : (i : Int) < (L.length : Int) := by omega
      have w1 : A.wrapI .i64 (m + 1) = m + 1 := a_wrap (by omega) (by omega)
      have w2 : A.wrapI .i64 (m + 1 + 1) = m + 2 := by rw [a_wrap (by omega) (by omega)]; omega
      have w3 : A.wrapI .i64 (m + 2 + 1) = m + 3 := by rw [a_wrap (by omega) (by omega)]; omega
      have w4 : A.wrapI .i64 (m + 3 + 1) = m + 4 := by rw [a_wrap (by omega) (by omega)]; omega
      have w5 : A.wrapI .i64 (m + 4 + 1) = m + 5 := by rw [a_wrap (by omega) (by omega)]; omega
      have w6 : A.wrapI .i64 (m + 5 + 1) = m + 6 := by rw [a_wrap (by omega) (by omega)]; omega
      have w7 : A.wrapI .i64 (m + 6 + 1) = m + 7 := by rw [a_wrap (by omega) (by omega)]; omega
      have w : A.wrapI .i64 ((i : Int) + 1) = ((i + 1 : Nat) : Int) := by rw [a_wrap (by omega) (by omega)]; rfl
      have ge : ∀ (M : List Ans) (x d : Ans), i < M.length → (M.set i x).getD i d = x := fun M x d h => by rw [getD_lt (by simpa using h)]; simp
      have ls : ∀ (M : List Ans) (x : Ans), (M.set i x).length = M.length := fun M x => by simp
      simp only [laws_markAnswerS_t_b0, a_cndS, a_ltI, a_lenL, a_le0, a_andB, hi', Int.natCast_nonneg, decide_true, Bool.and_self, if_true, a_setL, a_atL, Int.toNat_natCast, a_obind_some, a_addI, w, w1, w2, w3, w4, w5, w6, w7, ls, ge, List.set_set, hg, hiL,
        markText_eq k (show 100 ≤ k by omega) (m + 3) (by omega)]
      rfl)
    (fun m ys hy => by simp [laws_markAnswerS_t_b0, hy])
  simp only [laws_markAnswerS_t, h, a_obind_some]
theorem markConfig_eq2 (k : Nat) (n : Int) (c : Cfg) (hk : c.2.1.length < k) (hl : c.2.1.length ≤ 1000000000) (h0 : 0 ≤ n) (h1 : n ≤ 100000000000000) : laws_markConfig_t A k ((), (n, ())) c = some ((n + c.2.1.length, ()), (c.1, (marks n c.2.1.length, c.2.2))) := by
  simp [laws_markConfig_t, markIntS_eq2 k n c.2.1 hk hl h0 h1]
def e1C (c : Chn) : Int := 1 + 2 * c.1.2.1.length + 3 * c.1.2.2.1.length
def e2C (c : Chn) : Int := e1C c + c.2.1.2.1.length
def e3C (c : Chn) : Int := endG nxR (e2C c) c.2.2.1
def e4C (c : Chn) : Int := endG nxB (e3C c) c.2.2.2.1
def e5C (c : Chn) : Int := endG nxM (e4C c) c.2.2.2.2.1
def e6C (c : Chn) : Int := endG nxA (e5C c) c.2.2.2.2.2.1
theorem eC_bounds {c : Chn} (h : ChnZ c) : (0 ≤ e1C c ∧ e1C c ≤ 100000000) ∧ (0 ≤ e2C c ∧ e2C c ≤ 100000000) ∧ (0 ≤ e3C c ∧ e3C c ≤ 20000000000000) ∧ (0 ≤ e4C c ∧ e4C c ≤ 20000000000000) ∧ (0 ≤ e5C c ∧ e5C c ≤ 40000000000000) ∧ (0 ≤ e6C c ∧ e6C c ≤ 50000000000000) := by
  obtain ⟨⟨s1, s2⟩, h2, ⟨h3, h4⟩, h5, ⟨h6, h7⟩, h8⟩ := h
  have a1 : 0 ≤ e1C c ∧ e1C c ≤ 10000000 := by unfold e1C; omega
  have a2 : 0 ≤ e2C c ∧ e2C c ≤ 20000000 := by unfold e2C; omega
  have a3 := endG_bound nxR (C := 7340037) (by omega) (nxR_bound _ h4) (n := e2C c) a2.1
  have a4 := endG_bound nxB (C := 1) (by omega) (nxB_bound c.2.2.2.1) (n := e3C c) (by unfold e3C; omega)
  have a5 := endG_bound nxM (C := 7340037) (by omega) (nxM_bound _ h7) (n := e4C c) (by unfold e4C; unfold e3C at *; omega)
  have a6 := endG_bound nxA (C := 7) (by omega) (nxA_bound c.2.2.2.2.2.1) (n := e5C c) (by unfold e5C; unfold e4C e3C at *; omega)
  have b3 : e3C c = endG nxR (e2C c) c.2.2.1 := rfl
  have b4 : e4C c = endG nxB (e3C c) c.2.2.2.1 := rfl
  have b5 : e5C c = endG nxM (e4C c) c.2.2.2.2.1 := rfl
  have b6 : e6C c = endG nxA (e5C c) c.2.2.2.2.2.1 := rfl
  refine ⟨⟨by omega, by omega⟩, ⟨by omega, by omega⟩, ⟨by omega, by omega⟩, ⟨by omega, by omega⟩, ⟨by omega, by omega⟩, ⟨by omega, by omega⟩⟩
def mC (A : Atoms) (k : Nat) (c : Chn) : Chn :=
  (mStt A k 1 c.1, ((c.2.1.1, (marks (e1C c) c.2.1.2.1.length, c.2.1.2.2)), (marksG (mR A k) nxR (e2C c) c.2.2.1, (marksG mB nxB (e3C c) c.2.2.2.1, (marksG (mM A k) nxM (e4C c) c.2.2.2.2.1, (marksG (mA A k) nxA (e5C c) c.2.2.2.2.2.1, c.2.2.2.2.2.2))))))
theorem markChain_eq (k : Nat) (hk : 2000000 ≤ k) (c : Chn) (h : ChnZ c) : laws_markChain_t A k ((), (1, ())) c = some ((e6C c, ()), mC A k c) := by
  obtain ⟨b1, b2, b3, b4, b5, b6⟩ := eC_bounds h
  obtain ⟨hs, h2, ⟨h3, h4⟩, h5, ⟨h6, h7⟩, h8⟩ := h
  have m1 := markState_eq (A := A) k hk 1 c.1 hs (by omega) (by omega)
  have m2 := markConfig_eq2 (A := A) k (e1C c) c.2.1 (by omega) (by omega) (by omega) (by omega)
  have m3 := markReplicaS_eqn (A := A) k hk (e2C c) c.2.2.1 h3 h4 (by omega) (by omega)
  have m4 := markBoolS_eqn (A := A) k hk (e3C c) c.2.2.2.1 h5 (by omega) (by omega)
  have m5 := markMessageS_eqn (A := A) k hk (e4C c) c.2.2.2.2.1 h6 h7 (by omega) (by omega)
  have m6 := markAnswerS_eqn (A := A) k hk (e5C c) c.2.2.2.2.2.1 h8 (by omega) (by omega)
  simp only [laws_markChain_t, m1, a_obind_some]
  rw [show (1 : Int) + 2 * (c.1.2.1.length : Int) + 3 * (c.1.2.2.1.length : Int) = e1C c from rfl, m2]
  simp only [a_obind_some]
  rw [show e1C c + (c.2.1.2.1.length : Int) = e2C c from rfl, m3]
  simp only [a_obind_some]
  rw [show endG nxR (e2C c) c.2.2.1 = e3C c from rfl, m4]
  simp only [a_obind_some]
  rw [show endG nxB (e3C c) c.2.2.2.1 = e4C c from rfl, m5]
  simp only [a_obind_some]
  rw [show endG nxM (e4C c) c.2.2.2.2.1 = e5C c from rfl, m6]
  simp only [a_obind_some]
  rfl
/-! the logs -/
def ansLog (c : Chn) : List Ent := if chnOk c = true then c.2.2.2.2.2.1.map (·.1) else []
theorem askedOf_eq (k : Nat) (l : List Ans) (hk : l.length < k) (hl : l.length ≤ 1000000000) : impl_askedOf_t A k (l, ()) () = some ((l.map (·.1), ()), ()) := by
  have h := iter_for (A := A) (k := k) (f := impl_askedOf_t_b0 A k) (fun i => ((l.take i).map (·.1), (l, ((l.length : Int), ((i : Int), ()))))) l.length (l.map (·.1), ())
    (fun i hi => by
      have hi' : (i : Int) < (l.length : Int) := by omega
      have w : A.wrapI .i64 ((i : Int) + 1) = ((i + 1 : Nat) : Int) := by rw [a_wrap (by omega) (by omega)]; rfl
      have g : (((l.take i).map (·.1)).length : Int) + ((1 : Nat) : Int) < 4294967296 := by simp; omega
      have e : (l.take (i + 1)).map (·.1) = (l.take i).map (·.1) ++ [l[i].1] := by rw [List.take_succ_eq_append_getElem hi, List.map_append]; rfl
      simp only [impl_askedOf_t_b0, a_cndS, a_ltI, a_lenL, a_le0, a_andB, hi', Int.natCast_nonneg, decide_true, Bool.and_self, if_true, a_atL, Int.toNat_natCast, getD_lt hi, a_addI, a_big, List.length_cons, List.length_nil, w, a_appL, e, Nat.zero_add, g])
    (by simp [impl_askedOf_t_b0]) hk
  simp only [List.take_zero, List.map_nil, Int.natCast_zero, Int.ofNat_zero] at h
  simp only [impl_askedOf_t, a_lenL]
  have h' : A.iter k (impl_askedOf_t_b0 A k) (([] : List Ent), (l, ((l.length : Int), ((0 : Int), ())))) = _ := h
  rw [h', a_obind_some]
theorem spec_AnsweredLog_eq (k : Nat) (hk : 2000000 ≤ k) (c : Chn) (h : ChnZ c) : spec_AnsweredLog_t A k (c, ()) () = some ((ansLog c, ()), ()) := by
  have h8 := h.2.2.2.2.2
  have hv := spec_ChainValid_eq (A := A) k hk c h.1
  cases hc : chnOk c with
  | false =>
    have h1 := iter_for (A := A) (k := k) (f := spec_AnsweredLog_t_b0 A k) (fun i => (([] : List Ent), ((i : Int), (c, ())))) 0 (([] : List Ent), ()) (fun i hi => by omega)
      (by
        simp only [spec_AnsweredLog_t_b0, hv, hc, a_obind_some, a_cndS, a_ltI, a_lenL]
        by_cases hl : (((0 : Nat) : Int) < (c.2.2.2.2.2.1.length : Int)) <;> simp [hl]) (by omega)
    have h1 : A.iter k (spec_AnsweredLog_t_b0 A k) (([] : List Ent), ((0 : Int), (c, ()))) = _ := h1
    simp only [spec_AnsweredLog_t, h1, a_obind_some, ansLog, hc]
    rfl
  | true =>
    have h1 := iter_for (A := A) (k := k) (f := spec_AnsweredLog_t_b0 A k) (fun i => ((c.2.2.2.2.2.1.take i).map (·.1), ((i : Int), (c, ())))) c.2.2.2.2.2.1.length (c.2.2.2.2.2.1.map (·.1), ())
      (fun i hi => by
        have hi' : (i : Int) < (c.2.2.2.2.2.1.length : Int) := by omega
        have w : A.wrapI .i64 ((i : Int) + 1) = ((i + 1 : Nat) : Int) := by rw [a_wrap (by omega) (by omega)]; rfl
        have g : (((c.2.2.2.2.2.1.take i).map (·.1)).length : Int) + ((1 : Nat) : Int) < 4294967296 := by simp; omega
        have e : (c.2.2.2.2.2.1.take (i + 1)).map (·.1) = (c.2.2.2.2.2.1.take i).map (·.1) ++ [(c.2.2.2.2.2.1[i]).1] := by rw [List.take_succ_eq_append_getElem hi, List.map_append]; rfl
        simp only [spec_AnsweredLog_t_b0, hv, hc, a_obind_some, a_sumE_inl, a_cndS, a_ltI, a_lenL, a_le0, a_andB, hi', Int.natCast_nonneg, decide_true, Bool.and_self, if_true, a_atL, Int.toNat_natCast, getD_lt hi, a_addI, a_big, List.length_cons, List.length_nil, w, a_appL, e, Nat.zero_add, g])
      (by simp [spec_AnsweredLog_t_b0]) (by omega)
    simp only [List.take_zero, List.map_nil, Int.natCast_zero, Int.ofNat_zero] at h1
    have h1 : A.iter k (spec_AnsweredLog_t_b0 A k) (([] : List Ent), ((0 : Int), (c, ()))) = _ := h1
    simp only [spec_AnsweredLog_t, h1, a_obind_some, ansLog, hc]
    rfl
def ansState (c : Chn) : Stt := if chnOk c = true then (replay c.1 (ansLog c)).1 else stt0
theorem replay_short (s : Stt) (l : List Ent) : StShort (replay s l).1 := by
  unfold replay
  split
  · rename_i h
    simp only [Bool.and_eq_true] at h
    have := st_short (rep_ok h.1 (l := l) (fun e he => (logOk_iff'.1 h.2).2 e he))
    exact ⟨by show (rep s l).1.2.1.length ≤ _; omega, by show (rep s l).1.2.2.1.length ≤ _; omega⟩
  · exact ⟨by simp, by simp⟩
theorem ansState_short (c : Chn) : StShort (ansState c) := by
  unfold ansState
  split
  · exact replay_short _ _
  · exact ⟨by simp, by simp⟩
theorem impl_AnsweredState_eq (k : Nat) (hk : 2000000 ≤ k) (c : Chn) (h : ChnZ c) : impl_AnsweredState_t A k (c, ()) () = some ((ansState c, ()), ()) := by
  have hs := h.1.2
  have h8 := h.2.2.2.2.2
  simp only [impl_AnsweredState_t, impl_ChainValid_eq k hk c h.1, a_obind_some, a_notB, a_cndS, askedOf_eq k c.2.2.2.2.2.1 (by omega) (by omega), impl_Replay_eq k (by omega) c.1 _ (by omega) (by omega)]
  cases hc : chnOk c <;> simp [ansState, ansLog, hc]
theorem spec_AnsweredState_eq (k : Nat) (hk : 2000000 ≤ k) (c : Chn) (h : ChnZ c) : spec_AnsweredState_t A k (c, ()) () = some ((ansState c, ()), ()) := by
  have hs := h.1.2
  simp only [spec_AnsweredState_t, spec_ChainValid_eq k hk c h.1, a_obind_some, a_notB, a_cndS, spec_AnsweredLog_eq k hk c h, spec_Replay_eq k (by omega) c.1 _ (by omega) (by omega)]
  cases hc : chnOk c <;> simp [ansState, hc]
theorem FnExactAnsweredState_true (k : Nat) (hk : 2000000 ≤ k) (c : Chn) (hc : ChnI c) : laws_FnExactAnsweredState_t A k (c, ()) () = some ((true, ()), ()) := by
  rw [← ok_eq, laws_FnExactAnsweredState_t]
  refine (szChain_ok k c hk hc).bind fun q hq => ?_
  rw [ok_cndS]
  simp only [a_ltI, decide_eq_true_eq, decide_eq_false_iff_not]
  refine ⟨fun _ => ok_some.2 rfl, fun hn => ?_⟩
  have hz := hq.resolve_left hn
  have hl := ansState_short c
  have g6 := (eC_bounds hz).2.2.2.2.2.1
  have e1 : ¬ e6C c < 0 := by omega
  have e2 : ¬ 1 + 2 * ((ansState c).2.1.length : Int) + 3 * ((ansState c).2.2.1.length : Int) < 0 := by omega
  have i1 := impl_AnsweredState_eq (A := A) k hk c hz
  have i2 := spec_AnsweredState_eq (A := A) k hk c hz
  have c1 := eqState_eq (A := A) k hk (ansState c) (ansState c) hl
  have c2 := eqChain_eq (A := A) k c c hk hz
  have m1 := markState_eq (A := A) k hk 1 (ansState c) hl (by omega) (by omega)
  have m2 := heldState_eq (A := A) k hk 1 (ansState c) hl (by omega) (by omega)
  simp only [decide_true] at c1 c2
  rw [ok_eq]
  simp only [toChain_eq k c hk hz, a_obind_some, i1, i2, c1, c2, a_notB, Bool.not_true, a_cndS, Bool.false_eq_true, if_false, if_true, markChain_eq k hk c hz, a_ltI, e1, decide_false, a_sumE_inl, m1, m2, e2, a_eqI, decide_true]
end
theorem FnExactAnsweredState_pure (c : TChn.val) (h : InR TChn c) : ∃ k, laws_FnExactAnsweredState_t real k (c, ()) () = some ((true, ()), ()) :=
  haveI := isReal_real
  ⟨2000000, FnExactAnsweredState_true 2000000 (by omega) c (chnI_of h)⟩
end Go.Den.T
