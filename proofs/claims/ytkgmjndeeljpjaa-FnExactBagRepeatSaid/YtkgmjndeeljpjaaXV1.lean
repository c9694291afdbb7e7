/- Keys, commands, entries, events: what the program's and the reference's checks come to. -/
import Derived.Test.YtkgmjndeeljpjaaXE2

namespace Go.Den.T
set_option linter.unusedVariables false
set_option linter.unusedSimpArgs false
set_option linter.unusedSectionVars false
variable {A : Atoms} [IsReal A]
abbrev Cmd := Int × (List UInt8 × (Int × (Int × Unit)))
abbrev Ent := Int × (Int × (Cmd × Unit))
def letter (b : UInt8) : Bool := decide (97 ≤ b.toNat ∧ b.toNat ≤ 122)
def keyOk (s : List UInt8) : Bool := decide (1 ≤ s.length ∧ s.length ≤ 4) && s.all letter
theorem lettersOnly_eq : ∀ (k : Nat) (s : List UInt8), s.length < k → impl_lettersOnly_t A k (s, ()) () = some ((s.all letter, ()), ())
  | 0, _, h => by omega
  | k + 1, [], _ => by simp [impl_lettersOnly_t]
  | k + 1, b :: s, h => by
    have ih := lettersOnly_eq k s (by simpa using h)
    simp only [List.length_cons] at h
    have h1 : (0 : Int) < (s.length : Int) + 1 := by omega
    have h2 : (1 : Int) ≤ (s.length : Int) + 1 := by omega
    by_cases q1 : 97 ≤ b.toNat
    · have q1' : (97 : Int) ≤ (b.toNat : Int) := by omega
      by_cases q2 : b.toNat ≤ 122
      · have q2' : (b.toNat : Int) ≤ 122 := by omega
        simp [impl_lettersOnly_t, h1, h2, q1, q1', q2, q2', ih, letter]
      · have q2' : ¬ (b.toNat : Int) ≤ 122 := by omega
        simp [impl_lettersOnly_t, h1, h2, q1, q1', q2, q2', letter]
    · have q1' : ¬ (97 : Int) ≤ (b.toNat : Int) := by omega
      simp [impl_lettersOnly_t, h1, h2, q1, q1', letter]
theorem impl_KeyValid_eq (k : Nat) (hk : 10 ≤ k) (s : List UInt8) : impl_KeyValid_t A k (s, ()) () = some ((keyOk s, ()), ()) := by
  by_cases h1 : (s.length : Int) < 1
  · have : ¬ (1 ≤ s.length ∧ s.length ≤ 4) := by omega
    simp only [impl_KeyValid_t, a_cndS, a_ltI, a_lenL, h1, decide_true, if_true, keyOk, this, decide_false, Bool.false_and]
  · by_cases h2 : (4 : Int) < (s.length : Int)
    · have : ¬ (1 ≤ s.length ∧ s.length ≤ 4) := by omega
      simp only [impl_KeyValid_t, a_cndS, a_ltI, a_lenL, h1, h2, decide_true, decide_false, Bool.false_eq_true, if_true, if_false, keyOk, this, Bool.false_and]
    · have : (1 ≤ s.length ∧ s.length ≤ 4) := by omega
      simp only [impl_KeyValid_t, a_cndS, a_ltI, a_lenL, h1, h2, decide_true, decide_false, Bool.false_eq_true, if_true, if_false, keyOk, this, lettersOnly_eq k s (by omega), a_obind_some, Bool.true_and, and_self]
theorem spec_KeyValid_eq (k : Nat) (hk : 10 ≤ k) (s : List UInt8) : spec_KeyValid_t A k (s, ()) () = some ((keyOk s, ()), ()) := by
  have h : s.length ≤ 4 → A.iter k (spec_KeyValid_t_b0 A k) (s, (((0 : Nat) : Int), ())) = some (if (List.range s.length).all (fun i => letter (s.getD i 0)) = true then .inl () else .inr ((false, ()), ())) := fun hl =>
    iter_all (A := A) (f := spec_KeyValid_t_b0 A k) (fun i => (s, ((i : Int), ()))) s.length (fun i => letter (s.getD i 0)) (.inr ((false, ()), ())) (.inl ())
      (fun i hi => by
        by_cases q1 : s[i].toNat < 97
        · have q1' : ¬ 97 ≤ s[i].toNat := by omega
          simp (disch := omega) [spec_KeyValid_t_b0, hi, a_wrap, letter, q1, q1']
          omega
        · have q1' : 97 ≤ s[i].toNat := by omega
          have q3 : ¬ (s[i].toNat : Int) < 97 := by omega
          by_cases q2 : 122 < s[i].toNat
          · have q2' : ¬ s[i].toNat ≤ 122 := by omega
            have q4 : (122 : Int) < (s[i].toNat : Int) := by omega
            simp (disch := omega) [spec_KeyValid_t_b0, hi, a_wrap, letter, q1', q2', q3, q4]
          · have q2' : s[i].toNat ≤ 122 := by omega
            have q4 : ¬ (122 : Int) < (s[i].toNat : Int) := by omega
            simp (disch := omega) [spec_KeyValid_t_b0, hi, a_wrap, letter, q1', q2', q3, q4])
      (by simp [spec_KeyValid_t_b0]) (by omega)
  rw [all_range] at h
  simp only [Int.natCast_zero, Int.ofNat_zero] at h
  simp only [spec_KeyValid_t, l1In_eq, a_obind_some, a_cndS, a_notB, keyOk, a_lenL]
  by_cases hl : 1 ≤ s.length ∧ s.length ≤ 4
  · have hl' : (1 : Int) ≤ (s.length : Int) ∧ (s.length : Int) ≤ 4 := by omega
    simp only [hl, hl', and_self, decide_true, Bool.not_true, Bool.false_eq_true, if_false, h hl.2, a_obind_some, Bool.true_and]
    cases s.all letter <;> simp
  · have hl' : ¬ ((1 : Int) ≤ (s.length : Int) ∧ (s.length : Int) ≤ 4) := by omega
    simp only [hl, hl', decide_false, Bool.not_false, if_true, Bool.false_and]
def cmdOk (c : Cmd) : Bool := (keyOk c.2.1 || (decide (c.1 = 5) && decide (c.2.1 = []))) &&
  (if c.1 = 1 ∨ c.1 = 3 ∨ c.1 = 5 then decide (c.2.2.1 = 0 ∧ c.2.2.2.1 = 0) else if c.1 = 2 then decide ((0 ≤ c.2.2.1 ∧ c.2.2.1 ≤ 999) ∧ c.2.2.2.1 = 0)
    else if c.1 = 4 then decide ((0 ≤ c.2.2.1 ∧ c.2.2.1 ≤ 999) ∧ -1 ≤ c.2.2.2.1 ∧ c.2.2.2.1 ≤ 999) else false)
theorem valueValid_eq (k : Nat) (v : Int) : impl_valueValid_t A k (v, ()) () = some ((decide (0 ≤ v ∧ v ≤ 999), ()), ()) := by
  simp only [impl_valueValid_t, a_cndS, a_leI, if_true, decide_eq_true_eq]
  by_cases h : 0 ≤ v <;> simp [h]
theorem seqValid_eq (k : Nat) (v : Int) : impl_seqValid_t A k (v, ()) () = some ((decide (1 ≤ v ∧ v ≤ 999), ()), ()) := by
  simp only [impl_seqValid_t, a_cndS, a_leI, if_true, decide_eq_true_eq]
  by_cases h : 1 ≤ v <;> simp [h]
theorem spec_CommandValid_eq (k : Nat) (hk : 10 ≤ k) (c : Cmd) : spec_CommandValid_t A k (c, ()) () = some ((cmdOk c, ()), ()) := by
  obtain ⟨op, s, v, o, _⟩ := c
  simp only [spec_CommandValid_t, spec_KeyValid_eq k hk, l1In_eq, a_obind_some, a_cndS, a_notB, a_eqI, a_eqS, cmdOk]
  by_cases h5 : op = 5
  · subst h5
    cases hb : keyOk s with
    | true =>
      by_cases hv : v = 0 <;> by_cases ho : o = 0 <;> simp [hv, ho]
    | false =>
      by_cases hs : s = []
      · by_cases hv : v = 0 <;> by_cases ho : o = 0 <;> simp [hs, hv, ho]
      · simp [hs]
  · cases hb : keyOk s with
    | false => simp [h5]
    | true =>
      by_cases h1 : op = 1
      · subst h1; by_cases hv : v = 0 <;> by_cases ho : o = 0 <;> simp [hv, ho]
      by_cases h3 : op = 3
      · subst h3; by_cases hv : v = 0 <;> by_cases ho : o = 0 <;> simp [hv, ho]
      by_cases h2 : op = 2
      · subst h2; by_cases hv : 0 ≤ v ∧ v ≤ 999 <;> by_cases ho : o = 0 <;> simp [hv, ho]
      by_cases h4 : op = 4
      · subst h4; by_cases hv : 0 ≤ v ∧ v ≤ 999 <;> simp [hv]
      simp [h1, h2, h3, h4, h5]
theorem impl_CommandValid_eq (k : Nat) (hk : 10 ≤ k) (c : Cmd) : impl_CommandValid_t A k (c, ()) () = some ((cmdOk c, ()), ()) := by
  obtain ⟨op, s, v, o, _⟩ := c
  simp only [impl_CommandValid_t, impl_KeyValid_eq k hk, valueValid_eq, a_obind_some, a_cndS, a_notB, a_eqI, a_eqS, a_ltI, cmdOk]
  by_cases hlo : op < 1
  · have h1 : ¬ op = 1 := by omega
    have h2 : ¬ op = 2 := by omega
    have h3 : ¬ op = 3 := by omega
    have h4 : ¬ op = 4 := by omega
    have h5 : ¬ op = 5 := by omega
    simp [hlo, h1, h2, h3, h4, h5]
  by_cases hhi : 5 < op
  · have h1 : ¬ op = 1 := by omega
    have h2 : ¬ op = 2 := by omega
    have h3 : ¬ op = 3 := by omega
    have h4 : ¬ op = 4 := by omega
    have h5 : ¬ op = 5 := by omega
    simp [hlo, hhi, h1, h2, h3, h4, h5]
  by_cases h5 : op = 5
  · subst h5
    cases hb : keyOk s with
    | true => by_cases hv : v = 0 <;> by_cases ho : o = 0 <;> simp [hb, hv, ho]
    | false =>
      by_cases hs : s = []
      · subst hs
        by_cases hv : v = 0 <;> by_cases ho : o = 0 <;> simp [hb, hv, ho]
      · simp [hb, hs]
  · cases hb : keyOk s with
    | false => simp [hb, h5, hlo, hhi]
    | true =>
      by_cases h1 : op = 1
      · subst h1; by_cases hv : v = 0 <;> by_cases ho : o = 0 <;> simp [hb, hv, ho]
      by_cases h3 : op = 3
      · subst h3; by_cases hv : v = 0 <;> by_cases ho : o = 0 <;> simp [hb, hv, ho]
      by_cases h2 : op = 2
      · subst h2; by_cases hv : 0 ≤ v ∧ v ≤ 999 <;> by_cases ho : o = 0 <;> simp [hb, hv, ho]
      have h4 : op = 4 := by omega
      subst h4
      by_cases hv : 0 ≤ v ∧ v ≤ 999
      · by_cases ho : o = -1
        · subst ho; simp [hb, hv]
        · have e : decide (-1 ≤ o ∧ o ≤ 999) = decide (0 ≤ o ∧ o ≤ 999) := by
            rw [Bool.eq_iff_iff]; simp; omega
          have e2 : (decide (-1 ≤ o) && decide (o ≤ 999)) = (decide (0 ≤ o) && decide (o ≤ 999)) := by simpa using e
          simp [hb, hv, ho, e2]
      · simp [hb, hv]
def entOk (e : Ent) : Bool := decide (0 ≤ e.1 ∧ e.1 ≤ 3) && (decide (1 ≤ e.2.1 ∧ e.2.1 ≤ 999) && cmdOk e.2.2.1)
theorem spec_EntryValid_eq (k : Nat) (hk : 10 ≤ k) (e : Ent) : spec_EntryValid_t A k (e, ()) () = some ((entOk e, ()), ()) := by
  simp only [spec_EntryValid_t, l1In_eq, spec_CommandValid_eq k hk, a_obind_some, a_cndS, entOk]
  by_cases h1 : 0 ≤ e.1 ∧ e.1 ≤ 3 <;> by_cases h2 : 1 ≤ e.2.1 ∧ e.2.1 ≤ 999 <;> simp [h1, h2]
theorem impl_EntryValid_eq (k : Nat) (hk : 10 ≤ k) (e : Ent) : impl_EntryValid_t A k (e, ()) () = some ((entOk e, ()), ()) := by
  simp only [impl_EntryValid_t, seqValid_eq, impl_CommandValid_eq k hk, a_obind_some, a_cndS, a_leI, a_ltI, entOk]
  by_cases h1 : 0 ≤ e.1
  · by_cases h3 : e.1 < 4
    · have : e.1 ≤ 3 := by omega
      by_cases h2 : 1 ≤ e.2.1 ∧ e.2.1 ≤ 999 <;> simp [h1, h2, h3, this]
    · have : ¬ e.1 ≤ 3 := by omega
      simp [h1, h3, this]
  · simp [h1]
/-! ### exact -/
theorem toCommand_eq (k : Nat) (c : Cmd) : laws_toCommand_t A k (c, ()) () = some ((c, ()), ()) := rfl
theorem toEntry_eq (k : Nat) (e : Ent) : laws_toEntry_t A k (e, ()) () = some ((e, ()), ()) := by simp [laws_toEntry_t, toCommand_eq]
def szOf (n : Int) (m : Nat) : Int := if n < m then -1 else n - m
theorem szCommand_eq (k : Nat) (c : Cmd) (n : Int) (h : 0 ≤ n) (h1 : n ≤ 1000000000000) (hl : c.2.1.length ≤ 9223372036854775807) : laws_szCommand_t A k (c, (n, ())) () = some ((szOf n c.2.1.length, ()), ()) := by
  by_cases hh : n < c.2.1.length
  · have : n - (c.2.1.length : Int) < 0 := by omega
    simp (disch := omega) [laws_szCommand_t, a_wrap, hh, this, szOf]
  · have : ¬ n - (c.2.1.length : Int) < 0 := by omega
    simp (disch := omega) [laws_szCommand_t, a_wrap, hh, this, szOf]
theorem szEntry_eq (k : Nat) (e : Ent) (n : Int) (h : 0 ≤ n) (h1 : n ≤ 1000000000000) (hl : e.2.2.1.2.1.length ≤ 9223372036854775807) : laws_szEntry_t A k (e, (n, ())) () = some ((szOf n e.2.2.1.2.1.length, ()), ()) := by
  simp only [laws_szEntry_t, szCommand_eq k e.2.2.1 n h h1 hl, a_obind_some, szOf, a_cndS, a_ltI]
  by_cases hh : n < e.2.2.1.2.1.length
  · simp [hh]
  · have : ¬ n - (e.2.2.1.2.1.length : Int) < 0 := by omega
    simp [hh, this]
end Go.Den.T
