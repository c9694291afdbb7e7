/- Exact laws: copies, marks, what is held. -/
import Derived.Test.YtojleoiiijlhaaaGreatXDm4
import Derived.Test.YtojleoiiijlhaaaGreatXPm1
import Derived.Test.YtojleoiiijlhaaaGreatXPm2
import Derived.Test.YtojleoiiijlhaaaGreatXPm3

namespace Go.Den.T
set_option linter.unusedVariables false
set_option linter.unusedSimpArgs false
variable {A : Atoms} [IsReal A]
theorem fill_step {α : Type} (xs : List α) (d e : α) (i n : Nat) (hn : n = xs.length) (h : i < n) : (xs.take i ++ List.replicate (n - i) d).set i (xs.getD i e) = xs.take (i + 1) ++ List.replicate (n - (i + 1)) d := by
  subst hn
  rw [List.set_append_right _ _ (by simp; omega)]
  have e1 : i - (xs.take i).length = 0 := by simp; omega
  have e2 : xs.length - i = (xs.length - (i + 1)) + 1 := by omega
  rw [e1, e2, List.replicate_succ, List.set_cons_zero, List.take_succ_eq_append_getElem h, getD_lt h, List.append_assoc]
  rfl
theorem toIntS_eq (k : Nat) (xs : List Int) (hk : xs.length < k) (hl : xs.length ≤ 1000000000) : laws_toIntS_t A k (xs, ()) () = some ((xs, ()), ()) := by
  have h := iter_for (A := A) (f := laws_toIntS_t_b0 A k) (fun i => (xs, ((i : Int), (xs.take i ++ List.replicate (xs.length - i) 0, ())))) xs.length (xs, ())
    (fun i hi => by
      have e : min i xs.length + (xs.length - i) = xs.length := by omega
      have := fill_step xs 0 0 i xs.length rfl hi
      rw [getD_lt hi] at this
      simp (disch := omega) [laws_toIntS_t_b0, hi, a_wrap, e, this])
    (by simp [laws_toIntS_t_b0]) hk
  have h1 : (xs.length : Int) < 4294967296 := by omega
  simp [laws_toIntS_t, h1]
  simp at h
  rw [h]; simp
theorem toConfig_eq (k : Nat) (c : Cfg) (hk : c.2.1.length < k) (hl : c.2.1.length ≤ 1000000000) : laws_toConfig_t A k (c, ()) () = some ((c, ()), ()) := by
  simp [laws_toConfig_t, toIntS_eq k c.2.1 hk hl]
theorem szIntS_eq (k : Nat) (xs : List Int) (n : Int) (h : 0 ≤ n) (h1 : n ≤ 1000000000000) (hl : xs.length ≤ 9223372036854775807) : laws_szIntS_t A k (xs, (n, ())) () = some (((if n < xs.length then -1 else n - xs.length), ()), ()) := by
  by_cases hh : n < xs.length
  · have : n - (xs.length : Int) < 0 := by omega
    simp (disch := omega) [laws_szIntS_t, a_wrap, hh, this]
  · have : ¬ n - (xs.length : Int) < 0 := by omega
    simp (disch := omega) [laws_szIntS_t, a_wrap, hh, this]
theorem szConfig_eq (k : Nat) (c : Cfg) (n : Int) (h : 0 ≤ n) (h1 : n ≤ 1000000000000) (hl : c.2.1.length ≤ 9223372036854775807) : laws_szConfig_t A k (c, (n, ())) () = some (((if n < c.2.1.length then -1 else n - c.2.1.length), ()), ()) := by
  by_cases hh : n < c.2.1.length
  · simp [laws_szConfig_t, szIntS_eq k c.2.1 n h h1 hl, hh]
  · have : ¬ n - (c.2.1.length : Int) < 0 := by omega
    simp [laws_szConfig_t, szIntS_eq k c.2.1 n h h1 hl, hh, this]
theorem list_eq_iff {xs ys : List Int} (h : xs.length = ys.length) : (List.range xs.length).all (fun i => decide (xs.getD i 0 = ys.getD i 0)) = decide (xs = ys) := by
  rw [Bool.eq_iff_iff, range_all, decide_eq_true_eq]
  constructor
  · intro hh
    refine List.ext_getElem h fun i h1 h2 => ?_
    have := hh i h1
    rw [getD_lt h1, getD_lt h2] at this; simpa using this
  · intro e i _; subst e; simp
theorem eqIntS_eq (k : Nat) (xs ys : List Int) (hk : xs.length < k) (hl : xs.length ≤ 1000000000) : laws_eqIntS_t A k (xs, (ys, ())) () = some ((decide (xs = ys), ()), ()) := by
  by_cases he : xs.length = ys.length
  · have h := iter_all (A := A) (f := laws_eqIntS_t_b0 A k) (fun i => (xs, (ys, ((i : Int), ())))) xs.length (fun i => decide (xs.getD i 0 = ys.getD i 0)) (.inr ((false, ()), ())) (.inl ())
      (fun i hi => by
        have hi' : i < ys.length := by omega
        simp (disch := omega) [laws_eqIntS_t_b0, hi, hi', a_wrap]
        by_cases hv : xs[i] = ys[i] <;> simp [hv])
      (by simp [laws_eqIntS_t_b0]) hk
    rw [list_eq_iff he] at h
    simp [laws_eqIntS_t, he]
    simp at h
    rw [h]
    by_cases hv : xs = ys <;> simp [hv]
  · have h2 : ¬ (xs.length : Int) = ys.length := by omega
    have h3 : ¬ xs = ys := fun e => he (by rw [e])
    simp [laws_eqIntS_t, h2, h3]
theorem eqConfig_eq (k : Nat) (c d : Cfg) (hk : c.2.1.length < k) (hl : c.2.1.length ≤ 1000000000) : laws_eqConfig_t A k (c, (d, ())) () = some ((decide (c = d), ()), ()) := by
  obtain ⟨e1, xs, f1, _⟩ := c
  obtain ⟨e2, ys, f2, _⟩ := d
  simp only at hk hl
  simp [laws_eqConfig_t, eqIntS_eq k xs ys hk hl]
  by_cases h1 : e1 = e2
  · by_cases h2 : xs = ys
    · by_cases h3 : f1 = f2 <;> simp [h1, h2, h3]
    · simp [h1, h2]
  · simp [h1]
def marks (n : Int) (m : Nat) : List Int := (List.range m).map fun i : Nat => n + (i : Int)
@[simp] theorem marks_len (n : Int) (m : Nat) : (marks n m).length = m := by simp [marks]
theorem marks_succ (n : Int) (m : Nat) : marks n (m + 1) = marks n m ++ [n + m] := by simp [marks, List.range_succ]
theorem mark_step (xs : List Int) (n : Int) (i : Nat) (h : i < xs.length) : (marks n i ++ xs.drop i).set i (n + i) = marks n (i + 1) ++ xs.drop (i + 1) := by
  rw [List.set_append_right _ _ (by simp)]
  simp only [marks_len, Nat.sub_self]
  rw [List.drop_eq_getElem_cons h, List.set_cons_zero, marks_succ]
  simp
end Go.Den.T

namespace Go.Den.T
set_option linter.unusedVariables false
set_option linter.unusedSimpArgs false
variable {A : Atoms} [IsReal A]
def after (c : Cfg) (n : Int) : Int := if (cfgOk c && (decide (n ∈ c.2.1) && !decide (idx c.2.1 n = (c.2.1.length : Int) - 1))) = true then c.2.1.getD (idx c.2.1 n + 1).toNat 0 else -1
/-! ### a member taken away -/
/-! ### exact laws -/
end Go.Den.T

namespace Go.Den.T
set_option linter.unusedVariables false
set_option linter.unusedSimpArgs false
set_option linter.unusedSectionVars false
variable {A : Atoms} [IsReal A]
abbrev Cmd := Int × (List UInt8 × (Int × (Int × Unit)))
abbrev Ent := Int × (Int × (Cmd × Unit))
def letter (b : UInt8) : Bool := decide (97 ≤ b.toNat ∧ b.toNat ≤ 122)
def keyOk (s : List UInt8) : Bool := decide (1 ≤ s.length ∧ s.length ≤ 4) && s.all letter
theorem lettersOnly_eq : ∀ (k : Nat) (s : List UInt8), s.length < k → impl_lettersOnly_t A k (s, ()) () = some ((s.all letter, ()), ())
  | 0, _, h => by omega
  | k + 1, [], _ => by simp [impl_lettersOnly_t]
  | k + 1, b :: s, h => by
    have ih := lettersOnly_eq k s (by simpa using h)
    simp only [List.length_cons] at h
    have h1 : (0 : Int) < (s.length : Int) + 1 := by omega
    have h2 : (1 : Int) ≤ (s.length : Int) + 1 := by omega
    by_cases q1 : 97 ≤ b.toNat
    · have q1' : (97 : Int) ≤ (b.toNat : Int) := by omega
      by_cases q2 : b.toNat ≤ 122
      · have q2' : (b.toNat : Int) ≤ 122 := by omega
        simp [impl_lettersOnly_t, h1, h2, q1, q1', q2, q2', ih, letter]
      · have q2' : ¬ (b.toNat : Int) ≤ 122 := by omega
        simp [impl_lettersOnly_t, h1, h2, q1, q1', q2, q2', letter]
    · have q1' : ¬ (97 : Int) ≤ (b.toNat : Int) := by omega
      simp [impl_lettersOnly_t, h1, h2, q1, q1', letter]
theorem impl_KeyValid_eq (k : Nat) (hk : 10 ≤ k) (s : List UInt8) : impl_KeyValid_t A k (s, ()) () = some ((keyOk s, ()), ()) := by
  by_cases h1 : (s.length : Int) < 1
  · have : ¬ (1 ≤ s.length ∧ s.length ≤ 4) := by omega
    simp only [impl_KeyValid_t, a_cndS, a_ltI, a_lenL, h1, decide_true, if_true, keyOk, this, decide_false, Bool.false_and]
  · by_cases h2 : (4 : Int) < (s.length : Int)
    · have : ¬ (1 ≤ s.length ∧ s.length ≤ 4) := by omega
      simp only [impl_KeyValid_t, a_cndS, a_ltI, a_lenL, h1, h2, decide_true, decide_false, Bool.false_eq_true, if_true, if_false, keyOk, this, Bool.false_and]
    · have : (1 ≤ s.length ∧ s.length ≤ 4) := by omega
      simp only [impl_KeyValid_t, a_cndS, a_ltI, a_lenL, h1, h2, decide_true, decide_false, Bool.false_eq_true, if_true, if_false, keyOk, this, lettersOnly_eq k s (by omega), a_obind_some, Bool.true_and, and_self]
theorem spec_KeyValid_eq (k : Nat) (hk : 10 ≤ k) (s : List UInt8) : spec_KeyValid_t A k (s, ()) () = some ((keyOk s, ()), ()) := by
  have h : s.length ≤ 4 → A.iter k (spec_KeyValid_t_b0 A k) (s, (((0 : Nat) : Int), ())) = some (if (List.range s.length).all (fun i => letter (s.getD i 0)) = true then .inl () else .inr ((false, ()), ())) := fun hl =>
    iter_all (A := A) (f := spec_KeyValid_t_b0 A k) (fun i => (s, ((i : Int), ()))) s.length (fun i => letter (s.getD i 0)) (.inr ((false, ()), ())) (.inl ())
      (fun i hi => by
        by_cases q1 : s[i].toNat < 97
        · have q1' : ¬ 97 ≤ s[i].toNat := by omega
          simp (disch := omega) [spec_KeyValid_t_b0, hi, a_wrap, letter, q1, q1']
          omega
        · have q1' : 97 ≤ s[i].toNat := by omega
          have q3 : ¬ (s[i].toNat : Int) < 97 := by omega
          by_cases q2 : 122 < s[i].toNat
          · have q2' : ¬ s[i].toNat ≤ 122 := by omega
            have q4 : (122 : Int) < (s[i].toNat : Int) := by omega
            simp (disch := omega) [spec_KeyValid_t_b0, hi, a_wrap, letter, q1', q2', q3, q4]
          · have q2' : s[i].toNat ≤ 122 := by omega
            have q4 : ¬ (122 : Int) < (s[i].toNat : Int) := by omega
            simp (disch := omega) [spec_KeyValid_t_b0, hi, a_wrap, letter, q1', q2', q3, q4])
      (by simp [spec_KeyValid_t_b0]) (by omega)
  rw [all_range] at h
  simp only [Int.natCast_zero, Int.ofNat_zero] at h
  simp only [spec_KeyValid_t, l1In_eq, a_obind_some, a_cndS, a_notB, keyOk, a_lenL]
  by_cases hl : 1 ≤ s.length ∧ s.length ≤ 4
  · have hl' : (1 : Int) ≤ (s.length : Int) ∧ (s.length : Int) ≤ 4 := by omega
    simp only [hl, hl', and_self, decide_true, Bool.not_true, Bool.false_eq_true, if_false, h hl.2, a_obind_some, Bool.true_and]
    cases s.all letter <;> simp
  · have hl' : ¬ ((1 : Int) ≤ (s.length : Int) ∧ (s.length : Int) ≤ 4) := by omega
    simp only [hl, hl', decide_false, Bool.not_false, if_true, Bool.false_and]
def cmdOk (c : Cmd) : Bool := (keyOk c.2.1 || (decide (c.1 = 5) && decide (c.2.1 = []))) &&
  (if c.1 = 1 ∨ c.1 = 3 ∨ c.1 = 5 then decide (c.2.2.1 = 0 ∧ c.2.2.2.1 = 0) else if c.1 = 2 then decide ((0 ≤ c.2.2.1 ∧ c.2.2.1 ≤ 999) ∧ c.2.2.2.1 = 0)
    else if c.1 = 4 then decide ((0 ≤ c.2.2.1 ∧ c.2.2.1 ≤ 999) ∧ -1 ≤ c.2.2.2.1 ∧ c.2.2.2.1 ≤ 999) else false)
theorem valueValid_eq (k : Nat) (v : Int) : impl_valueValid_t A k (v, ()) () = some ((decide (0 ≤ v ∧ v ≤ 999), ()), ()) := by
  simp only [impl_valueValid_t, a_cndS, a_leI, if_true, decide_eq_true_eq]
  by_cases h : 0 ≤ v <;> simp [h]
theorem seqValid_eq (k : Nat) (v : Int) : impl_seqValid_t A k (v, ()) () = some ((decide (1 ≤ v ∧ v ≤ 999), ()), ()) := by
  simp only [impl_seqValid_t, a_cndS, a_leI, if_true, decide_eq_true_eq]
  by_cases h : 1 ≤ v <;> simp [h]
theorem spec_CommandValid_eq (k : Nat) (hk : 10 ≤ k) (c : Cmd) : spec_CommandValid_t A k (c, ()) () = some ((cmdOk c, ()), ()) := by
  obtain ⟨op, s, v, o, _⟩ := c
  simp only [spec_CommandValid_t, spec_KeyValid_eq k hk, l1In_eq, a_obind_some, a_cndS, a_notB, a_eqI, a_eqS, cmdOk]
  by_cases h5 : op = 5
  · subst h5
    cases hb : keyOk s with
    | true =>
      by_cases hv : v = 0 <;> by_cases ho : o = 0 <;> simp [hv, ho]
    | false =>
      by_cases hs : s = []
      · by_cases hv : v = 0 <;> by_cases ho : o = 0 <;> simp [hs, hv, ho]
      · simp [hs]
  · cases hb : keyOk s with
    | false => simp [h5]
    | true =>
      by_cases h1 : op = 1
      · subst h1; by_cases hv : v = 0 <;> by_cases ho : o = 0 <;> simp [hv, ho]
      by_cases h3 : op = 3
      · subst h3; by_cases hv : v = 0 <;> by_cases ho : o = 0 <;> simp [hv, ho]
      by_cases h2 : op = 2
      · subst h2; by_cases hv : 0 ≤ v ∧ v ≤ 999 <;> by_cases ho : o = 0 <;> simp [hv, ho]
      by_cases h4 : op = 4
      · subst h4; by_cases hv : 0 ≤ v ∧ v ≤ 999 <;> simp [hv]
      simp [h1, h2, h3, h4, h5]
theorem impl_CommandValid_eq (k : Nat) (hk : 10 ≤ k) (c : Cmd) : impl_CommandValid_t A k (c, ()) () = some ((cmdOk c, ()), ()) := by
  obtain ⟨op, s, v, o, _⟩ := c
  simp only [impl_CommandValid_t, impl_KeyValid_eq k hk, valueValid_eq, a_obind_some, a_cndS, a_notB, a_eqI, a_eqS, a_ltI, cmdOk]
  by_cases hlo : op < 1
  · have h1 : ¬ op = 1 := by omega
    have h2 : ¬ op = 2 := by omega
    have h3 : ¬ op = 3 := by omega
    have h4 : ¬ op = 4 := by omega
    have h5 : ¬ op = 5 := by omega
    simp [hlo, h1, h2, h3, h4, h5]
  by_cases hhi : 5 < op
  · have h1 : ¬ op = 1 := by omega
    have h2 : ¬ op = 2 := by omega
    have h3 : ¬ op = 3 := by omega
    have h4 : ¬ op = 4 := by omega
    have h5 : ¬ op = 5 := by omega
    simp [hlo, hhi, h1, h2, h3, h4, h5]
  by_cases h5 : op = 5
  · subst h5
    cases hb : keyOk s with
    | true => by_cases hv : v = 0 <;> by_cases ho : o = 0 <;> simp [hb, hv, ho]
    | false =>
      by_cases hs : s = []
      · subst hs
        by_cases hv : v = 0 <;> by_cases ho : o = 0 <;> simp [hb, hv, ho]
      · simp [hb, hs]
  · cases hb : keyOk s with
    | false => simp [hb, h5, hlo, hhi]
    | true =>
      by_cases h1 : op = 1
      · subst h1; by_cases hv : v = 0 <;> by_cases ho : o = 0 <;> simp [hb, hv, ho]
      by_cases h3 : op = 3
      · subst h3; by_cases hv : v = 0 <;> by_cases ho : o = 0 <;> simp [hb, hv, ho]
      by_cases h2 : op = 2
      · subst h2; by_cases hv : 0 ≤ v ∧ v ≤ 999 <;> by_cases ho : o = 0 <;> simp [hb, hv, ho]
      have h4 : op = 4 := by omega
      subst h4
      by_cases hv : 0 ≤ v ∧ v ≤ 999
      · by_cases ho : o = -1
        · subst ho; simp [hb, hv]
        · have e : decide (-1 ≤ o ∧ o ≤ 999) = decide (0 ≤ o ∧ o ≤ 999) := by
            rw [Bool.eq_iff_iff]; simp; omega
          have e2 : (decide (-1 ≤ o) && decide (o ≤ 999)) = (decide (0 ≤ o) && decide (o ≤ 999)) := by simpa using e
          simp [hb, hv, ho, e2]
      · simp [hb, hv]
def entOk (e : Ent) : Bool := decide (0 ≤ e.1 ∧ e.1 ≤ 3) && (decide (1 ≤ e.2.1 ∧ e.2.1 ≤ 999) && cmdOk e.2.2.1)
theorem spec_EntryValid_eq (k : Nat) (hk : 10 ≤ k) (e : Ent) : spec_EntryValid_t A k (e, ()) () = some ((entOk e, ()), ()) := by
  simp only [spec_EntryValid_t, l1In_eq, spec_CommandValid_eq k hk, a_obind_some, a_cndS, entOk]
  by_cases h1 : 0 ≤ e.1 ∧ e.1 ≤ 3 <;> by_cases h2 : 1 ≤ e.2.1 ∧ e.2.1 ≤ 999 <;> simp [h1, h2]
theorem impl_EntryValid_eq (k : Nat) (hk : 10 ≤ k) (e : Ent) : impl_EntryValid_t A k (e, ()) () = some ((entOk e, ()), ()) := by
  simp only [impl_EntryValid_t, seqValid_eq, impl_CommandValid_eq k hk, a_obind_some, a_cndS, a_leI, a_ltI, entOk]
  by_cases h1 : 0 ≤ e.1
  · by_cases h3 : e.1 < 4
    · have : e.1 ≤ 3 := by omega
      by_cases h2 : 1 ≤ e.2.1 ∧ e.2.1 ≤ 999 <;> simp [h1, h2, h3, this]
    · have : ¬ e.1 ≤ 3 := by omega
      simp [h1, h3, this]
  · simp [h1]
/-! ### exact -/
theorem toCommand_eq (k : Nat) (c : Cmd) : laws_toCommand_t A k (c, ()) () = some ((c, ()), ()) := rfl
theorem toEntry_eq (k : Nat) (e : Ent) : laws_toEntry_t A k (e, ()) () = some ((e, ()), ()) := by simp [laws_toEntry_t, toCommand_eq]
def szOf (n : Int) (m : Nat) : Int := if n < m then -1 else n - m
theorem szCommand_eq (k : Nat) (c : Cmd) (n : Int) (h : 0 ≤ n) (h1 : n ≤ 1000000000000) (hl : c.2.1.length ≤ 9223372036854775807) : laws_szCommand_t A k (c, (n, ())) () = some ((szOf n c.2.1.length, ()), ()) := by
  by_cases hh : n < c.2.1.length
  · have : n - (c.2.1.length : Int) < 0 := by omega
    simp (disch := omega) [laws_szCommand_t, a_wrap, hh, this, szOf]
  · have : ¬ n - (c.2.1.length : Int) < 0 := by omega
    simp (disch := omega) [laws_szCommand_t, a_wrap, hh, this, szOf]
theorem szEntry_eq (k : Nat) (e : Ent) (n : Int) (h : 0 ≤ n) (h1 : n ≤ 1000000000000) (hl : e.2.2.1.2.1.length ≤ 9223372036854775807) : laws_szEntry_t A k (e, (n, ())) () = some ((szOf n e.2.2.1.2.1.length, ()), ()) := by
  simp only [laws_szEntry_t, szCommand_eq k e.2.2.1 n h h1 hl, a_obind_some, szOf, a_cndS, a_ltI]
  by_cases hh : n < e.2.2.1.2.1.length
  · simp [hh]
  · have : ¬ n - (e.2.2.1.2.1.length : Int) < 0 := by omega
    simp [hh, this]
end Go.Den.T

namespace Go.Den.T
set_option linter.unusedVariables false
set_option linter.unusedSimpArgs false
set_option linter.unusedSectionVars false
variable {A : Atoms} [IsReal A]
/-! ### loops over lists -/
theorem to_loop {α : Type} {f : List α × (Int × (List α × Unit)) → Option ((List α × (Int × (List α × Unit))) ⊕ (List α × Unit))} {k : Nat} (d : α) (xs : List α) (hk : xs.length < k)
    (hs : ∀ (i : Nat) (ys : List α), i < xs.length → ys.length = xs.length → f (xs, ((i : Int), (ys, ()))) = some (.inl (xs, (((i + 1 : Nat) : Int), (ys.set i (xs.getD i d), ())))))
    (hd : ∀ ys : List α, ys.length = xs.length → f (xs, (((xs.length : Nat) : Int), (ys, ()))) = some (.inr (ys, ()))) : A.iter k f (xs, (0, (List.replicate xs.length d, ()))) = some (xs, ()) := by
  have h := iter_for (A := A) (f := f) (fun i => (xs, ((i : Int), (xs.take i ++ List.replicate (xs.length - i) d, ())))) xs.length (xs, ())
    (fun i hi => by
      rw [hs i _ hi (by simp; omega), fill_step xs d d i xs.length rfl hi])
    (by rw [hd _ (by simp)]; simp) hk
  simpa using h
theorem eq_loop {α : Type} [DecidableEq α] {f : List α × (List α × (Int × Unit)) → Option ((List α × (List α × (Int × Unit))) ⊕ (Unit ⊕ ((Bool × Unit) × Unit)))} {k : Nat} (d : α) (xs ys : List α) (hk : xs.length < k) (he : xs.length = ys.length)
    (hs : ∀ i : Nat, i < xs.length → f (xs, (ys, ((i : Int), ()))) = some (if (decide (xs.getD i d = ys.getD i d)) = true then .inl (xs, (ys, (((i + 1 : Nat) : Int), ()))) else .inr (.inr ((false, ()), ()))))
    (hd : f (xs, (ys, (((xs.length : Nat) : Int), ()))) = some (.inr (.inl ()))) : A.iter k f (xs, (ys, (0, ()))) = some (if xs = ys then .inl () else .inr ((false, ()), ())) := by
  have h := iter_all (A := A) (f := f) (fun i => (xs, (ys, ((i : Int), ())))) xs.length (fun i => decide (xs.getD i d = ys.getD i d)) (.inr ((false, ()), ())) (.inl ()) hs hd hk
  have e : (List.range xs.length).all (fun i => decide (xs.getD i d = ys.getD i d)) = decide (xs = ys) := by
    rw [Bool.eq_iff_iff, range_all, decide_eq_true_eq]
    constructor
    · intro hh
      refine List.ext_getElem he fun i h1 h2 => ?_
      have := hh i h1
      rw [getD_lt h1, getD_lt h2] at this; simpa using this
    · intro e i _; subst e; simp
  rw [e] at h
  simpa using h
theorem sz_loop {α : Type} {f : List α × (Int × (Int × Unit)) → Option ((List α × (Int × (Int × Unit))) ⊕ ((Int × Unit) ⊕ ((Int × Unit) × Unit)))} {k : Nat} (xs : List α) (n : Int) (hn : 0 ≤ n) (hk : xs.length < k)
    (hs : ∀ (i : Nat) (m : Int), i < xs.length → 0 ≤ m → m ≤ n → Ok (f (xs, (m, ((i : Int), ())))) (fun r => (∃ m', r = .inl (xs, (m', (((i + 1 : Nat) : Int), ()))) ∧ 0 ≤ m' ∧ m' ≤ m) ∨ r = .inr (.inr ((-1, ()), ()))))
    (hd : ∀ m, f (xs, (m, (((xs.length : Nat) : Int), ()))) = some (.inr (.inl (m, ())))) :
    Ok (A.iter k f (xs, (n, (0, ())))) (fun r => (∃ m, r = .inl (m, ()) ∧ 0 ≤ m ∧ m ≤ n) ∨ r = .inr ((-1, ()), ())) := by
  refine iter_ok (fun j s => ∃ (i : Nat) (m : Int), s = (xs, (m, ((i : Int), ()))) ∧ i + j = xs.length ∧ 0 ≤ m ∧ m ≤ n) _ ?_ (n := xs.length) hk ⟨0, n, rfl, by omega, hn, Int.le_refl _⟩
  rintro j s ⟨i, m, rfl, hij, h0, h1⟩
  by_cases hi : i < xs.length
  · refine (hs i m hi h0 h1).mono fun r hr => ?_
    rcases hr with ⟨m', rfl, h2, h3⟩ | rfl
    · exact ⟨fun s' e => (by injection e with e; subst e; exact ⟨j - 1, by omega, i + 1, m', rfl, by omega, h2, by omega⟩), fun e he => (by cases he)⟩
    · exact ⟨fun s' e => (by cases e), fun e he => (by injection he with he; subst he; exact .inr rfl)⟩
  · have : i = xs.length := by omega
    subst this
    rw [hd m]
    exact ok_some.2 ⟨fun s' e => (by cases e), fun e he => (by injection he with he; subst he; exact .inl ⟨m, rfl, h0, h1⟩)⟩
/-! ### entries -/
instance : DecidableEq Cmd := inferInstanceAs (DecidableEq (Int × (List UInt8 × (Int × (Int × Unit)))))
instance : DecidableEq Ent := inferInstanceAs (DecidableEq (Int × (Int × (Cmd × Unit))))
abbrev ent0 : Ent := (0, (0, ((0, ([], (0, (0, ())))), ())))
theorem toEntryS_eq (k : Nat) (xs : List Ent) (hk : xs.length < k) (hl : xs.length ≤ 1000000000) : laws_toEntryS_t A k (xs, ()) () = some ((xs, ()), ()) := by
  have h := to_loop (A := A) (f := laws_toEntryS_t_b0 A k) ent0 xs hk
    (fun i ys hi hy => by
      have hi' : i < ys.length := by omega
      simp (disch := omega) [laws_toEntryS_t_b0, hi, hi', hy, a_wrap, toEntry_eq])
    (fun ys hy => by simp [laws_toEntryS_t_b0])
  have h1 : (xs.length : Int) < 4294967296 := by omega
  simp [laws_toEntryS_t, h1, h]
theorem eqCommand_eq (k : Nat) (c d : Cmd) : laws_eqCommand_t A k (c, (d, ())) () = some ((decide (c = d), ()), ()) := by
  obtain ⟨a1, a2, a3, a4, _⟩ := c
  obtain ⟨b1, b2, b3, b4, _⟩ := d
  simp only [laws_eqCommand_t, a_cndS, a_notB, a_eqI, a_eqS]
  by_cases h1 : a1 = b1
  · by_cases h2 : a2 = b2
    · by_cases h3 : a3 = b3
      · by_cases h4 : a4 = b4 <;> simp [h1, h2, h3, h4]
      · simp [h1, h2, h3]
    · simp [h1, h2]
  · simp [h1]
theorem eqEntry_eq (k : Nat) (c d : Ent) : laws_eqEntry_t A k (c, (d, ())) () = some ((decide (c = d), ()), ()) := by
  obtain ⟨a1, a2, a3, _⟩ := c
  obtain ⟨b1, b2, b3, _⟩ := d
  simp only [laws_eqEntry_t, eqCommand_eq, a_obind_some, a_cndS, a_notB, a_eqI]
  by_cases h1 : a1 = b1
  · by_cases h2 : a2 = b2
    · by_cases h3 : a3 = b3 <;> simp [h1, h2, h3]
    · simp [h1, h2]
  · simp [h1]
theorem eqEntryS_eq (k : Nat) (xs ys : List Ent) (hk : xs.length < k) (hl : xs.length ≤ 1000000000) : laws_eqEntryS_t A k (xs, (ys, ())) () = some ((decide (xs = ys), ()), ()) := by
  by_cases he : xs.length = ys.length
  · have h := eq_loop (A := A) (f := laws_eqEntryS_t_b0 A k) ent0 xs ys hk he
      (fun i hi => by
        have hi' : i < ys.length := by omega
        simp (disch := omega) [laws_eqEntryS_t_b0, hi, hi', a_wrap, eqEntry_eq]
        by_cases hv : xs[i] = ys[i] <;> simp [hv])
      (by simp [laws_eqEntryS_t_b0])
    simp only [laws_eqEntryS_t, a_lenL, he, a_eqI, decide_true, a_notB, Bool.not_true, a_cndS, Bool.false_eq_true, if_false, h]
    by_cases hv : xs = ys <;> simp [hv]
  · have h2 : ¬ (xs.length : Int) = ys.length := by omega
    have h3 : ¬ xs = ys := fun e => he (by rw [e])
    simp [laws_eqEntryS_t, h2, h3]
theorem szEntryS_ok (k : Nat) (xs : List Ent) (n : Int) (hn : 0 ≤ n) (hn1 : n ≤ 1048576) (hk : 2000000 ≤ k) (hl : xs.length ≤ 9223372036854775807) (hs : ∀ e ∈ xs, e.2.2.1.2.1.length ≤ 9223372036854775807) :
    Ok (laws_szEntryS_t A k (xs, (n, ())) ()) (fun q => q.1.1 = -1 ∨ (0 ≤ q.1.1 ∧ q.1.1 ≤ n ∧ xs.length ≤ 1048576)) := by
  have w : A.wrapI .i64 (n - (xs.length : Int)) = n - (xs.length : Int) := a_wrap (by omega) (by omega)
  rw [laws_szEntryS_t, ok_cndS]
  simp only [a_lenL, a_subI, w, a_ltI, decide_eq_true_eq, decide_eq_false_iff_not]
  refine ⟨fun _ => ok_some.2 (.inl rfl), fun h => ?_⟩
  refine (sz_loop (A := A) (f := laws_szEntryS_t_b0 A k) xs (n - xs.length) (by omega) (by omega) (fun i m hi h0 h1 => ?_) (fun m => by simp [laws_szEntryS_t_b0])).bind fun r hr => ?_
  · have he := hs xs[i] (List.getElem_mem hi)
    by_cases hm : m < (xs[i].2.2.1.2.1.length : Int)
    · refine ⟨.inr (.inr ((-1, ()), ())), ?_, .inr rfl⟩
      simp (disch := omega) [laws_szEntryS_t_b0, hi, a_wrap]
      rw [szEntry_eq k xs[i] m h0 (by omega) he]
      simp [szOf, hm]
    · refine ⟨.inl (xs, (m - (xs[i].2.2.1.2.1.length : Int), (((i + 1 : Nat) : Int), ()))), ?_, .inl ⟨_, rfl, by omega, by omega⟩⟩
      have hm' : ¬ m - (xs[i].2.2.1.2.1.length : Int) < 0 := by omega
      simp (disch := omega) [laws_szEntryS_t_b0, hi, a_wrap]
      rw [szEntry_eq k xs[i] m h0 (by omega) he]
      simp [szOf, hm, hm']
  · rcases hr with ⟨m, rfl, h0, h1⟩ | rfl
    · rw [a_sumE_inl]; exact ok_some.2 (.inr ⟨h0, by show m ≤ n; omega, by omega⟩)
    · rw [a_sumE_inr]; exact ok_some.2 (.inl rfl)
/-! ### replicas -/
abbrev Rep := Cfg × (Bool × (List Ent × Unit))
abbrev Msg := Int × (Int × (Int × (Cfg × (List Ent × Unit))))
instance : DecidableEq Cfg := inferInstanceAs (DecidableEq (Int × (List Int × (Bool × Unit))))
instance : DecidableEq Rep := inferInstanceAs (DecidableEq (Cfg × (Bool × (List Ent × Unit))))
set_option synthInstance.maxSize 1000 in
instance : DecidableEq Msg := inferInstanceAs (DecidableEq (Int × (Int × (Int × (Cfg × (List Ent × Unit))))))
theorem toReplica_eq (k : Nat) (r : Rep) (hk : 2000000 ≤ k) (h1 : r.1.2.1.length ≤ 1048576) (h2 : r.2.2.1.length ≤ 1048576) : laws_toReplica_t A k (r, ()) () = some ((r, ()), ()) := by
  simp [laws_toReplica_t, toConfig_eq k r.1 (by omega) (by omega), toEntryS_eq k r.2.2.1 (by omega) (by omega)]
theorem eqReplica_eq (k : Nat) (r s : Rep) (hk : 2000000 ≤ k) (h1 : r.1.2.1.length ≤ 1048576) (h2 : r.2.2.1.length ≤ 1048576) : laws_eqReplica_t A k (r, (s, ())) () = some ((decide (r = s), ()), ()) := by
  obtain ⟨a1, a2, a3, _⟩ := r
  obtain ⟨b1, b2, b3, _⟩ := s
  simp only at h1 h2
  simp only [laws_eqReplica_t, eqConfig_eq k a1 b1 (by omega) (by omega), eqEntryS_eq k a3 b3 (by omega) (by omega), a_obind_some, a_cndS, a_notB, a_eqB]
  by_cases h1 : a1 = b1
  · by_cases h2 : a2 = b2
    · by_cases h3 : a3 = b3 <;> simp [h1, h2, h3]
    · simp [h1, h2]
  · simp [h1]
def noCfg (c : Cfg) : Bool := decide (c.1 = 0) && (decide (c.2.1.length = 0) && !c.2.2.1)
theorem l17None_eq (k : Nat) (c : Cfg) : spec_l17None_t A k (c, ()) () = some ((noCfg c, ()), ()) := by
  simp only [spec_l17None_t, a_cndS, a_eqI, a_lenL, a_notB, noCfg]
  by_cases h1 : c.1 = 0
  · by_cases h2 : c.2.1.length = 0
    · simp [h1, h2]
    · simp [h1, h2]
  · simp [h1]
theorem noConfig_eq (k : Nat) (c : Cfg) : impl_noConfig_t A k (c, ()) () = some ((noCfg c, ()), ()) := by
  simp only [impl_noConfig_t, a_cndS, a_eqI, a_lenL, a_notB, noCfg]
  by_cases h1 : c.1 = 0
  · by_cases h2 : c.2.1.length = 0
    · simp [h1, h2]
    · simp [h1, h2]
  · simp [h1]
def logOk (l : List Ent) : Bool := decide (l.length ≤ 24) && l.all entOk
theorem entriesValid_eq (k : Nat) (hk : 30 ≤ k) (l : List Ent) : impl_entriesValid_t A k (l, ()) () = some ((logOk l, ()), ()) := by
  by_cases hl : (24 : Int) < l.length
  · have : ¬ l.length ≤ 24 := by omega
    simp [impl_entriesValid_t, hl, logOk, this]
  · have hl' : l.length ≤ 24 := by omega
    have h := iter_all (A := A) (f := impl_entriesValid_t_b0 A k) (fun i => (l, ((l.length : Int), ((i : Int), ())))) l.length (fun i => entOk (l.getD i ent0)) (.inr ((false, ()), ())) (.inl ())
      (fun i hi => by
        simp (disch := omega) [impl_entriesValid_t_b0, hi, a_wrap, impl_EntryValid_eq k (by omega)]
        cases entOk l[i] <;> simp)
      (by simp [impl_entriesValid_t_b0]) (k := k) (by omega)
    rw [all_range] at h
    simp only [Int.natCast_zero, Int.ofNat_zero] at h
    simp only [impl_entriesValid_t, a_cndS, a_ltI, a_lenL, hl, decide_false, Bool.false_eq_true, if_false, h, a_obind_some, logOk, hl', decide_true, Bool.true_and]
    cases l.all entOk <;> simp
theorem l10Log_eq (k : Nat) (hk : 30 ≤ k) (l : List Ent) : spec_l10Log_t A k (l, ()) () = some ((logOk l, ()), ()) := by
  have h : Ok (A.iter k (spec_l10Log_t_b0 A k) (l, (0, ()))) (fun r => r = if logOk l = true then .inl () else .inr ((false, ()), ())) := by
    refine iter_ok (fun j s => ∃ i : Nat, s = (l, ((i : Int), ())) ∧ i + j = 24 ∧ i ≤ l.length ∧ (l.take i).all entOk = true) _ ?_ (n := 24) (by omega) ⟨0, rfl, by omega, by omega, rfl⟩
    rintro j s ⟨i, rfl, hij, hil, hall⟩
    by_cases hi : i < l.length
    · have hi' : (i : Int) < (l.length : Int) := by omega
      by_cases h24 : (24 : Int) ≤ (i : Int)
      · have : ¬ l.length ≤ 24 := by omega
        refine ⟨.inr (.inr ((false, ()), ())), by simp [spec_l10Log_t_b0, hi, h24], fun s' e => (by cases e), fun e he => ?_⟩
        injection he with he; subst he
        simp [logOk, this]
      · have w : A.wrapI .i64 ((i : Int) + 1) = (i : Int) + 1 := a_wrap (by omega) (by omega)
        by_cases hv : entOk l[i] = true
        · refine ⟨.inl (l, (((i + 1 : Nat) : Int), ())), by simp [spec_l10Log_t_b0, hi, h24, w, spec_EntryValid_eq k (by omega : 10 ≤ k), hv], fun s' e => ?_, fun e he => (by cases he)⟩
          injection e with e; subst e
          refine ⟨j - 1, by omega, i + 1, rfl, by omega, by omega, ?_⟩
          rw [List.take_succ_eq_append_getElem hi, List.all_append, hall]; simp [hv]
        · refine ⟨.inr (.inr ((false, ()), ())), by simp [spec_l10Log_t_b0, hi, h24, w, spec_EntryValid_eq k (by omega : 10 ≤ k), hv], fun s' e => (by cases e), fun e he => ?_⟩
          injection he with he; subst he
          have : l.all entOk = false := by
            rw [← Bool.not_eq_true, List.all_eq_true]
            exact fun h => hv (h _ (List.getElem_mem hi))
          simp [logOk, this]
    · have : i = l.length := by omega
      subst this
      rw [List.take_length] at hall
      refine ⟨.inr (.inl ()), by simp [spec_l10Log_t_b0], fun s' e => (by cases e), fun e he => ?_⟩
      injection he with he; subst he
      have : l.length ≤ 24 := by omega
      simp only [logOk, this, hall, decide_true, Bool.and_self, if_true]
  rw [ok_eq] at h
  rw [spec_l10Log_t, h]
  cases logOk l <;> simp
def repOk (r : Rep) : Bool := if noCfg r.1 = true then !r.2.1 && decide (r.2.2.1.length = 0) else cfgOk r.1 && (logOk r.2.2.1 && (r.2.1 || decide (r.2.2.1.length = 0)))
theorem impl_ReplicaValid_eq (k : Nat) (hk : 30 ≤ k) (r : Rep) : impl_ReplicaValid_t A k (r, ()) () = some ((repOk r, ()), ()) := by
  simp only [impl_ReplicaValid_t, noConfig_eq, impl_ConfigValid_eq k (by omega : 10 ≤ k), entriesValid_eq k hk, a_obind_some, a_cndS, a_notB, a_eqI, a_lenL, repOk]
  cases noCfg r.1 <;> cases cfgOk r.1 <;> cases logOk r.2.2.1 <;> cases r.2.1 <;> simp
theorem spec_ReplicaValid_eq (k : Nat) (hk : 30 ≤ k) (r : Rep) : spec_ReplicaValid_t A k (r, ()) () = some ((repOk r, ()), ()) := by
  simp only [spec_ReplicaValid_t, l17None_eq, spec_ConfigValid_eq k (by omega : 10 ≤ k), l10Log_eq k hk, a_obind_some, a_cndS, a_notB, a_eqI, a_lenL, repOk]
  cases noCfg r.1 <;> cases cfgOk r.1 <;> cases logOk r.2.2.1 <;> cases r.2.1 <;> simp
def msgOk (m : Msg) : Bool :=
  if m.1 = 1 then decide (1 ≤ m.2.2.1 ∧ m.2.2.1 ≤ 60) && (decide (0 ≤ m.2.1 ∧ m.2.1 ≤ 4) && (cfgOk m.2.2.2.1 && (decide (m.2.2.2.1.1 = m.2.2.1) && decide (m.2.2.2.2.1.length = 0))))
  else if m.1 = 2 then decide (1 ≤ m.2.2.1 ∧ m.2.2.1 ≤ 60) && (decide (0 ≤ m.2.1 ∧ m.2.1 ≤ 4) && (noCfg m.2.2.2.1 && logOk m.2.2.2.2.1))
  else if m.1 = 3 then decide (1 ≤ m.2.2.1 ∧ m.2.2.1 ≤ 60) && (decide (m.2.1 = -1) && (noCfg m.2.2.2.1 && decide (m.2.2.2.2.1.length = 0)))
  else false
theorem spec_MessageValid_eq (k : Nat) (hk : 30 ≤ k) (m : Msg) : spec_MessageValid_t A k (m, ()) () = some ((msgOk m, ()), ()) := by
  obtain ⟨kd, nd, ep, c, l, _⟩ := m
  simp only [spec_MessageValid_t, l1In_eq, l17None_eq, spec_ConfigValid_eq k (by omega : 10 ≤ k), l10Log_eq k hk, a_obind_some, a_cndS, a_eqI, a_lenL, msgOk]
  by_cases h1 : kd = 1
  · by_cases h2 : 0 ≤ nd ∧ nd ≤ 4
    · cases hc : cfgOk c with
      | false => simp [h1, h2]
      | true =>
        have hl := cfgOk_len hc
        by_cases h3 : c.1 = ep
        · have : 1 ≤ ep ∧ ep ≤ 60 := by omega
          by_cases h4 : l.length = 0
          · simp [h1, h2, h3, h4, this]
          · simp [h1, h2, h3, h4, this]
        · simp [h1, h2, h3]
    · simp [h1, h2]
  by_cases h1' : kd = 2
  · subst h1'
    by_cases h2 : 0 ≤ nd ∧ nd ≤ 4 <;> by_cases h3 : 1 ≤ ep ∧ ep ≤ 60 <;> cases noCfg c <;> simp [h2, h3]
  by_cases h1'' : kd = 3
  · subst h1''
    by_cases h2 : nd = -1 <;> by_cases h3 : 1 ≤ ep ∧ ep ≤ 60 <;> cases noCfg c <;> simp [h2, h3]
  simp [h1, h1', h1'']
theorem impl_MessageValid_eq (k : Nat) (hk : 30 ≤ k) (m : Msg) : impl_MessageValid_t A k (m, ()) () = some ((msgOk m, ()), ()) := by
  obtain ⟨kd, nd, ep, c, l, _⟩ := m
  simp only [impl_MessageValid_t, nodeValid_eq, noConfig_eq, impl_ConfigValid_eq k (by omega : 10 ≤ k), entriesValid_eq k hk, a_obind_some, a_cndS, a_eqI, a_lenL, a_ltI, msgOk]
  by_cases hlo : ep < 1
  · have : ¬ (1 ≤ ep ∧ ep ≤ 60) := by omega
    simp [hlo, this]
  by_cases hhi : 60 < ep
  · have : ¬ (1 ≤ ep ∧ ep ≤ 60) := by omega
    simp [hlo, hhi, this]
  have hep : 1 ≤ ep ∧ ep ≤ 60 := by omega
  by_cases h1 : kd = 1
  · subst h1
    by_cases h2 : 0 ≤ nd ∧ nd ≤ 4
    · cases hc : cfgOk c with
      | false => simp [hlo, hhi, h2, hep, hc, nodeValid_eq, impl_ConfigValid_eq k (by omega : 10 ≤ k)]
      | true =>
        by_cases h3 : c.1 = ep <;> simp [hlo, hhi, h2, hep, hc, h3, nodeValid_eq, impl_ConfigValid_eq k (by omega : 10 ≤ k)]
    · simp [hlo, hhi, h2, hep, nodeValid_eq]
  by_cases h1' : kd = 2
  · subst h1'
    by_cases h2 : 0 ≤ nd ∧ nd ≤ 4
    · cases hc : noCfg c <;> simp [hlo, hhi, h2, hep, hc, nodeValid_eq, noConfig_eq, entriesValid_eq k hk]
    · simp [hlo, hhi, h2, hep, nodeValid_eq]
  by_cases h1'' : kd = 3
  · subst h1''
    by_cases h2 : nd = -1
    · cases hc : noCfg c <;> simp [hlo, hhi, h2, hep, hc, noConfig_eq]
    · simp [hlo, hhi, h2, hep]
  simp [hlo, hhi, h1, h1', h1'']
end Go.Den.T

namespace Go.Den.T
abbrev TCmd : Ty := .prod (.int .i64) (.prod .str (.prod (.int .i64) (.prod (.int .i64) .unit)))
abbrev TEnt : Ty := .prod (.int .i64) (.prod (.int .i64) (.prod TCmd .unit))
end Go.Den.T

namespace Go.Den.T
set_option linter.unusedVariables false
set_option linter.unusedSimpArgs false
set_option linter.unusedSectionVars false
section
variable {A : Atoms} [IsReal A]
theorem toMessage_eq (k : Nat) (m : Msg) (hk : 2000000 ≤ k) (h1 : m.2.2.2.1.2.1.length ≤ 1048576) (h2 : m.2.2.2.2.1.length ≤ 1048576) : laws_toMessage_t A k (m, ()) () = some ((m, ()), ()) := by
  simp [laws_toMessage_t, toConfig_eq k m.2.2.2.1 (by omega) (by omega), toEntryS_eq k m.2.2.2.2.1 (by omega) (by omega)]
theorem eqMessage_eq (k : Nat) (r s : Msg) (hk : 2000000 ≤ k) (h1 : r.2.2.2.1.2.1.length ≤ 1048576) (h2 : r.2.2.2.2.1.length ≤ 1048576) : laws_eqMessage_t A k (r, (s, ())) () = some ((decide (r = s), ()), ()) := by
  obtain ⟨a1, a2, a3, a4, a5, _⟩ := r
  obtain ⟨b1, b2, b3, b4, b5, _⟩ := s
  simp only at h1 h2
  simp only [laws_eqMessage_t, eqConfig_eq k a4 b4 (by omega) (by omega), eqEntryS_eq k a5 b5 (by omega) (by omega), a_obind_some, a_cndS, a_notB, a_eqI]
  by_cases h1 : a1 = b1
  · by_cases h2 : a2 = b2
    · by_cases h3 : a3 = b3
      · by_cases h4 : a4 = b4
        · by_cases h5 : a5 = b5 <;> simp [h1, h2, h3, h4, h5]
        · simp [h1, h2, h3, h4]
      · simp [h1, h2, h3]
    · simp [h1, h2]
  · simp [h1]
end
abbrev TCfg' : Ty := .prod (.int .i64) (.prod (.slice (.int .i64)) (.prod .bool .unit))
abbrev TRep : Ty := .prod TCfg' (.prod .bool (.prod (.slice TEnt) .unit))
abbrev TMsg : Ty := .prod (.int .i64) (.prod (.int .i64) (.prod (.int .i64) (.prod TCfg' (.prod (.slice TEnt) .unit))))
theorem keys_of {l : List TEnt.val} (h : InR (.slice TEnt) l) : ∀ e ∈ (show List Ent from l), e.2.2.1.2.1.length ≤ 9223372036854775807 :=
  fun e he => Nat.le_trans (h.2 e he).2.2.1.2.1 (by decide)
end Go.Den.T

namespace Go.Den.T
set_option linter.unusedVariables false
set_option linter.unusedSimpArgs false
variable {A : Atoms} [IsReal A]
abbrev Rd := List Int × (Int × Unit)
def RdOk (N : Int) (r : Rd) : Prop := (∀ x ∈ r.1, 0 ≤ x ∧ x ≤ 255) ∧ r.1.length ≤ 2000 ∧ 0 ≤ r.2.1 ∧ r.2.1 ≤ N
theorem RdOk.le {N M : Int} {r : Rd} (h : RdOk N r) (hm : N ≤ M) : RdOk M r := ⟨h.1, h.2.1, h.2.2.1, Int.le_trans h.2.2.2 hm⟩
end Go.Den.T

namespace Go.Den.T
set_option linter.unusedVariables false
set_option linter.unusedSimpArgs false
variable {A : Atoms} [IsReal A]
def Short (c : Cfg) : Prop := c.2.1.length ≤ 100
end Go.Den.T

namespace Go.Den.T
set_option linter.unusedVariables false
set_option linter.unusedSimpArgs false
set_option linter.unusedSectionVars false
variable {A : Atoms} [IsReal A]
theorem at_ok {α : Type} {xs : List α} {d : α} {i : Int} {P : α → Prop} (h : ∀ x ∈ xs, P x) (h0 : 0 ≤ i) (h1 : i < xs.length) : P (xs.getD i.toNat d) := by
  have : i.toNat < xs.length := by omega
  rw [getD_lt this]; exact h _ (List.getElem_mem this)
def CmdS (c : Cmd) : Prop := c.2.1.length ≤ 8
def EntS (e : Ent) : Prop := CmdS e.2.2.1
end Go.Den.T

namespace Go.Den.T
set_option linter.unusedVariables false
set_option linter.unusedSimpArgs false
set_option linter.unusedSectionVars false
variable {A : Atoms} [IsReal A]
def LogS (l : List Ent) : Prop := l.length ≤ 30 ∧ ∀ e ∈ l, EntS e
theorem LogS.get {l : List Ent} {i : Int} (h : ∀ e ∈ l, EntS e) (h0 : 0 ≤ i) (h1 : i < l.length) : EntS (A.atL l i dfE) := by
  rw [a_atL]; exact at_ok (P := EntS) h h0 h1
end Go.Den.T

namespace Go.Den.T
set_option linter.unusedVariables false
set_option linter.unusedSimpArgs false
variable {A : Atoms} [IsReal A]
end Go.Den.T

namespace Go.Den.T
set_option linter.unusedVariables false
set_option linter.unusedSimpArgs false
variable {A : Atoms} [IsReal A]
/-! ### a member taken away -/
end Go.Den.T

namespace Go.Den.T
end Go.Den.T

namespace Go.Den.T
set_option linter.unusedVariables false
set_option linter.unusedSimpArgs false
set_option linter.unusedSectionVars false
section
variable {A : Atoms} [IsReal A]
/-! ### a member added -/
end
end Go.Den.T

namespace Go.Den.T
set_option linter.unusedVariables false
set_option linter.unusedSimpArgs false
set_option linter.unusedSectionVars false
section
variable {A : Atoms} [IsReal A]
def MsgS (m : Msg) : Prop := Short m.2.2.2.1 ∧ LogS m.2.2.2.2.1
end
end Go.Den.T

namespace Go.Den.T
set_option linter.unusedVariables false
set_option linter.unusedSimpArgs false
set_option linter.unusedSectionVars false
section
variable {A : Atoms} [IsReal A]
def bagOk (l : List Msg) : Bool := decide (l.length ≤ 10) && l.all msgOk
theorem impl_BagValid_eq (k : Nat) (hk : 30 ≤ k) (l : List Msg) : impl_BagValid_t A k (l, ()) () = some ((bagOk l, ()), ()) := by
  by_cases hl : (10 : Int) < l.length
  · have : ¬ l.length ≤ 10 := by omega
    simp [impl_BagValid_t, hl, bagOk, this]
  · have hl' : l.length ≤ 10 := by omega
    have h := iter_all (A := A) (f := impl_BagValid_t_b0 A k) (fun i => (l, ((l.length : Int), ((i : Int), ())))) l.length (fun i => msgOk (l.getD i ((0 : Int), ((0 : Int), ((0 : Int), (((0 : Int), (([] : List Int), (false, ()))), (([] : List Ent), ()))))))) (.inr ((false, ()), ())) (.inl ())
      (fun i hi => by
        simp (disch := omega) [impl_BagValid_t_b0, hi, a_wrap, impl_MessageValid_eq k hk]
        cases msgOk l[i] <;> simp)
      (by simp [impl_BagValid_t_b0]) (k := k) (by omega)
    rw [all_range] at h
    simp only [Int.natCast_zero, Int.ofNat_zero] at h
    simp only [impl_BagValid_t, a_cndS, a_ltI, a_lenL, hl, decide_false, Bool.false_eq_true, if_false, h, a_obind_some, bagOk, hl', decide_true, Bool.true_and]
    cases l.all msgOk <;> simp
theorem spec_BagValid_eq (k : Nat) (hk : 30 ≤ k) (l : List Msg) : spec_BagValid_t A k (l, ()) () = some ((bagOk l, ()), ()) := by
  have h : Ok (A.iter k (spec_BagValid_t_b0 A k) (l, (0, ()))) (fun r => r = if bagOk l = true then .inl () else .inr ((false, ()), ())) := by
    refine iter_ok (fun j s => ∃ i : Nat, s = (l, ((i : Int), ())) ∧ i + j = 10 ∧ i ≤ l.length ∧ (l.take i).all msgOk = true) _ ?_ (n := 10) (by omega) ⟨0, rfl, by omega, by omega, rfl⟩
    rintro j s ⟨i, rfl, hij, hil, hall⟩
    by_cases hi : i < l.length
    · have hi' : (i : Int) < (l.length : Int) := by omega
      by_cases h24 : (10 : Int) ≤ (i : Int)
      · have : ¬ l.length ≤ 10 := by omega
        refine ⟨.inr (.inr ((false, ()), ())), by simp [spec_BagValid_t_b0, hi, h24], fun s' e => (by cases e), fun e he => ?_⟩
        injection he with he; subst he
        simp [bagOk, this]
      · have w : A.wrapI .i64 ((i : Int) + 1) = (i : Int) + 1 := a_wrap (by omega) (by omega)
        by_cases hv : msgOk l[i] = true
        · refine ⟨.inl (l, (((i + 1 : Nat) : Int), ())), by simp [spec_BagValid_t_b0, hi, h24, w, spec_MessageValid_eq k hk, hv], fun s' e => ?_, fun e he => (by cases he)⟩
          injection e with e; subst e
          refine ⟨j - 1, by omega, i + 1, rfl, by omega, by omega, ?_⟩
          rw [List.take_succ_eq_append_getElem hi, List.all_append, hall]; simp [hv]
        · refine ⟨.inr (.inr ((false, ()), ())), by simp [spec_BagValid_t_b0, hi, h24, w, spec_MessageValid_eq k hk, hv], fun s' e => (by cases e), fun e he => ?_⟩
          injection he with he; subst he
          have : l.all msgOk = false := by
            rw [← Bool.not_eq_true, List.all_eq_true]
            exact fun h => hv (h _ (List.getElem_mem hi))
          simp [bagOk, this]
    · have : i = l.length := by omega
      subst this
      rw [List.take_length] at hall
      refine ⟨.inr (.inl ()), by simp [spec_BagValid_t_b0], fun s' e => (by cases e), fun e he => ?_⟩
      injection he with he; subst he
      have : l.length ≤ 10 := by omega
      simp only [bagOk, this, hall, decide_true, Bool.and_self, if_true]
  rw [ok_eq] at h
  rw [spec_BagValid_t, h]
  cases bagOk l <;> simp
def BagS (l : List Msg) : Prop := l.length ≤ 30 ∧ ∀ m ∈ l, MsgS m
end
end Go.Den.T

namespace Go.Den.T
set_option linter.unusedVariables false
set_option linter.unusedSimpArgs false
set_option linter.unusedSectionVars false
section
variable {A : Atoms} [IsReal A]
abbrev rep0 : Rep := ((0, ([], (false, ()))), (false, ([], ())))
end
end Go.Den.T

namespace Go.Den.T
set_option linter.unusedVariables false
set_option linter.unusedSimpArgs false
set_option linter.unusedSectionVars false
section
variable {A : Atoms} [IsReal A]
end
end Go.Den.T

namespace Go.Den.T
set_option linter.unusedVariables false
set_option linter.unusedSimpArgs false
set_option linter.unusedSectionVars false
section
variable {A : Atoms} [IsReal A]
abbrev msg0 : Msg := (0, (0, (0, ((0, ([], (false, ()))), ([], ())))))
def MsgF (m : Msg) : Prop := m.2.2.2.1.2.1.length ≤ 1000000000 ∧ m.2.2.2.2.1.length ≤ 1000000000
end
end Go.Den.T

namespace Go.Den.T
end Go.Den.T

namespace Go.Den.T
set_option linter.unusedVariables false
set_option linter.unusedSimpArgs false
set_option linter.unusedSectionVars false
section
variable {A : Atoms} [IsReal A]
theorem sz_loopP {α : Type} (P : α → Prop) {f : List α × (Int × (Int × Unit)) → Option ((List α × (Int × (Int × Unit))) ⊕ ((Int × Unit) ⊕ ((Int × Unit) × Unit)))} {k : Nat} (xs : List α) (n : Int) (hn : 0 ≤ n) (hk : xs.length < k)
    (hs : ∀ (i : Nat) (m : Int) (hi : i < xs.length), 0 ≤ m → m ≤ n → Ok (f (xs, (m, ((i : Int), ())))) (fun r => (∃ m', r = .inl (xs, (m', (((i + 1 : Nat) : Int), ()))) ∧ 0 ≤ m' ∧ m' ≤ m ∧ P xs[i]) ∨ r = .inr (.inr ((-1, ()), ()))))
    (hd : ∀ m, f (xs, (m, (((xs.length : Nat) : Int), ()))) = some (.inr (.inl (m, ())))) :
    Ok (A.iter k f (xs, (n, (0, ())))) (fun r => (∃ m, r = .inl (m, ()) ∧ 0 ≤ m ∧ m ≤ n ∧ ∀ x ∈ xs, P x) ∨ r = .inr ((-1, ()), ())) := by
  refine iter_ok (fun j s => ∃ (i : Nat) (m : Int), s = (xs, (m, ((i : Int), ()))) ∧ i + j = xs.length ∧ 0 ≤ m ∧ m ≤ n ∧ ∀ l (hl : l < xs.length), l < i → P xs[l]) _ ?_ (n := xs.length) hk ⟨0, n, rfl, by omega, hn, Int.le_refl _, fun l _ hl => by omega⟩
  rintro j s ⟨i, m, rfl, hij, h0, h1, hP⟩
  by_cases hi : i < xs.length
  · refine (hs i m hi h0 h1).mono fun r hr => ?_
    rcases hr with ⟨m', rfl, h2, h3, h4⟩ | rfl
    · refine ⟨fun s' e => ?_, fun e he => (by cases he)⟩
      injection e with e; subst e
      refine ⟨j - 1, by omega, i + 1, m', rfl, by omega, h2, by omega, fun l hl hli => ?_⟩
      by_cases e : l = i
      · subst e; exact h4
      · exact hP l hl (by omega)
    · exact ⟨fun s' e => (by cases e), fun e he => (by injection he with he; subst he; exact .inr rfl)⟩
  · have : i = xs.length := by omega
    subst this
    rw [hd m]
    refine ok_some.2 ⟨fun s' e => (by cases e), fun e he => ?_⟩
    injection he with he; subst he
    refine .inl ⟨m, rfl, h0, h1, fun x hx => ?_⟩
    obtain ⟨l, hl, rfl⟩ := List.getElem_of_mem hx
    exact hP l hl hl
def MsgZ (m : Msg) : Prop := m.2.2.2.1.2.1.length ≤ 1048576 ∧ m.2.2.2.2.1.length ≤ 1048576
def MsgI (m : Msg) : Prop := m.2.2.2.1.2.1.length ≤ 9223372036854775807 ∧ m.2.2.2.2.1.length ≤ 9223372036854775807 ∧ ∀ e ∈ m.2.2.2.2.1, e.2.2.1.2.1.length ≤ 9223372036854775807
theorem szMessage_n (k : Nat) (m : Msg) (n : Int) (h0 : 0 ≤ n) (hn : n ≤ 1048576) (hk : 2000000 ≤ k) (hm : MsgI m) :
    Ok (laws_szMessage_t A k (m, (n, ())) ()) (fun q => q.1.1 = -1 ∨ (0 ≤ q.1.1 ∧ q.1.1 ≤ n ∧ MsgZ m)) := by
  obtain ⟨h1, hl, hs⟩ := hm
  rw [laws_szMessage_t, szConfig_eq k m.2.2.2.1 n (by omega) (by omega) h1, a_obind_some, ok_cndS]
  simp only [a_ltI, decide_eq_true_eq, decide_eq_false_iff_not]
  refine ⟨fun _ => ok_some.2 (.inl rfl), fun h => ?_⟩
  by_cases hc : n < m.2.2.2.1.2.1.length
  · rw [if_pos hc] at h; omega
  rw [if_neg hc] at h ⊢
  refine (szEntryS_ok k m.2.2.2.2.1 _ (by omega) (by omega) hk hl hs).bind fun q hq => ?_
  rw [ok_cndS]
  simp only [a_ltI, decide_eq_true_eq, decide_eq_false_iff_not]
  refine ⟨fun _ => ok_some.2 (.inl rfl), fun hh => ok_some.2 (.inr ?_)⟩
  rcases hq with hq | hq
  · omega
  · exact ⟨hq.1, by show q.1.1 ≤ n; omega, by omega, hq.2.2⟩
theorem szMessageS_ok (k : Nat) (xs : List Msg) (n : Int) (h0 : 0 ≤ n) (hn : n ≤ 1048576) (hk : 2000000 ≤ k) (hl : xs.length ≤ 9223372036854775807) (hm : ∀ m ∈ xs, MsgI m) :
    Ok (laws_szMessageS_t A k (xs, (n, ())) ()) (fun q => q.1.1 = -1 ∨ (0 ≤ q.1.1 ∧ q.1.1 ≤ n ∧ xs.length ≤ 1048576 ∧ ∀ m ∈ xs, MsgZ m)) := by
  have w : A.wrapI .i64 (n - (xs.length : Int)) = n - (xs.length : Int) := a_wrap (by omega) (by omega)
  rw [laws_szMessageS_t, ok_cndS]
  simp only [a_lenL, a_subI, w, a_ltI, decide_eq_true_eq, decide_eq_false_iff_not]
  refine ⟨fun _ => ok_some.2 (.inl rfl), fun h => ?_⟩
  refine (sz_loopP (A := A) MsgZ (f := laws_szMessageS_t_b0 A k) xs (n - xs.length) (by omega) (by omega) (fun i m hi g0 g1 => ?_) (fun m => by simp [laws_szMessageS_t_b0])).bind fun r hr => ?_
  · have g := szMessage_n (A := A) k xs[i] m g0 (by omega) hk (hm _ (List.getElem_mem hi))
    have w2 : A.wrapI .i64 ((i : Int) + 1) = ((i + 1 : Nat) : Int) := by rw [a_wrap (by omega) (by omega)]; rfl
    have hi' : (i : Int) < (xs.length : Int) := by omega
    have ha : A.atL xs (i : Int) msg0 = xs[i] := by rw [a_atL]; simp [hi]
    simp only [laws_szMessageS_t_b0, a_cndS, a_ltI, a_lenL, hi', decide_true, if_true, a_le0, Int.natCast_nonneg, a_andB, Bool.and_self, ha, a_addI, w2]
    refine g.bind fun q hq => ?_
    rcases hq with hq | ⟨q0, q1, q2⟩
    · have : q.1.1 < 0 := by omega
      simp only [this, decide_true, if_true]
      exact ok_some.2 (.inr rfl)
    · have : ¬ q.1.1 < 0 := by omega
      simp only [this, decide_false, Bool.false_eq_true, if_false]
      exact ok_some.2 (.inl ⟨_, rfl, q0, q1, q2⟩)
  · rcases hr with ⟨m, rfl, g0, g1, g2⟩ | rfl
    · rw [a_sumE_inl]; exact ok_some.2 (.inr ⟨g0, by show m ≤ n; omega, by omega, g2⟩)
    · rw [a_sumE_inr]; exact ok_some.2 (.inl rfl)
theorem toMessageS_eq (k : Nat) (xs : List Msg) (hk : 2000000 ≤ k) (hl : xs.length ≤ 1048576) (hz : ∀ m ∈ xs, MsgZ m) : laws_toMessageS_t A k (xs, ()) () = some ((xs, ()), ()) := by
  have h := to_loop (A := A) (k := k) (f := laws_toMessageS_t_b0 A k) msg0 xs (by omega)
    (fun i ys hi hy => by
      have hi' : i < ys.length := by omega
      have hm := hz xs[i] (List.getElem_mem hi)
      have ha : A.atL xs (i : Int) msg0 = xs[i] := by rw [a_atL]; simp [hi]
      simp (disch := omega) [laws_toMessageS_t_b0, hi, hi', hy, a_wrap, toMessage_eq k xs[i] hk hm.1 hm.2])
    (fun ys hy => by simp [laws_toMessageS_t_b0])
  have h1 : (xs.length : Int) < 4294967296 := by omega
  simp [laws_toMessageS_t, h1, h]
theorem eqMessageS_eq (k : Nat) (xs ys : List Msg) (hk : 2000000 ≤ k) (hl : xs.length ≤ 1048576) (hz : ∀ m ∈ xs, MsgZ m) : laws_eqMessageS_t A k (xs, (ys, ())) () = some ((decide (xs = ys), ()), ()) := by
  by_cases he : xs.length = ys.length
  · have h := eq_loop (A := A) (k := k) (f := laws_eqMessageS_t_b0 A k) msg0 xs ys (by omega) he
      (fun i hi => by
        have hi' : i < ys.length := by omega
        have hm := hz xs[i] (List.getElem_mem hi)
        simp (disch := omega) [laws_eqMessageS_t_b0, hi, hi', a_wrap, eqMessage_eq k xs[i] ys[i] hk hm.1 hm.2]
        by_cases hv : xs[i] = ys[i] <;> simp [hv])
      (by simp [laws_eqMessageS_t_b0])
    simp only [laws_eqMessageS_t, a_lenL, he, a_eqI, decide_true, a_notB, Bool.not_true, a_cndS, Bool.false_eq_true, if_false, h]
    by_cases hv : xs = ys <;> simp [hv]
  · have h2 : ¬ (xs.length : Int) = ys.length := by omega
    have h3 : ¬ xs = ys := fun e => he (by rw [e])
    simp [laws_eqMessageS_t, h2, h3]
end
theorem msgI_of {m : TMsg.val} (h : InR TMsg m) : MsgI m := ⟨Nat.le_trans h.2.2.2.1.2.1.1 (by decide), Nat.le_trans h.2.2.2.2.1.1 (by decide), keys_of h.2.2.2.2.1⟩
end Go.Den.T

namespace Go.Den.T
set_option linter.unusedVariables false
set_option linter.unusedSimpArgs false
set_option linter.unusedSectionVars false
variable {A : Atoms} [IsReal A]
abbrev Itv := List UInt8 × (List UInt8 × Unit)
abbrev Pair := List UInt8 × (Int × Unit)
abbrev Ses := Int × (Int × (Int × Unit))
abbrev Stt := Itv × (List Pair × (List Ses × (Bool × (List UInt8 × Unit))))
abbrev Chk := Int × (Stt × Unit)
def keyOrNil (s : List UInt8) : Bool := decide (s = []) || keyOk s
def bless (a b : List UInt8) : Bool := Op.bytesLess a b
def lowest (s : List UInt8) : List UInt8 := if s = [] then [97] else s
def itvOk (i : Itv) : Bool := keyOrNil i.1 && (keyOrNil i.2.1 && (decide (i.2.1 = []) || bless (lowest i.1) i.2.1))
theorem impl_IntervalValid_eq (k : Nat) (hk : 10 ≤ k) (i : Itv) : impl_IntervalValid_t A k (i, ()) () = some ((itvOk i, ()), ()) := by
  obtain ⟨a, b, _⟩ := i
  simp only [impl_IntervalValid_t, impl_KeyValid_eq k hk, a_obind_some, a_cndS, a_notB, a_eqS, itvOk, keyOrNil, lowest, bless]
  by_cases h1 : a = [] <;> by_cases h2 : b = []
  · simp [h1, h2]
  · cases h3 : keyOk b <;> simp [h1, h2, h3, impl_lowestKey_t]
  · cases h3 : keyOk a <;> simp [h1, h2, h3, impl_lowestKey_t]
  · cases h3 : keyOk a <;> cases h4 : keyOk b <;> simp [h1, h2, h3, h4, impl_lowestKey_t]
theorem bless_nil (b : List UInt8) : bless [] b = decide (b ≠ []) := by cases b <;> simp [bless, Op.bytesLess]
theorem bless_to_nil (a : List UInt8) : bless a [] = false := by cases a <;> simp [bless, Op.bytesLess]
theorem bless_cons (x y : UInt8) (xs ys : List UInt8) : bless (x :: xs) (y :: ys) = (decide (x < y) || (x == y && bless xs ys)) := by simp [bless, Op.bytesLess]
theorem bless_total : ∀ a b : List UInt8, bless a b = !(bless b a || decide (b = a))
  | [], [] => by simp [bless_nil]
  | [], y :: ys => by simp [bless_nil, bless_to_nil]
  | x :: xs, [] => by simp [bless_nil, bless_to_nil]
  | x :: xs, y :: ys => by
    rw [bless_cons, bless_cons, bless_total xs ys]
    by_cases h : x = y
    · subst h
      have : ¬ x < x := by rw [UInt8.lt_iff_toNat_lt]; omega
      simp [this]
    · have h' : ¬ y = x := fun e => h e.symm
      have hn : x.toNat ≠ y.toNat := fun e => h (UInt8.toNat_inj.1 e)
      by_cases hl : x < y
      · have : ¬ y < x := by rw [UInt8.lt_iff_toNat_lt] at hl ⊢; omega
        simp [hl, this, h, h']
      · have : y < x := by rw [UInt8.lt_iff_toNat_lt] at hl ⊢; omega
        simp [hl, this, h, h']
theorem less_a {b : List UInt8} (h : keyOk b = true) : bless [97] b = !decide (b = [97]) := by
  unfold keyOk at h
  simp only [Bool.and_eq_true, decide_eq_true_eq] at h
  obtain ⟨⟨h1, h2⟩, h3⟩ := h
  cases b with
  | nil => simp at h1
  | cons c cs =>
    have hc : letter c = true := by simp only [List.all_cons, Bool.and_eq_true] at h3; exact h3.1
    simp only [letter, decide_eq_true_eq] at hc
    rw [bless_cons, bless_nil]
    by_cases h : c = 97
    · subst h
      have : ¬ (97 : UInt8) < 97 := by decide
      simp [this]
    · have hn : c.toNat ≠ 97 := fun e => h (UInt8.toNat_inj.1 (by rw [e]; rfl))
      have : (97 : UInt8) < c := by rw [UInt8.lt_iff_toNat_lt]; show 97 < c.toNat; omega
      simp [this, h]
theorem spec_IntervalValid_eq (k : Nat) (hk : 10 ≤ k) (i : Itv) : spec_IntervalValid_t A k (i, ()) () = some ((itvOk i, ()), ()) := by
  obtain ⟨a, b, _⟩ := i
  simp only [spec_IntervalValid_t, spec_KeyValid_eq k hk, a_obind_some, a_cndS, a_notB, a_eqS, a_lessS, itvOk, keyOrNil, lowest]
  by_cases h1 : a = [] <;> by_cases h2 : b = []
  · simp [h1, h2]
  · cases h3 : keyOk b with
    | false => simp [h1, h2, h3]
    | true =>
      have e1 : Op.bytesLess [] b = true := by have := bless_nil b; simp only [bless] at this; rw [this]; simp [h2]
      have e2 := less_a h3
      simp [h1, h2, h3, e1, e2]
  · cases h3 : keyOk a <;> simp [h1, h2, h3]
  · cases h3 : keyOk a <;> cases h4 : keyOk b <;> simp [h1, h2, h3, h4]
    simp only [bless]
    cases Op.bytesLess a b <;> simp
def valOk (v : Int) : Bool := decide (0 ≤ v ∧ v ≤ 999)
abbrev ses0 : Ses := (0, (0, (0, ())))
def pairAt (l : List Pair) (i : Nat) : Bool := keyOk (l.getD i (([] : List UInt8), ((0 : Int), ()))).1 && (valOk (l.getD i (([] : List UInt8), ((0 : Int), ()))).2.1 && (decide (i = 0) || bless (l.getD (i - 1) (([] : List UInt8), ((0 : Int), ()))).1 (l.getD i (([] : List UInt8), ((0 : Int), ()))).1))
def pairsOk (l : List Pair) : Bool := decide (l.length ≤ 48) && (List.range l.length).all (pairAt l)
theorem spec_PairsValid_eq (k : Nat) (hk : 60 ≤ k) (l : List Pair) : spec_PairsValid_t A k (l, ()) () = some ((pairsOk l, ()), ()) := by
  by_cases hl : (48 : Int) < l.length
  · have : ¬ l.length ≤ 48 := by omega
    simp [spec_PairsValid_t, hl, pairsOk, this]
  · have hl' : l.length ≤ 48 := by omega
    have h := iter_all (A := A) (f := spec_PairsValid_t_b0 A k) (fun i => (l, ((i : Int), ()))) l.length (pairAt l) (.inr ((false, ()), ())) (.inl ())
      (fun i hi => by
        have hi' : (i : Int) < (l.length : Int) := by omega
        have w : A.wrapI .i64 ((i : Int) + 1) = (i : Int) + 1 := a_wrap (by omega) (by omega)
        simp only [spec_PairsValid_t_b0, a_cndS, a_ltI, a_lenL, a_le0, a_andB, hi', Int.natCast_nonneg, decide_true, Bool.and_self, if_true, a_atL, Int.toNat_natCast, spec_KeyValid_eq k (by omega : 10 ≤ k), l1In_eq, a_obind_some, a_notB, a_addI, w, pairAt, valOk, a_subI, a_orB, a_lessS, a_eqS]
        rcases Bool.eq_false_or_eq_true (keyOk (l.getD i (([] : List UInt8), ((0 : Int), ()))).1) with hkk | hkk
        case inr => simp only [hkk]; simp
        case inl =>
          by_cases hv : 0 ≤ (l.getD i (([] : List UInt8), ((0 : Int), ()))).2.1 ∧ (l.getD i (([] : List UInt8), ((0 : Int), ()))).2.1 ≤ 999
          · by_cases h0 : i = 0
            · subst h0; simp only [hkk, hv]; simp
            · have h1 : (0 : Int) < (i : Int) := by omega
              have w2 : A.wrapI .i64 ((i : Int) - 1) = (i : Int) - 1 := a_wrap (by omega) (by omega)
              have h2 : (0 : Int) ≤ (i : Int) - 1 := by omega
              have h3 : (i : Int) - 1 < (l.length : Int) := by omega
              have h4 : ((i : Int) - 1).toNat = i - 1 := by omega
              have ht := bless_total (l.getD (i - 1) (([] : List UInt8), ((0 : Int), ()))).1 (l.getD i (([] : List UInt8), ((0 : Int), ()))).1
              simp only [bless] at ht
              simp only [hkk, hv, h1, w2, h2, h3, h4, h0, ht, bless, decide_true, decide_false, Bool.and_self, Bool.true_and, Bool.false_or, if_true, Bool.not_true, Bool.false_eq_true, if_false, and_self]
              rcases Bool.eq_false_or_eq_true (Op.bytesLess (l.getD i (([] : List UInt8), ((0 : Int), ()))).1 (l.getD (i - 1) (([] : List UInt8), ((0 : Int), ()))).1 || decide ((l.getD i (([] : List UInt8), ((0 : Int), ()))).1 = (l.getD (i - 1) (([] : List UInt8), ((0 : Int), ()))).1)) with hq | hq <;> simp only [hq] <;> simp
          · simp only [hkk, hv]; simp)
      (by simp [spec_PairsValid_t_b0]) (k := k) (by omega)
    simp only [Int.natCast_zero, Int.ofNat_zero] at h
    simp only [spec_PairsValid_t, a_cndS, a_ltI, a_lenL, hl, decide_false, Bool.false_eq_true, if_false, h, a_obind_some, pairsOk, hl', decide_true, Bool.true_and]
    cases (List.range l.length).all (pairAt l) <;> simp
theorem impl_PairsValid_eq (k : Nat) (hk : 60 ≤ k) (l : List Pair) : impl_PairsValid_t A k (l, ()) () = some ((pairsOk l, ()), ()) := by
  by_cases hl : (48 : Int) < l.length
  · have : ¬ l.length ≤ 48 := by omega
    simp [impl_PairsValid_t, hl, pairsOk, this]
  · have hl' : l.length ≤ 48 := by omega
    have h := iter_all (A := A) (f := impl_PairsValid_t_b0 A k) (fun i => (l, (l, ((l.length : Int), ((i : Int), ()))))) l.length (pairAt l) (.inr ((false, ()), ())) (.inl ())
      (fun i hi => by
        have hi' : (i : Int) < (l.length : Int) := by omega
        have w : A.wrapI .i64 ((i : Int) + 1) = (i : Int) + 1 := a_wrap (by omega) (by omega)
        simp only [impl_PairsValid_t_b0, a_cndS, a_ltI, a_lenL, a_le0, a_andB, hi', Int.natCast_nonneg, decide_true, Bool.and_self, if_true, a_atL, Int.toNat_natCast, impl_KeyValid_eq k (by omega : 10 ≤ k), valueValid_eq, a_obind_some, a_notB, a_addI, pairAt, valOk, a_subI, a_lessS]
        rcases Bool.eq_false_or_eq_true (keyOk (l.getD i (([] : List UInt8), ((0 : Int), ()))).1) with hkk | hkk
        case inr => simp only [hkk]; simp
        case inl =>
          by_cases hv : 0 ≤ (l.getD i (([] : List UInt8), ((0 : Int), ()))).2.1 ∧ (l.getD i (([] : List UInt8), ((0 : Int), ()))).2.1 ≤ 999
          · by_cases h0 : i = 0
            · subst h0; simp only [hkk, hv]; simp [w]; exact w
            · have h1 : (0 : Int) < (i : Int) := by omega
              have w2 : A.wrapI .i64 ((i : Int) - 1) = (i : Int) - 1 := a_wrap (by omega) (by omega)
              have h2 : (0 : Int) ≤ (i : Int) - 1 := by omega
              have h3 : (i : Int) - 1 < (l.length : Int) := by omega
              have h4 : ((i : Int) - 1).toNat = i - 1 := by omega
              simp only [hkk, hv, h1, w, w2, h2, h3, h4, h0, bless, decide_true, decide_false, Bool.and_self, Bool.true_and, Bool.false_or, if_true, Bool.not_true, Bool.false_eq_true, if_false, and_self, a_sumE_inl, a_obind_some]
              rcases Bool.eq_false_or_eq_true (Op.bytesLess (l.getD (i - 1) (([] : List UInt8), ((0 : Int), ()))).1 (l.getD i (([] : List UInt8), ((0 : Int), ()))).1) with hq | hq <;> simp only [hq] <;> simp
          · simp only [hkk, hv]; simp)
      (by simp [impl_PairsValid_t_b0]) (k := k) (by omega)
    simp only [Int.natCast_zero, Int.ofNat_zero] at h
    simp only [impl_PairsValid_t, a_cndS, a_ltI, a_lenL, hl, decide_false, Bool.false_eq_true, if_false, h, a_obind_some, pairsOk, hl', decide_true, Bool.true_and]
    cases (List.range l.length).all (pairAt l) <;> simp
end Go.Den.T

namespace Go.Den.T
set_option linter.unusedVariables false
set_option linter.unusedSimpArgs false
set_option linter.unusedSectionVars false
variable {A : Atoms} [IsReal A]
def sesP (s q : Ses) (i : Nat) : Bool := decide (0 ≤ s.1 ∧ s.1 ≤ 3) && (decide (1 ≤ s.2.1 ∧ s.2.1 ≤ 999) && (decide (-2 ≤ s.2.2.1 ∧ s.2.2.1 ≤ 999) && (decide (i = 0) || !decide (s.1 ≤ q.1))))
def sesAt (l : List Ses) (i : Nat) : Bool := sesP (l.getD i ((0 : Int), ((0 : Int), ((0 : Int), ())))) (l.getD (i - 1) ((0 : Int), ((0 : Int), ((0 : Int), ())))) i
def sesOk (l : List Ses) : Bool := (List.range l.length).all (sesAt l)
theorem spec_SessionsValid_eq (k : Nat) (l : List Ses) (hk : l.length < k) (hl : l.length ≤ 1000000000) : spec_SessionsValid_t A k (l, ()) () = some ((sesOk l, ()), ()) := by
  have h := iter_all (A := A) (f := spec_SessionsValid_t_b0 A k) (fun i => (l, ((i : Int), ()))) l.length (sesAt l) (.inr ((false, ()), ())) (.inl ())
    (fun i hi => by
      have hi' : (i : Int) < (l.length : Int) := by omega
      have w : A.wrapI .i64 ((i : Int) + 1) = (i : Int) + 1 := a_wrap (by omega) (by omega)
      rw [show sesAt l i = sesP (l.getD i ((0 : Int), ((0 : Int), ((0 : Int), ())))) (l.getD (i - 1) ((0 : Int), ((0 : Int), ((0 : Int), ())))) i from rfl]
      simp only [spec_SessionsValid_t_b0, a_atL, Int.toNat_natCast]
      by_cases h0 : i = 0
      · generalize l.getD i ((0 : Int), ((0 : Int), ((0 : Int), ()))) = s
        subst h0
        obtain ⟨c, q, v, _⟩ := s
        simp only [sesP, l1In_eq, a_obind_some, a_cndS, a_ltI, a_lenL, a_le0, a_andB, hi', a_notB, a_addI, w]
        by_cases h1 : 0 ≤ c ∧ c ≤ 3 <;> by_cases h2 : 1 ≤ q ∧ q ≤ 999 <;> by_cases h3 : -2 ≤ v ∧ v ≤ 999 <;> simp [h1, h2, h3, hi]
      · have g1 : (0 : Int) < (i : Int) := by omega
        have w2 : A.wrapI .i64 (A.subI (i : Int) 1) = (i : Int) - 1 := by rw [a_subI]; exact a_wrap (by omega) (by omega)
        have g2 : (0 : Int) ≤ (i : Int) - 1 := by omega
        have g2' : (1 : Int) ≤ (i : Int) := by omega
        have g3 : (i : Int) - 1 < (l.length : Int) := by omega
        have g4 : ((i : Int) - 1).toNat = i - 1 := by omega
        simp only [w2, g4]
        generalize l.getD i ((0 : Int), ((0 : Int), ((0 : Int), ()))) = s
        generalize l.getD (i - 1) ((0 : Int), ((0 : Int), ((0 : Int), ()))) = s'
        obtain ⟨c, q, v, _⟩ := s
        obtain ⟨c', _⟩ := s'
        simp only [sesP, l1In_eq, a_obind_some, a_cndS, a_ltI, a_lenL, a_le0, a_andB, hi', a_notB, a_addI, w, a_leI]
        by_cases h1 : 0 ≤ c ∧ c ≤ 3 <;> by_cases h2 : 1 ≤ q ∧ q ≤ 999 <;> by_cases h3 : -2 ≤ v ∧ v ≤ 999 <;> by_cases h4 : c ≤ c' <;> simp [h1, h2, h3, h4, hi, g1, g2, g2', g3, h0] <;> omega)
    (by simp [spec_SessionsValid_t_b0]) (k := k) hk
  simp only [Int.natCast_zero, Int.ofNat_zero] at h
  simp only [spec_SessionsValid_t, h, a_obind_some, sesOk]
  cases (List.range l.length).all (sesAt l) <;> simp
theorem impl_SessionsValid_eq (k : Nat) (l : List Ses) (hk : l.length < k) (hl : l.length ≤ 1000000000) : impl_SessionsValid_t A k (l, ()) () = some ((sesOk l, ()), ()) := by
  have h := iter_all (A := A) (f := impl_SessionsValid_t_b0 A k) (fun i => (l, (l, ((l.length : Int), ((i : Int), ()))))) l.length (sesAt l) (.inr ((false, ()), ())) (.inl ())
    (fun i hi => by
      have hi' : (i : Int) < (l.length : Int) := by omega
      have w : A.wrapI .i64 ((i : Int) + 1) = (i : Int) + 1 := a_wrap (by omega) (by omega)
      rw [show sesAt l i = sesP (l.getD i ((0 : Int), ((0 : Int), ((0 : Int), ())))) (l.getD (i - 1) ((0 : Int), ((0 : Int), ((0 : Int), ())))) i from rfl]
      simp only [impl_SessionsValid_t_b0, a_atL, Int.toNat_natCast]
      have hw : ∀ j : Int, A.wrapI .i64 (A.subI j 1) = A.wrapI .i64 (j - 1) := fun j => by rw [a_subI]
      by_cases h0 : i = 0
      · generalize l.getD i ((0 : Int), ((0 : Int), ((0 : Int), ()))) = s
        subst h0
        obtain ⟨c, q, v, _⟩ := s
        simp only [sesP, seqValid_eq, a_obind_some, a_cndS, a_ltI, a_leI, a_lenL, a_le0, a_andB, hi', a_notB]
        by_cases h1 : c < 0
        · have : ¬ (0 ≤ c ∧ c ≤ 3) := by omega
          simp [h1, this, hi]
        by_cases h1' : 4 ≤ c
        · have : ¬ (0 ≤ c ∧ c ≤ 3) := by omega
          simp [h1, h1', this, hi]
        have h1'' : 0 ≤ c ∧ c ≤ 3 := by omega
        by_cases h2 : 1 ≤ q ∧ q ≤ 999
        case neg => simp [h1, h1', h1'', h2, hi]
        by_cases h3 : v < -2
        · have : ¬ (-2 ≤ v ∧ v ≤ 999) := by omega
          simp [h1, h1', h1'', h2, h3, this, hi]
        by_cases h3' : 999 < v
        · have : ¬ (-2 ≤ v ∧ v ≤ 999) := by omega
          simp [h1, h1', h1'', h2, h3, h3', this, hi]
        have h3'' : -2 ≤ v ∧ v ≤ 999 := by omega
        simp [h1, h1', h1'', h2, h3, h3', h3'', hi]; exact w
      · have g1 : 0 < i := by omega
        have w2 : A.wrapI .i64 ((i : Int) - 1) = (i : Int) - 1 := a_wrap (by omega) (by omega)
        have g2' : (1 : Int) ≤ (i : Int) := by omega
        have g2 : (0 : Int) ≤ (i : Int) - 1 := by omega
        have g3 : (i : Int) - 1 < (l.length : Int) := by omega
        have g4 : ((i : Int) - 1).toNat = i - 1 := by omega
        generalize hs : l.getD i ((0 : Int), ((0 : Int), ((0 : Int), ()))) = s
        generalize hs' : l.getD (i - 1) ((0 : Int), ((0 : Int), ((0 : Int), ()))) = s'
        obtain ⟨c, q, v, _⟩ := s
        obtain ⟨c', _⟩ := s'
        have hs2 : l[i - 1]?.getD ((0 : Int), ((0 : Int), ((0 : Int), ()))) = (c', ‹_›) := by simpa [List.getD] using hs'
        simp only [sesP, seqValid_eq, a_obind_some, a_cndS, a_ltI, a_leI, a_lenL, a_le0, a_andB, hi', a_notB]
        by_cases h1 : c < 0
        · have : ¬ (0 ≤ c ∧ c ≤ 3) := by omega
          simp [h1, this, hi]
        by_cases h1' : 4 ≤ c
        · have : ¬ (0 ≤ c ∧ c ≤ 3) := by omega
          simp [h1, h1', this, hi]
        have h1'' : 0 ≤ c ∧ c ≤ 3 := by omega
        by_cases h2 : 1 ≤ q ∧ q ≤ 999
        case neg => simp [h1, h1', h1'', h2, hi]
        by_cases h3 : v < -2
        · have : ¬ (-2 ≤ v ∧ v ≤ 999) := by omega
          simp [h1, h1', h1'', h2, h3, this, hi]
        by_cases h3' : 999 < v
        · have : ¬ (-2 ≤ v ∧ v ≤ 999) := by omega
          simp [h1, h1', h1'', h2, h3, h3', this, hi]
        have h3'' : -2 ≤ v ∧ v ≤ 999 := by omega
        by_cases hq : c ≤ c'
        · have hq' : ¬ c' < c := by omega
          simp [h1, h1', h1'', h2, h3, h3', h3'', g1, w2, g2, g2', g3, g4, h0, w, hi, hs2, hq, hq']
        · have hq' : c' < c := by omega
          simp [h1, h1', h1'', h2, h3, h3', h3'', g1, w2, g2, g2', g3, g4, h0, w, hi, hs2, hq, hq']
      )
    (by simp [impl_SessionsValid_t_b0]) (k := k) hk
  simp only [Int.natCast_zero, Int.ofNat_zero] at h
  simp only [impl_SessionsValid_t, a_lenL, h, a_obind_some, sesOk]
  cases (List.range l.length).all (sesAt l) <;> simp
/-! ### intervals -/
def inside (i : Itv) (s : List UInt8) : Bool := !bless s i.1 && (decide (i.2.1 = []) || bless s i.2.1)
theorem inside_eq (k : Nat) (i : Itv) (s : List UInt8) : impl_inside_t A k (i, (s, ())) () = some ((inside i s, ()), ()) := by
  have ht := bless_total s i.1
  simp only [bless] at ht
  simp only [impl_inside_t, a_cndS, a_orB, a_lessS, a_eqS, inside, bless, ht, Bool.not_not]
  by_cases h : i.2.1 = [] <;> cases (Op.bytesLess i.1 s || decide (i.1 = s)) <;> simp [h]
theorem IntervalHas_eq (k : Nat) (hk : 10 ≤ k) (i : Itv) (s : List UInt8) : spec_IntervalHas_t A k (i, (s, ())) () = some (((itvOk i && (keyOk s && inside i s)), ()), ()) := by
  simp only [spec_IntervalHas_t, spec_IntervalValid_eq k hk, spec_KeyValid_eq k hk, a_obind_some, a_cndS, a_notB, a_lessS, a_eqS, inside, bless]
  cases itvOk i <;> cases keyOk s <;> cases Op.bytesLess s i.1 <;> by_cases h : i.2.1 = [] <;> simp [h]
abbrev itv0 : Itv := ([], ([], ()))
def cut (i : Itv) (s : List UInt8) : Itv × (Itv × (Bool × Unit)) :=
  if (itvOk i && (keyOk s && (itvOk (i.1, (s, ())) && itvOk (s, (i.2.1, ()))))) = true then ((i.1, (s, ())), ((s, (i.2.1, ())), (true, ()))) else (itv0, (itv0, (false, ())))
theorem spec_IntervalCut_eq (k : Nat) (hk : 10 ≤ k) (i : Itv) (s : List UInt8) : spec_IntervalCut_t A k (i, (s, ())) () = some (cut i s, ()) := by
  simp only [spec_IntervalCut_t, spec_IntervalValid_eq k hk, spec_KeyValid_eq k hk, a_obind_some, a_cndS, a_notB, cut]
  cases itvOk i <;> cases keyOk s <;> cases itvOk (i.1, (s, ())) <;> cases itvOk (s, (i.2.1, ())) <;> simp
theorem impl_IntervalCut_eq (k : Nat) (hk : 10 ≤ k) (i : Itv) (s : List UInt8) : impl_IntervalCut_t A k (i, (s, ())) () = some (cut i s, ()) := by
  simp only [impl_IntervalCut_t, impl_IntervalValid_eq k hk, impl_KeyValid_eq k hk, a_obind_some, a_cndS, a_notB, cut]
  cases itvOk i <;> cases keyOk s <;> cases h3 : itvOk (i.1, (s, ())) <;> cases h4 : itvOk (s, (i.2.1, ())) <;> simp [h3, h4]
/-! ### states -/
def stOk (s : Stt) : Bool := itvOk s.1 && (pairsOk s.2.1 && (sesOk s.2.2.1 && (s.2.1.all (fun p => inside s.1 p.1) && (decide (s.2.2.2.2.1 = []) || (s.2.2.2.1 && (cut s.1 s.2.2.2.2.1).2.2.1)))))
theorem pairs_keys {l : List Pair} (h : pairsOk l = true) : l.length ≤ 48 ∧ ∀ p ∈ l, keyOk p.1 = true := by
  simp only [pairsOk, Bool.and_eq_true, decide_eq_true_eq] at h
  refine ⟨h.1, fun p hp => ?_⟩
  obtain ⟨i, hi, rfl⟩ := List.mem_iff_getElem.1 hp
  have := range_all.1 h.2 i hi
  simp only [pairAt, Bool.and_eq_true] at this
  have := this.1
  rwa [getD_lt hi] at this
theorem impl_StateValid_eq (k : Nat) (hk : 60 ≤ k) (s : Stt) (hk2 : s.2.2.1.length < k) (hl : s.2.2.1.length ≤ 1000000000) : impl_StateValid_t A k (s, ()) () = some ((stOk s, ()), ()) := by
  obtain ⟨i, ps, ss, fz, ct, _⟩ := s
  simp only at hk2 hl
  simp only [impl_StateValid_t, impl_IntervalValid_eq k (by omega : 10 ≤ k), impl_PairsValid_eq k hk, impl_SessionsValid_eq k ss hk2 hl, a_obind_some, a_cndS, a_notB, stOk]
  cases itvOk i with
  | false => simp
  | true =>
    cases hp : pairsOk ps with
    | false => simp
    | true =>
      obtain ⟨hp1, hp2⟩ := pairs_keys hp
      cases sesOk ss with
      | false => simp
      | true =>
        have h := iter_all (A := A) (f := impl_StateValid_t_b0 A k) (fun j => (ps, ((ps.length : Int), ((j : Int), ((i, (ps, (ss, (fz, (ct, ()))))), ()))))) ps.length (fun j => inside i (ps.getD j (([] : List UInt8), ((0 : Int), ()))).1) (.inr ((false, ()), ())) (.inl ((i, (ps, (ss, (fz, (ct, ()))))), ()))
          (fun j hj => by
            have w : A.wrapI .i64 ((j : Int) + 1) = (j : Int) + 1 := a_wrap (by omega) (by omega)
            simp [impl_StateValid_t_b0, hj, w, inside_eq]
            cases inside i ps[j].1 <;> simp)
          (by simp [impl_StateValid_t_b0]) (k := k) (by omega)
        have e := all_range (xs := ps) (q := fun p => inside i p.1) (d := (([] : List UInt8), ((0 : Int), ())))
        rw [e] at h
        simp only [Int.natCast_zero, Int.ofNat_zero] at h
        simp only [Bool.not_true, Bool.false_eq_true, if_false, a_sumE_inl, a_lenL, h, a_obind_some, Bool.true_and]
        cases ps.all (fun p => inside i p.1) with
        | false => simp
        | true =>
          by_cases hc : ct = []
          · simp [hc]
          · have hcut := impl_IntervalCut_eq (A := A) k (by omega : 10 ≤ k) i ct
            cases fz <;> simp [hc, hcut]
theorem spec_StateValid_eq (k : Nat) (hk : 60 ≤ k) (s : Stt) (hk2 : s.2.2.1.length < k) (hl : s.2.2.1.length ≤ 1000000000) : spec_StateValid_t A k (s, ()) () = some ((stOk s, ()), ()) := by
  obtain ⟨i, ps, ss, fz, ct, _⟩ := s
  simp only at hk2 hl
  simp only [spec_StateValid_t, spec_IntervalValid_eq k (by omega : 10 ≤ k), spec_PairsValid_eq k hk, spec_SessionsValid_eq k ss hk2 hl, a_obind_some, a_cndS, a_notB, stOk]
  cases hi : itvOk i with
  | false => simp
  | true =>
    cases hp : pairsOk ps with
    | false => simp
    | true =>
      obtain ⟨hp1, hp2⟩ := pairs_keys hp
      cases sesOk ss with
      | false => simp
      | true =>
        have h := iter_all (A := A) (f := spec_StateValid_t_b0 A k) (fun j => ((j : Int), ((i, (ps, (ss, (fz, (ct, ()))))), ()))) ps.length (fun j => inside i (ps.getD j (([] : List UInt8), ((0 : Int), ()))).1) (.inr ((false, ()), ())) (.inl ((i, (ps, (ss, (fz, (ct, ()))))), ()))
          (fun j hj => by
            have w : A.wrapI .i64 ((j : Int) + 1) = (j : Int) + 1 := a_wrap (by omega) (by omega)
            have hkey := hp2 ps[j] (List.getElem_mem hj)
            simp [spec_StateValid_t_b0, hj, w, IntervalHas_eq k (by omega : 10 ≤ k), hi, hkey]
            cases inside i ps[j].1 <;> simp)
          (by simp [spec_StateValid_t_b0]) (k := k) (by omega)
        have e := all_range (xs := ps) (q := fun p => inside i p.1) (d := (([] : List UInt8), ((0 : Int), ())))
        rw [e] at h
        simp only [Int.natCast_zero, Int.ofNat_zero] at h
        simp only [Bool.not_true, Bool.false_eq_true, if_false, a_sumE_inl, h, a_obind_some, Bool.true_and]
        cases ps.all (fun p => inside i p.1) with
        | false => simp
        | true =>
          have hcut := spec_IntervalCut_eq (A := A) k (by omega : 10 ≤ k) i ct
          by_cases hc : ct = []
          · subst hc; simp [hcut]
          · cases fz <;> simp [hc, hcut]
end Go.Den.T

namespace Go.Den.T
set_option linter.unusedVariables false
set_option linter.unusedSimpArgs false
set_option linter.unusedSectionVars false
section
variable {A : Atoms} [IsReal A]
theorem toPairS_eq (k : Nat) (xs : List Pair) (hk : xs.length < k) (hl : xs.length ≤ 1000000000) : laws_toPairS_t A k (xs, ()) () = some ((xs, ()), ()) := by
  have h := to_loop (A := A) (f := laws_toPairS_t_b0 A k) (([] : List UInt8), ((0 : Int), ())) xs hk
    (fun i ys hi hy => by
      have hi' : i < ys.length := by omega
      simp (disch := omega) [laws_toPairS_t_b0, hi, hi', hy, a_wrap, laws_toPair_t])
    (fun ys hy => by simp [laws_toPairS_t_b0])
  have h1 : (xs.length : Int) < 4294967296 := by omega
  simp [laws_toPairS_t, h1, h]
theorem toSessionS_eq (k : Nat) (xs : List Ses) (hk : xs.length < k) (hl : xs.length ≤ 1000000000) : laws_toSessionS_t A k (xs, ()) () = some ((xs, ()), ()) := by
  have h := to_loop (A := A) (f := laws_toSessionS_t_b0 A k) ((0 : Int), ((0 : Int), ((0 : Int), ()))) xs hk
    (fun i ys hi hy => by
      have hi' : i < ys.length := by omega
      simp (disch := omega) [laws_toSessionS_t_b0, hi, hi', hy, a_wrap, laws_toSession_t])
    (fun ys hy => by simp [laws_toSessionS_t_b0])
  have h1 : (xs.length : Int) < 4294967296 := by omega
  simp [laws_toSessionS_t, h1, h]
instance : DecidableEq Pair := inferInstanceAs (DecidableEq (List UInt8 × (Int × Unit)))
instance : DecidableEq Ses := inferInstanceAs (DecidableEq (Int × (Int × (Int × Unit))))
instance : DecidableEq Itv := inferInstanceAs (DecidableEq (List UInt8 × (List UInt8 × Unit)))
set_option synthInstance.maxSize 2000 in
instance : DecidableEq Stt := inferInstanceAs (DecidableEq (Itv × (List Pair × (List Ses × (Bool × (List UInt8 × Unit))))))
instance : DecidableEq Chk := inferInstanceAs (DecidableEq (Int × (Stt × Unit)))
theorem eqPair_eq (k : Nat) (c d : Pair) : laws_eqPair_t A k (c, (d, ())) () = some ((decide (c = d), ()), ()) := by
  obtain ⟨a1, a2, _⟩ := c
  obtain ⟨b1, b2, _⟩ := d
  simp only [laws_eqPair_t, a_cndS, a_notB, a_eqI, a_eqS]
  by_cases h1 : a1 = b1 <;> by_cases h2 : a2 = b2 <;> simp [h1, h2]
theorem eqSession_eq (k : Nat) (c d : Ses) : laws_eqSession_t A k (c, (d, ())) () = some ((decide (c = d), ()), ()) := by
  obtain ⟨a1, a2, a3, _⟩ := c
  obtain ⟨b1, b2, b3, _⟩ := d
  simp only [laws_eqSession_t, a_cndS, a_notB, a_eqI]
  by_cases h1 : a1 = b1 <;> by_cases h2 : a2 = b2 <;> by_cases h3 : a3 = b3 <;> simp [h1, h2, h3]
theorem eqPairS_eq (k : Nat) (xs ys : List Pair) (hk : xs.length < k) (hl : xs.length ≤ 1000000000) : laws_eqPairS_t A k (xs, (ys, ())) () = some ((decide (xs = ys), ()), ()) := by
  by_cases he : xs.length = ys.length
  · have h := eq_loop (A := A) (f := laws_eqPairS_t_b0 A k) (([] : List UInt8), ((0 : Int), ())) xs ys hk he
      (fun i hi => by
        have hi' : i < ys.length := by omega
        simp (disch := omega) [laws_eqPairS_t_b0, hi, hi', a_wrap, eqPair_eq]
        by_cases hv : xs[i] = ys[i] <;> simp [hv])
      (by simp [laws_eqPairS_t_b0])
    simp only [laws_eqPairS_t, a_lenL, he, a_eqI, decide_true, a_notB, Bool.not_true, a_cndS, Bool.false_eq_true, if_false, h]
    by_cases hv : xs = ys <;> simp [hv]
  · have h2 : ¬ (xs.length : Int) = ys.length := by omega
    have h3 : ¬ xs = ys := fun e => he (by rw [e])
    simp [laws_eqPairS_t, h2, h3]
theorem eqSessionS_eq (k : Nat) (xs ys : List Ses) (hk : xs.length < k) (hl : xs.length ≤ 1000000000) : laws_eqSessionS_t A k (xs, (ys, ())) () = some ((decide (xs = ys), ()), ()) := by
  by_cases he : xs.length = ys.length
  · have h := eq_loop (A := A) (f := laws_eqSessionS_t_b0 A k) ((0 : Int), ((0 : Int), ((0 : Int), ()))) xs ys hk he
      (fun i hi => by
        have hi' : i < ys.length := by omega
        simp (disch := omega) [laws_eqSessionS_t_b0, hi, hi', a_wrap, eqSession_eq]
        by_cases hv : xs[i] = ys[i] <;> simp [hv])
      (by simp [laws_eqSessionS_t_b0])
    simp only [laws_eqSessionS_t, a_lenL, he, a_eqI, decide_true, a_notB, Bool.not_true, a_cndS, Bool.false_eq_true, if_false, h]
    by_cases hv : xs = ys <;> simp [hv]
  · have h2 : ¬ (xs.length : Int) = ys.length := by omega
    have h3 : ¬ xs = ys := fun e => he (by rw [e])
    simp [laws_eqSessionS_t, h2, h3]
def StShort (s : Stt) : Prop := s.2.1.length ≤ 1048576 ∧ s.2.2.1.length ≤ 1048576
theorem toState_eq (k : Nat) (hk : 2000000 ≤ k) (s : Stt) (h : StShort s) : laws_toState_t A k (s, ()) () = some ((s, ()), ()) := by
  simp [laws_toState_t, laws_toInterval_t, toPairS_eq k s.2.1 (by have := h.1; omega) (by have := h.1; omega), toSessionS_eq k s.2.2.1 (by have := h.2; omega) (by have := h.2; omega)]
theorem eqInterval_eq (k : Nat) (c d : Itv) : laws_eqInterval_t A k (c, (d, ())) () = some ((decide (c = d), ()), ()) := by
  obtain ⟨a1, a2, _⟩ := c
  obtain ⟨b1, b2, _⟩ := d
  simp only [laws_eqInterval_t, a_cndS, a_notB, a_eqS]
  by_cases h1 : a1 = b1 <;> by_cases h2 : a2 = b2 <;> simp [h1, h2]
theorem eqState_eq (k : Nat) (hk : 2000000 ≤ k) (c d : Stt) (h : StShort c) : laws_eqState_t A k (c, (d, ())) () = some ((decide (c = d), ()), ()) := by
  obtain ⟨a1, a2, a3, a4, a5, _⟩ := c
  obtain ⟨b1, b2, b3, b4, b5, _⟩ := d
  have g1 : a2.length ≤ 1048576 := h.1
  have g2 : a3.length ≤ 1048576 := h.2
  simp only [laws_eqState_t, eqInterval_eq, eqPairS_eq k a2 b2 (by omega) (by omega), eqSessionS_eq k a3 b3 (by omega) (by omega), a_obind_some, a_cndS, a_notB, a_eqB, a_eqS]
  by_cases h1 : a1 = b1
  · by_cases h2 : a2 = b2
    · by_cases h3 : a3 = b3
      · by_cases h4 : a4 = b4 <;> by_cases h5 : a5 = b5 <;> simp [h1, h2, h3, h4, h5]
      · simp [h1, h2, h3]
    · simp [h1, h2]
  · simp [h1]
def StFit (s : Stt) : Prop := s.1.1.length ≤ 9223372036854775807 ∧ s.1.2.1.length ≤ 9223372036854775807 ∧ s.2.1.length ≤ 9223372036854775807 ∧ (∀ p ∈ s.2.1, p.1.length ≤ 9223372036854775807) ∧ s.2.2.1.length ≤ 9223372036854775807 ∧ s.2.2.2.2.1.length ≤ 9223372036854775807
theorem szPairS_ok (k : Nat) (xs : List Pair) (n : Int) (hn : 0 ≤ n) (hn1 : n ≤ 1048576) (hk : 2000000 ≤ k) (hl : xs.length ≤ 9223372036854775807) (hs : ∀ p ∈ xs, p.1.length ≤ 9223372036854775807) :
    Ok (laws_szPairS_t A k (xs, (n, ())) ()) (fun q => q.1.1 = -1 ∨ (0 ≤ q.1.1 ∧ q.1.1 ≤ n ∧ xs.length ≤ 1048576)) := by
  have w : A.wrapI .i64 (n - (xs.length : Int)) = n - (xs.length : Int) := a_wrap (by omega) (by omega)
  rw [laws_szPairS_t, ok_cndS]
  simp only [a_lenL, a_subI, w, a_ltI, decide_eq_true_eq, decide_eq_false_iff_not]
  refine ⟨fun _ => ok_some.2 (.inl rfl), fun h => ?_⟩
  refine (sz_loop (A := A) (f := laws_szPairS_t_b0 A k) xs (n - xs.length) (by omega) (by omega) (fun i m hi h0 h1 => ?_) (fun m => by simp [laws_szPairS_t_b0])).bind fun r hr => ?_
  · have he := hs xs[i] (List.getElem_mem hi)
    have w2 : A.wrapI .i64 (m - (xs[i].1.length : Int)) = m - (xs[i].1.length : Int) := a_wrap (by omega) (by omega)
    by_cases hm : m - (xs[i].1.length : Int) < 0
    · refine ⟨.inr (.inr ((-1, ()), ())), ?_, .inr rfl⟩
      simp (disch := omega) [laws_szPairS_t_b0, hi, a_wrap, laws_szPair_t, w2, hm]
    · refine ⟨.inl (xs, (m - (xs[i].1.length : Int), (((i + 1 : Nat) : Int), ()))), ?_, .inl ⟨_, rfl, by omega, by omega⟩⟩
      simp (disch := omega) [laws_szPairS_t_b0, hi, a_wrap, laws_szPair_t, w2, hm]
  · rcases hr with ⟨m, rfl, h0, h1⟩ | rfl
    · rw [a_sumE_inl]; exact ok_some.2 (.inr ⟨h0, by show m ≤ n; omega, by omega⟩)
    · rw [a_sumE_inr]; exact ok_some.2 (.inl rfl)
end
abbrev TItv : Ty := .prod .str (.prod .str .unit)
abbrev TPair : Ty := .prod .str (.prod (.int .i64) .unit)
abbrev TSes : Ty := .prod (.int .i64) (.prod (.int .i64) (.prod (.int .i64) .unit))
abbrev TStt : Ty := .prod TItv (.prod (.slice TPair) (.prod (.slice TSes) (.prod .bool (.prod .str .unit))))
theorem st_fit {s : TStt.val} (h : InR TStt s) : StFit s :=
  ⟨Nat.le_trans h.1.1 (by decide), Nat.le_trans h.1.2.1 (by decide), Nat.le_trans h.2.1.1 (by decide), fun p hp => Nat.le_trans (h.2.1.2 p hp).1 (by decide), Nat.le_trans h.2.2.1.1 (by decide), Nat.le_trans h.2.2.2.2.1 (by decide)⟩
end Go.Den.T
