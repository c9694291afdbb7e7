/- Exact laws: copies, marks, what is held. -/
import Derived.Test.YtkgmjndeeljpjaaXC1

namespace Go.Den.T
set_option linter.unusedVariables false
set_option linter.unusedSimpArgs false
variable {A : Atoms} [IsReal A]
theorem fill_step {α : Type} (xs : List α) (d e : α) (i n : Nat) (hn : n = xs.length) (h : i < n) : (xs.take i ++ List.replicate (n - i) d).set i (xs.getD i e) = xs.take (i + 1) ++ List.replicate (n - (i + 1)) d := by
  subst hn
  rw [List.set_append_right _ _ (by simp; omega)]
  have e1 : i - (xs.take i).length = 0 := by simp; omega
  have e2 : xs.length - i = (xs.length - (i + 1)) + 1 := by omega
  rw [e1, e2, List.replicate_succ, List.set_cons_zero, List.take_succ_eq_append_getElem h, getD_lt h, List.append_assoc]
  rfl
theorem toIntS_eq (k : Nat) (xs : List Int) (hk : xs.length < k) (hl : xs.length ≤ 1000000000) : laws_toIntS_t A k (xs, ()) () = some ((xs, ()), ()) := by
  have h := iter_for (A := A) (f := laws_toIntS_t_b0 A k) (fun i => (xs, ((i : Int), (xs.take i ++ List.replicate (xs.length - i) 0, ())))) xs.length (xs, ())
    (fun i hi => by
      have e : min i xs.length + (xs.length - i) = xs.length := by omega
      have := fill_step xs 0 0 i xs.length rfl hi
      rw [getD_lt hi] at this
      simp (disch := omega) [laws_toIntS_t_b0, hi, a_wrap, e, this])
    (by simp [laws_toIntS_t_b0]) hk
  have h1 : (xs.length : Int) < 4294967296 := by omega
  simp [laws_toIntS_t, h1]
  simp at h
  rw [h]; simp
theorem toConfig_eq (k : Nat) (c : Cfg) (hk : c.2.1.length < k) (hl : c.2.1.length ≤ 1000000000) : laws_toConfig_t A k (c, ()) () = some ((c, ()), ()) := by
  simp [laws_toConfig_t, toIntS_eq k c.2.1 hk hl]
theorem szIntS_eq (k : Nat) (xs : List Int) (n : Int) (h : 0 ≤ n) (h1 : n ≤ 1000000000000) (hl : xs.length ≤ 9223372036854775807) : laws_szIntS_t A k (xs, (n, ())) () = some (((if n < xs.length then -1 else n - xs.length), ()), ()) := by
  by_cases hh : n < xs.length
  · have : n - (xs.length : Int) < 0 := by omega
    simp (disch := omega) [laws_szIntS_t, a_wrap, hh, this]
  · have : ¬ n - (xs.length : Int) < 0 := by omega
    simp (disch := omega) [laws_szIntS_t, a_wrap, hh, this]
theorem szConfig_eq (k : Nat) (c : Cfg) (n : Int) (h : 0 ≤ n) (h1 : n ≤ 1000000000000) (hl : c.2.1.length ≤ 9223372036854775807) : laws_szConfig_t A k (c, (n, ())) () = some (((if n < c.2.1.length then -1 else n - c.2.1.length), ()), ()) := by
  by_cases hh : n < c.2.1.length
  · simp [laws_szConfig_t, szIntS_eq k c.2.1 n h h1 hl, hh]
  · have : ¬ n - (c.2.1.length : Int) < 0 := by omega
    simp [laws_szConfig_t, szIntS_eq k c.2.1 n h h1 hl, hh, this]
theorem list_eq_iff {xs ys : List Int} (h : xs.length = ys.length) : (List.range xs.length).all (fun i => decide (xs.getD i 0 = ys.getD i 0)) = decide (xs = ys) := by
  rw [Bool.eq_iff_iff, range_all, decide_eq_true_eq]
  constructor
  · intro hh
    refine List.ext_getElem h fun i h1 h2 => ?_
    have := hh i h1
    rw [getD_lt h1, getD_lt h2] at this; simpa using this
  · intro e i _; subst e; simp
theorem eqIntS_eq (k : Nat) (xs ys : List Int) (hk : xs.length < k) (hl : xs.length ≤ 1000000000) : laws_eqIntS_t A k (xs, (ys, ())) () = some ((decide (xs = ys), ()), ()) := by
  by_cases he : xs.length = ys.length
  · have h := iter_all (A := A) (f := laws_eqIntS_t_b0 A k) (fun i => (xs, (ys, ((i : Int), ())))) xs.length (fun i => decide (xs.getD i 0 = ys.getD i 0)) (.inr ((false, ()), ())) (.inl ())
      (fun i hi => by
        have hi' : i < ys.length := by omega
        simp (disch := omega) [laws_eqIntS_t_b0, hi, hi', a_wrap]
        by_cases hv : xs[i] = ys[i] <;> simp [hv])
      (by simp [laws_eqIntS_t_b0]) hk
    rw [list_eq_iff he] at h
    simp [laws_eqIntS_t, he]
    simp at h
    rw [h]
    by_cases hv : xs = ys <;> simp [hv]
  · have h2 : ¬ (xs.length : Int) = ys.length := by omega
    have h3 : ¬ xs = ys := fun e => he (by rw [e])
    simp [laws_eqIntS_t, h2, h3]
theorem eqConfig_eq (k : Nat) (c d : Cfg) (hk : c.2.1.length < k) (hl : c.2.1.length ≤ 1000000000) : laws_eqConfig_t A k (c, (d, ())) () = some ((decide (c = d), ()), ()) := by
  obtain ⟨e1, xs, f1, _⟩ := c
  obtain ⟨e2, ys, f2, _⟩ := d
  simp only at hk hl
  simp [laws_eqConfig_t, eqIntS_eq k xs ys hk hl]
  by_cases h1 : e1 = e2
  · by_cases h2 : xs = ys
    · by_cases h3 : f1 = f2 <;> simp [h1, h2, h3]
    · simp [h1, h2]
  · simp [h1]
/-- the numbers n, n+1, .. -/
def marks (n : Int) (m : Nat) : List Int := (List.range m).map fun i : Nat => n + (i : Int)
@[simp] theorem marks_len (n : Int) (m : Nat) : (marks n m).length = m := by simp [marks]
theorem marks_get {n : Int} {m i : Nat} (h : i < m) : (marks n m).getD i 0 = n + i := by rw [getD_lt (by simpa using h)]; simp [marks]
theorem marks_succ (n : Int) (m : Nat) : marks n (m + 1) = marks n m ++ [n + m] := by simp [marks, List.range_succ]
theorem mark_step (xs : List Int) (n : Int) (i : Nat) (h : i < xs.length) : (marks n i ++ xs.drop i).set i (n + i) = marks n (i + 1) ++ xs.drop (i + 1) := by
  rw [List.set_append_right _ _ (by simp)]
  simp only [marks_len, Nat.sub_self]
  rw [List.drop_eq_getElem_cons h, List.set_cons_zero, marks_succ]
  simp
end Go.Den.T
