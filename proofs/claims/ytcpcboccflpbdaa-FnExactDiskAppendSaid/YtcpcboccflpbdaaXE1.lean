/- Exact laws: copies, marks, what is held. -/
import Derived.Test.YtcpcboccflpbdaaXC1

namespace Go.Den.T
set_option linter.unusedVariables false
set_option linter.unusedSimpArgs false
variable {A : Atoms} [IsReal A]
theorem fill_step {α : Type} (xs : List α) (d e : α) (i n : Nat) (hn : n = xs.length) (h : i < n) : (xs.take i ++ List.replicate (n - i) d).set i (xs.getD i e) = xs.take (i + 1) ++ List.replicate (n - (i + 1)) d := by
  subst hn
  rw [List.set_append_right _ _ (by simp; omega)]
  have e1 : i - (xs.take i).length = 0 := by simp; omega
  have e2 : xs.length - i = (xs.length - (i + 1)) + 1 := by omega
  rw [e1, e2, List.replicate_succ, List.set_cons_zero, List.take_succ_eq_append_getElem h, getD_lt h, List.append_assoc]
  rfl
theorem toIntS_eq (k : Nat) (xs : List Int) (hk : xs.length < k) (hl : xs.length ≤ 1000000000) : laws_toIntS_t A k (xs, ()) () = some ((xs, ()), ()) := by
  have h := iter_for (A := A) (f := laws_toIntS_t_b0 A k) (fun i => (xs, ((i : Int), (xs.take i ++ List.replicate (xs.length - i) 0, ())))) xs.length (xs, ())
    (fun i hi => by
      have e : min i xs.length + (xs.length - i) = xs.length := by omega
      have := fill_step xs 0 0 i xs.length rfl hi
      rw [getD_lt hi] at this
      simp (disch := omega) [laws_toIntS_t_b0, hi, a_wrap, e, this])
    (by simp [laws_toIntS_t_b0]) hk
  have h1 : (xs.length : Int) < 4294967296 := by omega
  simp [laws_toIntS_t, h1]
  simp at h
  rw [h]; simp
theorem szIntS_eq (k : Nat) (xs : List Int) (n : Int) (h : 0 ≤ n) (h1 : n ≤ 1000000000000) (hl : xs.length ≤ 9223372036854775807) : laws_szIntS_t A k (xs, (n, ())) () = some (((if n < xs.length then -1 else n - xs.length), ()), ()) := by
  by_cases hh : n < xs.length
  · have : n - (xs.length : Int) < 0 := by omega
    simp (disch := omega) [laws_szIntS_t, a_wrap, hh, this]
  · have : ¬ n - (xs.length : Int) < 0 := by omega
    simp (disch := omega) [laws_szIntS_t, a_wrap, hh, this]
theorem list_eq_iff {xs ys : List Int} (h : xs.length = ys.length) : (List.range xs.length).all (fun i => decide (xs.getD i 0 = ys.getD i 0)) = decide (xs = ys) := by
  rw [Bool.eq_iff_iff, range_all, decide_eq_true_eq]
  constructor
  · intro hh
    refine List.ext_getElem h fun i h1 h2 => ?_
    have := hh i h1
    rw [getD_lt h1, getD_lt h2] at this; simpa using this
  · intro e i _; subst e; simp
theorem eqIntS_eq (k : Nat) (xs ys : List Int) (hk : xs.length < k) (hl : xs.length ≤ 1000000000) : laws_eqIntS_t A k (xs, (ys, ())) () = some ((decide (xs = ys), ()), ()) := by
  by_cases he : xs.length = ys.length
  · have h := iter_all (A := A) (f := laws_eqIntS_t_b0 A k) (fun i => (xs, (ys, ((i : Int), ())))) xs.length (fun i => decide (xs.getD i 0 = ys.getD i 0)) (.inr ((false, ()), ())) (.inl ())
      (fun i hi => by
        have hi' : i < ys.length := by omega
        simp (disch := omega) [laws_eqIntS_t_b0, hi, hi', a_wrap]
        by_cases hv : xs[i] = ys[i] <;> simp [hv])
      (by simp [laws_eqIntS_t_b0]) hk
    rw [list_eq_iff he] at h
    simp [laws_eqIntS_t, he]
    simp at h
    rw [h]
    by_cases hv : xs = ys <;> simp [hv]
  · have h2 : ¬ (xs.length : Int) = ys.length := by omega
    have h3 : ¬ xs = ys := fun e => he (by rw [e])
    simp [laws_eqIntS_t, h2, h3]
/-- the numbers n, n+1, .. -/
def marks (n : Int) (m : Nat) : List Int := (List.range m).map fun i : Nat => n + (i : Int)
@[simp] theorem marks_len (n : Int) (m : Nat) : (marks n m).length = m := by simp [marks]
theorem marks_get {n : Int} {m i : Nat} (h : i < m) : (marks n m).getD i 0 = n + i := by rw [getD_lt (by simpa using h)]; simp [marks]
theorem marks_succ (n : Int) (m : Nat) : marks n (m + 1) = marks n m ++ [n + m] := by simp [marks, List.range_succ]
theorem mark_step (xs : List Int) (n : Int) (i : Nat) (h : i < xs.length) : (marks n i ++ xs.drop i).set i (n + i) = marks n (i + 1) ++ xs.drop (i + 1) := by
  rw [List.set_append_right _ _ (by simp)]
  simp only [marks_len, Nat.sub_self]
  rw [List.drop_eq_getElem_cons h, List.set_cons_zero, marks_succ]
  simp
theorem markIntS_eq (k : Nat) (n : Int) (xs : List Int) (hk : xs.length < k) (hl : xs.length ≤ 1000000000) (h0 : 0 ≤ n) (h1 : n ≤ 1000000000000) : laws_markIntS_t A k ((), (n, ())) xs = some ((n + xs.length, ()), marks n xs.length) := by
  have h := iter_for (A := A) (f := laws_markIntS_t_b0 A k) (fun i => (n + (i : Int), ((i : Int), (marks n i ++ xs.drop i, ())))) xs.length (n + (xs.length : Int), (marks n xs.length, ()))
    (fun i hi => by
      have e : i + (xs.length - i) = xs.length := by omega
      have := mark_step xs n i hi
      simp (disch := omega) [laws_markIntS_t_b0, hi, a_wrap, e, this]
      omega)
    (by simp [laws_markIntS_t_b0]) hk
  have z : marks n 0 = [] := rfl
  simp [z] at h
  simp [laws_markIntS_t, h]
theorem heldIntS_eq (k : Nat) (n : Int) (m : Nat) (hk : m < k) (hl : m ≤ 1000000000) (h0 : 0 ≤ n) (h1 : n ≤ 1000000000000) : laws_heldIntS_t A k (marks n m, (n, ())) () = some ((n + m, ()), ()) := by
  have h := iter_for (A := A) (f := laws_heldIntS_t_b0 A k) (fun i => (marks n m, (n + (i : Int), ((i : Int), ())))) m (.inl (n + (m : Int), ()))
    (fun i hi => by
      have e := marks_get (n := n) hi
      have hx : (marks n m)[i]?.getD 0 = n + i := by simpa [List.getD] using e
      simp (disch := omega) [laws_heldIntS_t_b0, hi, a_wrap, hx]
      omega)
    (by simp [laws_heldIntS_t_b0]) hk
  simp at h
  simp [laws_heldIntS_t, h]
end Go.Den.T
