/- Exact laws: lists of entries, replicas, messages. -/
import Derived.Test.YtbfndjfjkkfaeaaXTr2
import Derived.Test.YtbfndjfjkkfaeaaXV1

namespace Go.Den.T
set_option linter.unusedVariables false
set_option linter.unusedSimpArgs false
set_option linter.unusedSectionVars false
variable {A : Atoms} [IsReal A]
/-! ### loops over lists -/
theorem eq_loop {α : Type} [DecidableEq α] {f : List α × (List α × (Int × Unit)) → Option ((List α × (List α × (Int × Unit))) ⊕ (Unit ⊕ ((Bool × Unit) × Unit)))} {k : Nat} (d : α) (xs ys : List α) (hk : xs.length < k) (he : xs.length = ys.length)
    (hs : ∀ i : Nat, i < xs.length → f (xs, (ys, ((i : Int), ()))) = some (if (decide (xs.getD i d = ys.getD i d)) = true then .inl (xs, (ys, (((i + 1 : Nat) : Int), ()))) else .inr (.inr ((false, ()), ()))))
    (hd : f (xs, (ys, (((xs.length : Nat) : Int), ()))) = some (.inr (.inl ()))) : A.iter k f (xs, (ys, (0, ()))) = some (if xs = ys then .inl () else .inr ((false, ()), ())) := by
  have h := iter_all (A := A) (f := f) (fun i => (xs, (ys, ((i : Int), ())))) xs.length (fun i => decide (xs.getD i d = ys.getD i d)) (.inr ((false, ()), ())) (.inl ()) hs hd hk
  have e : (List.range xs.length).all (fun i => decide (xs.getD i d = ys.getD i d)) = decide (xs = ys) := by
    rw [Bool.eq_iff_iff, range_all, decide_eq_true_eq]
    constructor
    · intro hh
      refine List.ext_getElem he fun i h1 h2 => ?_
      have := hh i h1
      rw [getD_lt h1, getD_lt h2] at this; simpa using this
    · intro e i _; subst e; simp
  rw [e] at h
  simpa using h
/-! ### entries -/
instance : DecidableEq Cmd := inferInstanceAs (DecidableEq (Int × (List UInt8 × (Int × (Int × Unit)))))
instance : DecidableEq Ent := inferInstanceAs (DecidableEq (Int × (Int × (Cmd × Unit))))
abbrev ent0 : Ent := (0, (0, ((0, ([], (0, (0, ())))), ())))
theorem eqCommand_eq (k : Nat) (c d : Cmd) : laws_eqCommand_t A k (c, (d, ())) () = some ((decide (c = d), ()), ()) := by
  obtain ⟨a1, a2, a3, a4, _⟩ := c
  obtain ⟨b1, b2, b3, b4, _⟩ := d
  simp only [laws_eqCommand_t, a_cndS, a_notB, a_eqI, a_eqS]
  by_cases h1 : a1 = b1
  · by_cases h2 : a2 = b2
    · by_cases h3 : a3 = b3
      · by_cases h4 : a4 = b4 <;> simp [h1, h2, h3, h4]
      · simp [h1, h2, h3]
    · simp [h1, h2]
  · simp [h1]
theorem eqEntry_eq (k : Nat) (c d : Ent) : laws_eqEntry_t A k (c, (d, ())) () = some ((decide (c = d), ()), ()) := by
  obtain ⟨a1, a2, a3, _⟩ := c
  obtain ⟨b1, b2, b3, _⟩ := d
  simp only [laws_eqEntry_t, eqCommand_eq, a_obind_some, a_cndS, a_notB, a_eqI]
  by_cases h1 : a1 = b1
  · by_cases h2 : a2 = b2
    · by_cases h3 : a3 = b3 <;> simp [h1, h2, h3]
    · simp [h1, h2]
  · simp [h1]
theorem eqEntryS_eq (k : Nat) (xs ys : List Ent) (hk : xs.length < k) (hl : xs.length ≤ 1000000000) : laws_eqEntryS_t A k (xs, (ys, ())) () = some ((decide (xs = ys), ()), ()) := by
  by_cases he : xs.length = ys.length
  · have h := eq_loop (A := A) (f := laws_eqEntryS_t_b0 A k) ent0 xs ys hk he
      (fun i hi => by
        have hi' : i < ys.length := by omega
        simp (disch := omega) [laws_eqEntryS_t_b0, hi, hi', a_wrap, eqEntry_eq]
        by_cases hv : xs[i] = ys[i] <;> simp [hv])
      (by simp [laws_eqEntryS_t_b0])
    simp only [laws_eqEntryS_t, a_lenL, he, a_eqI, decide_true, a_notB, Bool.not_true, a_cndS, Bool.false_eq_true, if_false, h]
    by_cases hv : xs = ys <;> simp [hv]
  · have h2 : ¬ (xs.length : Int) = ys.length := by omega
    have h3 : ¬ xs = ys := fun e => he (by rw [e])
    simp [laws_eqEntryS_t, h2, h3]
/-! ### replicas -/
abbrev Rep := Cfg × (Bool × (List Ent × Unit))
abbrev Msg := Int × (Int × (Int × (Cfg × (List Ent × Unit))))
instance : DecidableEq Cfg := inferInstanceAs (DecidableEq (Int × (List Int × (Bool × Unit))))
instance : DecidableEq Rep := inferInstanceAs (DecidableEq (Cfg × (Bool × (List Ent × Unit))))
set_option synthInstance.maxSize 1000 in
instance : DecidableEq Msg := inferInstanceAs (DecidableEq (Int × (Int × (Int × (Cfg × (List Ent × Unit))))))
def logOk (l : List Ent) : Bool := decide (l.length ≤ 24) && l.all entOk
end Go.Den.T
