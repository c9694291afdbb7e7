/- Exact laws: lists of entries, replicas, messages. -/
import Derived.Test.YtkgmjndeeljpjaaXTr2
import Derived.Test.YtkgmjndeeljpjaaXV1

namespace Go.Den.T
set_option linter.unusedVariables false
set_option linter.unusedSimpArgs false
set_option linter.unusedSectionVars false
variable {A : Atoms} [IsReal A]
/-! ### loops over lists -/
theorem eq_loop {α : Type} [DecidableEq α] {f : List α × (List α × (Int × Unit)) → Option ((List α × (List α × (Int × Unit))) ⊕ (Unit ⊕ ((Bool × Unit) × Unit)))} {k : Nat} (d : α) (xs ys : List α) (hk : xs.length < k) (he : xs.length = ys.length)
    (hs : ∀ i : Nat, i < xs.length → f (xs, (ys, ((i : Int), ()))) = some (if (decide (xs.getD i d = ys.getD i d)) = true then .inl (xs, (ys, (((i + 1 : Nat) : Int), ()))) else .inr (.inr ((false, ()), ()))))
    (hd : f (xs, (ys, (((xs.length : Nat) : Int), ()))) = some (.inr (.inl ()))) : A.iter k f (xs, (ys, (0, ()))) = some (if xs = ys then .inl () else .inr ((false, ()), ())) := by
  have h := iter_all (A := A) (f := f) (fun i => (xs, (ys, ((i : Int), ())))) xs.length (fun i => decide (xs.getD i d = ys.getD i d)) (.inr ((false, ()), ())) (.inl ()) hs hd hk
  have e : (List.range xs.length).all (fun i => decide (xs.getD i d = ys.getD i d)) = decide (xs = ys) := by
    rw [Bool.eq_iff_iff, range_all, decide_eq_true_eq]
    constructor
    · intro hh
      refine List.ext_getElem he fun i h1 h2 => ?_
      have := hh i h1
      rw [getD_lt h1, getD_lt h2] at this; simpa using this
    · intro e i _; subst e; simp
  rw [e] at h
  simpa using h
/-! ### entries -/
instance : DecidableEq Cmd := inferInstanceAs (DecidableEq (Int × (List UInt8 × (Int × (Int × Unit)))))
instance : DecidableEq Ent := inferInstanceAs (DecidableEq (Int × (Int × (Cmd × Unit))))
abbrev ent0 : Ent := (0, (0, ((0, ([], (0, (0, ())))), ())))
/-! ### replicas -/
abbrev Rep := Cfg × (Bool × (List Ent × Unit))
abbrev Msg := Int × (Int × (Int × (Cfg × (List Ent × Unit))))
instance : DecidableEq Cfg := inferInstanceAs (DecidableEq (Int × (List Int × (Bool × Unit))))
instance : DecidableEq Rep := inferInstanceAs (DecidableEq (Cfg × (Bool × (List Ent × Unit))))
set_option synthInstance.maxSize 1000 in
instance : DecidableEq Msg := inferInstanceAs (DecidableEq (Int × (Int × (Int × (Cfg × (List Ent × Unit))))))
def logOk (l : List Ent) : Bool := decide (l.length ≤ 24) && l.all entOk
end Go.Den.T
