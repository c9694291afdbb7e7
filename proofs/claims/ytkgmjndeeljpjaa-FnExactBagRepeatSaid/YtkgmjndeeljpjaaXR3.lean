/- Bags of messages. -/
import Derived.Test.YtkgmjndeeljpjaaXR2

namespace Go.Den.T
set_option linter.unusedVariables false
set_option linter.unusedSimpArgs false
set_option linter.unusedSectionVars false
section
variable {A : Atoms} [IsReal A]
def bagOk (l : List Msg) : Bool := decide (l.length ≤ 10) && l.all msgOk
theorem impl_BagValid_eq (k : Nat) (hk : 30 ≤ k) (l : List Msg) : impl_BagValid_t A k (l, ()) () = some ((bagOk l, ()), ()) := by
  by_cases hl : (10 : Int) < l.length
  · have : ¬ l.length ≤ 10 := by omega
    simp [impl_BagValid_t, hl, bagOk, this]
  · have hl' : l.length ≤ 10 := by omega
    have h := iter_all (A := A) (f := impl_BagValid_t_b0 A k) (fun i => (l, ((l.length : Int), ((i : Int), ())))) l.length (fun i => msgOk (l.getD i ((0 : Int), ((0 : Int), ((0 : Int), (((0 : Int), (([] : List Int), (false, ()))), (([] : List Ent), ()))))))) (.inr ((false, ()), ())) (.inl ())
      (fun i hi => by
        simp (disch := omega) [impl_BagValid_t_b0, hi, a_wrap, impl_MessageValid_eq k hk]
        cases msgOk l[i] <;> simp)
      (by simp [impl_BagValid_t_b0]) (k := k) (by omega)
    rw [all_range] at h
    simp only [Int.natCast_zero, Int.ofNat_zero] at h
    simp only [impl_BagValid_t, a_cndS, a_ltI, a_lenL, hl, decide_false, Bool.false_eq_true, if_false, h, a_obind_some, bagOk, hl', decide_true, Bool.true_and]
    cases l.all msgOk <;> simp
theorem spec_BagValid_eq (k : Nat) (hk : 30 ≤ k) (l : List Msg) : spec_BagValid_t A k (l, ()) () = some ((bagOk l, ()), ()) := by
  have h : Ok (A.iter k (spec_BagValid_t_b0 A k) (l, (0, ()))) (fun r => r = if bagOk l = true then .inl () else .inr ((false, ()), ())) := by
    refine iter_ok (fun j s => ∃ i : Nat, s = (l, ((i : Int), ())) ∧ i + j = 10 ∧ i ≤ l.length ∧ (l.take i).all msgOk = true) _ ?_ (n := 10) (by omega) ⟨0, rfl, by omega, by omega, rfl⟩
    rintro j s ⟨i, rfl, hij, hil, hall⟩
    by_cases hi : i < l.length
    · have hi' : (i : Int) < (l.length : Int) := by omega
      by_cases h24 : (10 : Int) ≤ (i : Int)
      · have : ¬ l.length ≤ 10 := by omega
        refine ⟨.inr (.inr ((false, ()), ())), by simp [spec_BagValid_t_b0, hi, h24], fun s' e => (by cases e), fun e he => ?_⟩
        injection he with he; subst he
        simp [bagOk, this]
      · have w : A.wrapI .i64 ((i : Int) + 1) = (i : Int) + 1 := a_wrap (by omega) (by omega)
        by_cases hv : msgOk l[i] = true
        · refine ⟨.inl (l, (((i + 1 : Nat) : Int), ())), by simp [spec_BagValid_t_b0, hi, h24, w, spec_MessageValid_eq k hk, hv], fun s' e => ?_, fun e he => (by cases he)⟩
          injection e with e; subst e
          refine ⟨j - 1, by omega, i + 1, rfl, by omega, by omega, ?_⟩
          rw [List.take_succ_eq_append_getElem hi, List.all_append, hall]; simp [hv]
        · refine ⟨.inr (.inr ((false, ()), ())), by simp [spec_BagValid_t_b0, hi, h24, w, spec_MessageValid_eq k hk, hv], fun s' e => (by cases e), fun e he => ?_⟩
          injection he with he; subst he
          have : l.all msgOk = false := by
            rw [← Bool.not_eq_true, List.all_eq_true]
            exact fun h => hv (h _ (List.getElem_mem hi))
          simp [bagOk, this]
    · have : i = l.length := by omega
      subst this
      rw [List.take_length] at hall
      refine ⟨.inr (.inl ()), by simp [spec_BagValid_t_b0], fun s' e => (by cases e), fun e he => ?_⟩
      injection he with he; subst he
      have : l.length ≤ 10 := by omega
      simp only [bagOk, this, hall, decide_true, Bool.and_self, if_true]
  rw [ok_eq] at h
  rw [spec_BagValid_t, h]
  cases bagOk l <;> simp
def BagS (l : List Msg) : Prop := l.length ≤ 30 ∧ ∀ m ∈ l, MsgS m
end
end Go.Den.T
