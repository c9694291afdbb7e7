/- Places in sorted lists: the search by halves finds what a walk finds. -/
import Derived.Test.YtflnpeebpdibbaaXP2
import Derived.Test.YtflnpeebpdibbaaXTr6

namespace Go.Den.T
set_option linter.unusedVariables false
set_option linter.unusedSimpArgs false
set_option linter.unusedSectionVars false
section
abbrev pair0 : Pair := (([] : List UInt8), ((0 : Int), ()))
/-- how many elements stand ahead -/
def ahead {α : Type} (lt : α → Bool) (l : List α) : Nat := (l.takeWhile lt).length
theorem ahead_cons {α : Type} (lt : α → Bool) (x : α) (l : List α) : ahead lt (x :: l) = if lt x = true then ahead lt l + 1 else 0 := by
  unfold ahead
  rw [List.takeWhile_cons]
  split <;> simp
theorem ahead_le {α : Type} (lt : α → Bool) : ∀ l : List α, ahead lt l ≤ l.length
  | [] => Nat.le_refl _
  | x :: l => by rw [ahead_cons]; have := ahead_le lt l; split <;> simp; omega
theorem ahead_eq {α : Type} {lt : α → Bool} {d : α} : ∀ {l : List α} {n : Nat}, n ≤ l.length → (∀ i, i < n → lt (l.getD i d) = true) → (n < l.length → lt (l.getD n d) = false) → ahead lt l = n
  | [], n, h1, _, _ => by simp at h1; subst h1; rfl
  | x :: l, 0, _, _, h3 => by
    have := h3 (by simp)
    simp at this
    rw [ahead_cons, this]; rfl
  | x :: l, n + 1, h1, h2, h3 => by
    have h0 := h2 0 (by omega)
    simp at h0
    rw [ahead_cons, h0]
    simp only [if_true]
    rw [ahead_eq (l := l) (n := n) (d := d) (by simpa using h1) (fun i hi => by simpa using h2 (i + 1) (by omega)) (fun h => by simpa using h3 (by simpa using h))]
theorem ahead_spec {α : Type} {lt : α → Bool} {d : α} : ∀ {l : List α}, (∀ i, i < ahead lt l → lt (l.getD i d) = true) ∧ (ahead lt l < l.length → lt (l.getD (ahead lt l) d) = false)
  | [] => ⟨fun i h => by simp [ahead] at h, fun h => by simp [ahead] at h⟩
  | x :: l => by
    rw [ahead_cons]
    rcases Bool.eq_false_or_eq_true (lt x) with h | h
    · simp only [h, if_true]
      obtain ⟨k1, k2⟩ := ahead_spec (lt := lt) (d := d) (l := l)
      refine ⟨fun i hi => ?_, fun hl => by simpa using k2 (by simpa using hl)⟩
      cases i with
      | zero => simpa using h
      | succ i => simpa using k1 i (by omega)
    · simp only [h, Bool.false_eq_true, if_false]
      exact ⟨fun i hi => by omega, fun _ => by simpa using h⟩
/-- whom a test holds for stands ahead of all others -/
def Mono {α : Type} (lt : α → Bool) (d : α) (l : List α) : Prop := ∀ i j, i < j → j < l.length → lt (l.getD j d) = true → lt (l.getD i d) = true
/-- neighbours in order: all in order -/
theorem chain_all {α : Type} {R : α → α → Prop} (ht : ∀ a b c, R a b → R b c → R a c) {l : List α} {d : α} (h : ∀ i, 1 ≤ i → i < l.length → R (l.getD (i - 1) d) (l.getD i d)) : ∀ i j, i < j → j < l.length → R (l.getD i d) (l.getD j d) := by
  intro i j hij
  induction j with
  | zero => omega
  | succ j ih =>
    intro hj
    have h1 := h (j + 1) (by omega) hj
    simp only [Nat.add_sub_cancel] at h1
    by_cases e : i = j
    · subst e; exact h1
    · exact ht _ _ _ (ih (by omega) (by omega)) h1
theorem ses_sorted {l : List Ses} (h : sesOk l = true) : ∀ i j, i < j → j < l.length → (l.getD i ses0).1 < (l.getD j ses0).1 := by
  simp only [sesOk, range_all] at h
  refine chain_all (R := fun a b : Ses => a.1 < b.1) (fun a b c h1 h2 => by omega) (fun i hi hl => ?_)
  have := h i hl
  simp only [sesAt, sesP, Bool.and_eq_true, Bool.or_eq_true, decide_eq_true_eq, Bool.not_eq_true', decide_eq_false_iff_not] at this
  rcases this.2.2.2 with h0 | h0
  · omega
  · show (l.getD (i - 1) ses0).1 < (l.getD i ses0).1
    have : ¬ (l.getD i ses0).1 ≤ (l.getD (i - 1) ses0).1 := h0
    omega
def ltP (s : List UInt8) (p : Pair) : Bool := bless p.1 s
def ltS (c : Int) (s : Ses) : Bool := decide (s.1 < c)
/-- the place of a key, and whether it is there -/
def pp (l : List Pair) (s : List UInt8) : Nat := ahead (ltP s) l
def ph (l : List Pair) (s : List UInt8) : Bool := decide (pp l s < l.length) && decide ((l.getD (pp l s) pair0).1 = s)
def sp (l : List Ses) (c : Int) : Nat := ahead (ltS c) l
def sh (l : List Ses) (c : Int) : Bool := decide (sp l c < l.length) && decide ((l.getD (sp l c) ses0).1 = c)
variable {A : Atoms} [IsReal A]
theorem l4Place_eq (k : Nat) (l : List Pair) (s : List UInt8) (hk : l.length < k) (hl : l.length ≤ 1000000000) : spec_l4Place_t A k (l, (s, ())) () = some (((pp l s : Int), ()), ()) := by
  rw [← ok_eq, spec_l4Place_t]
  refine Ok.bind (P := fun e : Int × Unit => e = ((pp l s : Int), ())) (iter_ok (fun m (st : List Pair × (List UInt8 × (Int × Unit))) => ∃ i : Nat, st = (l, (s, ((i : Int), ()))) ∧ i ≤ l.length ∧ m = l.length - i ∧ ∀ t, t < i → ltP s (l.getD t pair0) = true) _ ?_ (n := l.length) (by omega) ⟨0, rfl, by omega, by omega, fun t ht => by omega⟩) fun e he => ok_some.2 (by rw [he])
  rintro m st ⟨i, rfl, hi, rfl, ha⟩
  have w : A.wrapI .i64 (A.addI (i : Int) 1) = ((i + 1 : Nat) : Int) := by rw [a_addI, a_wrap (by omega) (by omega)]; rfl
  rw [spec_l4Place_t_b0, ok_cndS]
  refine ⟨fun h1 => ?_, fun h1 => ok_some.2 ⟨fun s' e => (by cases e), fun r e => ?_⟩⟩
  · have hlt : (i : Int) < l.length := by simpa using h1
    have hb := in_bounds (A := A) (l := l) (i := (i : Int)) (by omega) hlt
    rw [ok_cndS]
    refine ⟨fun _ => ?_, fun hc => (by rw [hb] at hc; cases hc)⟩
    rw [ok_cndS]
    refine ⟨fun h2 => ok_some.2 ⟨fun s' e => ?_, fun r e => (by cases e)⟩, fun h2 => ok_some.2 ⟨fun s' e => (by cases e), fun r e => ?_⟩⟩
    · injection e with e; subst e
      have h2' : ltP s (l.getD i pair0) = true := by simpa [ltP, bless] using h2
      exact ⟨l.length - (i + 1), by omega, i + 1, by rw [w], by omega, rfl, fun t ht => by
        rcases Nat.lt_or_ge t i with h | h
        · exact ha t h
        · have : t = i := by omega
          subst this; exact h2'⟩
    · injection e with e; subst e
      have h2' : ltP s (l.getD i pair0) = false := by simpa [ltP, bless] using h2
      have : pp l s = i := ahead_eq (d := pair0) hi ha (fun _ => h2')
      rw [this]
  · injection e with e; subst e
    have hge : ¬ (i : Int) < l.length := by simpa using h1
    have : pp l s = i := ahead_eq (d := pair0) hi ha (fun h => by omega)
    rw [this]
/-- what the search by halves keeps -/
structure Halves {α : Type} (lt : α → Bool) (d : α) (l : List α) (i j : Nat) : Prop where
  le : i ≤ j
  len : j ≤ l.length
  below : ∀ t, t < i → lt (l.getD t d) = true
  above : ∀ t, j ≤ t → t < l.length → lt (l.getD t d) = false
theorem Halves.up {α : Type} {lt : α → Bool} {d : α} {l : List α} {i j : Nat} (hm : Mono lt d l) (h : Halves lt d l i j) (hij : i < j) (ht : lt (l.getD ((i + j) / 2) d) = true) : Halves lt d l ((i + j) / 2 + 1) j :=
  ⟨by omega, h.len, fun t htl => by
    rcases Nat.lt_or_ge t ((i + j) / 2) with h1 | h1
    · exact hm t _ h1 (by have := h.len; omega) ht
    · have : t = (i + j) / 2 := by omega
      rw [this]; exact ht, h.above⟩
end
end Go.Den.T
