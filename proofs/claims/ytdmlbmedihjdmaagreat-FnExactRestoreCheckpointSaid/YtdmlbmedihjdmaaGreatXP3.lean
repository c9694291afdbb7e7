/- Places in sorted lists: the search by halves finds what a walk finds. -/
import Derived.Test.YtdmlbmedihjdmaaGreatXP2
import Derived.Test.YtdmlbmedihjdmaaGreatXTr6

namespace Go.Den.T
set_option linter.unusedVariables false
set_option linter.unusedSimpArgs false
set_option linter.unusedSectionVars false
section
abbrev pair0 : Pair := (([] : List UInt8), ((0 : Int), ()))
/-- how many elements stand ahead -/
def ahead {α : Type} (lt : α → Bool) (l : List α) : Nat := (l.takeWhile lt).length
theorem ahead_cons {α : Type} (lt : α → Bool) (x : α) (l : List α) : ahead lt (x :: l) = if lt x = true then ahead lt l + 1 else 0 := by
  unfold ahead
  rw [List.takeWhile_cons]
  split <;> simp
theorem ahead_le {α : Type} (lt : α → Bool) : ∀ l : List α, ahead lt l ≤ l.length
  | [] => Nat.le_refl _
  | x :: l => by rw [ahead_cons]; have := ahead_le lt l; split <;> simp; omega
theorem ahead_eq {α : Type} {lt : α → Bool} {d : α} : ∀ {l : List α} {n : Nat}, n ≤ l.length → (∀ i, i < n → lt (l.getD i d) = true) → (n < l.length → lt (l.getD n d) = false) → ahead lt l = n
  | [], n, h1, _, _ => by simp at h1; subst h1; rfl
  | x :: l, 0, _, _, h3 => by
    have := h3 (by simp)
    simp at this
    rw [ahead_cons, this]; rfl
  | x :: l, n + 1, h1, h2, h3 => by
    have h0 := h2 0 (by omega)
    simp at h0
    rw [ahead_cons, h0]
    simp only [if_true]
    rw [ahead_eq (l := l) (n := n) (d := d) (by simpa using h1) (fun i hi => by simpa using h2 (i + 1) (by omega)) (fun h => by simpa using h3 (by simpa using h))]
theorem ahead_spec {α : Type} {lt : α → Bool} {d : α} : ∀ {l : List α}, (∀ i, i < ahead lt l → lt (l.getD i d) = true) ∧ (ahead lt l < l.length → lt (l.getD (ahead lt l) d) = false)
  | [] => ⟨fun i h => by simp [ahead] at h, fun h => by simp [ahead] at h⟩
  | x :: l => by
    rw [ahead_cons]
    rcases Bool.eq_false_or_eq_true (lt x) with h | h
    · simp only [h, if_true]
      obtain ⟨k1, k2⟩ := ahead_spec (lt := lt) (d := d) (l := l)
      refine ⟨fun i hi => ?_, fun hl => by simpa using k2 (by simpa using hl)⟩
      cases i with
      | zero => simpa using h
      | succ i => simpa using k1 i (by omega)
    · simp only [h, Bool.false_eq_true, if_false]
      exact ⟨fun i hi => by omega, fun _ => by simpa using h⟩
/-- whom a test holds for stands ahead of all others -/
def Mono {α : Type} (lt : α → Bool) (d : α) (l : List α) : Prop := ∀ i j, i < j → j < l.length → lt (l.getD j d) = true → lt (l.getD i d) = true
theorem bless_trans : ∀ {a b c : List UInt8}, bless a b = true → bless b c = true → bless a c = true
  | [], b, [], h1, h2 => by rw [bless_to_nil] at h2; cases h2
  | [], b, z :: c, h1, h2 => by simp [bless_nil]
  | x :: a, [], c, h1, h2 => by rw [bless_to_nil] at h1; cases h1
  | x :: a, y :: b, [], h1, h2 => by rw [bless_to_nil] at h2; cases h2
  | x :: a, y :: b, z :: c, h1, h2 => by
    simp only [bless_cons, Bool.or_eq_true, decide_eq_true_eq, Bool.and_eq_true, beq_iff_eq] at h1 h2 ⊢
    rcases h1 with h1 | ⟨rfl, h1⟩
    · rcases h2 with h2 | ⟨rfl, h2⟩
      · exact .inl (UInt8.lt_trans h1 h2)
      · exact .inl h1
    · rcases h2 with h2 | ⟨rfl, h2⟩
      · exact .inl h2
      · exact .inr ⟨rfl, bless_trans h1 h2⟩
/-- neighbours in order: all in order -/
theorem chain_all {α : Type} {R : α → α → Prop} (ht : ∀ a b c, R a b → R b c → R a c) {l : List α} {d : α} (h : ∀ i, 1 ≤ i → i < l.length → R (l.getD (i - 1) d) (l.getD i d)) : ∀ i j, i < j → j < l.length → R (l.getD i d) (l.getD j d) := by
  intro i j hij
  induction j with
  | zero => omega
  | succ j ih =>
    intro hj
    have h1 := h (j + 1) (by omega) hj
    simp only [Nat.add_sub_cancel] at h1
    by_cases e : i = j
    · subst e; exact h1
    · exact ht _ _ _ (ih (by omega) (by omega)) h1
theorem pairs_sorted {l : List Pair} (h : pairsOk l = true) : ∀ i j, i < j → j < l.length → bless (l.getD i pair0).1 (l.getD j pair0).1 = true := by
  simp only [pairsOk, Bool.and_eq_true, range_all] at h
  refine chain_all (R := fun a b : Pair => bless a.1 b.1 = true) (fun a b c => bless_trans) (fun i hi hl => ?_)
  have := h.2 i hl
  simp only [pairAt, Bool.and_eq_true, Bool.or_eq_true, decide_eq_true_eq] at this
  rcases this.2.2 with h0 | h0
  · omega
  · exact h0
theorem ses_sorted {l : List Ses} (h : sesOk l = true) : ∀ i j, i < j → j < l.length → (l.getD i ses0).1 < (l.getD j ses0).1 := by
  simp only [sesOk, range_all] at h
  refine chain_all (R := fun a b : Ses => a.1 < b.1) (fun a b c h1 h2 => by omega) (fun i hi hl => ?_)
  have := h i hl
  simp only [sesAt, sesP, Bool.and_eq_true, Bool.or_eq_true, decide_eq_true_eq, Bool.not_eq_true', decide_eq_false_iff_not] at this
  rcases this.2.2.2 with h0 | h0
  · omega
  · show (l.getD (i - 1) ses0).1 < (l.getD i ses0).1
    have : ¬ (l.getD i ses0).1 ≤ (l.getD (i - 1) ses0).1 := h0
    omega
def ltP (s : List UInt8) (p : Pair) : Bool := bless p.1 s
def ltS (c : Int) (s : Ses) : Bool := decide (s.1 < c)
theorem pairs_mono {l : List Pair} (h : pairsOk l = true) (s : List UInt8) : Mono (ltP s) pair0 l := fun i j hij hj hl => bless_trans (pairs_sorted h i j hij hj) hl
theorem ses_mono {l : List Ses} (h : sesOk l = true) (c : Int) : Mono (ltS c) ses0 l := fun i j hij hj hl => by
  have := ses_sorted h i j hij hj
  simp only [ltS, decide_eq_true_eq] at hl ⊢
  omega
/-- the place of a key, and whether it is there -/
def pp (l : List Pair) (s : List UInt8) : Nat := ahead (ltP s) l
def ph (l : List Pair) (s : List UInt8) : Bool := decide (pp l s < l.length) && decide ((l.getD (pp l s) pair0).1 = s)
def sp (l : List Ses) (c : Int) : Nat := ahead (ltS c) l
def sh (l : List Ses) (c : Int) : Bool := decide (sp l c < l.length) && decide ((l.getD (sp l c) ses0).1 = c)
variable {A : Atoms} [IsReal A]
theorem l4Place_eq (k : Nat) (l : List Pair) (s : List UInt8) (hk : l.length < k) (hl : l.length ≤ 1000000000) : spec_l4Place_t A k (l, (s, ())) () = some (((pp l s : Int), ()), ()) := by
  rw [← ok_eq, spec_l4Place_t]
  refine Ok.bind (P := fun e : Int × Unit => e = ((pp l s : Int), ())) (iter_ok (fun m (st : List Pair × (List UInt8 × (Int × Unit))) => ∃ i : Nat, st = (l, (s, ((i : Int), ()))) ∧ i ≤ l.length ∧ m = l.length - i ∧ ∀ t, t < i → ltP s (l.getD t pair0) = true) _ ?_ (n := l.length) (by omega) ⟨0, rfl, by omega, by omega, fun t ht => by omega⟩) fun e he => ok_some.2 (by rw [he])
  rintro m st ⟨i, rfl, hi, rfl, ha⟩
  have w : A.wrapI .i64 (A.addI (i : Int) 1) = ((i + 1 : Nat) : Int) := by rw [a_addI, a_wrap (by omega) (by omega)]; rfl
  rw [spec_l4Place_t_b0, ok_cndS]
  refine ⟨fun h1 => ?_, fun h1 => ok_some.2 ⟨fun s' e => (by cases e), fun r e => ?_⟩⟩
  · have hlt : (i : Int) < l.length := by simpa using h1
    have hb := in_bounds (A := A) (l := l) (i := (i : Int)) (by omega) hlt
    rw [ok_cndS]
    refine ⟨fun _ => ?_, fun hc => (by rw [hb] at hc; cases hc)⟩
    rw [ok_cndS]
    refine ⟨fun h2 => ok_some.2 ⟨fun s' e => ?_, fun r e => (by cases e)⟩, fun h2 => ok_some.2 ⟨fun s' e => (by cases e), fun r e => ?_⟩⟩
    · injection e with e; subst e
      have h2' : ltP s (l.getD i pair0) = true := by simpa [ltP, bless] using h2
      exact ⟨l.length - (i + 1), by omega, i + 1, by rw [w], by omega, rfl, fun t ht => by
        rcases Nat.lt_or_ge t i with h | h
        · exact ha t h
        · have : t = i := by omega
          subst this; exact h2'⟩
    · injection e with e; subst e
      have h2' : ltP s (l.getD i pair0) = false := by simpa [ltP, bless] using h2
      have : pp l s = i := ahead_eq (d := pair0) hi ha (fun _ => h2')
      rw [this]
  · injection e with e; subst e
    have hge : ¬ (i : Int) < l.length := by simpa using h1
    have : pp l s = i := ahead_eq (d := pair0) hi ha (fun h => by omega)
    rw [this]
def cmpS (a b : List UInt8) : Int := if bless a b = true then -1 else if a = b then 0 else 1
theorem pairPlace_1_eq (k : Nat) (p : Pair) (s : List UInt8) : impl_pairPlace_1_t A k (p, (s, ())) () = some ((cmpS p.1 s, ()), ()) := by
  simp only [impl_pairPlace_1_t, cmp_Compare_string_t, cmp_isNaN_string_t, a_eqS, decide_true, a_notB, Bool.not_true, a_obind_some, a_cndS, Bool.false_eq_true, if_false, a_lessS, a_orB, cmpS, bless]
  rcases Bool.eq_false_or_eq_true (Op.bytesLess p.1 s) with h | h
  · simp [h]
  · by_cases e : p.1 = s
    · rw [e] at h; simp [h, e]
    · simp [h, e]
def cmpI (a b : Int) : Int := if a < b then -1 else if a = b then 0 else 1
theorem sessionPlace_1_eq (k : Nat) (p : Ses) (c : Int) : impl_sessionPlace_1_t A k (p, (c, ())) () = some ((cmpI p.1 c, ()), ()) := by
  simp only [impl_sessionPlace_1_t, cmp_Compare_int_t, cmp_isNaN_int_t, a_eqI, decide_true, a_notB, Bool.not_true, a_obind_some, a_cndS, Bool.false_eq_true, if_false, a_ltI, cmpI, decide_eq_true_eq]
  by_cases h : p.1 < c
  · simp [h]
  · by_cases e : c < p.1
    · have : ¬ p.1 = c := by omega
      simp [h, e, this]
    · have : p.1 = c := by omega
      simp [this]
theorem half_eq {i j : Nat} (h : i + j ≤ 4000000000) : A.wrapI .i64 (A.shrI (A.wrapI .u64 (A.wrapI .i64 (A.addI (i : Int) (j : Int)))) 1) = (((i + j) / 2 : Nat) : Int) := by
  have w1 : A.wrapI .i64 (A.addI (i : Int) (j : Int)) = (i : Int) + (j : Int) := by rw [a_addI]; exact a_wrap (by omega) (by omega)
  have w2 : A.wrapI .u64 ((i : Int) + (j : Int)) = (i : Int) + (j : Int) := by
    rw [a_wrapI]
    simp only [IntKind.wrap, IntKind.bits, IntKind.signed]
    simp
    omega
  have e : ((i : Int) + (j : Int)).fdiv (2 ^ (1 : Int).toNat) = (((i + j) / 2 : Nat) : Int) := by
    rw [Int.fdiv_eq_ediv_of_nonneg _ (by decide)]
    simp
  rw [w1, w2, a_shrI, e]
  exact a_wrap (by omega) (by omega)
/-- what the search by halves keeps -/
structure Halves {α : Type} (lt : α → Bool) (d : α) (l : List α) (i j : Nat) : Prop where
  le : i ≤ j
  len : j ≤ l.length
  below : ∀ t, t < i → lt (l.getD t d) = true
  above : ∀ t, j ≤ t → t < l.length → lt (l.getD t d) = false
theorem Halves.start {α : Type} (lt : α → Bool) (d : α) (l : List α) : Halves lt d l 0 l.length := ⟨by omega, Nat.le_refl _, fun t h => by omega, fun t h1 h2 => by omega⟩
theorem Halves.up {α : Type} {lt : α → Bool} {d : α} {l : List α} {i j : Nat} (hm : Mono lt d l) (h : Halves lt d l i j) (hij : i < j) (ht : lt (l.getD ((i + j) / 2) d) = true) : Halves lt d l ((i + j) / 2 + 1) j :=
  ⟨by omega, h.len, fun t htl => by
    rcases Nat.lt_or_ge t ((i + j) / 2) with h1 | h1
    · exact hm t _ h1 (by have := h.len; omega) ht
    · have : t = (i + j) / 2 := by omega
      rw [this]; exact ht, h.above⟩
theorem Halves.down {α : Type} {lt : α → Bool} {d : α} {l : List α} {i j : Nat} (hm : Mono lt d l) (h : Halves lt d l i j) (hij : i < j) (hf : lt (l.getD ((i + j) / 2) d) = false) : Halves lt d l i ((i + j) / 2) :=
  ⟨by omega, by have := h.len; omega, h.below, fun t h1 h2 => by
    rcases Bool.eq_false_or_eq_true (lt (l.getD t d)) with hq | hq
    · rcases Nat.lt_or_ge ((i + j) / 2) t with h3 | h3
      · rw [hm _ t h3 h2 hq] at hf; cases hf
      · have : t = (i + j) / 2 := by omega
        rw [this] at hq; rw [hq] at hf; cases hf
    · exact hq⟩
theorem Halves.done {α : Type} {lt : α → Bool} {d : α} {l : List α} {i : Nat} (h : Halves lt d l i i) : ahead lt l = i := ahead_eq h.len h.below (fun hl => h.above i (Nat.le_refl _) hl)
theorem pairSearch_eq (k : Nat) (l : List Pair) (s : List UInt8) (hm : Mono (ltP s) pair0 l) (hk : l.length + 1 < k) (hl : l.length ≤ 1000000000) : slices_BinarySearchFunc_string_t A k (l, (s, ())) () = some (((pp l s : Int), (ph l s, ())), ()) := by
  rw [← ok_eq, slices_BinarySearchFunc_string_t]
  refine Ok.bind (P := fun e : List Pair × (List UInt8 × (Int × (Int × Unit))) => e = (l, (s, ((l.length : Int), ((pp l s : Int), ()))))) (iter_ok (fun m (st : List Pair × (List UInt8 × (Int × (Int × (Int × Unit))))) => ∃ i j : Nat, st = (l, (s, ((l.length : Int), ((i : Int), ((j : Int), ()))))) ∧ m = j - i ∧ Halves (ltP s) pair0 l i j) _ ?_ (n := l.length) (by omega) ⟨0, l.length, by simp only [a_lenL]; rfl, by omega, Halves.start ..⟩) fun e he => ?_
  · rintro m st ⟨i, j, rfl, rfl, H⟩
    have hle := H.le
    have hjl := H.len
    rw [slices_BinarySearchFunc_string_t_b0]
    simp only [half_eq (A := A) (show i + j ≤ 4000000000 by omega)]
    rw [ok_cndS]
    refine ⟨fun h1 => ?_, fun h1 => ok_some.2 ⟨fun s' e => (by cases e), fun r e => ?_⟩⟩
    · have hij : i < j := by
        have : (i : Int) < (j : Int) := by simpa using h1
        omega
      rw [ok_cndS]
      refine ⟨fun _ => ?_, fun hc => (by simp at hc)⟩
      have hb := in_bounds (A := A) (l := l) (i := (((i + j) / 2 : Nat) : Int)) (by omega) (by omega)
      rw [ok_cndS]
      refine ⟨fun _ => ?_, fun hc => (by rw [hb] at hc; cases hc)⟩
      rw [pairPlace_1_eq, a_obind_some, a_atL, Int.toNat_natCast, ok_cndS]
      have hw : A.wrapI .i64 (A.addI (((i + j) / 2 : Nat) : Int) 1) = (((i + j) / 2 + 1 : Nat) : Int) := by rw [a_addI, a_wrap (by omega) (by omega)]; rfl
      refine ⟨fun hlt => ok_some.2 ⟨fun s' e => ?_, fun r e => (by cases e)⟩, fun hge => ok_some.2 ⟨fun s' e => ?_, fun r e => (by cases e)⟩⟩
      · injection e with e; subst e
        have ht : ltP s (l.getD ((i + j) / 2) pair0) = true := by
          have : cmpS (l.getD ((i + j) / 2) pair0).1 s < 0 := by simpa using hlt
          rcases Bool.eq_false_or_eq_true (bless (l.getD ((i + j) / 2) pair0).1 s) with h | h
          · exact h
          · simp only [cmpS, h, Bool.false_eq_true, if_false] at this; split at this <;> omega
        exact ⟨j - ((i + j) / 2 + 1), by omega, (i + j) / 2 + 1, j, by rw [hw], rfl, H.up hm hij ht⟩
      · injection e with e; subst e
        have hf : ltP s (l.getD ((i + j) / 2) pair0) = false := by
          have : ¬ cmpS (l.getD ((i + j) / 2) pair0).1 s < 0 := by simpa using hge
          rcases Bool.eq_false_or_eq_true (bless (l.getD ((i + j) / 2) pair0).1 s) with h | h
          · simp only [cmpS, h, if_true] at this; omega
          · exact h
        exact ⟨(i + j) / 2 - i, by omega, i, (i + j) / 2, rfl, rfl, H.down hm hij hf⟩
    · injection e with e; subst e
      have hij : ¬ i < j := by
        have : ¬ (i : Int) < (j : Int) := by simpa using h1
        omega
      have : i = j := by omega
      subst this
      rw [pp, H.done]
  · subst he
    have hpl : pp l s ≤ l.length := ahead_le ..
    rw [ok_cndS]
    simp only [a_ltI, decide_eq_true_eq, decide_eq_false_iff_not]
    refine ⟨fun h1 => ?_, fun h1 => ok_some.2 ?_⟩
    · have hb := in_bounds (A := A) (l := l) (i := (pp l s : Int)) (by omega) h1
      simp only [a_ltI, a_lenL] at hb
      rw [ok_cndS]
      refine ⟨fun _ => ?_, fun hc => (by simp at hc; omega)⟩
      rw [pairPlace_1_eq, a_obind_some, a_atL, Int.toNat_natCast]
      refine ok_some.2 ?_
      have hlt : pp l s < l.length := by omega
      have hnb : bless (l.getD (pp l s) pair0).1 s = false := (ahead_spec (lt := ltP s) (d := pair0) (l := l)).2 hlt
      simp only [a_cndS, if_true, a_eqI, ph, hlt, decide_true, Bool.true_and, cmpS, hnb, Bool.false_eq_true, if_false]
      by_cases he : (l.getD (pp l s) pair0).1 = s
      · rw [if_pos he, decide_eq_true he]; rfl
      · rw [if_neg he, decide_eq_false he]; rfl
    · have : ¬ pp l s < l.length := by omega
      simp [ph, this]
theorem pairPlace_eq (k : Nat) (l : List Pair) (s : List UInt8) (hm : Mono (ltP s) pair0 l) (hk : l.length + 1 < k) (hl : l.length ≤ 1000000000) : impl_pairPlace_t A k (l, (s, ())) () = some (((pp l s : Int), (ph l s, ())), ()) := by
  simp only [impl_pairPlace_t, pairSearch_eq k l s hm hk hl, a_obind_some]
theorem sesSearch_eq (k : Nat) (l : List Ses) (s : Int) (hm : Mono (ltS s) ses0 l) (hk : l.length + 1 < k) (hl : l.length ≤ 1000000000) : slices_BinarySearchFunc_int_t A k (l, (s, ())) () = some (((sp l s : Int), (sh l s, ())), ()) := by
  rw [← ok_eq, slices_BinarySearchFunc_int_t]
  refine Ok.bind (P := fun e : List Ses × (Int × (Int × (Int × Unit))) => e = (l, (s, ((l.length : Int), ((sp l s : Int), ()))))) (iter_ok (fun m (st : List Ses × (Int × (Int × (Int × (Int × Unit))))) => ∃ i j : Nat, st = (l, (s, ((l.length : Int), ((i : Int), ((j : Int), ()))))) ∧ m = j - i ∧ Halves (ltS s) ses0 l i j) _ ?_ (n := l.length) (by omega) ⟨0, l.length, by simp only [a_lenL]; rfl, by omega, Halves.start ..⟩) fun e he => ?_
  · rintro m st ⟨i, j, rfl, rfl, H⟩
    have hle := H.le
    have hjl := H.len
    rw [slices_BinarySearchFunc_int_t_b0]
    simp only [half_eq (A := A) (show i + j ≤ 4000000000 by omega)]
    rw [ok_cndS]
    refine ⟨fun h1 => ?_, fun h1 => ok_some.2 ⟨fun s' e => (by cases e), fun r e => ?_⟩⟩
    · have hij : i < j := by
        have : (i : Int) < (j : Int) := by simpa using h1
        omega
      rw [ok_cndS]
      refine ⟨fun _ => ?_, fun hc => (by simp at hc)⟩
      have hb := in_bounds (A := A) (l := l) (i := (((i + j) / 2 : Nat) : Int)) (by omega) (by omega)
      rw [ok_cndS]
      refine ⟨fun _ => ?_, fun hc => (by rw [hb] at hc; cases hc)⟩
      rw [sessionPlace_1_eq, a_obind_some, a_atL, Int.toNat_natCast, ok_cndS]
      have hw : A.wrapI .i64 (A.addI (((i + j) / 2 : Nat) : Int) 1) = (((i + j) / 2 + 1 : Nat) : Int) := by rw [a_addI, a_wrap (by omega) (by omega)]; rfl
      refine ⟨fun hlt => ok_some.2 ⟨fun s' e => ?_, fun r e => (by cases e)⟩, fun hge => ok_some.2 ⟨fun s' e => ?_, fun r e => (by cases e)⟩⟩
      · injection e with e; subst e
        have ht : ltS s (l.getD ((i + j) / 2) ses0) = true := by
          have : cmpI (l.getD ((i + j) / 2) ses0).1 s < 0 := by simpa using hlt
          by_cases h : (l.getD ((i + j) / 2) ses0).1 < s
          · simpa [ltS] using h
          · simp only [cmpI, h, if_false] at this; split at this <;> omega
        exact ⟨j - ((i + j) / 2 + 1), by omega, (i + j) / 2 + 1, j, by rw [hw], rfl, H.up hm hij ht⟩
      · injection e with e; subst e
        have hf : ltS s (l.getD ((i + j) / 2) ses0) = false := by
          have : ¬ cmpI (l.getD ((i + j) / 2) ses0).1 s < 0 := by simpa using hge
          by_cases h : (l.getD ((i + j) / 2) ses0).1 < s
          · simp only [cmpI, h, if_true] at this; omega
          · simpa [ltS] using h
        exact ⟨(i + j) / 2 - i, by omega, i, (i + j) / 2, rfl, rfl, H.down hm hij hf⟩
    · injection e with e; subst e
      have hij : ¬ i < j := by
        have : ¬ (i : Int) < (j : Int) := by simpa using h1
        omega
      have : i = j := by omega
      subst this
      rw [sp, H.done]
  · subst he
    have hpl : sp l s ≤ l.length := ahead_le ..
    rw [ok_cndS]
    simp only [a_ltI, decide_eq_true_eq, decide_eq_false_iff_not]
    refine ⟨fun h1 => ?_, fun h1 => ok_some.2 ?_⟩
    · rw [ok_cndS]
      refine ⟨fun _ => ?_, fun hc => (by simp at hc; omega)⟩
      rw [sessionPlace_1_eq, a_obind_some, a_atL, Int.toNat_natCast]
      refine ok_some.2 ?_
      have hlt : sp l s < l.length := by omega
      have hnb : ltS s (l.getD (sp l s) ses0) = false := (ahead_spec (lt := ltS s) (d := ses0) (l := l)).2 hlt
      have hnb : ¬ (l.getD (sp l s) ses0).1 < s := by simpa [ltS] using hnb
      simp only [a_cndS, if_true, a_eqI, sh, hlt, decide_true, Bool.true_and, cmpI, hnb, if_false]
      by_cases he : (l.getD (sp l s) ses0).1 = s
      · rw [if_pos he, decide_eq_true he]; rfl
      · rw [if_neg he, decide_eq_false he]; rfl
    · have : ¬ sp l s < l.length := by omega
      simp [sh, this]
theorem sessionPlace_eq (k : Nat) (l : List Ses) (s : Int) (hm : Mono (ltS s) ses0 l) (hk : l.length + 1 < k) (hl : l.length ≤ 1000000000) : impl_sessionPlace_t A k (l, (s, ())) () = some (((sp l s : Int), (sh l s, ())), ()) := by
  simp only [impl_sessionPlace_t, sesSearch_eq k l s hm hk hl, a_obind_some]
end
end Go.Den.T
