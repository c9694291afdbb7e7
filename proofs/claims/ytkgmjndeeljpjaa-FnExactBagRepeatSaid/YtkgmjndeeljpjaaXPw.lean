/- The printed words, plainly, and what a reading comes to. -/
import Derived.Test.YtkgmjndeeljpjaaXDm4
set_option linter.unusedVariables false
set_option linter.unusedSimpArgs false
namespace Go.Den
/-- the words are the plain ones (the kernel sees a variable, and unfolds nothing) -/
class IsReal (A : Atoms) : Prop where
  eq : A = real
instance isReal_real : IsReal real := ⟨rfl⟩
section
variable {A : Atoms} [R : IsReal A] {α β γ σ ρ : Type}
@[simp] theorem a_cndS (c : Bool) (x y : α) : A.cndS c x y = if c = true then x else y := by obtain rfl := R.eq; cases c <;> rfl
@[simp] theorem a_obind_some (a : α) (f : α → Option β) : A.obind (some a) f = f a := by obtain rfl := R.eq; rfl
@[simp] theorem a_obind_none (f : α → Option β) : A.obind none f = none := by obtain rfl := R.eq; rfl
@[simp] theorem a_sumE_inl (a : α) (f : α → γ) (g : β → γ) : A.sumE (.inl a) f g = f a := by obtain rfl := R.eq; rfl
@[simp] theorem a_sumE_inr (b : β) (f : α → γ) (g : β → γ) : A.sumE (.inr b) f g = g b := by obtain rfl := R.eq; rfl
theorem a_iter (k : Nat) (f : σ → Option (σ ⊕ ρ)) (s : σ) : A.iter k f s = iter k f s := by obtain rfl := R.eq; rfl
@[simp] theorem a_le0 (n : Int) : A.le0 n = decide (0 ≤ n) := by obtain rfl := R.eq; rfl
@[simp] theorem a_leI (a b : Int) : A.leI a b = decide (a ≤ b) := by obtain rfl := R.eq; rfl
@[simp] theorem a_ltI (a b : Int) : A.ltI a b = decide (a < b) := by obtain rfl := R.eq; rfl
@[simp] theorem a_lenL (xs : List α) : A.lenL xs = (xs.length : Int) := by obtain rfl := R.eq; rfl
@[simp] theorem a_takeL (xs : List α) (n : Int) : A.takeL xs n = xs.take n.toNat := by obtain rfl := R.eq; rfl
@[simp] theorem a_dropL (xs : List α) (n : Int) : A.dropL xs n = xs.drop n.toNat := by obtain rfl := R.eq; rfl
@[simp] theorem a_atL (xs : List α) (n : Int) (d : α) : A.atL xs n d = xs.getD n.toNat d := by obtain rfl := R.eq; rfl
@[simp] theorem a_setL (xs : List α) (n : Int) (x : α) : A.setL xs n x = xs.set n.toNat x := by obtain rfl := R.eq; rfl
@[simp] theorem a_appL (xs ys : List α) : A.appL xs ys = xs ++ ys := by obtain rfl := R.eq; rfl
@[simp] theorem a_repL (n : Int) (d : α) : A.repL n d = List.replicate n.toNat d := by obtain rfl := R.eq; rfl
@[simp] theorem a_u8i (b : UInt8) : A.u8i b = (b.toNat : Int) := by obtain rfl := R.eq; rfl
@[simp] theorem a_eqI (a b : Int) : A.eqI a b = decide (a = b) := by obtain rfl := R.eq; rfl
@[simp] theorem a_eqB (a b : Bool) : A.eqB a b = (a == b) := by obtain rfl := R.eq; rfl
@[simp] theorem a_eqS (a b : List UInt8) : A.eqS a b = decide (a = b) := by obtain rfl := R.eq; rfl
@[simp] theorem a_lessS (a b : List UInt8) : A.lessS a b = Op.bytesLess a b := by obtain rfl := R.eq; rfl
@[simp] theorem a_notB (b : Bool) : A.notB b = !b := by obtain rfl := R.eq; rfl
@[simp] theorem a_andB (a b : Bool) : A.andB a b = (a && b) := by obtain rfl := R.eq; rfl
@[simp] theorem a_orB (a b : Bool) : A.orB a b = (a || b) := by obtain rfl := R.eq; rfl
@[simp] theorem a_addI (a b : Int) : A.addI a b = a + b := by obtain rfl := R.eq; rfl
@[simp] theorem a_subI (a b : Int) : A.subI a b = a - b := by obtain rfl := R.eq; rfl
@[simp] theorem a_mulI (a b : Int) : A.mulI a b = a * b := by obtain rfl := R.eq; rfl
@[simp] theorem a_quoI (a b : Int) : A.quoI a b = a.tdiv b := by obtain rfl := R.eq; rfl
@[simp] theorem a_remI (a b : Int) : A.remI a b = a.tmod b := by obtain rfl := R.eq; rfl
@[simp] theorem a_shrI (a b : Int) : A.shrI a b = a.fdiv (2 ^ b.toNat) := by obtain rfl := R.eq; rfl
@[simp] theorem a_minI (a b : Int) : A.minI a b = if b < a then b else a := by obtain rfl := R.eq; rfl
@[simp] theorem a_maxI (a b : Int) : A.maxI a b = if a < b then b else a := by obtain rfl := R.eq; rfl
theorem a_wrapI (k : IntKind) (n : Int) : A.wrapI k n = k.wrap n := by obtain rfl := R.eq; rfl
@[simp] theorem a_byteList (xs : List Int) : A.byteList xs = xs.map fun n => UInt8.ofNat n.toNat := by obtain rfl := R.eq; rfl
@[simp] theorem a_intList (s : List UInt8) : A.intList s = s.map fun b => (b.toNat : Int) := by obtain rfl := R.eq; rfl
@[simp] theorem a_big : A.big = 4294967296 := by obtain rfl := R.eq; rfl
theorem wrap_i64 {n : Int} (h1 : -9223372036854775808 ≤ n) (h2 : n ≤ 9223372036854775807) : IntKind.i64.wrap n = n := by
  have e : IntKind.i64.wrap n = if (decide (n % 18446744073709551616 ≥ 9223372036854775808)) = true then n % 18446744073709551616 - 18446744073709551616 else n % 18446744073709551616 := rfl
  rw [e]
  by_cases hn : 0 ≤ n
  · have : n % 18446744073709551616 = n := Int.emod_eq_of_lt hn (by omega)
    rw [this, if_neg (by simp; omega)]
  · have : n % 18446744073709551616 = n + 18446744073709551616 := by omega
    rw [this, if_pos (by simp; omega)]; omega
theorem a_wrap {n : Int} (h1 : -9223372036854775808 ≤ n) (h2 : n ≤ 9223372036854775807) : A.wrapI .i64 n = n := by rw [a_wrapI, wrap_i64 h1 h2]
/-! ### what a reading comes to -/
def Ok (x : Option α) (Q : α → Prop) : Prop := ∃ r, x = some r ∧ Q r
theorem Ok.mono {x : Option α} {Q Q' : α → Prop} (h : Ok x Q) (k : ∀ r, Q r → Q' r) : Ok x Q' := by obtain ⟨r, e, q⟩ := h; exact ⟨r, e, k r q⟩
theorem ok_some {r : α} {Q : α → Prop} : Ok (some r) Q ↔ Q r := ⟨fun ⟨_, e, q⟩ => (by cases e; exact q), fun q => ⟨r, rfl, q⟩⟩
theorem ok_cndS {c : Bool} {x y : Option α} {Q : α → Prop} : Ok (A.cndS c x y) Q ↔ (c = true → Ok x Q) ∧ (c = false → Ok y Q) := by
  rw [a_cndS]; cases c <;> simp
theorem ok_obind {x : Option α} {f : α → Option β} {Q : β → Prop} : Ok (A.obind x f) Q ↔ Ok x (fun r => Ok (f r) Q) := by
  obtain rfl := R.eq
  cases x with
  | none => exact ⟨fun ⟨_, e, _⟩ => (by cases e), fun ⟨_, e, _⟩ => (by cases e)⟩
  | some a => exact ⟨fun h => ⟨a, rfl, h⟩, fun ⟨r, e, h⟩ => (by cases e; exact h)⟩
theorem ok_eq {x : Option α} {v : α} : Ok x (· = v) ↔ x = some v := ⟨fun ⟨r, e, q⟩ => (by rw [e, q]), fun h => ⟨v, h, rfl⟩⟩
theorem Ok.bind {x : Option α} {f : α → Option β} {P : α → Prop} {Q : β → Prop} (h : Ok x P) (k : ∀ r, P r → Ok (f r) Q) : Ok (A.obind x f) Q := ok_obind.2 (h.mono k)

/-! ### loops -/
/-- a loop, by an invariant that bears a number, which every round lowers -/
theorem iter_ok {f : σ → Option (σ ⊕ ρ)} (I : Nat → σ → Prop) (Q : ρ → Prop)
    (h : ∀ n s, I n s → Ok (f s) (fun r => (∀ s', r = .inl s' → ∃ m, m < n ∧ I m s') ∧ ∀ e, r = .inr e → Q e)) :
    ∀ {k n : Nat} {s : σ}, n < k → I n s → Ok (A.iter k f s) Q := by
  intro k
  rw [show (A.iter k f : σ → Option ρ) = iter k f from funext (a_iter k f)]
  induction k with
  | zero => intro n s hn; omega
  | succ k ih =>
    intro n s hn hI
    obtain ⟨r, h1, h2, h3⟩ := h n s hI
    cases r with
    | inl s' =>
      obtain ⟨m, h4, h5⟩ := h2 s' rfl
      obtain ⟨r, h6, h7⟩ := ih (by omega) h5
      exact ⟨r, (by simp only [iter, h1]; exact h6), h7⟩
    | inr r => exact ⟨r, (by simp only [iter, h1]), h3 r rfl⟩
/-- a loop that goes by a number and may stop early -/
theorem iter_walk {f : σ → Option (σ ⊕ ρ)} (St : Nat → σ) (n : Nat) (stop : Nat → Option ρ) (d : ρ)
    (hs : ∀ i, i < n → f (St i) = some (match stop i with | none => .inl (St (i + 1)) | some e => .inr e))
    (hd : f (St n) = some (.inr d)) : ∀ {k : Nat}, n < k → A.iter k f (St 0) = some (((List.range n).findSome? stop).getD d) := by
  have main : ∀ m i k, n - i = m → i ≤ n → m < k → iter k f (St i) = some (((List.range' i m).findSome? stop).getD d) := by
    intro m
    induction m with
    | zero =>
      intro i k hm hi hk
      obtain ⟨k, rfl⟩ : ∃ q, k = q + 1 := ⟨k - 1, by omega⟩
      have : i = n := by omega
      subst this
      simp [iter, hd]
    | succ m ih =>
      intro i k hm hi hk
      obtain ⟨k, rfl⟩ : ∃ q, k = q + 1 := ⟨k - 1, by omega⟩
      have e := hs i (by omega)
      simp only [iter, e, List.range'_succ, List.findSome?_cons]
      cases h : stop i with
      | none => exact ih (i + 1) k (by omega) (by omega) (by omega)
      | some r => rfl
  intro k hk
  rw [a_iter, main n 0 k (by omega) (by omega) hk, List.range_eq_range']
theorem iter_for {f : σ → Option (σ ⊕ ρ)} (St : Nat → σ) (n : Nat) (d : ρ) (hs : ∀ i, i < n → f (St i) = some (.inl (St (i + 1)))) (hd : f (St n) = some (.inr d)) {k : Nat} (hk : n < k) :
    A.iter k f (St 0) = some d := by
  rw [iter_walk St n (fun _ => none) d hs hd hk]
  have : ∀ l : List Nat, l.findSome? (fun _ => (none : Option ρ)) = none := by intro l; induction l <;> simp_all
  rw [this]; rfl
/-- a loop that looks whether all is well -/
theorem iter_all {f : σ → Option (σ ⊕ ρ)} (St : Nat → σ) (n : Nat) (p : Nat → Bool) (e d : ρ) (hs : ∀ i, i < n → f (St i) = some (if p i = true then .inl (St (i + 1)) else .inr e)) (hd : f (St n) = some (.inr d)) {k : Nat} (hk : n < k) :
    A.iter k f (St 0) = some (if (List.range n).all p = true then d else e) := by
  rw [iter_walk St n (fun i => if p i = true then none else some e) d (fun i hi => by rw [hs i hi]; cases p i <;> rfl) hd hk]
  congr 1
  induction (List.range n) with
  | nil => rfl
  | cons x xs ih =>
    simp only [List.findSome?_cons, List.all_cons]
    by_cases h : p x = true
    · simp only [h, if_true, Bool.true_and]; exact ih
    · have h' : p x = false := by simpa using h
      simp [h']
theorem range_find {n : Nat} {f : Nat → Option α} : ((List.range n).findSome? f = none ∧ ∀ i, i < n → f i = none) ∨ ∃ i x, i < n ∧ f i = some x ∧ (∀ j, j < i → f j = none) ∧ (List.range n).findSome? f = some x := by
  induction n with
  | zero => exact .inl ⟨rfl, fun i hi => by omega⟩
  | succ n ih =>
    rw [List.range_succ, List.findSome?_append]
    rcases ih with ⟨e, h⟩ | ⟨i, x, h1, h2, h3, e⟩
    · rw [e]
      cases hf : f n with
      | none => exact .inl ⟨by simp [hf], fun i hi => by by_cases hin : i = n; · rw [hin]; exact hf
                                                         · exact h i (by omega)⟩
      | some x => exact .inr ⟨n, x, by omega, hf, h, by simp [hf]⟩
    · exact .inr ⟨i, x, by omega, h2, h3, by rw [e]; rfl⟩
theorem findSome_map (l : List Nat) (p : Nat → Prop) [DecidablePred p] (f : Nat → α) (g : α → β) : l.findSome? (fun i => if p i then some (g (f i)) else none) = (l.findSome? fun i => if p i then some (f i) else none).map g := by
  induction l with
  | nil => rfl
  | cons x l ih =>
    simp only [List.findSome?_cons]
    by_cases h : p x
    · simp only [if_pos h]; rfl
    · simp only [if_neg h]; exact ih
theorem range_all {p : Nat → Bool} {n : Nat} : (List.range n).all p = true ↔ ∀ i, i < n → p i = true := by simp [List.all_eq_true]
theorem getD_lt {xs : List α} {n : Nat} {d : α} (h : n < xs.length) : xs.getD n d = xs[n] := by simp [h]
theorem all_range {xs : List α} {q : α → Bool} {d : α} : (List.range xs.length).all (fun i => q (xs.getD i d)) = xs.all q := by
  rw [Bool.eq_iff_iff, range_all, List.all_eq_true]
  constructor
  · intro h x hx
    obtain ⟨i, hi, rfl⟩ := List.mem_iff_getElem.1 hx
    have := h i hi
    rwa [getD_lt hi] at this
  · intro h i hi
    rw [getD_lt hi]; exact h _ (List.getElem_mem hi)
end
end Go.Den
