/- A part of the proof of a law: see the text of the row. -/
import Derived.Test.YtfdgpkhofjdejaaXDm5
import Derived.Test.YtfdgpkhofjdejaaXPm1

namespace Go.Den.T
set_option linter.unusedVariables false
set_option maxRecDepth 1000000
def impl_replacedX_Message_t (A : Atoms) (k : Nat) (a : ((List (Int × (Int × (Int × ((Int × ((List Int) × (Bool × Unit))) × ((List (Int × (Int × ((Int × ((List UInt8) × (Int × (Int × Unit)))) × Unit)))) × Unit)))))) × (Int × (Int × ((List (Int × (Int × (Int × ((Int × ((List Int) × (Bool × Unit))) × ((List (Int × (Int × ((Int × ((List UInt8) × (Int × (Int × Unit)))) × Unit)))) × Unit)))))) × Unit))))) (rd : Unit) : (Option (((List (Int × (Int × (Int × ((Int × ((List Int) × (Bool × Unit))) × ((List (Int × (Int × ((Int × ((List UInt8) × (Int × (Int × Unit)))) × Unit)))) × Unit)))))) × Unit) × Unit)) :=
  (A.cndS (A.andB (A.le0 a.2.1) (A.andB (A.le0 a.2.2.1) (A.andB (A.leI (A.addI a.2.1 a.2.2.1) (A.lenL a.1)) (A.andB (A.ltI (A.lenL a.1) A.big) (A.leI (A.lenL a.2.2.2.1) 0))))) (some (((A.appL (A.takeL a.1 a.2.1) (A.dropL a.1 (A.addI a.2.1 a.2.2.1))), ()), ())) none)
def impl_BagTakeX_t (A : Atoms) (k : Nat) (a : ((List (Int × (Int × (Int × ((Int × ((List Int) × (Bool × Unit))) × ((List (Int × (Int × ((Int × ((List UInt8) × (Int × (Int × Unit)))) × Unit)))) × Unit)))))) × (Int × Unit))) (rd : Unit) : (Option (((Int × (Int × (Int × ((Int × ((List Int) × (Bool × Unit))) × ((List (Int × (Int × ((Int × ((List UInt8) × (Int × (Int × Unit)))) × Unit)))) × Unit))))) × ((List (Int × (Int × (Int × ((Int × ((List Int) × (Bool × Unit))) × ((List (Int × (Int × ((Int × ((List UInt8) × (Int × (Int × Unit)))) × Unit)))) × Unit)))))) × (Bool × Unit))) × Unit)) :=
  (A.obind (impl_BagValid_t A k (a.1, ()) ()) (fun r0 => (A.cndS (A.notB r0.1.1) (some ((((0 : Int), ((0 : Int), ((0 : Int), (((0 : Int), (([] : List Int), (false, ()))), (([] : List (Int × (Int × ((Int × ((List UInt8) × (Int × (Int × Unit)))) × Unit)))), ()))))), (([] : List (Int × (Int × (Int × ((Int × ((List Int) × (Bool × Unit))) × ((List (Int × (Int × ((Int × ((List UInt8) × (Int × (Int × Unit)))) × Unit)))) × Unit)))))), (false, ()))), ())) (A.obind (impl_copyBag_t A k (a.1, ()) ()) (fun r1 => (A.obind (A.cndS (A.ltI a.2.1 0) (some (.inr ((((0 : Int), ((0 : Int), ((0 : Int), (((0 : Int), (([] : List Int), (false, ()))), (([] : List (Int × (Int × ((Int × ((List UInt8) × (Int × (Int × Unit)))) × Unit)))), ()))))), (r1.1.1, (false, ()))), ()))) (A.cndS (A.cndS false true (A.leI (A.lenL a.1) a.2.1)) (some (.inr ((((0 : Int), ((0 : Int), ((0 : Int), (((0 : Int), (([] : List Int), (false, ()))), (([] : List (Int × (Int × ((Int × ((List UInt8) × (Int × (Int × Unit)))) × Unit)))), ()))))), (r1.1.1, (false, ()))), ()))) (some (.inl (a.1, (a.2.1, (((0 : Int), ((0 : Int), ((0 : Int), (((0 : Int), (([] : List Int), (false, ()))), (([] : List (Int × (Int × ((Int × ((List UInt8) × (Int × (Int × Unit)))) × Unit)))), ()))))), (r1.1.1, ())))))))) (fun r2 => (A.sumE r2 (fun e3 => (A.cndS (A.andB (A.le0 e3.2.1) (A.ltI e3.2.1 (A.lenL e3.1))) (A.obind (impl_copyMessage_t A k ((A.atL e3.1 e3.2.1 ((0 : Int), ((0 : Int), ((0 : Int), (((0 : Int), (([] : List Int), (false, ()))), (([] : List (Int × (Int × ((Int × ((List UInt8) × (Int × (Int × Unit)))) × Unit)))), ())))))), ()) ()) (fun r4 => (A.obind (impl_replacedX_Message_t A k (e3.2.2.2.1, (e3.2.1, ((1 : Int), (([] : List (Int × (Int × (Int × ((Int × ((List Int) × (Bool × Unit))) × ((List (Int × (Int × ((Int × ((List UInt8) × (Int × (Int × Unit)))) × Unit)))) × Unit)))))), ())))) ()) (fun r5 => (some ((r4.1.1, (r5.1.1, (true, ()))), ())))))) none)) (fun e6 => (some e6))))))))))
def laws_FnExactBagTake_t (A : Atoms) (k : Nat) (a : ((List (Int × (Int × (Int × ((Int × ((List Int) × (Bool × Unit))) × ((List (Int × (Int × ((Int × ((List UInt8) × (Int × (Int × Unit)))) × Unit)))) × Unit)))))) × (Int × Unit))) (rd : Unit) : (Option ((Bool × Unit) × Unit)) :=
  (A.obind (laws_szMessageS_t A k (a.1, ((1048576 : Int), ())) ()) (fun r0 => (A.cndS (A.ltI r0.1.1 0) (some ((true, ()), ())) (A.obind (laws_toMessageS_t A k (a.1, ()) ()) (fun r1 => (A.obind (spec_BagTake_t A k (r1.1.1, (a.2.1, ())) ()) (fun r2 => (A.obind (laws_toMessageS_t A k (a.1, ()) ()) (fun r3 => (A.obind (impl_BagTakeX_t A k (r3.1.1, (a.2.1, ())) ()) (fun r4 => (A.obind (A.obind (laws_eqMessage_t A k (r4.1.1, (r2.1.1, ())) ()) (fun r5 => (A.cndS (A.notB r5.1.1) (some (.inr ((false, ()), ()))) (A.obind (laws_eqMessageS_t A k (r4.1.2.1, (r2.1.2.1, ())) ()) (fun r6 => (A.cndS (A.cndS false true (A.notB r6.1.1)) (some (.inr ((false, ()), ()))) (A.cndS (A.cndS false true (A.notB (A.eqB r4.1.2.2.1 r2.1.2.2.1))) (some (.inr ((false, ()), ()))) (some (.inl (a.1, (a.2.1, (r2.1.2.1, (r2.1.2.2.1, (r4.1.2.2.1, (r2.1.1, (r3.1.1, (r4.1, ()))))))))))))))))) (fun r7 => (A.sumE r7 (fun e8 => (A.obind (laws_toMessageS_t A k (e8.1, ()) ()) (fun r9 => (A.obind (laws_eqMessageS_t A k (e8.2.2.2.2.2.2.1, (r9.1.1, ())) ()) (fun r10 => (A.cndS (A.notB r10.1.1) (some ((false, ()), ())) (A.obind (laws_markMessageS_t A k ((), ((1 : Int), ())) e8.2.2.2.2.2.2.1) (fun r11 => (A.obind (A.cndS (A.ltI r11.1.1 0) (some (.inr ((false, ()), ()))) (A.obind (laws_eqMessage_t A k (e8.2.2.2.2.2.2.2.1.1, (e8.2.2.2.2.2.1, ())) ()) (fun r12 => (A.cndS (A.cndS false true (A.notB r12.1.1)) (some (.inr ((false, ()), ()))) (A.obind (laws_eqMessageS_t A k (e8.2.2.2.2.2.2.2.1.2.1, (e8.2.2.1, ())) ()) (fun r13 => (A.cndS (A.cndS false true (A.notB r13.1.1)) (some (.inr ((false, ()), ()))) (A.cndS (A.cndS false true (A.notB (A.eqB e8.2.2.2.2.1 e8.2.2.2.1))) (some (.inr ((false, ()), ()))) (some (.inl (e8.1, (e8.2.1, (e8.2.2.1, (e8.2.2.2.1, (e8.2.2.2.2.2.1, (e8.2.2.2.2.2.2.2.1, ())))))))))))))))) (fun r14 => (A.sumE r14 (fun e15 => (A.obind (laws_markMessage_t A k ((), ((1 : Int), ())) e15.2.2.2.2.2.1.1) (fun r16 => (A.obind (laws_markMessageS_t A k ((), (r16.1.1, ())) e15.2.2.2.2.2.1.2.1) (fun r17 => (A.obind (laws_heldMessage_t A k (r16.2, ((1 : Int), ())) ()) (fun r18 => (A.cndS (A.ltI r18.1.1 0) (some ((false, ()), ())) (A.obind (laws_heldMessageS_t A k (r17.2, (r18.1.1, ())) ()) (fun r19 => (A.cndS (A.ltI r19.1.1 0) (some ((false, ()), ())) (A.cndS (A.notB (A.eqI r19.1.1 r17.1.1)) (some ((false, ()), ())) (A.obind (laws_toMessageS_t A k (e15.1, ()) ()) (fun r20 => (A.obind (impl_BagTakeX_t A k (r20.1.1, (e15.2.1, ())) ()) (fun r21 => (A.obind (A.obind (laws_eqMessage_t A k (r21.1.1, (e15.2.2.2.2.1, ())) ()) (fun r22 => (A.cndS (A.notB r22.1.1) (some (.inr ((false, ()), ()))) (A.obind (laws_eqMessageS_t A k (r21.1.2.1, (e15.2.2.1, ())) ()) (fun r23 => (A.cndS (A.cndS false true (A.notB r23.1.1)) (some (.inr ((false, ()), ()))) (A.cndS (A.cndS false true (A.notB (A.eqB r21.1.2.2.1 e15.2.2.2.1))) (some (.inr ((false, ()), ()))) (some (.inl (r17.1.1, ((r16.2, (r17.2, e15.2.2.2.2.2.1.2.2)), ()))))))))))) (fun r24 => (A.sumE r24 (fun e25 => (A.obind (laws_heldMessage_t A k (e25.2.1.1, ((1 : Int), ())) ()) (fun r26 => (A.cndS (A.ltI r26.1.1 0) (some ((false, ()), ())) (A.obind (laws_heldMessageS_t A k (e25.2.1.2.1, (r26.1.1, ())) ()) (fun r27 => (A.cndS (A.ltI r27.1.1 0) (some ((false, ()), ())) (A.cndS (A.notB (A.eqI r27.1.1 e25.1)) (some ((false, ()), ())) (some ((true, ()), ())))))))))) (fun e28 => (some e28))))))))))))))))))))) (fun e29 => (some e29))))))))))))) (fun e30 => (some e30))))))))))))))))
end Go.Den.T

namespace Go.Den
/-- the words are the plain ones (the kernel sees a variable, and unfolds nothing) -/
class IsReal (A : Atoms) : Prop where
  eq : A = real
instance isReal_real : IsReal real := ⟨rfl⟩
section
variable {A : Atoms} [R : IsReal A] {α β γ σ ρ : Type}
@[simp] theorem a_cndS (c : Bool) (x y : α) : A.cndS c x y = if c = true then x else y := by obtain rfl := R.eq; cases c <;> rfl
@[simp] theorem a_obind_some (a : α) (f : α → Option β) : A.obind (some a) f = f a := by obtain rfl := R.eq; rfl
@[simp] theorem a_obind_none (f : α → Option β) : A.obind none f = none := by obtain rfl := R.eq; rfl
@[simp] theorem a_sumE_inl (a : α) (f : α → γ) (g : β → γ) : A.sumE (.inl a) f g = f a := by obtain rfl := R.eq; rfl
@[simp] theorem a_sumE_inr (b : β) (f : α → γ) (g : β → γ) : A.sumE (.inr b) f g = g b := by obtain rfl := R.eq; rfl
theorem a_iter (k : Nat) (f : σ → Option (σ ⊕ ρ)) (s : σ) : A.iter k f s = iter k f s := by obtain rfl := R.eq; rfl
@[simp] theorem a_le0 (n : Int) : A.le0 n = decide (0 ≤ n) := by obtain rfl := R.eq; rfl
@[simp] theorem a_leI (a b : Int) : A.leI a b = decide (a ≤ b) := by obtain rfl := R.eq; rfl
@[simp] theorem a_ltI (a b : Int) : A.ltI a b = decide (a < b) := by obtain rfl := R.eq; rfl
@[simp] theorem a_lenL (xs : List α) : A.lenL xs = (xs.length : Int) := by obtain rfl := R.eq; rfl
@[simp] theorem a_takeL (xs : List α) (n : Int) : A.takeL xs n = xs.take n.toNat := by obtain rfl := R.eq; rfl
@[simp] theorem a_dropL (xs : List α) (n : Int) : A.dropL xs n = xs.drop n.toNat := by obtain rfl := R.eq; rfl
@[simp] theorem a_atL (xs : List α) (n : Int) (d : α) : A.atL xs n d = xs.getD n.toNat d := by obtain rfl := R.eq; rfl
@[simp] theorem a_setL (xs : List α) (n : Int) (x : α) : A.setL xs n x = xs.set n.toNat x := by obtain rfl := R.eq; rfl
@[simp] theorem a_appL (xs ys : List α) : A.appL xs ys = xs ++ ys := by obtain rfl := R.eq; rfl
@[simp] theorem a_repL (n : Int) (d : α) : A.repL n d = List.replicate n.toNat d := by obtain rfl := R.eq; rfl
@[simp] theorem a_u8i (b : UInt8) : A.u8i b = (b.toNat : Int) := by obtain rfl := R.eq; rfl
@[simp] theorem a_eqI (a b : Int) : A.eqI a b = decide (a = b) := by obtain rfl := R.eq; rfl
@[simp] theorem a_eqB (a b : Bool) : A.eqB a b = (a == b) := by obtain rfl := R.eq; rfl
@[simp] theorem a_eqS (a b : List UInt8) : A.eqS a b = decide (a = b) := by obtain rfl := R.eq; rfl
@[simp] theorem a_lessS (a b : List UInt8) : A.lessS a b = Op.bytesLess a b := by obtain rfl := R.eq; rfl
@[simp] theorem a_notB (b : Bool) : A.notB b = !b := by obtain rfl := R.eq; rfl
@[simp] theorem a_andB (a b : Bool) : A.andB a b = (a && b) := by obtain rfl := R.eq; rfl
@[simp] theorem a_orB (a b : Bool) : A.orB a b = (a || b) := by obtain rfl := R.eq; rfl
@[simp] theorem a_addI (a b : Int) : A.addI a b = a + b := by obtain rfl := R.eq; rfl
@[simp] theorem a_subI (a b : Int) : A.subI a b = a - b := by obtain rfl := R.eq; rfl
@[simp] theorem a_mulI (a b : Int) : A.mulI a b = a * b := by obtain rfl := R.eq; rfl
@[simp] theorem a_quoI (a b : Int) : A.quoI a b = a.tdiv b := by obtain rfl := R.eq; rfl
@[simp] theorem a_remI (a b : Int) : A.remI a b = a.tmod b := by obtain rfl := R.eq; rfl
@[simp] theorem a_shrI (a b : Int) : A.shrI a b = a.fdiv (2 ^ b.toNat) := by obtain rfl := R.eq; rfl
@[simp] theorem a_minI (a b : Int) : A.minI a b = if b < a then b else a := by obtain rfl := R.eq; rfl
@[simp] theorem a_maxI (a b : Int) : A.maxI a b = if a < b then b else a := by obtain rfl := R.eq; rfl
theorem a_wrapI (k : IntKind) (n : Int) : A.wrapI k n = k.wrap n := by obtain rfl := R.eq; rfl
@[simp] theorem a_byteList (xs : List Int) : A.byteList xs = xs.map fun n => UInt8.ofNat n.toNat := by obtain rfl := R.eq; rfl
@[simp] theorem a_intList (s : List UInt8) : A.intList s = s.map fun b => (b.toNat : Int) := by obtain rfl := R.eq; rfl
@[simp] theorem a_big : A.big = 4294967296 := by obtain rfl := R.eq; rfl
theorem wrap_i64 {n : Int} (h1 : -9223372036854775808 ≤ n) (h2 : n ≤ 9223372036854775807) : IntKind.i64.wrap n = n := by
  have e : IntKind.i64.wrap n = if (decide (n % 18446744073709551616 ≥ 9223372036854775808)) = true then n % 18446744073709551616 - 18446744073709551616 else n % 18446744073709551616 := rfl
  rw [e]
  by_cases hn : 0 ≤ n
  · have : n % 18446744073709551616 = n := Int.emod_eq_of_lt hn (by omega)
    rw [this, if_neg (by simp; omega)]
  · have : n % 18446744073709551616 = n + 18446744073709551616 := by omega
    rw [this, if_pos (by simp; omega)]; omega
theorem a_wrap {n : Int} (h1 : -9223372036854775808 ≤ n) (h2 : n ≤ 9223372036854775807) : A.wrapI .i64 n = n := by rw [a_wrapI, wrap_i64 h1 h2]
/-! ### what a reading comes to -/
def Ok (x : Option α) (Q : α → Prop) : Prop := ∃ r, x = some r ∧ Q r
theorem Ok.mono {x : Option α} {Q Q' : α → Prop} (h : Ok x Q) (k : ∀ r, Q r → Q' r) : Ok x Q' := by obtain ⟨r, e, q⟩ := h; exact ⟨r, e, k r q⟩
theorem ok_some {r : α} {Q : α → Prop} : Ok (some r) Q ↔ Q r := ⟨fun ⟨_, e, q⟩ => (by cases e; exact q), fun q => ⟨r, rfl, q⟩⟩
theorem ok_cndS {c : Bool} {x y : Option α} {Q : α → Prop} : Ok (A.cndS c x y) Q ↔ (c = true → Ok x Q) ∧ (c = false → Ok y Q) := by
  rw [a_cndS]; cases c <;> simp
theorem ok_obind {x : Option α} {f : α → Option β} {Q : β → Prop} : Ok (A.obind x f) Q ↔ Ok x (fun r => Ok (f r) Q) := by
  obtain rfl := R.eq
  cases x with
  | none => exact ⟨fun ⟨_, e, _⟩ => (by cases e), fun ⟨_, e, _⟩ => (by cases e)⟩
  | some a => exact ⟨fun h => ⟨a, rfl, h⟩, fun ⟨r, e, h⟩ => (by cases e; exact h)⟩
theorem ok_eq {x : Option α} {v : α} : Ok x (· = v) ↔ x = some v := ⟨fun ⟨r, e, q⟩ => (by rw [e, q]), fun h => ⟨v, h, rfl⟩⟩
theorem Ok.bind {x : Option α} {f : α → Option β} {P : α → Prop} {Q : β → Prop} (h : Ok x P) (k : ∀ r, P r → Ok (f r) Q) : Ok (A.obind x f) Q := ok_obind.2 (h.mono k)

/-! ### loops -/
/-- a loop, by an invariant that bears a number, which every round lowers -/
theorem iter_ok {f : σ → Option (σ ⊕ ρ)} (I : Nat → σ → Prop) (Q : ρ → Prop)
    (h : ∀ n s, I n s → Ok (f s) (fun r => (∀ s', r = .inl s' → ∃ m, m < n ∧ I m s') ∧ ∀ e, r = .inr e → Q e)) :
    ∀ {k n : Nat} {s : σ}, n < k → I n s → Ok (A.iter k f s) Q := by
  intro k
  rw [show (A.iter k f : σ → Option ρ) = iter k f from funext (a_iter k f)]
  induction k with
  | zero => intro n s hn; omega
  | succ k ih =>
    intro n s hn hI
    obtain ⟨r, h1, h2, h3⟩ := h n s hI
    cases r with
    | inl s' =>
      obtain ⟨m, h4, h5⟩ := h2 s' rfl
      obtain ⟨r, h6, h7⟩ := ih (by omega) h5
      exact ⟨r, (by simp only [iter, h1]; exact h6), h7⟩
    | inr r => exact ⟨r, (by simp only [iter, h1]), h3 r rfl⟩
/-- a loop that goes by a number and may stop early -/
theorem iter_walk {f : σ → Option (σ ⊕ ρ)} (St : Nat → σ) (n : Nat) (stop : Nat → Option ρ) (d : ρ)
    (hs : ∀ i, i < n → f (St i) = some (match stop i with | none => .inl (St (i + 1)) | some e => .inr e))
    (hd : f (St n) = some (.inr d)) : ∀ {k : Nat}, n < k → A.iter k f (St 0) = some (((List.range n).findSome? stop).getD d) := by
  have main : ∀ m i k, n - i = m → i ≤ n → m < k → iter k f (St i) = some (((List.range' i m).findSome? stop).getD d) := by
    intro m
    induction m with
    | zero =>
      intro i k hm hi hk
      obtain ⟨k, rfl⟩ : ∃ q, k = q + 1 := ⟨k - 1, by omega⟩
      have : i = n := by omega
      subst this
      simp [iter, hd]
    | succ m ih =>
      intro i k hm hi hk
      obtain ⟨k, rfl⟩ : ∃ q, k = q + 1 := ⟨k - 1, by omega⟩
      have e := hs i (by omega)
      simp only [iter, e, List.range'_succ, List.findSome?_cons]
      cases h : stop i with
      | none => exact ih (i + 1) k (by omega) (by omega) (by omega)
      | some r => rfl
  intro k hk
  rw [a_iter, main n 0 k (by omega) (by omega) hk, List.range_eq_range']
theorem iter_for {f : σ → Option (σ ⊕ ρ)} (St : Nat → σ) (n : Nat) (d : ρ) (hs : ∀ i, i < n → f (St i) = some (.inl (St (i + 1)))) (hd : f (St n) = some (.inr d)) {k : Nat} (hk : n < k) :
    A.iter k f (St 0) = some d := by
  rw [iter_walk St n (fun _ => none) d hs hd hk]
  have : ∀ l : List Nat, l.findSome? (fun _ => (none : Option ρ)) = none := by intro l; induction l <;> simp_all
  rw [this]; rfl
/-- a loop that looks whether all is well -/
theorem iter_all {f : σ → Option (σ ⊕ ρ)} (St : Nat → σ) (n : Nat) (p : Nat → Bool) (e d : ρ) (hs : ∀ i, i < n → f (St i) = some (if p i = true then .inl (St (i + 1)) else .inr e)) (hd : f (St n) = some (.inr d)) {k : Nat} (hk : n < k) :
    A.iter k f (St 0) = some (if (List.range n).all p = true then d else e) := by
  rw [iter_walk St n (fun i => if p i = true then none else some e) d (fun i hi => by rw [hs i hi]; cases p i <;> rfl) hd hk]
  congr 1
  induction (List.range n) with
  | nil => rfl
  | cons x xs ih =>
    simp only [List.findSome?_cons, List.all_cons]
    by_cases h : p x = true
    · simp only [h, if_true, Bool.true_and]; exact ih
    · have h' : p x = false := by simpa using h
      simp [h']
theorem range_find {n : Nat} {f : Nat → Option α} : ((List.range n).findSome? f = none ∧ ∀ i, i < n → f i = none) ∨ ∃ i x, i < n ∧ f i = some x ∧ (∀ j, j < i → f j = none) ∧ (List.range n).findSome? f = some x := by
  induction n with
  | zero => exact .inl ⟨rfl, fun i hi => by omega⟩
  | succ n ih =>
    rw [List.range_succ, List.findSome?_append]
    rcases ih with ⟨e, h⟩ | ⟨i, x, h1, h2, h3, e⟩
    · rw [e]
      cases hf : f n with
      | none => exact .inl ⟨by simp [hf], fun i hi => by by_cases hin : i = n; · rw [hin]; exact hf
                                                         · exact h i (by omega)⟩
      | some x => exact .inr ⟨n, x, by omega, hf, h, by simp [hf]⟩
    · exact .inr ⟨i, x, by omega, h2, h3, by rw [e]; rfl⟩
theorem findSome_map (l : List Nat) (p : Nat → Prop) [DecidablePred p] (f : Nat → α) (g : α → β) : l.findSome? (fun i => if p i then some (g (f i)) else none) = (l.findSome? fun i => if p i then some (f i) else none).map g := by
  induction l with
  | nil => rfl
  | cons x l ih =>
    simp only [List.findSome?_cons]
    by_cases h : p x
    · simp only [if_pos h]; rfl
    · simp only [if_neg h]; exact ih
theorem range_all {p : Nat → Bool} {n : Nat} : (List.range n).all p = true ↔ ∀ i, i < n → p i = true := by simp [List.all_eq_true]
theorem getD_lt {xs : List α} {n : Nat} {d : α} (h : n < xs.length) : xs.getD n d = xs[n] := by simp [h]
theorem all_range {xs : List α} {q : α → Bool} {d : α} : (List.range xs.length).all (fun i => q (xs.getD i d)) = xs.all q := by
  rw [Bool.eq_iff_iff, range_all, List.all_eq_true]
  constructor
  · intro h x hx
    obtain ⟨i, hi, rfl⟩ := List.mem_iff_getElem.1 hx
    have := h i hi
    rwa [getD_lt hi] at this
  · intro h i hi
    rw [getD_lt hi]; exact h _ (List.getElem_mem hi)
end
end Go.Den

namespace Go.Den.T
set_option linter.unusedVariables false
theorem replacedX_hg (k : Nat) (xs : (List (Int × (Int × (Int × ((Int × ((List Int) × (Bool × Unit))) × ((List (Int × (Int × ((Int × ((List UInt8) × (Int × (Int × Unit)))) × Unit)))) × Unit))))))) (p m : Int) (ys : (List (Int × (Int × (Int × ((Int × ((List Int) × (Bool × Unit))) × ((List (Int × (Int × ((Int × ((List UInt8) × (Int × (Int × Unit)))) × Unit)))) × Unit))))))) (rd : Unit) (r : ((List (Int × (Int × (Int × ((Int × ((List Int) × (Bool × Unit))) × ((List (Int × (Int × ((Int × ((List UInt8) × (Int × (Int × Unit)))) × Unit)))) × Unit)))))) × Unit) × Unit) (h : impl_replacedX_Message_t real k (xs, (p, (m, (ys, ())))) rd = some r) :
    0 ≤ p ∧ 0 ≤ m ∧ p + m ≤ (xs.length : Int) ∧ (xs.length : Int) < 4294967296 ∧ ys.length = 0 ∧ r.1 = (xs.take p.toNat ++ xs.drop (p + m).toNat, ()) := by
  have key : ∀ (A : Atoms) [IsReal A], impl_replacedX_Message_t A k (xs, (p, (m, (ys, ())))) rd = some r → 0 ≤ p ∧ 0 ≤ m ∧ p + m ≤ (xs.length : Int) ∧ (xs.length : Int) < 4294967296 ∧ ys.length = 0 ∧ r.1 = (xs.take p.toNat ++ xs.drop (p + m).toNat, ()) := by
    intro A _ h
    simp only [impl_replacedX_Message_t, a_cndS, a_andB, a_le0, a_leI, a_ltI, a_addI, a_lenL, a_big, a_appL, a_takeL, a_dropL, Bool.and_eq_true, decide_eq_true_eq] at h
    split at h
    · rename_i hc
      injection h with h
      exact ⟨hc.1, hc.2.1, hc.2.2.1, hc.2.2.2.1, by have := hc.2.2.2.2; omega, by rw [← h]⟩
    · cases h
  exact key real h
end Go.Den.T

namespace Go.Den.T
set_option linter.unusedVariables false
set_option linter.unusedSimpArgs false
variable {A : Atoms} [IsReal A]
abbrev Cfg := Int × (List Int × (Bool × Unit))

theorem nodeValid_eq (k : Nat) (v : Int) : impl_nodeValid_t A k (v, ()) () = some ((decide (0 ≤ v ∧ v ≤ 4), ()), ()) := by
  simp only [impl_nodeValid_t, a_cndS, a_leI, a_ltI, if_true, decide_eq_true_eq]
  by_cases h : 0 ≤ v <;> simp [h]; omega
theorem l1In_eq (k : Nat) (v a b : Int) : spec_l1In_t A k (v, (a, (b, ()))) () = some ((decide (a ≤ v ∧ v ≤ b), ()), ()) := by
  simp only [spec_l1In_t, a_cndS, a_leI, if_true, decide_eq_true_eq]
  by_cases h : a ≤ v <;> simp [h]

/-- the first place of a number, or -1 -/
def idx (xs : List Int) (v : Int) : Int := ((List.range xs.length).findSome? fun i => if v = xs.getD i 0 then some (i : Int) else none).getD (-1)
theorem idx_cases (xs : List Int) (v : Int) : (idx xs v = -1 ∧ v ∉ xs) ∨ ∃ i : Nat, idx xs v = i ∧ i < xs.length ∧ xs.getD i 0 = v ∧ ∀ j, j < i → xs.getD j 0 ≠ v := by
  rcases range_find (n := xs.length) (f := fun i => if v = xs.getD i 0 then some (i : Int) else none) with ⟨e, h⟩ | ⟨i, x, h1, h2, h3, e⟩
  · refine .inl ⟨by rw [idx, e]; rfl, fun hm => ?_⟩
    obtain ⟨i, hi, rfl⟩ := List.mem_iff_getElem.1 hm
    have := h i hi
    rw [getD_lt hi, if_pos rfl] at this; cases this
  · by_cases hv : v = xs.getD i 0
    · rw [if_pos hv] at h2; cases h2
      exact .inr ⟨i, by rw [idx, e]; rfl, h1, hv.symm, fun j hj hjv => by have := h3 j hj; rw [if_pos hjv.symm] at this; cases this⟩
    · rw [if_neg hv] at h2; cases h2
theorem idx_mem {xs : List Int} {v : Int} : 0 ≤ idx xs v ↔ v ∈ xs := by
  rcases idx_cases xs v with ⟨e, h⟩ | ⟨i, e, h1, h2, _⟩
  · simp [e, h]
  · rw [e]; simp only [Int.natCast_nonneg, true_iff]; rw [← h2, getD_lt h1]; exact List.getElem_mem h1
theorem slices_Index_eq (k : Nat) (xs : List Int) (v : Int) (hk : xs.length < k) (hl : xs.length ≤ 1000000000000) : slices_Index_int_t A k (xs, (v, ())) () = some ((idx xs v, ()), ()) := by
  have h := iter_walk (A := A) (f := slices_Index_int_t_b0 A k) (fun i => (xs, (v, ((xs.length : Int), ((i : Int), ()))))) xs.length (fun i => if v = xs.getD i 0 then some (.inr (((i : Int), ()), ())) else none) (.inl ())
    (fun i hi => by
      simp (disch := omega) [slices_Index_int_t_b0, hi, a_wrap]
      by_cases hv : v = xs[i] <;> simp [hv])
    (by simp [slices_Index_int_t_b0]) hk
  simp only [slices_Index_int_t, a_lenL]
  rw [show ((0 : Int)) = ((0 : Nat) : Int) from rfl, h, idx]
  rw [findSome_map (List.range xs.length) (fun i => v = xs.getD i 0) (fun i => (i : Int)) (fun i => Sum.inr (α := Unit) ((i, ()), ()))]
  cases (List.range xs.length).findSome? fun i => if v = xs.getD i 0 then some (i : Int) else none <;> simp
theorem slices_Contains_eq (k : Nat) (xs : List Int) (v : Int) (hk : xs.length < k) (hl : xs.length ≤ 1000000000000) : slices_Contains_int_t A k (xs, (v, ())) () = some ((decide (v ∈ xs), ()), ()) := by
  simp [slices_Contains_int_t, slices_Index_eq k xs v hk hl, idx_mem]
/-! ### valid configurations -/
def membersOk (xs : List Int) : Bool := (List.range xs.length).all fun i => decide (0 ≤ xs.getD i 0 ∧ xs.getD i 0 ≤ 4) && !decide (xs.getD i 0 ∈ xs.take i)
def cfgOk (c : Cfg) : Bool := decide (1 ≤ c.1 ∧ c.1 ≤ 60) && (decide (1 ≤ c.2.1.length ∧ c.2.1.length ≤ 4) && (!(c.2.2.1 && decide (c.2.1.length < 2)) && membersOk c.2.1))

theorem impl_ConfigValid_eq (k : Nat) (hk : 10 ≤ k) (c : Cfg) : impl_ConfigValid_t A k (c, ()) () = some ((cfgOk c, ()), ()) := by
  obtain ⟨ep, xs, fr, _⟩ := c
  have h : xs.length ≤ 4 → A.iter k (impl_ConfigValid_t_b0 A k) (xs, ((xs.length : Int), (((0 : Nat) : Int), ((ep, (xs, (fr, ()))), ())))) = some (if membersOk xs = true then .inl () else .inr ((false, ()), ())) := fun hl =>
    iter_all (A := A) (f := impl_ConfigValid_t_b0 A k) (fun i => (xs, ((xs.length : Int), ((i : Int), ((ep, (xs, (fr, ()))), ()))))) xs.length (fun i => decide (0 ≤ xs.getD i 0 ∧ xs.getD i 0 ≤ 4) && !decide (xs.getD i 0 ∈ xs.take i)) (.inr ((false, ()), ())) (.inl ())
    (fun i hi => by
      have hle : (i : Int) ≤ (xs.length : Int) := by omega
      simp (disch := omega) [impl_ConfigValid_t_b0, hi, hle, a_wrap, nodeValid_eq]
      rw [slices_Contains_eq k (xs.take i) xs[i] (by simp; omega) (by simp; omega)]
      by_cases h1 : 0 ≤ xs[i] ∧ xs[i] ≤ 4
      · by_cases h2 : xs[i] ∈ xs.take i <;> simp [h1, h2]
      · simp [h1])
    (by simp [impl_ConfigValid_t_b0]) (by omega)
  have h' := fun hl => h hl
  simp only [Int.natCast_zero, Int.ofNat_zero] at h'
  simp only [impl_ConfigValid_t, cfgOk, a_cndS, a_ltI, a_lenL, decide_eq_true_eq, Bool.false_eq_true, if_true, if_false]
  by_cases h1 : ep < 1
  · simp [h1]; omega
  by_cases h2 : 60 < ep
  · simp [h1, h2]; omega
  by_cases h3 : (xs.length : Int) < 1
  · simp [h1, h2, h3]; omega
  by_cases h4 : (4 : Int) < (xs.length : Int)
  · simp [h1, h2, h3, h4]; omega
  have e1 : (1 ≤ ep ∧ ep ≤ 60) := by omega
  have e2 : (1 ≤ xs.length ∧ xs.length ≤ 4) := by omega
  by_cases h5 : fr = true
  · by_cases h6 : (xs.length : Int) < 2
    · have : xs.length < 2 := by omega
      simp [h1, h2, h3, h4, h5, h6, this]
    · have : ¬ xs.length < 2 := by omega
      subst h5
      simp [h1, h2, h3, h4, h6, this, e1, e2]
      rw [h' (by omega)]
      cases membersOk xs <;> simp
  · have h5 : fr = false := by simpa using h5
    subst h5
    simp [h1, h2, h3, h4, e1, e2]
    rw [h' (by omega)]
    cases membersOk xs <;> simp
theorem not_mem_take {xs : List Int} {i : Nat} (hi : i < xs.length) {v : Int} : (List.range i).all (fun j => !decide (xs.getD j 0 = v)) = !decide (v ∈ xs.take i) := by
  rw [Bool.eq_iff_iff, range_all]
  simp only [Bool.not_eq_true', decide_eq_false_iff_not]
  constructor
  · intro h hm
    obtain ⟨j, hj, he⟩ := List.mem_iff_getElem.1 hm
    simp at hj he
    exact h j (by omega) (by rw [getD_lt (by omega)]; exact he)
  · intro h j hj he
    refine h (List.mem_iff_getElem.2 ⟨j, by simp; omega, ?_⟩)
    rw [getD_lt (by omega)] at he
    simpa using he
theorem spec_ConfigValid_eq (k : Nat) (hk : 10 ≤ k) (c : Cfg) : spec_ConfigValid_t A k (c, ()) () = some ((cfgOk c, ()), ()) := by
  obtain ⟨ep, xs, fr, _⟩ := c
  have h0 : xs.length ≤ 4 → ∀ i, i < xs.length → A.iter k (spec_ConfigValid_t_b0 A k) ((i : Int), (((0 : Nat) : Int), ((ep, (xs, (fr, ()))), ()))) = some (if (!decide (xs.getD i 0 ∈ xs.take i)) = true then .inl ((i : Int), ((ep, (xs, (fr, ()))), ())) else .inr (.inr (.inr ((false, ()), ())))) := fun hl i hi => by
    rw [← not_mem_take hi]
    exact iter_all (A := A) (f := spec_ConfigValid_t_b0 A k) (fun j => ((i : Int), ((j : Int), ((ep, (xs, (fr, ()))), ())))) i (fun j => !decide (xs.getD j 0 = xs.getD i 0)) (.inr (.inr (.inr ((false, ()), ())))) (.inl ((i : Int), ((ep, (xs, (fr, ()))), ())))
      (fun j hj => by
        have h1 : j < xs.length := by omega
        simp (disch := omega) [spec_ConfigValid_t_b0, hi, hj, h1, a_wrap]
        by_cases hv : xs[j] = xs[i] <;> simp [hv])
      (by simp [spec_ConfigValid_t_b0]) (by omega)
  have h : xs.length ≤ 4 → A.iter k (spec_ConfigValid_t_b1 A k) (((0 : Nat) : Int), ((ep, (xs, (fr, ()))), ())) = some (if membersOk xs = true then .inl () else .inr ((false, ()), ())) := fun hl =>
    iter_all (A := A) (f := spec_ConfigValid_t_b1 A k) (fun i => ((i : Int), ((ep, (xs, (fr, ()))), ()))) xs.length (fun i => decide (0 ≤ xs.getD i 0 ∧ xs.getD i 0 ≤ 4) && !decide (xs.getD i 0 ∈ xs.take i)) (.inr ((false, ()), ())) (.inl ())
    (fun i hi => by
      have h0 := h0 hl i hi
      simp only [Int.ofNat_zero, Int.natCast_zero] at h0
      simp (disch := omega) [spec_ConfigValid_t_b1, hi, a_wrap, l1In_eq]
      rw [h0]
      by_cases h1 : 0 ≤ xs[i] ∧ xs[i] ≤ 4
      · by_cases h2 : xs[i] ∈ xs.take i <;> simp (disch := omega) [h1, h2, hi, a_wrap]
      · simp [h1])
    (by simp [spec_ConfigValid_t_b1]) (by omega)
  have h' := fun hl => h hl
  simp only [Int.natCast_zero, Int.ofNat_zero] at h'
  simp only [spec_ConfigValid_t, cfgOk, l1In_eq, a_obind_some, a_cndS, a_ltI, a_lenL, a_notB, decide_eq_true_eq, Bool.false_eq_true, if_true, if_false, Bool.not_eq_true', decide_eq_false_iff_not]
  by_cases h1 : 1 ≤ ep ∧ ep ≤ 60
  case neg => simp [h1]
  by_cases h2 : 1 ≤ (xs.length : Int) ∧ (xs.length : Int) ≤ 4
  case neg => simp [h1, h2]; omega
  have e2 : (1 ≤ xs.length ∧ xs.length ≤ 4) := by omega
  by_cases h5 : fr = true
  · by_cases h6 : (xs.length : Int) < 2
    · have : xs.length < 2 := by omega
      simp [h1, h2, h5, h6, this]
    · have : ¬ xs.length < 2 := by omega
      subst h5
      simp [h1, h2, h6, this, e2]
      rw [h' (by omega)]
      cases membersOk xs <;> simp
  · have h5 : fr = false := by simpa using h5
    subst h5
    simp [h1, h2, e2]
    rw [h' (by omega)]
    cases membersOk xs <;> simp

/-! ### the other functions -/
theorem cfgOk_len {c : Cfg} (h : cfgOk c = true) : 1 ≤ c.1 ∧ c.1 ≤ 60 ∧ 1 ≤ c.2.1.length ∧ c.2.1.length ≤ 4 ∧ (c.2.2.1 = true → 2 ≤ c.2.1.length) := by
  simp only [cfgOk, Bool.and_eq_true, decide_eq_true_eq, Bool.not_eq_true', Bool.and_eq_false_iff, decide_eq_false_iff_not] at h
  refine ⟨h.1.1, h.1.2, h.2.1.1, h.2.1.2, fun hf => ?_⟩
  rcases h.2.2.1 with h | h
  · rw [h] at hf; cases hf
  · omega
theorem l16Copy_eq (k : Nat) (c : Cfg) (h : c.2.1.length ≤ 1000000000) : spec_l16Copy_t A k (c, ()) () = some ((c, ()), ()) := by
  have : (c.2.1.length : Int) < 4294967296 := by omega
  simp [spec_l16Copy_t, this]
/-- a configuration without a member -/
def without (c : Cfg) (i : Nat) : Cfg := (c.1 + 1, (c.2.1.take i ++ c.2.1.drop (i + 1), ((c.2.2.1 && !decide (i = c.2.1.length - 1)), ())))
end Go.Den.T

namespace Go.Den.T
set_option linter.unusedVariables false
set_option linter.unusedSimpArgs false
variable {A : Atoms} [IsReal A]
theorem fill_step {α : Type} (xs : List α) (d e : α) (i n : Nat) (hn : n = xs.length) (h : i < n) : (xs.take i ++ List.replicate (n - i) d).set i (xs.getD i e) = xs.take (i + 1) ++ List.replicate (n - (i + 1)) d := by
  subst hn
  rw [List.set_append_right _ _ (by simp; omega)]
  have e1 : i - (xs.take i).length = 0 := by simp; omega
  have e2 : xs.length - i = (xs.length - (i + 1)) + 1 := by omega
  rw [e1, e2, List.replicate_succ, List.set_cons_zero, List.take_succ_eq_append_getElem h, getD_lt h, List.append_assoc]
  rfl
theorem toIntS_eq (k : Nat) (xs : List Int) (hk : xs.length < k) (hl : xs.length ≤ 1000000000) : laws_toIntS_t A k (xs, ()) () = some ((xs, ()), ()) := by
  have h := iter_for (A := A) (f := laws_toIntS_t_b0 A k) (fun i => (xs, ((i : Int), (xs.take i ++ List.replicate (xs.length - i) 0, ())))) xs.length (xs, ())
    (fun i hi => by
      have e : min i xs.length + (xs.length - i) = xs.length := by omega
      have := fill_step xs 0 0 i xs.length rfl hi
      rw [getD_lt hi] at this
      simp (disch := omega) [laws_toIntS_t_b0, hi, a_wrap, e, this])
    (by simp [laws_toIntS_t_b0]) hk
  have h1 : (xs.length : Int) < 4294967296 := by omega
  simp [laws_toIntS_t, h1]
  simp at h
  rw [h]; simp
theorem toConfig_eq (k : Nat) (c : Cfg) (hk : c.2.1.length < k) (hl : c.2.1.length ≤ 1000000000) : laws_toConfig_t A k (c, ()) () = some ((c, ()), ()) := by
  simp [laws_toConfig_t, toIntS_eq k c.2.1 hk hl]
theorem szIntS_eq (k : Nat) (xs : List Int) (n : Int) (h : 0 ≤ n) (h1 : n ≤ 1000000000000) (hl : xs.length ≤ 9223372036854775807) : laws_szIntS_t A k (xs, (n, ())) () = some (((if n < xs.length then -1 else n - xs.length), ()), ()) := by
  by_cases hh : n < xs.length
  · have : n - (xs.length : Int) < 0 := by omega
    simp (disch := omega) [laws_szIntS_t, a_wrap, hh, this]
  · have : ¬ n - (xs.length : Int) < 0 := by omega
    simp (disch := omega) [laws_szIntS_t, a_wrap, hh, this]
theorem szConfig_eq (k : Nat) (c : Cfg) (n : Int) (h : 0 ≤ n) (h1 : n ≤ 1000000000000) (hl : c.2.1.length ≤ 9223372036854775807) : laws_szConfig_t A k (c, (n, ())) () = some (((if n < c.2.1.length then -1 else n - c.2.1.length), ()), ()) := by
  by_cases hh : n < c.2.1.length
  · simp [laws_szConfig_t, szIntS_eq k c.2.1 n h h1 hl, hh]
  · have : ¬ n - (c.2.1.length : Int) < 0 := by omega
    simp [laws_szConfig_t, szIntS_eq k c.2.1 n h h1 hl, hh, this]
theorem list_eq_iff {xs ys : List Int} (h : xs.length = ys.length) : (List.range xs.length).all (fun i => decide (xs.getD i 0 = ys.getD i 0)) = decide (xs = ys) := by
  rw [Bool.eq_iff_iff, range_all, decide_eq_true_eq]
  constructor
  · intro hh
    refine List.ext_getElem h fun i h1 h2 => ?_
    have := hh i h1
    rw [getD_lt h1, getD_lt h2] at this; simpa using this
  · intro e i _; subst e; simp
theorem eqIntS_eq (k : Nat) (xs ys : List Int) (hk : xs.length < k) (hl : xs.length ≤ 1000000000) : laws_eqIntS_t A k (xs, (ys, ())) () = some ((decide (xs = ys), ()), ()) := by
  by_cases he : xs.length = ys.length
  · have h := iter_all (A := A) (f := laws_eqIntS_t_b0 A k) (fun i => (xs, (ys, ((i : Int), ())))) xs.length (fun i => decide (xs.getD i 0 = ys.getD i 0)) (.inr ((false, ()), ())) (.inl ())
      (fun i hi => by
        have hi' : i < ys.length := by omega
        simp (disch := omega) [laws_eqIntS_t_b0, hi, hi', a_wrap]
        by_cases hv : xs[i] = ys[i] <;> simp [hv])
      (by simp [laws_eqIntS_t_b0]) hk
    rw [list_eq_iff he] at h
    simp [laws_eqIntS_t, he]
    simp at h
    rw [h]
    by_cases hv : xs = ys <;> simp [hv]
  · have h2 : ¬ (xs.length : Int) = ys.length := by omega
    have h3 : ¬ xs = ys := fun e => he (by rw [e])
    simp [laws_eqIntS_t, h2, h3]
theorem eqConfig_eq (k : Nat) (c d : Cfg) (hk : c.2.1.length < k) (hl : c.2.1.length ≤ 1000000000) : laws_eqConfig_t A k (c, (d, ())) () = some ((decide (c = d), ()), ()) := by
  obtain ⟨e1, xs, f1, _⟩ := c
  obtain ⟨e2, ys, f2, _⟩ := d
  simp only at hk hl
  simp [laws_eqConfig_t, eqIntS_eq k xs ys hk hl]
  by_cases h1 : e1 = e2
  · by_cases h2 : xs = ys
    · by_cases h3 : f1 = f2 <;> simp [h1, h2, h3]
    · simp [h1, h2]
  · simp [h1]
/-- the numbers n, n+1, .. -/
def marks (n : Int) (m : Nat) : List Int := (List.range m).map fun i : Nat => n + (i : Int)
@[simp] theorem marks_len (n : Int) (m : Nat) : (marks n m).length = m := by simp [marks]
theorem marks_get {n : Int} {m i : Nat} (h : i < m) : (marks n m).getD i 0 = n + i := by rw [getD_lt (by simpa using h)]; simp [marks]
theorem marks_succ (n : Int) (m : Nat) : marks n (m + 1) = marks n m ++ [n + m] := by simp [marks, List.range_succ]
theorem mark_step (xs : List Int) (n : Int) (i : Nat) (h : i < xs.length) : (marks n i ++ xs.drop i).set i (n + i) = marks n (i + 1) ++ xs.drop (i + 1) := by
  rw [List.set_append_right _ _ (by simp)]
  simp only [marks_len, Nat.sub_self]
  rw [List.drop_eq_getElem_cons h, List.set_cons_zero, marks_succ]
  simp
theorem heldIntS_eq (k : Nat) (n : Int) (m : Nat) (hk : m < k) (hl : m ≤ 1000000000) (h0 : 0 ≤ n) (h1 : n ≤ 1000000000000) : laws_heldIntS_t A k (marks n m, (n, ())) () = some ((n + m, ()), ()) := by
  have h := iter_for (A := A) (f := laws_heldIntS_t_b0 A k) (fun i => (marks n m, (n + (i : Int), ((i : Int), ())))) m (.inl (n + (m : Int), ()))
    (fun i hi => by
      have e := marks_get (n := n) hi
      have hx : (marks n m)[i]?.getD 0 = n + i := by simpa [List.getD] using e
      simp (disch := omega) [laws_heldIntS_t_b0, hi, a_wrap, hx]
      omega)
    (by simp [laws_heldIntS_t_b0]) hk
  simp at h
  simp [laws_heldIntS_t, h]
theorem heldConfig_eq (k : Nat) (n ep : Int) (m : Nat) (q : Bool × Unit) (hk : m < k) (hl : m ≤ 1000000000) (h0 : 0 ≤ n) (h1 : n ≤ 1000000000000) : laws_heldConfig_t A k ((ep, (marks n m, q)), (n, ())) () = some ((n + m, ()), ()) := by
  have : ¬ n + (m : Int) < 0 := by omega
  simp [laws_heldConfig_t, heldIntS_eq k n m hk hl h0 h1, this]
end Go.Den.T

namespace Go.Den.T
set_option linter.unusedVariables false
set_option linter.unusedSimpArgs false
variable {A : Atoms} [IsReal A]
theorem copyOf_int_eq (k : Nat) (xs : List Int) (h : xs.length ≤ 1000000000) : impl_copyOf_int_t A k (xs, ()) () = some ((xs, ()), ()) := by
  have : (xs.length : Int) < 4294967296 := by omega
  simp [impl_copyOf_int_t, this]
theorem copyConfig_eq (k : Nat) (c : Cfg) (h : c.2.1.length ≤ 1000000000) : impl_copyConfig_t A k (c, ()) () = some ((c, ()), ()) := by
  simp [impl_copyConfig_t, copyOf_int_eq k c.2.1 h]
def after (c : Cfg) (n : Int) : Int := if (cfgOk c && (decide (n ∈ c.2.1) && !decide (idx c.2.1 n = (c.2.1.length : Int) - 1))) = true then c.2.1.getD (idx c.2.1 n + 1).toNat 0 else -1
/-! ### a member taken away -/
/-! ### exact laws -/
end Go.Den.T

namespace Go.Den.T
set_option linter.unusedVariables false
set_option linter.unusedSimpArgs false
set_option linter.unusedSectionVars false
variable {A : Atoms} [IsReal A]
abbrev Cmd := Int × (List UInt8 × (Int × (Int × Unit)))
abbrev Ent := Int × (Int × (Cmd × Unit))
def letter (b : UInt8) : Bool := decide (97 ≤ b.toNat ∧ b.toNat ≤ 122)
def keyOk (s : List UInt8) : Bool := decide (1 ≤ s.length ∧ s.length ≤ 4) && s.all letter
theorem lettersOnly_eq : ∀ (k : Nat) (s : List UInt8), s.length < k → impl_lettersOnly_t A k (s, ()) () = some ((s.all letter, ()), ())
  | 0, _, h => by omega
  | k + 1, [], _ => by simp [impl_lettersOnly_t]
  | k + 1, b :: s, h => by
    have ih := lettersOnly_eq k s (by simpa using h)
    simp only [List.length_cons] at h
    have h1 : (0 : Int) < (s.length : Int) + 1 := by omega
    have h2 : (1 : Int) ≤ (s.length : Int) + 1 := by omega
    by_cases q1 : 97 ≤ b.toNat
    · have q1' : (97 : Int) ≤ (b.toNat : Int) := by omega
      by_cases q2 : b.toNat ≤ 122
      · have q2' : (b.toNat : Int) ≤ 122 := by omega
        simp [impl_lettersOnly_t, h1, h2, q1, q1', q2, q2', ih, letter]
      · have q2' : ¬ (b.toNat : Int) ≤ 122 := by omega
        simp [impl_lettersOnly_t, h1, h2, q1, q1', q2, q2', letter]
    · have q1' : ¬ (97 : Int) ≤ (b.toNat : Int) := by omega
      simp [impl_lettersOnly_t, h1, h2, q1, q1', letter]
theorem impl_KeyValid_eq (k : Nat) (hk : 10 ≤ k) (s : List UInt8) : impl_KeyValid_t A k (s, ()) () = some ((keyOk s, ()), ()) := by
  by_cases h1 : (s.length : Int) < 1
  · have : ¬ (1 ≤ s.length ∧ s.length ≤ 4) := by omega
    simp only [impl_KeyValid_t, a_cndS, a_ltI, a_lenL, h1, decide_true, if_true, keyOk, this, decide_false, Bool.false_and]
  · by_cases h2 : (4 : Int) < (s.length : Int)
    · have : ¬ (1 ≤ s.length ∧ s.length ≤ 4) := by omega
      simp only [impl_KeyValid_t, a_cndS, a_ltI, a_lenL, h1, h2, decide_true, decide_false, Bool.false_eq_true, if_true, if_false, keyOk, this, Bool.false_and]
    · have : (1 ≤ s.length ∧ s.length ≤ 4) := by omega
      simp only [impl_KeyValid_t, a_cndS, a_ltI, a_lenL, h1, h2, decide_true, decide_false, Bool.false_eq_true, if_true, if_false, keyOk, this, lettersOnly_eq k s (by omega), a_obind_some, Bool.true_and, and_self]
theorem spec_KeyValid_eq (k : Nat) (hk : 10 ≤ k) (s : List UInt8) : spec_KeyValid_t A k (s, ()) () = some ((keyOk s, ()), ()) := by
  have h : s.length ≤ 4 → A.iter k (spec_KeyValid_t_b0 A k) (s, (((0 : Nat) : Int), ())) = some (if (List.range s.length).all (fun i => letter (s.getD i 0)) = true then .inl () else .inr ((false, ()), ())) := fun hl =>
    iter_all (A := A) (f := spec_KeyValid_t_b0 A k) (fun i => (s, ((i : Int), ()))) s.length (fun i => letter (s.getD i 0)) (.inr ((false, ()), ())) (.inl ())
      (fun i hi => by
        by_cases q1 : s[i].toNat < 97
        · have q1' : ¬ 97 ≤ s[i].toNat := by omega
          simp (disch := omega) [spec_KeyValid_t_b0, hi, a_wrap, letter, q1, q1']
          omega
        · have q1' : 97 ≤ s[i].toNat := by omega
          have q3 : ¬ (s[i].toNat : Int) < 97 := by omega
          by_cases q2 : 122 < s[i].toNat
          · have q2' : ¬ s[i].toNat ≤ 122 := by omega
            have q4 : (122 : Int) < (s[i].toNat : Int) := by omega
            simp (disch := omega) [spec_KeyValid_t_b0, hi, a_wrap, letter, q1', q2', q3, q4]
          · have q2' : s[i].toNat ≤ 122 := by omega
            have q4 : ¬ (122 : Int) < (s[i].toNat : Int) := by omega
            simp (disch := omega) [spec_KeyValid_t_b0, hi, a_wrap, letter, q1', q2', q3, q4])
      (by simp [spec_KeyValid_t_b0]) (by omega)
  rw [all_range] at h
  simp only [Int.natCast_zero, Int.ofNat_zero] at h
  simp only [spec_KeyValid_t, l1In_eq, a_obind_some, a_cndS, a_notB, keyOk, a_lenL]
  by_cases hl : 1 ≤ s.length ∧ s.length ≤ 4
  · have hl' : (1 : Int) ≤ (s.length : Int) ∧ (s.length : Int) ≤ 4 := by omega
    simp only [hl, hl', and_self, decide_true, Bool.not_true, Bool.false_eq_true, if_false, h hl.2, a_obind_some, Bool.true_and]
    cases s.all letter <;> simp
  · have hl' : ¬ ((1 : Int) ≤ (s.length : Int) ∧ (s.length : Int) ≤ 4) := by omega
    simp only [hl, hl', decide_false, Bool.not_false, if_true, Bool.false_and]
def cmdOk (c : Cmd) : Bool := (keyOk c.2.1 || (decide (c.1 = 5) && decide (c.2.1 = []))) &&
  (if c.1 = 1 ∨ c.1 = 3 ∨ c.1 = 5 then decide (c.2.2.1 = 0 ∧ c.2.2.2.1 = 0) else if c.1 = 2 then decide ((0 ≤ c.2.2.1 ∧ c.2.2.1 ≤ 999) ∧ c.2.2.2.1 = 0)
    else if c.1 = 4 then decide ((0 ≤ c.2.2.1 ∧ c.2.2.1 ≤ 999) ∧ -1 ≤ c.2.2.2.1 ∧ c.2.2.2.1 ≤ 999) else false)
theorem valueValid_eq (k : Nat) (v : Int) : impl_valueValid_t A k (v, ()) () = some ((decide (0 ≤ v ∧ v ≤ 999), ()), ()) := by
  simp only [impl_valueValid_t, a_cndS, a_leI, if_true, decide_eq_true_eq]
  by_cases h : 0 ≤ v <;> simp [h]
theorem seqValid_eq (k : Nat) (v : Int) : impl_seqValid_t A k (v, ()) () = some ((decide (1 ≤ v ∧ v ≤ 999), ()), ()) := by
  simp only [impl_seqValid_t, a_cndS, a_leI, if_true, decide_eq_true_eq]
  by_cases h : 1 ≤ v <;> simp [h]
theorem spec_CommandValid_eq (k : Nat) (hk : 10 ≤ k) (c : Cmd) : spec_CommandValid_t A k (c, ()) () = some ((cmdOk c, ()), ()) := by
  obtain ⟨op, s, v, o, _⟩ := c
  simp only [spec_CommandValid_t, spec_KeyValid_eq k hk, l1In_eq, a_obind_some, a_cndS, a_notB, a_eqI, a_eqS, cmdOk]
  by_cases h5 : op = 5
  · subst h5
    cases hb : keyOk s with
    | true =>
      by_cases hv : v = 0 <;> by_cases ho : o = 0 <;> simp [hv, ho]
    | false =>
      by_cases hs : s = []
      · by_cases hv : v = 0 <;> by_cases ho : o = 0 <;> simp [hs, hv, ho]
      · simp [hs]
  · cases hb : keyOk s with
    | false => simp [h5]
    | true =>
      by_cases h1 : op = 1
      · subst h1; by_cases hv : v = 0 <;> by_cases ho : o = 0 <;> simp [hv, ho]
      by_cases h3 : op = 3
      · subst h3; by_cases hv : v = 0 <;> by_cases ho : o = 0 <;> simp [hv, ho]
      by_cases h2 : op = 2
      · subst h2; by_cases hv : 0 ≤ v ∧ v ≤ 999 <;> by_cases ho : o = 0 <;> simp [hv, ho]
      by_cases h4 : op = 4
      · subst h4; by_cases hv : 0 ≤ v ∧ v ≤ 999 <;> simp [hv]
      simp [h1, h2, h3, h4, h5]
theorem impl_CommandValid_eq (k : Nat) (hk : 10 ≤ k) (c : Cmd) : impl_CommandValid_t A k (c, ()) () = some ((cmdOk c, ()), ()) := by
  obtain ⟨op, s, v, o, _⟩ := c
  simp only [impl_CommandValid_t, impl_KeyValid_eq k hk, valueValid_eq, a_obind_some, a_cndS, a_notB, a_eqI, a_eqS, a_ltI, cmdOk]
  by_cases hlo : op < 1
  · have h1 : ¬ op = 1 := by omega
    have h2 : ¬ op = 2 := by omega
    have h3 : ¬ op = 3 := by omega
    have h4 : ¬ op = 4 := by omega
    have h5 : ¬ op = 5 := by omega
    simp [hlo, h1, h2, h3, h4, h5]
  by_cases hhi : 5 < op
  · have h1 : ¬ op = 1 := by omega
    have h2 : ¬ op = 2 := by omega
    have h3 : ¬ op = 3 := by omega
    have h4 : ¬ op = 4 := by omega
    have h5 : ¬ op = 5 := by omega
    simp [hlo, hhi, h1, h2, h3, h4, h5]
  by_cases h5 : op = 5
  · subst h5
    cases hb : keyOk s with
    | true => by_cases hv : v = 0 <;> by_cases ho : o = 0 <;> simp [hb, hv, ho]
    | false =>
      by_cases hs : s = []
      · subst hs
        by_cases hv : v = 0 <;> by_cases ho : o = 0 <;> simp [hb, hv, ho]
      · simp [hb, hs]
  · cases hb : keyOk s with
    | false => simp [hb, h5, hlo, hhi]
    | true =>
      by_cases h1 : op = 1
      · subst h1; by_cases hv : v = 0 <;> by_cases ho : o = 0 <;> simp [hb, hv, ho]
      by_cases h3 : op = 3
      · subst h3; by_cases hv : v = 0 <;> by_cases ho : o = 0 <;> simp [hb, hv, ho]
      by_cases h2 : op = 2
      · subst h2; by_cases hv : 0 ≤ v ∧ v ≤ 999 <;> by_cases ho : o = 0 <;> simp [hb, hv, ho]
      have h4 : op = 4 := by omega
      subst h4
      by_cases hv : 0 ≤ v ∧ v ≤ 999
      · by_cases ho : o = -1
        · subst ho; simp [hb, hv]
        · have e : decide (-1 ≤ o ∧ o ≤ 999) = decide (0 ≤ o ∧ o ≤ 999) := by
            rw [Bool.eq_iff_iff]; simp; omega
          have e2 : (decide (-1 ≤ o) && decide (o ≤ 999)) = (decide (0 ≤ o) && decide (o ≤ 999)) := by simpa using e
          simp [hb, hv, ho, e2]
      · simp [hb, hv]
def entOk (e : Ent) : Bool := decide (0 ≤ e.1 ∧ e.1 ≤ 3) && (decide (1 ≤ e.2.1 ∧ e.2.1 ≤ 999) && cmdOk e.2.2.1)
theorem spec_EntryValid_eq (k : Nat) (hk : 10 ≤ k) (e : Ent) : spec_EntryValid_t A k (e, ()) () = some ((entOk e, ()), ()) := by
  simp only [spec_EntryValid_t, l1In_eq, spec_CommandValid_eq k hk, a_obind_some, a_cndS, entOk]
  by_cases h1 : 0 ≤ e.1 ∧ e.1 ≤ 3 <;> by_cases h2 : 1 ≤ e.2.1 ∧ e.2.1 ≤ 999 <;> simp [h1, h2]
theorem impl_EntryValid_eq (k : Nat) (hk : 10 ≤ k) (e : Ent) : impl_EntryValid_t A k (e, ()) () = some ((entOk e, ()), ()) := by
  simp only [impl_EntryValid_t, seqValid_eq, impl_CommandValid_eq k hk, a_obind_some, a_cndS, a_leI, a_ltI, entOk]
  by_cases h1 : 0 ≤ e.1
  · by_cases h3 : e.1 < 4
    · have : e.1 ≤ 3 := by omega
      by_cases h2 : 1 ≤ e.2.1 ∧ e.2.1 ≤ 999 <;> simp [h1, h2, h3, this]
    · have : ¬ e.1 ≤ 3 := by omega
      simp [h1, h3, this]
  · simp [h1]
/-! ### exact -/
theorem toCommand_eq (k : Nat) (c : Cmd) : laws_toCommand_t A k (c, ()) () = some ((c, ()), ()) := rfl
theorem toEntry_eq (k : Nat) (e : Ent) : laws_toEntry_t A k (e, ()) () = some ((e, ()), ()) := by simp [laws_toEntry_t, toCommand_eq]
def szOf (n : Int) (m : Nat) : Int := if n < m then -1 else n - m
theorem szCommand_eq (k : Nat) (c : Cmd) (n : Int) (h : 0 ≤ n) (h1 : n ≤ 1000000000000) (hl : c.2.1.length ≤ 9223372036854775807) : laws_szCommand_t A k (c, (n, ())) () = some ((szOf n c.2.1.length, ()), ()) := by
  by_cases hh : n < c.2.1.length
  · have : n - (c.2.1.length : Int) < 0 := by omega
    simp (disch := omega) [laws_szCommand_t, a_wrap, hh, this, szOf]
  · have : ¬ n - (c.2.1.length : Int) < 0 := by omega
    simp (disch := omega) [laws_szCommand_t, a_wrap, hh, this, szOf]
theorem szEntry_eq (k : Nat) (e : Ent) (n : Int) (h : 0 ≤ n) (h1 : n ≤ 1000000000000) (hl : e.2.2.1.2.1.length ≤ 9223372036854775807) : laws_szEntry_t A k (e, (n, ())) () = some ((szOf n e.2.2.1.2.1.length, ()), ()) := by
  simp only [laws_szEntry_t, szCommand_eq k e.2.2.1 n h h1 hl, a_obind_some, szOf, a_cndS, a_ltI]
  by_cases hh : n < e.2.2.1.2.1.length
  · simp [hh]
  · have : ¬ n - (e.2.2.1.2.1.length : Int) < 0 := by omega
    simp [hh, this]
end Go.Den.T

namespace Go.Den.T
set_option linter.unusedVariables false
set_option linter.unusedSimpArgs false
set_option linter.unusedSectionVars false
variable {A : Atoms} [IsReal A]
/-! ### loops over lists -/
theorem to_loop {α : Type} {f : List α × (Int × (List α × Unit)) → Option ((List α × (Int × (List α × Unit))) ⊕ (List α × Unit))} {k : Nat} (d : α) (xs : List α) (hk : xs.length < k)
    (hs : ∀ (i : Nat) (ys : List α), i < xs.length → ys.length = xs.length → f (xs, ((i : Int), (ys, ()))) = some (.inl (xs, (((i + 1 : Nat) : Int), (ys.set i (xs.getD i d), ())))))
    (hd : ∀ ys : List α, ys.length = xs.length → f (xs, (((xs.length : Nat) : Int), (ys, ()))) = some (.inr (ys, ()))) : A.iter k f (xs, (0, (List.replicate xs.length d, ()))) = some (xs, ()) := by
  have h := iter_for (A := A) (f := f) (fun i => (xs, ((i : Int), (xs.take i ++ List.replicate (xs.length - i) d, ())))) xs.length (xs, ())
    (fun i hi => by
      rw [hs i _ hi (by simp; omega), fill_step xs d d i xs.length rfl hi])
    (by rw [hd _ (by simp)]; simp) hk
  simpa using h
theorem eq_loop {α : Type} [DecidableEq α] {f : List α × (List α × (Int × Unit)) → Option ((List α × (List α × (Int × Unit))) ⊕ (Unit ⊕ ((Bool × Unit) × Unit)))} {k : Nat} (d : α) (xs ys : List α) (hk : xs.length < k) (he : xs.length = ys.length)
    (hs : ∀ i : Nat, i < xs.length → f (xs, (ys, ((i : Int), ()))) = some (if (decide (xs.getD i d = ys.getD i d)) = true then .inl (xs, (ys, (((i + 1 : Nat) : Int), ()))) else .inr (.inr ((false, ()), ()))))
    (hd : f (xs, (ys, (((xs.length : Nat) : Int), ()))) = some (.inr (.inl ()))) : A.iter k f (xs, (ys, (0, ()))) = some (if xs = ys then .inl () else .inr ((false, ()), ())) := by
  have h := iter_all (A := A) (f := f) (fun i => (xs, (ys, ((i : Int), ())))) xs.length (fun i => decide (xs.getD i d = ys.getD i d)) (.inr ((false, ()), ())) (.inl ()) hs hd hk
  have e : (List.range xs.length).all (fun i => decide (xs.getD i d = ys.getD i d)) = decide (xs = ys) := by
    rw [Bool.eq_iff_iff, range_all, decide_eq_true_eq]
    constructor
    · intro hh
      refine List.ext_getElem he fun i h1 h2 => ?_
      have := hh i h1
      rw [getD_lt h1, getD_lt h2] at this; simpa using this
    · intro e i _; subst e; simp
  rw [e] at h
  simpa using h
theorem sz_loop {α : Type} {f : List α × (Int × (Int × Unit)) → Option ((List α × (Int × (Int × Unit))) ⊕ ((Int × Unit) ⊕ ((Int × Unit) × Unit)))} {k : Nat} (xs : List α) (n : Int) (hn : 0 ≤ n) (hk : xs.length < k)
    (hs : ∀ (i : Nat) (m : Int), i < xs.length → 0 ≤ m → m ≤ n → Ok (f (xs, (m, ((i : Int), ())))) (fun r => (∃ m', r = .inl (xs, (m', (((i + 1 : Nat) : Int), ()))) ∧ 0 ≤ m' ∧ m' ≤ m) ∨ r = .inr (.inr ((-1, ()), ()))))
    (hd : ∀ m, f (xs, (m, (((xs.length : Nat) : Int), ()))) = some (.inr (.inl (m, ())))) :
    Ok (A.iter k f (xs, (n, (0, ())))) (fun r => (∃ m, r = .inl (m, ()) ∧ 0 ≤ m ∧ m ≤ n) ∨ r = .inr ((-1, ()), ())) := by
  refine iter_ok (fun j s => ∃ (i : Nat) (m : Int), s = (xs, (m, ((i : Int), ()))) ∧ i + j = xs.length ∧ 0 ≤ m ∧ m ≤ n) _ ?_ (n := xs.length) hk ⟨0, n, rfl, by omega, hn, Int.le_refl _⟩
  rintro j s ⟨i, m, rfl, hij, h0, h1⟩
  by_cases hi : i < xs.length
  · refine (hs i m hi h0 h1).mono fun r hr => ?_
    rcases hr with ⟨m', rfl, h2, h3⟩ | rfl
    · exact ⟨fun s' e => (by injection e with e; subst e; exact ⟨j - 1, by omega, i + 1, m', rfl, by omega, h2, by omega⟩), fun e he => (by cases he)⟩
    · exact ⟨fun s' e => (by cases e), fun e he => (by injection he with he; subst he; exact .inr rfl)⟩
  · have : i = xs.length := by omega
    subst this
    rw [hd m]
    exact ok_some.2 ⟨fun s' e => (by cases e), fun e he => (by injection he with he; subst he; exact .inl ⟨m, rfl, h0, h1⟩)⟩
/-! ### entries -/
instance : DecidableEq Cmd := inferInstanceAs (DecidableEq (Int × (List UInt8 × (Int × (Int × Unit)))))
instance : DecidableEq Ent := inferInstanceAs (DecidableEq (Int × (Int × (Cmd × Unit))))
abbrev ent0 : Ent := (0, (0, ((0, ([], (0, (0, ())))), ())))
theorem toEntryS_eq (k : Nat) (xs : List Ent) (hk : xs.length < k) (hl : xs.length ≤ 1000000000) : laws_toEntryS_t A k (xs, ()) () = some ((xs, ()), ()) := by
  have h := to_loop (A := A) (f := laws_toEntryS_t_b0 A k) ent0 xs hk
    (fun i ys hi hy => by
      have hi' : i < ys.length := by omega
      simp (disch := omega) [laws_toEntryS_t_b0, hi, hi', hy, a_wrap, toEntry_eq])
    (fun ys hy => by simp [laws_toEntryS_t_b0])
  have h1 : (xs.length : Int) < 4294967296 := by omega
  simp [laws_toEntryS_t, h1, h]
theorem eqCommand_eq (k : Nat) (c d : Cmd) : laws_eqCommand_t A k (c, (d, ())) () = some ((decide (c = d), ()), ()) := by
  obtain ⟨a1, a2, a3, a4, _⟩ := c
  obtain ⟨b1, b2, b3, b4, _⟩ := d
  simp only [laws_eqCommand_t, a_cndS, a_notB, a_eqI, a_eqS]
  by_cases h1 : a1 = b1
  · by_cases h2 : a2 = b2
    · by_cases h3 : a3 = b3
      · by_cases h4 : a4 = b4 <;> simp [h1, h2, h3, h4]
      · simp [h1, h2, h3]
    · simp [h1, h2]
  · simp [h1]
theorem eqEntry_eq (k : Nat) (c d : Ent) : laws_eqEntry_t A k (c, (d, ())) () = some ((decide (c = d), ()), ()) := by
  obtain ⟨a1, a2, a3, _⟩ := c
  obtain ⟨b1, b2, b3, _⟩ := d
  simp only [laws_eqEntry_t, eqCommand_eq, a_obind_some, a_cndS, a_notB, a_eqI]
  by_cases h1 : a1 = b1
  · by_cases h2 : a2 = b2
    · by_cases h3 : a3 = b3 <;> simp [h1, h2, h3]
    · simp [h1, h2]
  · simp [h1]
theorem eqEntryS_eq (k : Nat) (xs ys : List Ent) (hk : xs.length < k) (hl : xs.length ≤ 1000000000) : laws_eqEntryS_t A k (xs, (ys, ())) () = some ((decide (xs = ys), ()), ()) := by
  by_cases he : xs.length = ys.length
  · have h := eq_loop (A := A) (f := laws_eqEntryS_t_b0 A k) ent0 xs ys hk he
      (fun i hi => by
        have hi' : i < ys.length := by omega
        simp (disch := omega) [laws_eqEntryS_t_b0, hi, hi', a_wrap, eqEntry_eq]
        by_cases hv : xs[i] = ys[i] <;> simp [hv])
      (by simp [laws_eqEntryS_t_b0])
    simp only [laws_eqEntryS_t, a_lenL, he, a_eqI, decide_true, a_notB, Bool.not_true, a_cndS, Bool.false_eq_true, if_false, h]
    by_cases hv : xs = ys <;> simp [hv]
  · have h2 : ¬ (xs.length : Int) = ys.length := by omega
    have h3 : ¬ xs = ys := fun e => he (by rw [e])
    simp [laws_eqEntryS_t, h2, h3]
theorem szEntryS_ok (k : Nat) (xs : List Ent) (n : Int) (hn : 0 ≤ n) (hn1 : n ≤ 1048576) (hk : 2000000 ≤ k) (hl : xs.length ≤ 9223372036854775807) (hs : ∀ e ∈ xs, e.2.2.1.2.1.length ≤ 9223372036854775807) :
    Ok (laws_szEntryS_t A k (xs, (n, ())) ()) (fun q => q.1.1 = -1 ∨ (0 ≤ q.1.1 ∧ q.1.1 ≤ n ∧ xs.length ≤ 1048576)) := by
  have w : A.wrapI .i64 (n - (xs.length : Int)) = n - (xs.length : Int) := a_wrap (by omega) (by omega)
  rw [laws_szEntryS_t, ok_cndS]
  simp only [a_lenL, a_subI, w, a_ltI, decide_eq_true_eq, decide_eq_false_iff_not]
  refine ⟨fun _ => ok_some.2 (.inl rfl), fun h => ?_⟩
  refine (sz_loop (A := A) (f := laws_szEntryS_t_b0 A k) xs (n - xs.length) (by omega) (by omega) (fun i m hi h0 h1 => ?_) (fun m => by simp [laws_szEntryS_t_b0])).bind fun r hr => ?_
  · have he := hs xs[i] (List.getElem_mem hi)
    by_cases hm : m < (xs[i].2.2.1.2.1.length : Int)
    · refine ⟨.inr (.inr ((-1, ()), ())), ?_, .inr rfl⟩
      simp (disch := omega) [laws_szEntryS_t_b0, hi, a_wrap]
      rw [szEntry_eq k xs[i] m h0 (by omega) he]
      simp [szOf, hm]
    · refine ⟨.inl (xs, (m - (xs[i].2.2.1.2.1.length : Int), (((i + 1 : Nat) : Int), ()))), ?_, .inl ⟨_, rfl, by omega, by omega⟩⟩
      have hm' : ¬ m - (xs[i].2.2.1.2.1.length : Int) < 0 := by omega
      simp (disch := omega) [laws_szEntryS_t_b0, hi, a_wrap]
      rw [szEntry_eq k xs[i] m h0 (by omega) he]
      simp [szOf, hm, hm']
  · rcases hr with ⟨m, rfl, h0, h1⟩ | rfl
    · rw [a_sumE_inl]; exact ok_some.2 (.inr ⟨h0, by show m ≤ n; omega, by omega⟩)
    · rw [a_sumE_inr]; exact ok_some.2 (.inl rfl)
/-! ### replicas -/
abbrev Rep := Cfg × (Bool × (List Ent × Unit))
abbrev Msg := Int × (Int × (Int × (Cfg × (List Ent × Unit))))
instance : DecidableEq Cfg := inferInstanceAs (DecidableEq (Int × (List Int × (Bool × Unit))))
instance : DecidableEq Rep := inferInstanceAs (DecidableEq (Cfg × (Bool × (List Ent × Unit))))
set_option synthInstance.maxSize 1000 in
instance : DecidableEq Msg := inferInstanceAs (DecidableEq (Int × (Int × (Int × (Cfg × (List Ent × Unit))))))
def noCfg (c : Cfg) : Bool := decide (c.1 = 0) && (decide (c.2.1.length = 0) && !c.2.2.1)
theorem l17None_eq (k : Nat) (c : Cfg) : spec_l17None_t A k (c, ()) () = some ((noCfg c, ()), ()) := by
  simp only [spec_l17None_t, a_cndS, a_eqI, a_lenL, a_notB, noCfg]
  by_cases h1 : c.1 = 0
  · by_cases h2 : c.2.1.length = 0
    · simp [h1, h2]
    · simp [h1, h2]
  · simp [h1]
theorem noConfig_eq (k : Nat) (c : Cfg) : impl_noConfig_t A k (c, ()) () = some ((noCfg c, ()), ()) := by
  simp only [impl_noConfig_t, a_cndS, a_eqI, a_lenL, a_notB, noCfg]
  by_cases h1 : c.1 = 0
  · by_cases h2 : c.2.1.length = 0
    · simp [h1, h2]
    · simp [h1, h2]
  · simp [h1]
def logOk (l : List Ent) : Bool := decide (l.length ≤ 24) && l.all entOk
theorem entriesValid_eq (k : Nat) (hk : 30 ≤ k) (l : List Ent) : impl_entriesValid_t A k (l, ()) () = some ((logOk l, ()), ()) := by
  by_cases hl : (24 : Int) < l.length
  · have : ¬ l.length ≤ 24 := by omega
    simp [impl_entriesValid_t, hl, logOk, this]
  · have hl' : l.length ≤ 24 := by omega
    have h := iter_all (A := A) (f := impl_entriesValid_t_b0 A k) (fun i => (l, ((l.length : Int), ((i : Int), ())))) l.length (fun i => entOk (l.getD i ent0)) (.inr ((false, ()), ())) (.inl ())
      (fun i hi => by
        simp (disch := omega) [impl_entriesValid_t_b0, hi, a_wrap, impl_EntryValid_eq k (by omega)]
        cases entOk l[i] <;> simp)
      (by simp [impl_entriesValid_t_b0]) (k := k) (by omega)
    rw [all_range] at h
    simp only [Int.natCast_zero, Int.ofNat_zero] at h
    simp only [impl_entriesValid_t, a_cndS, a_ltI, a_lenL, hl, decide_false, Bool.false_eq_true, if_false, h, a_obind_some, logOk, hl', decide_true, Bool.true_and]
    cases l.all entOk <;> simp
theorem l10Log_eq (k : Nat) (hk : 30 ≤ k) (l : List Ent) : spec_l10Log_t A k (l, ()) () = some ((logOk l, ()), ()) := by
  have h : Ok (A.iter k (spec_l10Log_t_b0 A k) (l, (0, ()))) (fun r => r = if logOk l = true then .inl () else .inr ((false, ()), ())) := by
    refine iter_ok (fun j s => ∃ i : Nat, s = (l, ((i : Int), ())) ∧ i + j = 24 ∧ i ≤ l.length ∧ (l.take i).all entOk = true) _ ?_ (n := 24) (by omega) ⟨0, rfl, by omega, by omega, rfl⟩
    rintro j s ⟨i, rfl, hij, hil, hall⟩
    by_cases hi : i < l.length
    · have hi' : (i : Int) < (l.length : Int) := by omega
      by_cases h24 : (24 : Int) ≤ (i : Int)
      · have : ¬ l.length ≤ 24 := by omega
        refine ⟨.inr (.inr ((false, ()), ())), by simp [spec_l10Log_t_b0, hi, h24], fun s' e => (by cases e), fun e he => ?_⟩
        injection he with he; subst he
        simp [logOk, this]
      · have w : A.wrapI .i64 ((i : Int) + 1) = (i : Int) + 1 := a_wrap (by omega) (by omega)
        by_cases hv : entOk l[i] = true
        · refine ⟨.inl (l, (((i + 1 : Nat) : Int), ())), by simp [spec_l10Log_t_b0, hi, h24, w, spec_EntryValid_eq k (by omega : 10 ≤ k), hv], fun s' e => ?_, fun e he => (by cases he)⟩
          injection e with e; subst e
          refine ⟨j - 1, by omega, i + 1, rfl, by omega, by omega, ?_⟩
          rw [List.take_succ_eq_append_getElem hi, List.all_append, hall]; simp [hv]
        · refine ⟨.inr (.inr ((false, ()), ())), by simp [spec_l10Log_t_b0, hi, h24, w, spec_EntryValid_eq k (by omega : 10 ≤ k), hv], fun s' e => (by cases e), fun e he => ?_⟩
          injection he with he; subst he
          have : l.all entOk = false := by
            rw [← Bool.not_eq_true, List.all_eq_true]
            exact fun h => hv (h _ (List.getElem_mem hi))
          simp [logOk, this]
    · have : i = l.length := by omega
      subst this
      rw [List.take_length] at hall
      refine ⟨.inr (.inl ()), by simp [spec_l10Log_t_b0], fun s' e => (by cases e), fun e he => ?_⟩
      injection he with he; subst he
      have : l.length ≤ 24 := by omega
      simp only [logOk, this, hall, decide_true, Bool.and_self, if_true]
  rw [ok_eq] at h
  rw [spec_l10Log_t, h]
  cases logOk l <;> simp
def msgOk (m : Msg) : Bool :=
  if m.1 = 1 then decide (1 ≤ m.2.2.1 ∧ m.2.2.1 ≤ 60) && (decide (0 ≤ m.2.1 ∧ m.2.1 ≤ 4) && (cfgOk m.2.2.2.1 && (decide (m.2.2.2.1.1 = m.2.2.1) && decide (m.2.2.2.2.1.length = 0))))
  else if m.1 = 2 then decide (1 ≤ m.2.2.1 ∧ m.2.2.1 ≤ 60) && (decide (0 ≤ m.2.1 ∧ m.2.1 ≤ 4) && (noCfg m.2.2.2.1 && logOk m.2.2.2.2.1))
  else if m.1 = 3 then decide (1 ≤ m.2.2.1 ∧ m.2.2.1 ≤ 60) && (decide (m.2.1 = -1) && (noCfg m.2.2.2.1 && decide (m.2.2.2.2.1.length = 0)))
  else false
theorem spec_MessageValid_eq (k : Nat) (hk : 30 ≤ k) (m : Msg) : spec_MessageValid_t A k (m, ()) () = some ((msgOk m, ()), ()) := by
  obtain ⟨kd, nd, ep, c, l, _⟩ := m
  simp only [spec_MessageValid_t, l1In_eq, l17None_eq, spec_ConfigValid_eq k (by omega : 10 ≤ k), l10Log_eq k hk, a_obind_some, a_cndS, a_eqI, a_lenL, msgOk]
  by_cases h1 : kd = 1
  · by_cases h2 : 0 ≤ nd ∧ nd ≤ 4
    · cases hc : cfgOk c with
      | false => simp [h1, h2]
      | true =>
        have hl := cfgOk_len hc
        by_cases h3 : c.1 = ep
        · have : 1 ≤ ep ∧ ep ≤ 60 := by omega
          by_cases h4 : l.length = 0
          · simp [h1, h2, h3, h4, this]
          · simp [h1, h2, h3, h4, this]
        · simp [h1, h2, h3]
    · simp [h1, h2]
  by_cases h1' : kd = 2
  · subst h1'
    by_cases h2 : 0 ≤ nd ∧ nd ≤ 4 <;> by_cases h3 : 1 ≤ ep ∧ ep ≤ 60 <;> cases noCfg c <;> simp [h2, h3]
  by_cases h1'' : kd = 3
  · subst h1''
    by_cases h2 : nd = -1 <;> by_cases h3 : 1 ≤ ep ∧ ep ≤ 60 <;> cases noCfg c <;> simp [h2, h3]
  simp [h1, h1', h1'']
theorem impl_MessageValid_eq (k : Nat) (hk : 30 ≤ k) (m : Msg) : impl_MessageValid_t A k (m, ()) () = some ((msgOk m, ()), ()) := by
  obtain ⟨kd, nd, ep, c, l, _⟩ := m
  simp only [impl_MessageValid_t, nodeValid_eq, noConfig_eq, impl_ConfigValid_eq k (by omega : 10 ≤ k), entriesValid_eq k hk, a_obind_some, a_cndS, a_eqI, a_lenL, a_ltI, msgOk]
  by_cases hlo : ep < 1
  · have : ¬ (1 ≤ ep ∧ ep ≤ 60) := by omega
    simp [hlo, this]
  by_cases hhi : 60 < ep
  · have : ¬ (1 ≤ ep ∧ ep ≤ 60) := by omega
    simp [hlo, hhi, this]
  have hep : 1 ≤ ep ∧ ep ≤ 60 := by omega
  by_cases h1 : kd = 1
  · subst h1
    by_cases h2 : 0 ≤ nd ∧ nd ≤ 4
    · cases hc : cfgOk c with
      | false => simp [hlo, hhi, h2, hep, hc, nodeValid_eq, impl_ConfigValid_eq k (by omega : 10 ≤ k)]
      | true =>
        by_cases h3 : c.1 = ep <;> simp [hlo, hhi, h2, hep, hc, h3, nodeValid_eq, impl_ConfigValid_eq k (by omega : 10 ≤ k)]
    · simp [hlo, hhi, h2, hep, nodeValid_eq]
  by_cases h1' : kd = 2
  · subst h1'
    by_cases h2 : 0 ≤ nd ∧ nd ≤ 4
    · cases hc : noCfg c <;> simp [hlo, hhi, h2, hep, hc, nodeValid_eq, noConfig_eq, entriesValid_eq k hk]
    · simp [hlo, hhi, h2, hep, nodeValid_eq]
  by_cases h1'' : kd = 3
  · subst h1''
    by_cases h2 : nd = -1
    · cases hc : noCfg c <;> simp [hlo, hhi, h2, hep, hc, noConfig_eq]
    · simp [hlo, hhi, h2, hep]
  simp [hlo, hhi, h1, h1', h1'']
end Go.Den.T

namespace Go.Den.T
abbrev TCmd : Ty := .prod (.int .i64) (.prod .str (.prod (.int .i64) (.prod (.int .i64) .unit)))
abbrev TEnt : Ty := .prod (.int .i64) (.prod (.int .i64) (.prod TCmd .unit))
end Go.Den.T

namespace Go.Den.T
set_option linter.unusedVariables false
set_option linter.unusedSimpArgs false
set_option linter.unusedSectionVars false
section
variable {A : Atoms} [IsReal A]
theorem toMessage_eq (k : Nat) (m : Msg) (hk : 2000000 ≤ k) (h1 : m.2.2.2.1.2.1.length ≤ 1048576) (h2 : m.2.2.2.2.1.length ≤ 1048576) : laws_toMessage_t A k (m, ()) () = some ((m, ()), ()) := by
  simp [laws_toMessage_t, toConfig_eq k m.2.2.2.1 (by omega) (by omega), toEntryS_eq k m.2.2.2.2.1 (by omega) (by omega)]
theorem eqMessage_eq (k : Nat) (r s : Msg) (hk : 2000000 ≤ k) (h1 : r.2.2.2.1.2.1.length ≤ 1048576) (h2 : r.2.2.2.2.1.length ≤ 1048576) : laws_eqMessage_t A k (r, (s, ())) () = some ((decide (r = s), ()), ()) := by
  obtain ⟨a1, a2, a3, a4, a5, _⟩ := r
  obtain ⟨b1, b2, b3, b4, b5, _⟩ := s
  simp only at h1 h2
  simp only [laws_eqMessage_t, eqConfig_eq k a4 b4 (by omega) (by omega), eqEntryS_eq k a5 b5 (by omega) (by omega), a_obind_some, a_cndS, a_notB, a_eqI]
  by_cases h1 : a1 = b1
  · by_cases h2 : a2 = b2
    · by_cases h3 : a3 = b3
      · by_cases h4 : a4 = b4
        · by_cases h5 : a5 = b5 <;> simp [h1, h2, h3, h4, h5]
        · simp [h1, h2, h3, h4]
      · simp [h1, h2, h3]
    · simp [h1, h2]
  · simp [h1]
end
abbrev TCfg' : Ty := .prod (.int .i64) (.prod (.slice (.int .i64)) (.prod .bool .unit))
abbrev TRep : Ty := .prod TCfg' (.prod .bool (.prod (.slice TEnt) .unit))
abbrev TMsg : Ty := .prod (.int .i64) (.prod (.int .i64) (.prod (.int .i64) (.prod TCfg' (.prod (.slice TEnt) .unit))))
theorem keys_of {l : List TEnt.val} (h : InR (.slice TEnt) l) : ∀ e ∈ (show List Ent from l), e.2.2.1.2.1.length ≤ 9223372036854775807 :=
  fun e he => Nat.le_trans (h.2 e he).2.2.1.2.1 (by decide)
end Go.Den.T

namespace Go.Den.T
set_option linter.unusedVariables false
set_option linter.unusedSimpArgs false
variable {A : Atoms} [IsReal A]
end Go.Den.T

namespace Go.Den.T
set_option linter.unusedVariables false
set_option linter.unusedSimpArgs false
variable {A : Atoms} [IsReal A]
/-- a configuration whose lists are short -/
def Short (c : Cfg) : Prop := c.2.1.length ≤ 100
end Go.Den.T

namespace Go.Den.T
set_option linter.unusedVariables false
set_option linter.unusedSimpArgs false
set_option linter.unusedSectionVars false
variable {A : Atoms} [IsReal A]
theorem at_ok {α : Type} {xs : List α} {d : α} {i : Int} {P : α → Prop} (h : ∀ x ∈ xs, P x) (h0 : 0 ≤ i) (h1 : i < xs.length) : P (xs.getD i.toNat d) := by
  have : i.toNat < xs.length := by omega
  rw [getD_lt this]; exact h _ (List.getElem_mem this)
/-- a command whose key is short -/
def CmdS (c : Cmd) : Prop := c.2.1.length ≤ 8
def EntS (e : Ent) : Prop := CmdS e.2.2.1
end Go.Den.T

namespace Go.Den.T
set_option linter.unusedVariables false
set_option linter.unusedSimpArgs false
set_option linter.unusedSectionVars false
variable {A : Atoms} [IsReal A]
def LogS (l : List Ent) : Prop := l.length ≤ 30 ∧ ∀ e ∈ l, EntS e
theorem LogS.get {l : List Ent} {i : Int} (h : ∀ e ∈ l, EntS e) (h0 : 0 ≤ i) (h1 : i < l.length) : EntS (A.atL l i ((0 : Int), ((0 : Int), (((0 : Int), (([] : List UInt8), ((0 : Int), ((0 : Int), ())))), ())))) := by
  rw [a_atL]; exact at_ok (P := EntS) h h0 h1
end Go.Den.T

namespace Go.Den.T
set_option linter.unusedVariables false
set_option linter.unusedSimpArgs false
variable {A : Atoms} [IsReal A]
end Go.Den.T

namespace Go.Den.T
set_option linter.unusedVariables false
set_option linter.unusedSimpArgs false
variable {A : Atoms} [IsReal A]
/-! ### a member taken away -/
end Go.Den.T

namespace Go.Den.T
end Go.Den.T

namespace Go.Den.T
set_option linter.unusedVariables false
set_option linter.unusedSimpArgs false
set_option linter.unusedSectionVars false
section
variable {A : Atoms} [IsReal A]
/-! ### a member added -/
end
end Go.Den.T

namespace Go.Den.T
set_option linter.unusedVariables false
set_option linter.unusedSimpArgs false
set_option linter.unusedSectionVars false
section
variable {A : Atoms} [IsReal A]
def MsgS (m : Msg) : Prop := Short m.2.2.2.1 ∧ LogS m.2.2.2.2.1
end
end Go.Den.T

namespace Go.Den.T
set_option linter.unusedVariables false
set_option linter.unusedSimpArgs false
set_option linter.unusedSectionVars false
section
variable {A : Atoms} [IsReal A]
def bagOk (l : List Msg) : Bool := decide (l.length ≤ 10) && l.all msgOk
theorem impl_BagValid_eq (k : Nat) (hk : 30 ≤ k) (l : List Msg) : impl_BagValid_t A k (l, ()) () = some ((bagOk l, ()), ()) := by
  by_cases hl : (10 : Int) < l.length
  · have : ¬ l.length ≤ 10 := by omega
    simp [impl_BagValid_t, hl, bagOk, this]
  · have hl' : l.length ≤ 10 := by omega
    have h := iter_all (A := A) (f := impl_BagValid_t_b0 A k) (fun i => (l, ((l.length : Int), ((i : Int), ())))) l.length (fun i => msgOk (l.getD i ((0 : Int), ((0 : Int), ((0 : Int), (((0 : Int), (([] : List Int), (false, ()))), (([] : List Ent), ()))))))) (.inr ((false, ()), ())) (.inl ())
      (fun i hi => by
        simp (disch := omega) [impl_BagValid_t_b0, hi, a_wrap, impl_MessageValid_eq k hk]
        cases msgOk l[i] <;> simp)
      (by simp [impl_BagValid_t_b0]) (k := k) (by omega)
    rw [all_range] at h
    simp only [Int.natCast_zero, Int.ofNat_zero] at h
    simp only [impl_BagValid_t, a_cndS, a_ltI, a_lenL, hl, decide_false, Bool.false_eq_true, if_false, h, a_obind_some, bagOk, hl', decide_true, Bool.true_and]
    cases l.all msgOk <;> simp
theorem spec_BagValid_eq (k : Nat) (hk : 30 ≤ k) (l : List Msg) : spec_BagValid_t A k (l, ()) () = some ((bagOk l, ()), ()) := by
  have h : Ok (A.iter k (spec_BagValid_t_b0 A k) (l, (0, ()))) (fun r => r = if bagOk l = true then .inl () else .inr ((false, ()), ())) := by
    refine iter_ok (fun j s => ∃ i : Nat, s = (l, ((i : Int), ())) ∧ i + j = 10 ∧ i ≤ l.length ∧ (l.take i).all msgOk = true) _ ?_ (n := 10) (by omega) ⟨0, rfl, by omega, by omega, rfl⟩
    rintro j s ⟨i, rfl, hij, hil, hall⟩
    by_cases hi : i < l.length
    · have hi' : (i : Int) < (l.length : Int) := by omega
      by_cases h24 : (10 : Int) ≤ (i : Int)
      · have : ¬ l.length ≤ 10 := by omega
        refine ⟨.inr (.inr ((false, ()), ())), by simp [spec_BagValid_t_b0, hi, h24], fun s' e => (by cases e), fun e he => ?_⟩
        injection he with he; subst he
        simp [bagOk, this]
      · have w : A.wrapI .i64 ((i : Int) + 1) = (i : Int) + 1 := a_wrap (by omega) (by omega)
        by_cases hv : msgOk l[i] = true
        · refine ⟨.inl (l, (((i + 1 : Nat) : Int), ())), by simp [spec_BagValid_t_b0, hi, h24, w, spec_MessageValid_eq k hk, hv], fun s' e => ?_, fun e he => (by cases he)⟩
          injection e with e; subst e
          refine ⟨j - 1, by omega, i + 1, rfl, by omega, by omega, ?_⟩
          rw [List.take_succ_eq_append_getElem hi, List.all_append, hall]; simp [hv]
        · refine ⟨.inr (.inr ((false, ()), ())), by simp [spec_BagValid_t_b0, hi, h24, w, spec_MessageValid_eq k hk, hv], fun s' e => (by cases e), fun e he => ?_⟩
          injection he with he; subst he
          have : l.all msgOk = false := by
            rw [← Bool.not_eq_true, List.all_eq_true]
            exact fun h => hv (h _ (List.getElem_mem hi))
          simp [bagOk, this]
    · have : i = l.length := by omega
      subst this
      rw [List.take_length] at hall
      refine ⟨.inr (.inl ()), by simp [spec_BagValid_t_b0], fun s' e => (by cases e), fun e he => ?_⟩
      injection he with he; subst he
      have : l.length ≤ 10 := by omega
      simp only [bagOk, this, hall, decide_true, Bool.and_self, if_true]
  rw [ok_eq] at h
  rw [spec_BagValid_t, h]
  cases bagOk l <;> simp
def BagS (l : List Msg) : Prop := l.length ≤ 30 ∧ ∀ m ∈ l, MsgS m
end
end Go.Den.T

namespace Go.Den.T
set_option linter.unusedVariables false
set_option linter.unusedSimpArgs false
set_option linter.unusedSectionVars false
section
variable {A : Atoms} [IsReal A]
theorem copyOf_Entry_eq (k : Nat) (l : List Ent) (h : l.length ≤ 1000000000) : impl_copyOf_Entry_t A k (l, ()) () = some ((l, ()), ()) := by
  have : (l.length : Int) < 4294967296 := by omega
  simp [impl_copyOf_Entry_t, this]
end
end Go.Den.T

namespace Go.Den.T
set_option linter.unusedVariables false
set_option linter.unusedSimpArgs false
set_option linter.unusedSectionVars false
section
variable {A : Atoms} [IsReal A]
end
end Go.Den.T

namespace Go.Den.T
set_option linter.unusedVariables false
set_option linter.unusedSimpArgs false
set_option linter.unusedSectionVars false
section
variable {A : Atoms} [IsReal A]
abbrev msg0 : Msg := (0, (0, (0, ((0, ([], (false, ()))), ([], ())))))
def MsgF (m : Msg) : Prop := m.2.2.2.1.2.1.length ≤ 1000000000 ∧ m.2.2.2.2.1.length ≤ 1000000000
theorem copyMessage_eq (k : Nat) (m : Msg) (h : MsgF m) : impl_copyMessage_t A k (m, ()) () = some ((m, ()), ()) := by
  simp [impl_copyMessage_t, copyConfig_eq k m.2.2.2.1 h.1, copyOf_Entry_eq k m.2.2.2.2.1 h.2]
theorem l18Copy_eq (k : Nat) (m : Msg) (h : MsgF m) : spec_l18Copy_t A k (m, ()) () = some ((m, ()), ()) := by
  have h2 := h.2
  have : (m.2.2.2.2.1.length : Int) < 4294967296 := by omega
  simp [spec_l18Copy_t, l16Copy_eq k m.2.2.2.1 h.1, this]
theorem copyBag_eq (k : Nat) (l : List Msg) (hk : l.length < k) (hl : l.length ≤ 1000000000) (hf : ∀ m ∈ l, MsgF m) : impl_copyBag_t A k (l, ()) () = some ((l, ()), ()) := by
  have h := iter_for (A := A) (f := impl_copyBag_t_b0 A k) (fun i => (l.take i, (l, ((l.length : Int), ((i : Int), ()))))) l.length (l, ())
    (fun i hi => by
      have hm := hf l[i] (List.getElem_mem hi)
      have hi' : (i : Int) < (l.length : Int) := by omega
      have w : A.wrapI .i64 ((i : Int) + 1) = (i : Int) + 1 := a_wrap (by omega) (by omega)
      have tl : (l.take i).length ≤ 1000000000 := by rw [List.length_take]; omega
      have g : ((l.take i).length : Int) + 1 < 4294967296 := by omega
      have e : l.take (i + 1) = l.take i ++ [l[i]] := List.take_succ_eq_append_getElem hi
      simp only [impl_copyBag_t_b0, a_cndS, a_ltI, a_lenL, a_le0, a_andB, hi', Int.natCast_nonneg, decide_true, Bool.and_self, if_true, a_atL, Int.toNat_natCast, getD_lt hi, copyMessage_eq k l[i] hm, a_obind_some, a_addI, w, a_big, a_appL, e, List.length_cons, List.length_nil, Nat.zero_add, Int.natCast_one, Int.ofNat_one, g]
      rfl)
    (by simp [impl_copyBag_t_b0]) hk
  simp at h
  simp [impl_copyBag_t, h]
/-- a list without what stands at a place (if something stands there) -/
def drop1 {α : Type} (l : List α) (n : Int) : List α := if 0 ≤ n then l.eraseIdx n.toNat else l
theorem drop1_snoc {α : Type} (l : List α) (x : α) (n : Int) : drop1 (l ++ [x]) n = if n = (l.length : Int) then drop1 l n else drop1 l n ++ [x] := by
  unfold drop1
  by_cases h0 : 0 ≤ n
  · obtain ⟨p, rfl⟩ : ∃ p : Nat, n = p := ⟨n.toNat, by omega⟩
    simp only [h0, if_true, Int.toNat_natCast]
    by_cases hp : p < l.length
    · have hne : ¬ (p : Int) = (l.length : Int) := by omega
      rw [if_neg hne, List.eraseIdx_append_of_lt_length hp]
    · have e1 : l.eraseIdx p = l := List.eraseIdx_of_length_le (by omega)
      by_cases he : p = l.length
      · have hee : (p : Int) = (l.length : Int) := by omega
        rw [if_pos hee, e1, List.eraseIdx_append_of_length_le (by omega), he, Nat.sub_self]
        exact List.append_nil _
      · have hne : ¬ (p : Int) = (l.length : Int) := by omega
        have h2 : [x].eraseIdx (p - l.length) = [x] := List.eraseIdx_of_length_le (by show 1 ≤ p - l.length; omega)
        rw [if_neg hne, e1, List.eraseIdx_append_of_length_le (by omega), h2]
  · have hne : ¬ n = (l.length : Int) := by omega
    simp [h0, hne]
theorem drop1_len {α : Type} (l : List α) (n : Int) : (drop1 l n).length ≤ l.length := by
  unfold drop1; split
  · rw [List.length_eraseIdx]; split <;> omega
  · omega
theorem l18Bag_eq (k : Nat) (l : List Msg) (n : Int) (hk : l.length < k) (hl : l.length ≤ 1000000000) (hf : ∀ m ∈ l, MsgF m) : spec_l18Bag_t A k (l, (n, ())) () = some ((drop1 l n, ()), ()) := by
  have h := iter_for (A := A) (f := spec_l18Bag_t_b0 A k) (fun i => (l, (n, (drop1 (l.take i) n, ((i : Int), ()))))) l.length (drop1 l n, ())
    (fun i hi => by
      have hm := hf l[i] (List.getElem_mem hi)
      have hi' : (i : Int) < (l.length : Int) := by omega
      have w : A.wrapI .i64 ((i : Int) + 1) = (i : Int) + 1 := a_wrap (by omega) (by omega)
      have tl : (l.take i).length = i := by rw [List.length_take]; omega
      have dl := drop1_len (l.take i) n
      have g : ((drop1 (l.take i) n).length : Int) + 1 < 4294967296 := by omega
      have e : drop1 (l.take (i + 1)) n = if n = (i : Int) then drop1 (l.take i) n else drop1 (l.take i) n ++ [l[i]] := by
        rw [List.take_succ_eq_append_getElem hi, drop1_snoc, tl]
      rw [e]
      by_cases hn : n = (i : Int)
      · subst hn
        simp [spec_l18Bag_t_b0, hi, w]
      · have hn' : ¬ (i : Int) = n := fun e => hn e.symm
        simp only [spec_l18Bag_t_b0, a_cndS, a_ltI, a_lenL, a_le0, a_andB, hi', Int.natCast_nonneg, decide_true, decide_false, Bool.and_self, if_true, a_eqI, hn, hn', a_notB, Bool.not_false, if_false, a_atL, Int.toNat_natCast, getD_lt hi, l18Copy_eq k l[i] hm, a_obind_some, a_addI, w, a_big, a_appL, List.length_cons, List.length_nil, Nat.zero_add, Int.natCast_one, Int.ofNat_one, g]
        rfl)
    (by simp [spec_l18Bag_t_b0]) hk
  have z : drop1 ([] : List Msg) n = [] := by unfold drop1; split <;> simp
  simp [z] at h
  simp [spec_l18Bag_t, h]
theorem drop1_neg {α : Type} (l : List α) : drop1 l (-1) = l := by simp [drop1]
def takeB (l : List Msg) (n : Int) : Msg × (List Msg × (Bool × Unit)) :=
  if bagOk l = true then (if 0 ≤ n ∧ n < l.length then (l.getD n.toNat msg0, (drop1 l n, (true, ()))) else (msg0, (l, (false, ())))) else (msg0, ([], (false, ())))
theorem bagOk_len {l : List Msg} (h : bagOk l = true) : l.length ≤ 10 ∧ ∀ m ∈ l, msgOk m = true := by
  simp only [bagOk, Bool.and_eq_true, decide_eq_true_eq, List.all_eq_true] at h; exact h
theorem msgOk_len {m : Msg} (h : msgOk m = true) : m.2.2.2.1.2.1.length ≤ 4 ∧ m.2.2.2.2.1.length ≤ 24 := by
  obtain ⟨kd, to, ep, c, l, _⟩ := m
  simp only [msgOk, Bool.and_eq_true, decide_eq_true_eq] at h
  have hcf : ∀ c : Cfg, noCfg c = true → c.2.1.length = 0 := fun c hc => by
    simp only [noCfg, Bool.and_eq_true, decide_eq_true_eq] at hc; exact hc.2.1
  have hlg : ∀ l : List Ent, logOk l = true → l.length ≤ 24 := fun l hl => by
    simp only [logOk, Bool.and_eq_true, decide_eq_true_eq] at hl; exact hl.1
  by_cases h1 : kd = 1
  · simp [h1] at h
    have h5 := cfgOk_len h.2.2.1
    have h6 := h.2.2.2.2
    refine ⟨by simp only; omega, by simp only; simp [h6]⟩
  · by_cases h2 : kd = 2
    · simp [h2] at h
      have hc := hcf c h.2.2.1
      have hl := hlg l h.2.2.2
      exact ⟨by simp only; omega, by simp only; omega⟩
    · by_cases h3 : kd = 3
      · simp [h3] at h
        have hc := hcf c h.2.2.1
        have h6 := h.2.2.2
        exact ⟨by simp only; omega, by simp only; simp [h6]⟩
      · simp [h1, h2, h3] at h
theorem bag_f {l : List Msg} (h : bagOk l = true) : ∀ m ∈ l, MsgF m := fun m hm => by
  have := msgOk_len ((bagOk_len h).2 m hm)
  exact ⟨by omega, by omega⟩
end
end Go.Den.T

namespace Go.Den.T
theorem len_of {t : Ty} {xs : List t.val} (h : InR (.slice t) xs) : xs.length ≤ 9223372036854775807 := Nat.le_trans h.1 (by decide)
end Go.Den.T

namespace Go.Den.T
set_option linter.unusedVariables false
set_option linter.unusedSimpArgs false
set_option linter.unusedSectionVars false
section
variable {A : Atoms} [IsReal A]
theorem sz_loopP {α : Type} (P : α → Prop) {f : List α × (Int × (Int × Unit)) → Option ((List α × (Int × (Int × Unit))) ⊕ ((Int × Unit) ⊕ ((Int × Unit) × Unit)))} {k : Nat} (xs : List α) (n : Int) (hn : 0 ≤ n) (hk : xs.length < k)
    (hs : ∀ (i : Nat) (m : Int) (hi : i < xs.length), 0 ≤ m → m ≤ n → Ok (f (xs, (m, ((i : Int), ())))) (fun r => (∃ m', r = .inl (xs, (m', (((i + 1 : Nat) : Int), ()))) ∧ 0 ≤ m' ∧ m' ≤ m ∧ P xs[i]) ∨ r = .inr (.inr ((-1, ()), ()))))
    (hd : ∀ m, f (xs, (m, (((xs.length : Nat) : Int), ()))) = some (.inr (.inl (m, ())))) :
    Ok (A.iter k f (xs, (n, (0, ())))) (fun r => (∃ m, r = .inl (m, ()) ∧ 0 ≤ m ∧ m ≤ n ∧ ∀ x ∈ xs, P x) ∨ r = .inr ((-1, ()), ())) := by
  refine iter_ok (fun j s => ∃ (i : Nat) (m : Int), s = (xs, (m, ((i : Int), ()))) ∧ i + j = xs.length ∧ 0 ≤ m ∧ m ≤ n ∧ ∀ l (hl : l < xs.length), l < i → P xs[l]) _ ?_ (n := xs.length) hk ⟨0, n, rfl, by omega, hn, Int.le_refl _, fun l _ hl => by omega⟩
  rintro j s ⟨i, m, rfl, hij, h0, h1, hP⟩
  by_cases hi : i < xs.length
  · refine (hs i m hi h0 h1).mono fun r hr => ?_
    rcases hr with ⟨m', rfl, h2, h3, h4⟩ | rfl
    · refine ⟨fun s' e => ?_, fun e he => (by cases he)⟩
      injection e with e; subst e
      refine ⟨j - 1, by omega, i + 1, m', rfl, by omega, h2, by omega, fun l hl hli => ?_⟩
      by_cases e : l = i
      · subst e; exact h4
      · exact hP l hl (by omega)
    · exact ⟨fun s' e => (by cases e), fun e he => (by injection he with he; subst he; exact .inr rfl)⟩
  · have : i = xs.length := by omega
    subst this
    rw [hd m]
    refine ok_some.2 ⟨fun s' e => (by cases e), fun e he => ?_⟩
    injection he with he; subst he
    refine .inl ⟨m, rfl, h0, h1, fun x hx => ?_⟩
    obtain ⟨l, hl, rfl⟩ := List.getElem_of_mem hx
    exact hP l hl hl
/-- what of a message is short enough -/
def MsgZ (m : Msg) : Prop := m.2.2.2.1.2.1.length ≤ 1048576 ∧ m.2.2.2.2.1.length ≤ 1048576
/-- a message as a law gets it -/
def MsgI (m : Msg) : Prop := m.2.2.2.1.2.1.length ≤ 9223372036854775807 ∧ m.2.2.2.2.1.length ≤ 9223372036854775807 ∧ ∀ e ∈ m.2.2.2.2.1, e.2.2.1.2.1.length ≤ 9223372036854775807
theorem szMessage_n (k : Nat) (m : Msg) (n : Int) (h0 : 0 ≤ n) (hn : n ≤ 1048576) (hk : 2000000 ≤ k) (hm : MsgI m) :
    Ok (laws_szMessage_t A k (m, (n, ())) ()) (fun q => q.1.1 = -1 ∨ (0 ≤ q.1.1 ∧ q.1.1 ≤ n ∧ MsgZ m)) := by
  obtain ⟨h1, hl, hs⟩ := hm
  rw [laws_szMessage_t, szConfig_eq k m.2.2.2.1 n (by omega) (by omega) h1, a_obind_some, ok_cndS]
  simp only [a_ltI, decide_eq_true_eq, decide_eq_false_iff_not]
  refine ⟨fun _ => ok_some.2 (.inl rfl), fun h => ?_⟩
  by_cases hc : n < m.2.2.2.1.2.1.length
  · rw [if_pos hc] at h; omega
  rw [if_neg hc] at h ⊢
  refine (szEntryS_ok k m.2.2.2.2.1 _ (by omega) (by omega) hk hl hs).bind fun q hq => ?_
  rw [ok_cndS]
  simp only [a_ltI, decide_eq_true_eq, decide_eq_false_iff_not]
  refine ⟨fun _ => ok_some.2 (.inl rfl), fun hh => ok_some.2 (.inr ?_)⟩
  rcases hq with hq | hq
  · omega
  · exact ⟨hq.1, by show q.1.1 ≤ n; omega, by omega, hq.2.2⟩
theorem szMessageS_ok (k : Nat) (xs : List Msg) (n : Int) (h0 : 0 ≤ n) (hn : n ≤ 1048576) (hk : 2000000 ≤ k) (hl : xs.length ≤ 9223372036854775807) (hm : ∀ m ∈ xs, MsgI m) :
    Ok (laws_szMessageS_t A k (xs, (n, ())) ()) (fun q => q.1.1 = -1 ∨ (0 ≤ q.1.1 ∧ q.1.1 ≤ n ∧ xs.length ≤ 1048576 ∧ ∀ m ∈ xs, MsgZ m)) := by
  have w : A.wrapI .i64 (n - (xs.length : Int)) = n - (xs.length : Int) := a_wrap (by omega) (by omega)
  rw [laws_szMessageS_t, ok_cndS]
  simp only [a_lenL, a_subI, w, a_ltI, decide_eq_true_eq, decide_eq_false_iff_not]
  refine ⟨fun _ => ok_some.2 (.inl rfl), fun h => ?_⟩
  refine (sz_loopP (A := A) MsgZ (f := laws_szMessageS_t_b0 A k) xs (n - xs.length) (by omega) (by omega) (fun i m hi g0 g1 => ?_) (fun m => by simp [laws_szMessageS_t_b0])).bind fun r hr => ?_
  · have g := szMessage_n (A := A) k xs[i] m g0 (by omega) hk (hm _ (List.getElem_mem hi))
    have w2 : A.wrapI .i64 ((i : Int) + 1) = ((i + 1 : Nat) : Int) := by rw [a_wrap (by omega) (by omega)]; rfl
    have hi' : (i : Int) < (xs.length : Int) := by omega
    have ha : A.atL xs (i : Int) msg0 = xs[i] := by rw [a_atL]; simp [hi]
    simp only [laws_szMessageS_t_b0, a_cndS, a_ltI, a_lenL, hi', decide_true, if_true, a_le0, Int.natCast_nonneg, a_andB, Bool.and_self, ha, a_addI, w2]
    refine g.bind fun q hq => ?_
    rcases hq with hq | ⟨q0, q1, q2⟩
    · have : q.1.1 < 0 := by omega
      simp only [this, decide_true, if_true]
      exact ok_some.2 (.inr rfl)
    · have : ¬ q.1.1 < 0 := by omega
      simp only [this, decide_false, Bool.false_eq_true, if_false]
      exact ok_some.2 (.inl ⟨_, rfl, q0, q1, q2⟩)
  · rcases hr with ⟨m, rfl, g0, g1, g2⟩ | rfl
    · rw [a_sumE_inl]; exact ok_some.2 (.inr ⟨g0, by show m ≤ n; omega, by omega, g2⟩)
    · rw [a_sumE_inr]; exact ok_some.2 (.inl rfl)
theorem toMessageS_eq (k : Nat) (xs : List Msg) (hk : 2000000 ≤ k) (hl : xs.length ≤ 1048576) (hz : ∀ m ∈ xs, MsgZ m) : laws_toMessageS_t A k (xs, ()) () = some ((xs, ()), ()) := by
  have h := to_loop (A := A) (k := k) (f := laws_toMessageS_t_b0 A k) msg0 xs (by omega)
    (fun i ys hi hy => by
      have hi' : i < ys.length := by omega
      have hm := hz xs[i] (List.getElem_mem hi)
      have ha : A.atL xs (i : Int) msg0 = xs[i] := by rw [a_atL]; simp [hi]
      simp (disch := omega) [laws_toMessageS_t_b0, hi, hi', hy, a_wrap, toMessage_eq k xs[i] hk hm.1 hm.2])
    (fun ys hy => by simp [laws_toMessageS_t_b0])
  have h1 : (xs.length : Int) < 4294967296 := by omega
  simp [laws_toMessageS_t, h1, h]
theorem eqMessageS_eq (k : Nat) (xs ys : List Msg) (hk : 2000000 ≤ k) (hl : xs.length ≤ 1048576) (hz : ∀ m ∈ xs, MsgZ m) : laws_eqMessageS_t A k (xs, (ys, ())) () = some ((decide (xs = ys), ()), ()) := by
  by_cases he : xs.length = ys.length
  · have h := eq_loop (A := A) (k := k) (f := laws_eqMessageS_t_b0 A k) msg0 xs ys (by omega) he
      (fun i hi => by
        have hi' : i < ys.length := by omega
        have hm := hz xs[i] (List.getElem_mem hi)
        simp (disch := omega) [laws_eqMessageS_t_b0, hi, hi', a_wrap, eqMessage_eq k xs[i] ys[i] hk hm.1 hm.2]
        by_cases hv : xs[i] = ys[i] <;> simp [hv])
      (by simp [laws_eqMessageS_t_b0])
    simp only [laws_eqMessageS_t, a_lenL, he, a_eqI, decide_true, a_notB, Bool.not_true, a_cndS, Bool.false_eq_true, if_false, h]
    by_cases hv : xs = ys <;> simp [hv]
  · have h2 : ¬ (xs.length : Int) = ys.length := by omega
    have h3 : ¬ xs = ys := fun e => he (by rw [e])
    simp [laws_eqMessageS_t, h2, h3]
end
theorem msgI_of {m : TMsg.val} (h : InR TMsg m) : MsgI m := ⟨Nat.le_trans h.2.2.2.1.2.1.1 (by decide), Nat.le_trans h.2.2.2.2.1.1 (by decide), keys_of h.2.2.2.2.1⟩
end Go.Den.T
