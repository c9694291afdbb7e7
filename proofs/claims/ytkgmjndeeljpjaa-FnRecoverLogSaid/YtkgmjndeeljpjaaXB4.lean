/- Bytes read: numbers, texts, entries. -/
import Derived.Test.YtkgmjndeeljpjaaXB2

namespace Go.Den.T
set_option linter.unusedVariables false
set_option linter.unusedSimpArgs false
set_option linter.unusedSectionVars false
section
variable {A : Atoms} [IsReal A]
def Bts (xs : List Int) : Prop := ∀ x ∈ xs, 0 ≤ x ∧ x ≤ 255
/-- a number at the beginning of bytes: it, and how many bytes it takes -/
def decG : Nat → Bool → List Int → Option (Nat × Nat)
  | 0, _, _ => none
  | _ + 1, _, [] => none
  | g + 1, first, x :: xs => if x < 128 then (if x = 0 ∧ first = false then none else some (x.toNat, 1)) else
    match decG g false xs with
    | some (v, c) => some (x.toNat % 128 + 128 * v, c + 1)
    | none => none
theorem decG_enc : ∀ (g : Nat) (first : Bool) (n : Nat) (rest : List Int), 1 ≤ g → n < 128 ^ g → (n = 0 → first = true) → decG g first (encN n ++ rest) = some (n, (encN n).length)
  | 0, first, n, rest, hg, h, h0 => by omega
  | g + 1, first, n, rest, hg, h, h0 => by
    by_cases hn : n < 128
    · rw [encN_lo hn]
      have h1 : (n : Int) < 128 := by omega
      have h2 : ¬ ((n : Int) = 0 ∧ first = false) := fun hh => by
        have := h0 (by omega); rw [this] at hh; cases hh.2
      simp only [List.cons_append, decG, h1, if_true, h2, if_false]
      simp
    · rw [encN_hi hn]
      have h1 : ¬ (((n % 128 + 128 : Nat) : Int) < 128) := by omega
      have h2 : n / 128 < 128 ^ g := Nat.div_lt_of_lt_mul (by rw [Nat.mul_comm, ← Nat.pow_succ]; exact h)
      have hg1 : 1 ≤ g := by
        cases g with
        | zero => simp at h; omega
        | succ g => omega
      have ih := decG_enc g false (n / 128) rest hg1 h2 (fun hh => by omega)
      simp only [List.cons_append, decG, h1, if_false, ih, List.length_cons]
      congr 2
      rw [Int.toNat_natCast]
      omega
theorem decG_zero (first : Bool) (bs : List Int) : decG 0 first bs = none := by cases bs <;> rfl
theorem decG_sound : ∀ (g : Nat) (first : Bool) (bs : List Int) (v c : Nat), Bts bs → decG g first bs = some (v, c) → v < 128 ^ g ∧ bs = encN v ++ bs.drop c ∧ c = (encN v).length ∧ (v = 0 → first = true)
  | 0, first, bs, v, c, hb, h => by rw [decG_zero] at h; cases h
  | g + 1, first, [], v, c, hb, h => by simp [decG] at h
  | g + 1, first, x :: xs, v, c, hb, h => by
    have hx := hb x (by simp)
    have e1 : (128 : Nat) ^ (g + 1) = 128 ^ g * 128 := Nat.pow_succ ..
    have e2 : 1 ≤ (128 : Nat) ^ g := Nat.one_le_pow _ _ (by omega)
    simp only [decG] at h
    by_cases h1 : x < 128
    · rw [if_pos h1] at h
      by_cases h2 : x = 0 ∧ first = false
      · rw [if_pos h2] at h; cases h
      · rw [if_neg h2] at h
        injection h with h; injection h with hv hc
        subst hv hc
        have h3 : x.toNat < 128 := by omega
        have e3 : encN x.toNat = [x] := by rw [encN_lo h3]; congr 1; omega
        refine ⟨by omega, by rw [e3]; rfl, by rw [e3]; rfl, fun hz => ?_⟩
        cases first with
        | true => rfl
        | false => exact absurd ⟨by omega, rfl⟩ h2
    · rw [if_neg h1] at h
      cases hd : decG g false xs with
      | none => rw [hd] at h; cases h
      | some p =>
        obtain ⟨v', c'⟩ := p
        rw [hd] at h
        injection h with h; injection h with hv hc
        subst hv hc
        obtain ⟨k1, k2, k3, k4⟩ := decG_sound g false xs v' c' (fun y hy => hb y (by simp [hy])) hd
        have hv0 : v' ≠ 0 := fun hz => by cases k4 hz
        have h5 : ¬ (x.toNat % 128 + 128 * v' < 128) := by omega
        have e4 : encN (x.toNat % 128 + 128 * v') = x :: encN v' := by
          rw [encN_hi h5]
          have a1 : (x.toNat % 128 + 128 * v') / 128 = v' := by omega
          have a2 : (((x.toNat % 128 + 128 * v') % 128 + 128 : Nat) : Int) = x := by omega
          rw [a1, a2]
        refine ⟨by rw [e1]; omega, ?_, by rw [e4, k3]; rfl, fun hz => by omega⟩
        rw [e4, List.cons_append, List.drop_succ_cons, ← k2]
/-- a number at a place of bytes, and the place behind it -/
def decNum (b : List Int) (at_ : Int) : Int × Int :=
  if (bytesOk b && decide (0 ≤ at_ ∧ at_ < b.length)) = true then
    match decG 4 true (b.drop at_.toNat) with
    | some (v, c) => ((v : Int), at_ + (c : Int))
    | none => (-1, -1)
  else (-1, -1)
abbrev DSt := List Int × (Int × (Int × (Int × (Int × Unit))))
abbrev DRes := Unit ⊕ ((Int × (Int × Unit)) × Unit)
def dst (b : List Int) (at_ j : Nat) (n : Int) : DSt := (b, ((at_ : Int), (n, ((128 : Int) ^ j, (((at_ + j : Nat) : Int), ())))))
theorem dec_loop {f : DSt → Option (DSt ⊕ DRes)} (b : List Int) (at_ : Nat) (hb : Bts b) (hat : at_ < b.length)
    (h1 : ∀ (j : Nat) (n : Int), j < 4 → ∀ hj : at_ + j < b.length, 0 ≤ n → n < (128 : Int) ^ j → f (dst b at_ j n) = some (if b[at_ + j] < 128 then (if b[at_ + j] = 0 ∧ 0 < j then .inr (.inr (((-1), ((-1), ())), ())) else .inr (.inr ((n + 128 ^ j * b[at_ + j], (((at_ + j + 1 : Nat) : Int), ())), ()))) else .inl (dst b at_ (j + 1) (n + 128 ^ j * (b[at_ + j] - 128)))))
    (h2 : ∀ (j : Nat) (n : Int), j ≤ 4 → (j = 4 ∨ b.length ≤ at_ + j) → f (dst b at_ j n) = some (.inr (.inl ()))) (k : Nat) (hk : 10 ≤ k) :
    Ok (A.iter k f (dst b at_ 0 0)) (fun e => match decG 4 true (b.drop at_) with
      | some (v, c) => e = .inr (((v : Int), ((at_ : Int) + (c : Int), ())), ())
      | none => e = .inl () ∨ e = .inr (((-1), ((-1), ())), ())) := by
  refine iter_ok (fun m s => ∃ (j : Nat) (n : Int), s = dst b at_ j n ∧ m = 4 - j ∧ j ≤ 4 ∧ 0 ≤ n ∧ n < (128 : Int) ^ j ∧ decG 4 true (b.drop at_) = (decG (4 - j) (decide (j = 0)) (b.drop (at_ + j))).map (fun p => (n.toNat + 128 ^ j * p.1, j + p.2))) _ ?_ (n := 4) (by omega) ⟨0, 0, rfl, rfl, by omega, by omega, by decide, ?_⟩
  · rintro m s ⟨j, n, rfl, rfl, hj4, hn0, hn1, hd⟩
    by_cases hj : j = 4
    · refine ⟨_, h2 j n hj4 (.inl hj), fun s' e => (by cases e), fun e he => ?_⟩
      injection he with he; subst he
      rw [hj, Nat.sub_self, decG_zero] at hd
      rw [hd]; exact .inl rfl
    by_cases hl : at_ + j < b.length
    case neg =>
      refine ⟨_, h2 j n hj4 (.inr (by omega)), fun s' e => (by cases e), fun e he => ?_⟩
      injection he with he; subst he
      have : b.drop (at_ + j) = [] := List.drop_eq_nil_of_le (by omega)
      have e0 : decG (4 - j) (decide (j = 0)) [] = none := by
        cases h4 : 4 - j with
        | zero => rfl
        | succ g => rfl
      rw [this, e0] at hd
      rw [hd]; exact .inl rfl
    have hx := hb _ (List.getElem_mem hl)
    have hdr : b.drop (at_ + j) = b[at_ + j] :: b.drop (at_ + j + 1) := List.drop_eq_getElem_cons hl
    obtain ⟨g, hg⟩ : ∃ g, 4 - j = g + 1 := ⟨4 - j - 1, by omega⟩
    have hf := h1 j n (by omega) hl hn0 hn1
    rw [hdr, hg] at hd
    simp only [decG] at hd
    have hp : (0 : Int) ≤ 128 ^ j := Int.pow_nonneg (by omega)
    by_cases hlt : b[at_ + j] < 128
    · rw [if_pos hlt] at hf hd
      by_cases hz : b[at_ + j] = 0 ∧ 0 < j
      · have hz' : b[at_ + j] = 0 ∧ decide (j = 0) = false := ⟨hz.1, by simp; omega⟩
        rw [if_pos hz] at hf
        rw [if_pos hz'] at hd
        refine ⟨_, hf, fun s' e => (by cases e), fun e he => ?_⟩
        injection he with he; subst he
        rw [hd]; exact .inr rfl
      · have hz' : ¬ (b[at_ + j] = 0 ∧ decide (j = 0) = false) := fun h => hz ⟨h.1, by have := of_decide_eq_false h.2; omega⟩
        rw [if_neg hz] at hf
        rw [if_neg hz'] at hd
        refine ⟨_, hf, fun s' e => (by cases e), fun e he => ?_⟩
        injection he with he; subst he
        rw [hd]
        simp only [Option.map_some]
        have a1 : ((n.toNat + 128 ^ j * b[at_ + j].toNat : Nat) : Int) = n + 128 ^ j * b[at_ + j] := by
          rw [Int.natCast_add, Int.natCast_mul, Int.natCast_pow, Int.toNat_of_nonneg hn0, Int.toNat_of_nonneg hx.1]; rfl
        rw [a1]
        congr 3
    · rw [if_neg hlt] at hf hd
      refine ⟨_, hf, fun s' e => ?_, fun e he => (by cases he)⟩
      injection e with e; subst e
      have hy0 : 0 ≤ b[at_ + j] - 128 := by omega
      have hy1 : b[at_ + j] - 128 ≤ 127 := by omega
      have m0 : 0 ≤ 128 ^ j * (b[at_ + j] - 128) := Int.mul_nonneg hp hy0
      have m1 : 128 ^ j * (b[at_ + j] - 128) ≤ 128 ^ j * 127 := Int.mul_le_mul_of_nonneg_left hy1 hp
      have e5 : (128 : Int) ^ (j + 1) = 128 ^ j * 128 := Int.pow_succ ..
      refine ⟨4 - (j + 1), by omega, j + 1, _, rfl, rfl, by omega, by omega, by rw [e5]; omega, ?_⟩
      have hg' : 4 - (j + 1) = g := by omega
      have hj0 : decide (j + 1 = 0) = false := by simp
      rw [hg', hj0, hd, ← Nat.add_assoc]
      cases decG g false (b.drop (at_ + j + 1)) with
      | none => rfl
      | some p =>
        obtain ⟨v, c⟩ := p
        simp only [Option.map_some]
        congr 1
        have a2 : (n + 128 ^ j * (b[at_ + j] - 128)).toNat = n.toNat + 128 ^ j * (b[at_ + j].toNat % 128) := by
          have : ((n.toNat + 128 ^ j * (b[at_ + j].toNat % 128) : Nat) : Int) = n + 128 ^ j * (b[at_ + j] - 128) := by
            rw [Int.natCast_add, Int.natCast_mul, Int.natCast_pow, Int.toNat_of_nonneg hn0]
            have : ((b[at_ + j].toNat % 128 : Nat) : Int) = b[at_ + j] - 128 := by omega
            rw [this]; rfl
          omega
        refine Prod.ext ?_ ?_
        · show n.toNat + 128 ^ j * (b[at_ + j].toNat % 128 + 128 * v) = (n + 128 ^ j * (b[at_ + j] - 128)).toNat + 128 ^ (j + 1) * v
          rw [a2, Nat.mul_add, Nat.pow_succ, Nat.mul_assoc, Nat.add_assoc]
        · show j + (c + 1) = j + 1 + c
          omega
  · simp only [Nat.sub_zero, Nat.add_zero, Nat.pow_zero, Nat.one_mul, Int.toNat_zero, Nat.zero_add, decide_true]
    cases decG 4 true (b.drop at_) <;> rfl
theorem pow_le {j : Nat} (h : j < 4) : 1 ≤ (128 : Int) ^ j ∧ (128 : Int) ^ j ≤ 2097152 := by
  have : j = 0 ∨ j = 1 ∨ j = 2 ∨ j = 3 := by omega
  rcases this with rfl | rfl | rfl | rfl <;> exact ⟨by decide, by decide⟩
theorem decNum_of {b : List Int} {at_ : Nat} {x : Option (((Int × (Int × Unit)) × Unit))} (hb : bytesOk b = true) (hat : at_ < b.length) {e : DRes}
    (h : match decG 4 true (b.drop at_) with
      | some (v, c) => e = .inr (((v : Int), ((at_ : Int) + (c : Int), ())), ())
      | none => e = .inl () ∨ e = .inr (((-1), ((-1), ())), ())) :
    A.sumE e (fun _ => some ((((-1) : Int), (((-1) : Int), ())), ())) (fun r => some r) = some (((decNum b (at_ : Int)).1, ((decNum b (at_ : Int)).2, ())), ()) := by
  have h0 : 0 ≤ (at_ : Int) ∧ (at_ : Int) < (b.length : Int) := by omega
  simp only [decNum, hb, h0, and_self, decide_true, Bool.and_self, if_true, Int.toNat_natCast]
  cases hd : decG 4 true (b.drop at_) with
  | none =>
    rw [hd] at h
    rcases h with rfl | rfl <;> simp
  | some p =>
    obtain ⟨v, c⟩ := p
    rw [hd] at h
    simp only at h
    subst h
    simp
theorem spec_DecodeNumber_eq (k : Nat) (hk : 3000 ≤ k) (b : List Int) (at_ : Int) : spec_DecodeNumber_t A k (b, (at_, ())) () = some (((decNum b at_).1, ((decNum b at_).2, ())), ()) := by
  rw [← ok_eq, spec_DecodeNumber_t, spec_BytesValid_eq k hk, a_obind_some]
  rcases Bool.eq_false_or_eq_true (bytesOk b) with hb | hb
  case inr => simp [hb, ok_some, decNum]
  have hbl := (bytes_of hb).1
  have w : A.wrapI .i64 ((b.length : Int) - 1) = (b.length : Int) - 1 := a_wrap (by omega) (by omega)
  by_cases h0 : 0 ≤ at_ ∧ at_ < (b.length : Int)
  case neg =>
    have h1 : ¬ (0 ≤ at_ ∧ at_ ≤ (b.length : Int) - 1) := by omega
    simp [hb, h0, h1, ok_some, decNum, l1In_eq, w]
  obtain ⟨p, rfl⟩ : ∃ p : Nat, at_ = p := ⟨at_.toNat, by omega⟩
  have hp : p < b.length := by omega
  have h1 : 0 ≤ (p : Int) ∧ (p : Int) ≤ (b.length : Int) - 1 := by omega
  simp only [hb, a_notB, Bool.not_true, a_cndS, Bool.false_eq_true, if_false, a_lenL, a_subI, w, l1In_eq, h1, and_self, decide_true, a_obind_some, a_sumE_inl]
  have w4 : A.wrapI .i64 ((p : Int) + 4) = (p : Int) + 4 := a_wrap (by omega) (by omega)
  have hl := dec_loop (A := A) (f := spec_DecodeNumber_t_b0 A k) b p (bytes_of hb).2 hp (fun j n hj4 hj hn0 hn1 => by
    have hx := (bytes_of hb).2 _ (List.getElem_mem hj)
    have hu := pow_le hj4
    have g1 : ((p + j : Nat) : Int) < (b.length : Int) := by omega
    have g2 : ((p + j : Nat) : Int) < (p : Int) + 4 := by omega
    have hx128 : b[p + j].tmod 128 = b[p + j] % 128 := Int.tmod_eq_emod_of_nonneg hx.1
    have hu1 : (128 : Int) ^ (j + 1) = 128 ^ j * 128 := Int.pow_succ ..
    simp only [dst, spec_DecodeNumber_t_b0, a_cndS, a_ltI, a_lenL, a_addI, w4, g1, g2, decide_true, if_true, a_obind_some, a_sumE_inl, a_le0, a_andB, Int.natCast_nonneg, Bool.and_self, a_eqI, a_notB, a_atL, Int.toNat_natCast, getD_lt hj, a_remI, hx128, a_mulI, hu1]
    generalize hy : b[p + j] = y at *
    generalize hq : (128 : Int) ^ j = u at *
    obtain ⟨z, ez⟩ : ∃ z : Int, ((p + j : Nat) : Int) = z := ⟨_, rfl⟩
    have e1 : ((p + (j + 1) : Nat) : Int) = z + 1 := by omega
    have e2 : ((p + j + 1 : Nat) : Int) = z + 1 := by omega
    have ez2 : z = (p : Int) + (j : Int) := by omega
    have hy128 : 0 ≤ y % 128 ∧ y % 128 ≤ 127 := by omega
    have m0 : 0 ≤ u * (y % 128) := Int.mul_nonneg (by omega) hy128.1
    have m1 : u * (y % 128) ≤ 2097152 * 127 := Int.mul_le_mul hu.2 hy128.2 hy128.1 (by omega)
    have w1 : A.wrapI .i64 (u * (y % 128)) = u * (y % 128) := a_wrap (by omega) (by omega)
    have w2 : A.wrapI .i64 (n + u * (y % 128)) = n + u * (y % 128) := a_wrap (by omega) (by omega)
    have w3 : A.wrapI .i64 (u * 128) = u * 128 := a_wrap (by omega) (by omega)
    have w5 : A.wrapI .i64 (z + 1) = z + 1 := a_wrap (by omega) (by omega)
    simp only [ez, e1, e2, w1, w2, w3, w5]
    by_cases hlt : y < 128
    · have e128 : y % 128 = y := by omega
      by_cases hz : y = 0
      · by_cases hj0 : 0 < j
        · have g3 : (p : Int) < z := by omega
          simp [hlt, hz, hj0, g3]
        · have g3 : ¬ (p : Int) < z := by omega
          simp [hlt, hz, hj0, g3, w5]
      · simp [hlt, hz, e128, w5]
    · have e128 : y % 128 = y - 128 := by omega
      simp [hlt, e128]) (fun j n hj4 hj => by
    by_cases hl : p + j < b.length
    · have hj' : j = 4 := by omega
      subst hj'
      have g1 : ((p + 4 : Nat) : Int) < (b.length : Int) := by omega
      have g2 : ¬ ((p + 4 : Nat) : Int) < (p : Int) + 4 := by omega
      simp only [dst, spec_DecodeNumber_t_b0, a_cndS, a_ltI, a_lenL, a_addI, w4, g1, g2, decide_true, decide_false, if_true, Bool.false_eq_true, if_false, a_obind_some, a_sumE_inr]
    · have g1 : ¬ ((p + j : Nat) : Int) < (b.length : Int) := by omega
      simp only [dst, spec_DecodeNumber_t_b0, a_cndS, a_ltI, a_lenL, g1, decide_false, Bool.false_eq_true, if_false, a_obind_some, a_sumE_inr]) k (by omega)
  simp only [dst, Int.pow_zero, Nat.add_zero] at hl
  refine hl.bind fun e he => ?_
  rw [ok_eq]
  rw [decNum_of (A := A) (x := none) hb hp he]
end
end Go.Den.T
