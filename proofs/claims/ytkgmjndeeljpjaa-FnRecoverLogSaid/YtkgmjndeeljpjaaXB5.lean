/- Bytes read, second part: the program's numbers, texts, entries. -/
import Derived.Test.YtkgmjndeeljpjaaXB4

namespace Go.Den.T
set_option linter.unusedVariables false
set_option linter.unusedSimpArgs false
set_option linter.unusedSectionVars false
section
variable {A : Atoms} [IsReal A]
theorem pow_iff {j : Nat} (h : j ≤ 4) : (128 : Int) ^ j ≤ 268435455 ↔ j < 4 := by
  have : j = 0 ∨ j = 1 ∨ j = 2 ∨ j = 3 ∨ j = 4 := by omega
  rcases this with rfl | rfl | rfl | rfl | rfl <;> decide
theorem impl_DecodeNumber_eq (k : Nat) (hk : 3000 ≤ k) (b : List Int) (at_ : Int) : impl_DecodeNumber_t A k (b, (at_, ())) () = some (((decNum b at_).1, ((decNum b at_).2, ())), ()) := by
  rw [← ok_eq, impl_DecodeNumber_t, impl_BytesValid_eq k hk, a_obind_some]
  rcases Bool.eq_false_or_eq_true (bytesOk b) with hb | hb
  case inr => simp [hb, ok_some, decNum]
  have hbl := (bytes_of hb).1
  by_cases h0 : 0 ≤ at_ ∧ at_ < (b.length : Int)
  case neg =>
    by_cases h1 : at_ < 0
    · simp [hb, h0, h1, ok_some, decNum]
    · have h2 : (b.length : Int) ≤ at_ := by omega
      simp [hb, h0, h1, h2, ok_some, decNum]
  obtain ⟨p, rfl⟩ : ∃ p : Nat, at_ = p := ⟨at_.toNat, by omega⟩
  have hp : p < b.length := by omega
  have h1 : ¬ (p : Int) < 0 := by omega
  have h2 : ¬ (b.length : Int) ≤ (p : Int) := by omega
  simp only [hb, a_notB, Bool.not_true, a_cndS, Bool.false_eq_true, if_false, a_lenL, a_ltI, a_leI, h1, h2, decide_false, a_obind_some, a_sumE_inl]
  have hl := dec_loop (A := A) (f := impl_DecodeNumber_t_b0 A k) b p (bytes_of hb).2 hp (fun j n hj4 hj hn0 hn1 => by
    have hx := (bytes_of hb).2 _ (List.getElem_mem hj)
    have hu := pow_le hj4
    have g1 : ((p + j : Nat) : Int) < (b.length : Int) := by omega
    have g2 : (128 : Int) ^ j ≤ 268435455 := (pow_iff (by omega)).2 hj4
    have hx128 : b[p + j].tmod 128 = b[p + j] % 128 := Int.tmod_eq_emod_of_nonneg hx.1
    have hu1 : (128 : Int) ^ (j + 1) = 128 ^ j * 128 := Int.pow_succ ..
    simp only [dst, impl_DecodeNumber_t_b0, a_cndS, a_ltI, a_leI, a_lenL, a_addI, g1, g2, decide_true, if_true, a_obind_some, a_sumE_inl, a_le0, a_andB, Int.natCast_nonneg, Bool.and_self, a_eqI, a_notB, a_atL, Int.toNat_natCast, getD_lt hj, a_remI, hx128, a_mulI, hu1]
    generalize hy : b[p + j] = y at *
    generalize hq : (128 : Int) ^ j = u at *
    obtain ⟨z, ez⟩ : ∃ z : Int, ((p + j : Nat) : Int) = z := ⟨_, rfl⟩
    have e1 : ((p + (j + 1) : Nat) : Int) = z + 1 := by omega
    have e2 : ((p + j + 1 : Nat) : Int) = z + 1 := by omega
    have ez2 : z = (p : Int) + (j : Int) := by omega
    have hy128 : 0 ≤ y % 128 ∧ y % 128 ≤ 127 := by omega
    have ec : y % 128 * u = u * (y % 128) := Int.mul_comm _ _
    have m0 : 0 ≤ u * (y % 128) := Int.mul_nonneg (by omega) hy128.1
    have m1 : u * (y % 128) ≤ 2097152 * 127 := Int.mul_le_mul hu.2 hy128.2 hy128.1 (by omega)
    have w1 : A.wrapI .i64 (u * (y % 128)) = u * (y % 128) := a_wrap (by omega) (by omega)
    have w2 : A.wrapI .i64 (n + u * (y % 128)) = n + u * (y % 128) := a_wrap (by omega) (by omega)
    have w3 : A.wrapI .i64 (u * 128) = u * 128 := a_wrap (by omega) (by omega)
    have w5 : A.wrapI .i64 (z + 1) = z + 1 := a_wrap (by omega) (by omega)
    simp only [ez, e1, e2, ec, w1, w2, w3, w5]
    by_cases hlt : y < 128
    · have e128 : y % 128 = y := by omega
      have hge : ¬ (128 : Int) ≤ y := by omega
      by_cases hz : y = 0
      · by_cases hj0 : 0 < j
        · have g3 : (p : Int) < z := by omega
          simp [hlt, hge, hz, hj0, g3]
        · have g3 : ¬ (p : Int) < z := by omega
          simp [hlt, hge, hz, hj0, g3, w5]
      · simp [hlt, hge, hz, e128, w5]
    · have e128 : y % 128 = y - 128 := by omega
      have hge : (128 : Int) ≤ y := by omega
      simp [hlt, hge, e128]) (fun j n hj4 hj => by
    by_cases hl : p + j < b.length
    · have hj' : j = 4 := by omega
      subst hj'
      have g1 : ((p + 4 : Nat) : Int) < (b.length : Int) := by omega
      have g2 : ¬ (128 : Int) ^ 4 ≤ 268435455 := by decide
      simp only [dst, impl_DecodeNumber_t_b0, a_cndS, a_ltI, a_leI, a_lenL, a_addI, g1, g2, decide_true, decide_false, if_true, Bool.false_eq_true, if_false, a_obind_some, a_sumE_inr]
    · have g1 : ¬ ((p + j : Nat) : Int) < (b.length : Int) := by omega
      simp only [dst, impl_DecodeNumber_t_b0, a_cndS, a_ltI, a_lenL, g1, decide_false, Bool.false_eq_true, if_false, a_obind_some, a_sumE_inr]) k (by omega)
  simp only [dst, Int.pow_zero, Nat.add_zero] at hl
  refine hl.bind fun e he => ?_
  rw [ok_eq]
  rw [decNum_of (A := A) (x := none) hb hp he]
/-- what a number that was read says of the bytes -/
theorem decNum_sound {b : List Int} {at_ : Int} (h : 0 ≤ (decNum b at_).1 ∨ 0 ≤ (decNum b at_).2) :
    bytesOk b = true ∧ ∃ v c : Nat, (decNum b at_).1 = v ∧ (decNum b at_).2 = at_ + (c : Int) ∧ 0 ≤ at_ ∧ at_ + (c : Int) ≤ b.length ∧ v < 268435456 ∧ c = (encN v).length ∧ b.drop at_.toNat = encN v ++ b.drop (at_ + (c : Int)).toNat := by
  unfold decNum at h ⊢
  by_cases hc : (bytesOk b && decide (0 ≤ at_ ∧ at_ < b.length)) = true
  case neg => rw [if_neg hc] at h; simp at h
  rw [if_pos hc] at h ⊢
  simp only [Bool.and_eq_true, decide_eq_true_eq] at hc
  cases hd : decG 4 true (b.drop at_.toNat) with
  | none => rw [hd] at h; simp at h
  | some p =>
    obtain ⟨v, c⟩ := p
    rw [hd] at h
    have e4 : (128 : Nat) ^ 4 = 268435456 := by decide
    obtain ⟨k1, k2, k3, _⟩ := decG_sound 4 true _ v c (fun x hx => (bytes_of hc.1).2 x (List.mem_of_mem_drop hx)) hd
    have hl := congrArg List.length k2
    rw [List.length_append, List.length_drop, List.length_drop, List.length_drop] at hl
    have e5 : (at_ + (c : Int)).toNat = at_.toNat + c := by omega
    refine ⟨hc.1, v, c, rfl, rfl, hc.2.1, by omega, by omega, k3, ?_⟩
    rw [e5, ← List.drop_drop]
    exact k2
theorem decNum_enc {b : List Int} (hb : bytesOk b = true) {at_ : Nat} {n : Nat} {rest : List Int} (hn : n < 268435456) (h : b.drop at_ = encN n ++ rest) : decNum b (at_ : Int) = ((n : Int), (at_ : Int) + ((encN n).length : Int)) := by
  have hl := congrArg List.length h
  have hp := encN_pos n
  rw [List.length_drop, List.length_append] at hl
  have h0 : 0 ≤ (at_ : Int) ∧ (at_ : Int) < (b.length : Int) := by omega
  have e4 : (128 : Nat) ^ 4 = 268435456 := by decide
  have := decG_enc 4 true n rest (by omega) (by omega) (fun _ => rfl)
  simp only [decNum, hb, h0, and_self, decide_true, Bool.and_self, if_true, Int.toNat_natCast, h, this]
/-- both are -1, or both are not -/
theorem decNum_neg {b : List Int} {at_ : Int} (h : ¬ (0 ≤ (decNum b at_).1 ∨ 0 ≤ (decNum b at_).2)) : decNum b at_ = (-1, -1) := by
  unfold decNum at h ⊢
  split
  · rename_i hc
    rw [if_pos hc] at h
    cases hd : decG 4 true (b.drop at_.toNat) with
    | none => rfl
    | some p => rw [hd] at h; exact absurd (.inl (by simp)) h
  · rfl
theorem decNum_bad {b : List Int} {at_ : Int} (h : bytesOk b = false) : decNum b at_ = (-1, -1) := by simp [decNum, h]
/-! ### texts -/
def unchars (xs : List Int) : List UInt8 := xs.map fun x => UInt8.ofNat x.toNat
theorem unchars_chars (s : List UInt8) : unchars (chars s) = s := by
  induction s with
  | nil => rfl
  | cons c s ih =>
    simp only [unchars, chars, List.map_cons, List.map_map] at ih ⊢
    rw [ih]; congr 1
    simp
theorem chars_unchars {xs : List Int} (h : Bts xs) : chars (unchars xs) = xs := by
  induction xs with
  | nil => rfl
  | cons x xs ih =>
    have hx := h x (by simp)
    have := ih fun y hy => h y (by simp [hy])
    simp only [unchars, chars, List.map_cons, List.map_map] at this ⊢
    rw [this]; congr 1
    simp; omega
def decText (b : List Int) (at_ : Int) : List UInt8 × Int :=
  if (decNum b at_).1 < 0 ∨ 8 < (decNum b at_).1 ∨ (b.length : Int) - (decNum b at_).2 < (decNum b at_).1 then ([], -1)
  else (unchars ((b.drop (decNum b at_).2.toNat).take (decNum b at_).1.toNat), (decNum b at_).2 + (decNum b at_).1)
theorem text_range {b : List Int} {at_ : Int} (h : ¬ ((decNum b at_).1 < 0 ∨ 8 < (decNum b at_).1 ∨ (b.length : Int) - (decNum b at_).2 < (decNum b at_).1)) :
    bytesOk b = true ∧ ∃ n p : Nat, (decNum b at_).1 = n ∧ (decNum b at_).2 = p ∧ n ≤ 8 ∧ p + n ≤ b.length := by
  obtain ⟨hb, v, c, h1, h2, h3, h4, _⟩ := decNum_sound (b := b) (at_ := at_) (.inl (by omega))
  refine ⟨hb, v, (at_ + (c : Int)).toNat, h1, by omega, by omega, by omega⟩
theorem spec_DecodeText_eq (k : Nat) (hk : 3000 ≤ k) (b : List Int) (at_ : Int) : spec_DecodeText_t A k (b, (at_, ())) () = some (((decText b at_).1, ((decText b at_).2, ())), ()) := by
  simp only [spec_DecodeText_t, spec_DecodeNumber_eq k hk, a_obind_some, a_cndS, a_ltI, a_lenL, a_subI]
  by_cases h1 : (decNum b at_).1 < 0
  · simp [decText, h1]
  by_cases h2 : 8 < (decNum b at_).1
  · simp [decText, h1, h2]
  obtain ⟨hb, v, c, e1, e2, g3, g4, _⟩ := decNum_sound (b := b) (at_ := at_) (.inl (by omega))
  have hbl := (bytes_of hb).1
  have w : A.wrapI .i64 ((b.length : Int) - (decNum b at_).2) = (b.length : Int) - (decNum b at_).2 := a_wrap (by omega) (by omega)
  by_cases h3 : (b.length : Int) - (decNum b at_).2 < (decNum b at_).1
  · simp [decText, h1, h2, h3, w]
  obtain ⟨_, n, p, e3, e4, hn, hpn⟩ := text_range (b := b) (at_ := at_) (by simp only [not_or]; exact ⟨h1, h2, h3⟩)
  have w5 : A.wrapI .i64 ((p : Int) + (n : Int)) = (p : Int) + (n : Int) := a_wrap (by omega) (by omega)
  have hloop := iter_for (A := A) (f := spec_DecodeText_t_b0 A k) (fun i => (b, ((n : Int), ((p : Int), (unchars ((b.drop p).take i), (((p + i : Nat) : Int), ())))))) n ((n : Int), ((p : Int), (unchars ((b.drop p).take n), ())))
    (fun i hi => by
      have hpi : p + i < b.length := by omega
      have hx := (bytes_of hb).2 _ (List.getElem_mem hpi)
      have g1 : ((p + i : Nat) : Int) < (p : Int) + (n : Int) := by omega
      have g2 : ((p + i : Nat) : Int) < (b.length : Int) := by omega
      have w8 : A.wrapI .u8 b[p + i] = b[p + i] := a_wrap8 hx.1 hx.2
      have wi : A.wrapI .i64 (((p + i : Nat) : Int) + 1) = ((p + (i + 1) : Nat) : Int) := by rw [a_wrap (by omega) (by omega)]; omega
      have hid : i < (b.drop p).length := by rw [List.length_drop]; omega
      have e : unchars ((b.drop p).take (i + 1)) = unchars ((b.drop p).take i) ++ [UInt8.ofNat b[p + i].toNat] := by
        rw [List.take_succ_eq_append_getElem hid, List.getElem_drop]; simp only [unchars, List.map_append]; rfl
      have hl : (unchars ((b.drop p).take i)).length ≤ 10 := by simp only [unchars, List.length_map, List.length_take]; omega
      have g : ((unchars ((b.drop p).take i)).length : Int) + 1 < 4294967296 := by omega
      simp only [spec_DecodeText_t_b0, a_cndS, a_ltI, a_addI, w5, g1, g2, decide_true, if_true, a_le0, a_andB, Int.natCast_nonneg, Bool.and_self, a_lenL, a_atL, Int.toNat_natCast, getD_lt hpi, w8, a_byteList, List.map_cons, List.map_nil, List.length_cons, List.length_nil, Nat.zero_add, Int.natCast_one, Int.ofNat_one, a_big, g, a_appL, e, wi])
    (by
      have g1 : ¬ ((p + n : Nat) : Int) < (p : Int) + (n : Int) := by omega
      simp only [spec_DecodeText_t_b0, a_cndS, a_ltI, a_addI, w5, g1, decide_false, Bool.false_eq_true, if_false]) (k := k) (by omega)
  simp only [Nat.add_zero, List.take_zero] at hloop
  have z : unchars [] = [] := rfl
  rw [z] at hloop
  have h1' : ¬ (n : Int) < 0 := by omega
  have h2' : ¬ (8 : Int) < (n : Int) := by omega
  have h3' : ¬ (b.length : Int) - (p : Int) < (n : Int) := by omega
  rw [e4] at w
  simp only [decText, e3, e4, h1', h2', h3', w, decide_false, Bool.false_eq_true, if_false, or_self, a_obind_some, a_sumE_inl, hloop, a_addI, w5, Int.toNat_natCast]
theorem impl_DecodeText_eq (k : Nat) (hk : 3000 ≤ k) (b : List Int) (at_ : Int) : impl_DecodeText_t A k (b, (at_, ())) () = some (((decText b at_).1, ((decText b at_).2, ())), ()) := by
  simp only [impl_DecodeText_t, impl_DecodeNumber_eq k hk, a_obind_some, a_cndS, a_ltI, a_lenL, a_subI]
  by_cases h1 : (decNum b at_).1 < 0
  · simp [decText, h1]
  by_cases h2 : 8 < (decNum b at_).1
  · simp [decText, h1, h2]
  obtain ⟨hb, v, c, e1, e2, g3, g4, _⟩ := decNum_sound (b := b) (at_ := at_) (.inl (by omega))
  have hbl := (bytes_of hb).1
  have w : A.wrapI .i64 ((b.length : Int) - (decNum b at_).2) = (b.length : Int) - (decNum b at_).2 := a_wrap (by omega) (by omega)
  by_cases h3 : (b.length : Int) - (decNum b at_).2 < (decNum b at_).1
  · simp [decText, h1, h2, h3, w]
  obtain ⟨_, n, p, e3, e4, hn, hpn⟩ := text_range (b := b) (at_ := at_) (by simp only [not_or]; exact ⟨h1, h2, h3⟩)
  have w5 : A.wrapI .i64 ((p : Int) + (n : Int)) = (p : Int) + (n : Int) := a_wrap (by omega) (by omega)
  have htl : ((b.drop p).take n).length = n := by rw [List.length_take, List.length_drop]; omega
  have hloop := iter_for (A := A) (f := impl_DecodeText_t_b0 A k) (fun i => (b, ((n : Int), ((p : Int), ((n : Int), ((i : Int), (((b.drop p).take n).take i ++ List.replicate (n - i) 0, ()))))))) n ((n : Int), ((p : Int), ((b.drop p).take n, ())))
    (fun i hi => by
      have hpi : p + i < b.length := by omega
      have hx := (bytes_of hb).2 _ (List.getElem_mem hpi)
      have g1 : (i : Int) < (n : Int) := by omega
      have wpi : A.wrapI .i64 ((p : Int) + (i : Int)) = ((p + i : Nat) : Int) := by rw [a_wrap (by omega) (by omega)]; omega
      have g2 : ((p + i : Nat) : Int) < (b.length : Int) := by omega
      have w8 : A.wrapI .u8 b[p + i] = b[p + i] := a_wrap8 hx.1 hx.2
      have wi : A.wrapI .i64 ((i : Int) + 1) = ((i + 1 : Nat) : Int) := by rw [a_wrap (by omega) (by omega)]; rfl
      have hal : (((b.drop p).take n).take i ++ List.replicate (n - i) (0 : Int)).length = n := by rw [List.length_append, List.length_take, List.length_replicate, htl]; omega
      have ege : b[p + i] = ((b.drop p).take n).getD i 0 := by
        rw [getD_lt (by omega), List.getElem_take, List.getElem_drop]
      have fs := fill_step ((b.drop p).take n) (0 : Int) 0 i n htl.symm hi
      simp only [impl_DecodeText_t_b0, a_cndS, a_ltI, a_addI, g1, g2, wpi, decide_true, if_true, a_le0, a_andB, Int.natCast_nonneg, Bool.and_self, a_lenL, hal, a_atL, Int.toNat_natCast, getD_lt hpi, w8, a_setL, wi]
      rw [ege, fs])
    (by
      have g1 : ¬ (n : Int) < (n : Int) := by omega
      have e0 : ((b.drop p).take n).take n = (b.drop p).take n := by rw [List.take_take, Nat.min_self]
      simp only [impl_DecodeText_t_b0, a_cndS, a_ltI, g1, decide_false, Bool.false_eq_true, if_false, e0, Nat.sub_self, List.replicate_zero, List.append_nil]) (k := k) (by omega)
  simp only [List.take_zero, List.nil_append, Nat.sub_zero, Int.natCast_zero, Int.ofNat_zero] at hloop
  have h1' : ¬ (n : Int) < 0 := by omega
  have h2' : ¬ (8 : Int) < (n : Int) := by omega
  have h3' : ¬ (b.length : Int) - (p : Int) < (n : Int) := by omega
  have g5 : (n : Int) < 4294967296 := by omega
  rw [e4] at w
  simp only [decText, e3, e4, h1', h2', h3', w, decide_false, Bool.false_eq_true, if_false, or_self, a_obind_some, a_sumE_inl, a_le0, Int.natCast_nonneg, a_leI, Int.le_refl, decide_true, a_big, g5, a_andB, Bool.and_self, if_true, a_repL, Int.toNat_natCast, List.length_replicate, hloop, a_addI, w5, a_byteList]
  rfl
end
end Go.Den.T
