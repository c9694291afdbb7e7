/- Bytes read: entries, frames, logs. -/
import Derived.Test.YtkgmjndeeljpjaaXB5
import Derived.Test.YtkgmjndeeljpjaaXE2

namespace Go.Den.T
set_option linter.unusedVariables false
set_option linter.unusedSimpArgs false
set_option linter.unusedSectionVars false
section
variable {A : Atoms} [IsReal A]
/-- what the reading of an entry collects -/
def rawE (b : List Int) (at_ : Int) : Ent × Int :=
  let r1 := decNum b at_
  let r2 := decNum b r1.2
  let r3 := decNum b r2.2
  let r4 := decText b r3.2
  let r5 := decNum b r4.2
  let r6 := decNum b r5.2
  ((r1.1, (r2.1, ((r3.1, (r4.1, (r5.1, (r6.1 - 1, ())))), ()))), r6.2)
def decEntry (b : List Int) (at_ : Int) : Ent × Int :=
  if (rawE b at_).2 < 0 ∨ entOk (rawE b at_).1 = false then (ent0, -1) else rawE b at_
theorem decNum_lo (b : List Int) (at_ : Int) : -1 ≤ (decNum b at_).1 ∧ (decNum b at_).1 < 268435456 ∧ -1 ≤ (decNum b at_).2 ∧ (decNum b at_).2 ≤ b.length := by
  by_cases h : 0 ≤ (decNum b at_).1 ∨ 0 ≤ (decNum b at_).2
  · obtain ⟨_, v, c, e1, e2, g3, g4, g5, _⟩ := decNum_sound h
    omega
  · rw [decNum_neg h]; simp
theorem spec_DecodeEntry_eq (k : Nat) (hk : 3000 ≤ k) (b : List Int) (at_ : Int) : spec_DecodeEntry_t A k (b, (at_, ())) () = some (((decEntry b at_).1, ((decEntry b at_).2, ())), ()) := by
  have hlo := decNum_lo b (decNum b (decText b (decNum b (decNum b (decNum b at_).2).2).2).2).2
  have w : A.wrapI .i64 ((decNum b (decNum b (decText b (decNum b (decNum b (decNum b at_).2).2).2).2).2).1 - 1) = (decNum b (decNum b (decText b (decNum b (decNum b (decNum b at_).2).2).2).2).2).1 - 1 := a_wrap (by omega) (by omega)
  simp only [spec_DecodeEntry_t, spec_DecodeNumber_eq k hk, spec_DecodeText_eq k hk, a_obind_some, a_subI, w, spec_EntryValid_eq k (by omega : 10 ≤ k), a_cndS, a_ltI, a_notB, decEntry, rawE]
  by_cases h1 : (decNum b (decNum b (decText b (decNum b (decNum b (decNum b at_).2).2).2).2).2).2 < 0
  · simp [h1]
  · simp only [h1, decide_false, Bool.false_eq_true, if_false, false_or]
    rcases Bool.eq_false_or_eq_true (entOk ((decNum b at_).1, ((decNum b (decNum b at_).2).1, (((decNum b (decNum b (decNum b at_).2).2).1, ((decText b (decNum b (decNum b (decNum b at_).2).2).2).1, ((decNum b (decText b (decNum b (decNum b (decNum b at_).2).2).2).2).1, ((decNum b (decNum b (decText b (decNum b (decNum b (decNum b at_).2).2).2).2).2).1 - 1, ())))), ())))) with he | he
    · simp [he]
    · simp [he]
theorem impl_DecodeEntry_eq (k : Nat) (hk : 3000 ≤ k) (b : List Int) (at_ : Int) : impl_DecodeEntry_t A k (b, (at_, ())) () = some (((decEntry b at_).1, ((decEntry b at_).2, ())), ()) := by
  rcases Bool.eq_false_or_eq_true (bytesOk b) with hb | hb
  case inr =>
    have : (rawE b at_).2 < 0 := by simp only [rawE, decNum_bad hb]; omega
    simp [impl_DecodeEntry_t, impl_BytesValid_eq k hk, hb, decEntry, this]
  have hlo := decNum_lo b (decNum b (decText b (decNum b (decNum b (decNum b at_).2).2).2).2).2
  have w : A.wrapI .i64 ((decNum b (decNum b (decText b (decNum b (decNum b (decNum b at_).2).2).2).2).2).1 - 1) = (decNum b (decNum b (decText b (decNum b (decNum b (decNum b at_).2).2).2).2).2).1 - 1 := a_wrap (by omega) (by omega)
  simp only [impl_DecodeEntry_t, impl_BytesValid_eq k hk, hb, impl_DecodeNumber_eq k hk, impl_DecodeText_eq k hk, a_obind_some, a_subI, w, impl_EntryValid_eq k (by omega : 10 ≤ k), a_cndS, a_ltI, a_notB, decEntry, rawE, Bool.not_true, Bool.false_eq_true, if_false]
  by_cases h1 : (decNum b (decNum b (decText b (decNum b (decNum b (decNum b at_).2).2).2).2).2).2 < 0
  · simp [h1]
  · simp only [h1, decide_false, Bool.false_eq_true, if_false, false_or]
    rcases Bool.eq_false_or_eq_true (entOk ((decNum b at_).1, ((decNum b (decNum b at_).2).1, (((decNum b (decNum b (decNum b at_).2).2).1, ((decText b (decNum b (decNum b (decNum b at_).2).2).2).1, ((decNum b (decText b (decNum b (decNum b (decNum b at_).2).2).2).2).1, ((decNum b (decNum b (decText b (decNum b (decNum b (decNum b at_).2).2).2).2).2).1 - 1, ())))), ())))) with he | he
    · simp [he]
    · simp [he]
/-! ### what was read stood there -/
/-- at a place of bytes stand these ones, and then comes the other place -/
def At (b : List Int) (p : Int) (xs : List Int) (q : Int) : Prop := 0 ≤ p ∧ q = p + (xs.length : Int) ∧ q ≤ b.length ∧ b.drop p.toNat = xs ++ b.drop q.toNat
theorem At.append {b : List Int} {p q r : Int} {xs ys : List Int} (h : At b p xs q) (k : At b q ys r) : At b p (xs ++ ys) r := by
  obtain ⟨h1, h2, h3, h4⟩ := h
  obtain ⟨k1, k2, k3, k4⟩ := k
  exact ⟨h1, by rw [List.length_append]; omega, k3, by rw [h4, k4, List.append_assoc]⟩
theorem At.num {b : List Int} {p : Int} (h : 0 ≤ (decNum b p).1 ∨ 0 ≤ (decNum b p).2) : At b p (encNum (decNum b p).1) (decNum b p).2 ∧ 0 ≤ (decNum b p).1 := by
  obtain ⟨hb, v, c, e1, e2, g3, g4, g5, g6, g7⟩ := decNum_sound h
  have en : encNum (v : Int) = encN v := by rw [encNum_ok (by omega) (by omega)]; rfl
  rw [e1, e2, en]
  exact ⟨⟨g3, by omega, g4, g7⟩, by omega⟩
theorem At.num_enc {b : List Int} (hb : bytesOk b = true) {p q : Int} {n : Int} (hn : 0 ≤ n) (hn2 : n ≤ 268435455) (h : At b p (encNum n) q) : decNum b p = (n, q) := by
  obtain ⟨h1, h2, h3, h4⟩ := h
  obtain ⟨m, rfl⟩ : ∃ m : Nat, n = m := ⟨n.toNat, by omega⟩
  obtain ⟨a, rfl⟩ : ∃ a : Nat, p = a := ⟨p.toNat, by omega⟩
  have en : encNum (m : Int) = encN m := by rw [encNum_ok hn hn2]; rfl
  rw [en] at h2 h4
  have := decNum_enc hb (n := m) (by omega) (by simpa using h4)
  rw [this, h2]
theorem At.text {b : List Int} {p : Int} (h : 0 ≤ (decText b p).2) : At b p (encText (decText b p).1) (decText b p).2 ∧ (decText b p).1.length ≤ 8 := by
  unfold decText at h ⊢
  split at h
  · simp at h
  · rename_i hc
    rw [if_neg hc]
    obtain ⟨hb, n, q, e1, e2, hn, hq⟩ := text_range hc
    obtain ⟨hA, _⟩ := At.num (b := b) (p := p) (.inl (by omega))
    rw [e1, e2] at hA ⊢
    simp only [Int.toNat_natCast]
    have hl : ((b.drop q).take n).length = n := by rw [List.length_take, List.length_drop]; omega
    have hbt : Bts ((b.drop q).take n) := fun x hx => (bytes_of hb).2 x (List.mem_of_mem_drop (List.mem_of_mem_take hx))
    have ul : (unchars ((b.drop q).take n)).length = n := by simp only [unchars, List.length_map, hl]
    have et : encText (unchars ((b.drop q).take n)) = encNum (n : Int) ++ (b.drop q).take n := by
      unfold encText; rw [if_pos (by omega), ul, chars_unchars hbt]
    rw [et]
    refine ⟨hA.append ⟨by omega, by rw [hl], by omega, ?_⟩, by omega⟩
    have e3 : ((q : Int) + (n : Int)).toNat = q + n := by omega
    rw [e3, ← List.drop_drop, Int.toNat_natCast, List.take_append_drop]
theorem At.text_enc {b : List Int} (hb : bytesOk b = true) {p q : Int} {s : List UInt8} (hs : s.length ≤ 8) (h : At b p (encText s) q) : decText b p = (s, q) := by
  have et : encText s = encNum (s.length : Int) ++ chars s := by unfold encText; rw [if_pos hs]
  rw [et] at h
  obtain ⟨h1, h2, h3, h4⟩ := h
  rw [List.length_append, chars_len] at h2
  have hmid : At b p (encNum (s.length : Int)) (p + ((encNum (s.length : Int)).length : Int)) := by
    refine ⟨h1, rfl, by omega, ?_⟩
    have e3 : (p + ((encNum (s.length : Int)).length : Int)).toNat = p.toNat + (encNum (s.length : Int)).length := by omega
    rw [e3, ← List.drop_drop, h4, List.append_assoc, List.drop_left]
  have hd := At.num_enc hb (by omega) (by omega) hmid
  have hrest : b.drop (p + ((encNum (s.length : Int)).length : Int)).toNat = chars s ++ b.drop q.toNat := by
    have := hmid.2.2.2
    rw [h4, List.append_assoc] at this
    exact (List.append_cancel_left this).symm
  have c1 : ¬ ((s.length : Int) < 0 ∨ 8 < (s.length : Int) ∨ (b.length : Int) - (p + ((encNum (s.length : Int)).length : Int)) < (s.length : Int)) := by omega
  simp only [decText, hd, c1, if_false, Int.toNat_natCast, hrest]
  rw [List.take_left' (by simp), unchars_chars]
  congr 1
  omega
theorem At.split {b : List Int} {p q : Int} {xs ys : List Int} (h : At b p (xs ++ ys) q) : At b p xs (p + (xs.length : Int)) ∧ At b (p + (xs.length : Int)) ys q := by
  obtain ⟨h1, h2, h3, h4⟩ := h
  rw [List.length_append] at h2
  have e3 : (p + (xs.length : Int)).toNat = p.toNat + xs.length := by omega
  have e4 : b.drop (p.toNat + xs.length) = ys ++ b.drop q.toNat := by rw [← List.drop_drop, h4, List.append_assoc, List.drop_left]
  refine ⟨⟨h1, rfl, by omega, ?_⟩, ⟨by omega, by omega, h3, by rw [e3]; exact e4⟩⟩
  rw [e3, e4, h4, List.append_assoc]
theorem decEntry_sound {b : List Int} {p : Int} (h : 0 ≤ (decEntry b p).2) : entOk (decEntry b p).1 = true ∧ At b p (body (decEntry b p).1) (decEntry b p).2 := by
  unfold decEntry at h ⊢
  split at h
  · simp at h
  · rename_i hc
    rw [if_neg hc]
    simp only [not_or, Bool.not_eq_false] at hc
    refine ⟨hc.2, ?_⟩
    simp only [rawE] at h ⊢
    have h6 := At.num (.inr h)
    have p5 : 0 ≤ (decNum b (decText b (decNum b (decNum b (decNum b p).2).2).2).2).2 := h6.1.1
    have h5 := At.num (.inr p5)
    have p4 : 0 ≤ (decText b (decNum b (decNum b (decNum b p).2).2).2).2 := h5.1.1
    have h4 := At.text p4
    have p3 : 0 ≤ (decNum b (decNum b (decNum b p).2).2).2 := h4.1.1
    have h3 := At.num (.inr p3)
    have p2 : 0 ≤ (decNum b (decNum b p).2).2 := h3.1.1
    have h2 := At.num (.inr p2)
    have p1 : 0 ≤ (decNum b p).2 := h2.1.1
    have h1 := At.num (.inr p1)
    have e : (decNum b (decNum b (decText b (decNum b (decNum b (decNum b p).2).2).2).2).2).1 - 1 + 1 = (decNum b (decNum b (decText b (decNum b (decNum b (decNum b p).2).2).2).2).2).1 := by omega
    simp only [body, e]
    exact ((((h1.1.append h2.1).append h3.1).append h4.1).append h5.1).append h6.1
theorem decEntry_enc {b : List Int} (hb : bytesOk b = true) {p q : Int} {e : Ent} (he : entOk e = true) (h : At b p (body e) q) : decEntry b p = (e, q) := by
  have hr := entOk_ranges he
  have hq : 0 ≤ q := by have := h.1; have := h.2.1; omega
  unfold body at h
  obtain ⟨h, h6⟩ := h.split
  obtain ⟨h, h5⟩ := h.split
  obtain ⟨h, h4⟩ := h.split
  obtain ⟨h, h3⟩ := h.split
  obtain ⟨h1, h2⟩ := h.split
  have d1 := At.num_enc hb (by omega) (by omega) h1
  have d2 := At.num_enc hb (by omega) (by omega) h2
  have d3 := At.num_enc hb (by omega) (by omega) h3
  have d4 := At.text_enc hb (by omega) h4
  have d5 := At.num_enc hb (by omega) (by omega) h5
  have d6 := At.num_enc hb (by omega) (by omega) h6
  have raw : rawE b p = (e, q) := by
    obtain ⟨a1, a2, ⟨a3, a4, a5, a6, _⟩, _⟩ := e
    simp only at d1 d2 d3 d4 d5 d6
    simp only [rawE, d1, d2, d3, d4, d5, d6]
    simp
  have hn : ¬ (q < 0) := by omega
  simp [decEntry, raw, he, hn]
end
end Go.Den.T
