/- Numbers, texts, entries and frames as bytes: what both sides come to. -/
import Derived.Test.YtkgmjndeeljpjaaXK5
import Derived.Test.YtkgmjndeeljpjaaXTr3

namespace Go.Den.T
set_option linter.unusedVariables false
set_option linter.unusedSimpArgs false
set_option linter.unusedSectionVars false
section
variable {A : Atoms} [IsReal A]
/-- the groups of a number -/
def encN (n : Nat) : List Int := if h : n < 128 then [(n : Int)] else ((n % 128 + 128 : Nat) : Int) :: encN (n / 128)
termination_by n
decreasing_by omega
theorem encN_lo {n : Nat} (h : n < 128) : encN n = [(n : Int)] := by rw [encN, dif_pos h]
theorem encN_hi {n : Nat} (h : ¬ n < 128) : encN n = ((n % 128 + 128 : Nat) : Int) :: encN (n / 128) := by rw [encN, dif_neg h]
theorem encN_len : ∀ {j n : Nat}, n < 128 ^ (j + 1) → (encN n).length ≤ j + 1
  | 0, n, h => by rw [encN_lo (by simpa using h)]; simp
  | j + 1, n, h => by
    by_cases hn : n < 128
    · rw [encN_lo hn]; simp
    · rw [encN_hi hn, List.length_cons]
      have : n / 128 < 128 ^ (j + 1) := Nat.div_lt_of_lt_mul (by rw [Nat.mul_comm, ← Nat.pow_succ]; exact h)
      have := encN_len this
      omega
theorem encN_pos (n : Nat) : (encN n).length ≠ 0 := by
  by_cases hn : n < 128
  · rw [encN_lo hn]; simp
  · rw [encN_hi hn]; simp
theorem encN_byte : ∀ (n : Nat), ∀ x ∈ encN n, 0 ≤ x ∧ x ≤ 255 := by
  intro n
  induction n using Nat.strongRecOn with
  | ind n ih =>
    intro x hx
    by_cases hn : n < 128
    · rw [encN_lo hn] at hx; simp at hx; omega
    · rw [encN_hi hn] at hx
      rcases List.mem_cons.1 hx with rfl | hx
      · omega
      · exact ih (n / 128) (by omega) x hx
def numOk (n : Int) : Bool := decide (0 ≤ n ∧ n ≤ 268435455)
def encNum (n : Int) : List Int := if numOk n = true then encN n.toNat else []
theorem encNum_ok {n : Int} (h : 0 ≤ n) (h2 : n ≤ 268435455) : encNum n = encN n.toNat := by
  have : numOk n = true := by simp [numOk, h, h2]
  rw [encNum, if_pos this]
theorem encNum_len (n : Int) : (encNum n).length ≤ 4 := by
  unfold encNum
  split
  · rename_i h
    simp only [numOk, decide_eq_true_eq] at h
    have e : (128 : Nat) ^ (3 + 1) = 268435456 := by decide
    exact encN_len (j := 3) (by omega)
  · simp
theorem encNum_byte (n : Int) : ∀ x ∈ encNum n, 0 ≤ x ∧ x ≤ 255 := by
  unfold encNum
  split
  · exact encN_byte _
  · simp
theorem encode_loop {f : Int × (List Int × Unit) → Option ((Int × (List Int × Unit)) ⊕ (Int × (List Int × Unit)))}
    (h1 : ∀ (m : Nat) (l : List Int), m ≤ 268435455 → l.length ≤ 3 → 128 ≤ m → f ((m : Int), (l, ())) = some (.inl (((m / 128 : Nat) : Int), (l ++ [((m % 128 + 128 : Nat) : Int)], ()))))
    (h2 : ∀ (m : Nat) (l : List Int), m < 128 → f ((m : Int), (l, ())) = some (.inr ((m : Int), (l, ())))) (k : Nat) (hk : 10 ≤ k) (n : Nat) (hn : n ≤ 268435455) :
    Ok (A.iter k f ((n : Int), (([] : List Int), ()))) (fun e => e.2.1 ++ [e.1] = encN n ∧ e.2.1.length ≤ 3) := by
  have e4 : (128 : Nat) ^ (3 + 1) = 268435456 := by decide
  refine iter_ok (fun j (s : Int × (List Int × Unit)) => ∃ m : Nat, s.1 = (m : Int) ∧ m < 128 ^ (j + 1) ∧ s.2.1 ++ encN m = encN n ∧ s.2.1.length + j ≤ 3) _ ?_ (n := 3) (by omega) ⟨n, rfl, by omega, rfl, by simp⟩
  rintro j ⟨x, l, _⟩ ⟨m, g1, g2, g3, g4⟩
  simp only at g1 g2 g3 g4
  subst g1
  by_cases hm : m < 128
  · refine ⟨_, h2 m l hm, fun s' e => (by cases e), fun e he => ?_⟩
    injection he with he; subst he
    rw [encN_lo hm] at g3
    exact ⟨g3, by show l.length ≤ 3; omega⟩
  · have hj : j ≠ 0 := by rintro rfl; simp at g2; omega
    have hb : m < 128 ^ (3 + 1) := Nat.lt_of_lt_of_le g2 (Nat.pow_le_pow_right (by decide) (by omega))
    refine ⟨_, h1 m l (by omega) (by omega) (by omega), fun s' e => ?_, fun e he => (by cases he)⟩
    injection e with e; subst e
    refine ⟨j - 1, by omega, m / 128, rfl, ?_, ?_, by simp; omega⟩
    · have : j - 1 + 1 = j := by omega
      rw [this]
      rw [Nat.pow_succ] at g2
      exact Nat.div_lt_of_lt_mul (by rw [Nat.mul_comm]; exact g2)
    · rw [encN_hi hm] at g3
      show (l ++ [((m % 128 + 128 : Nat) : Int)]) ++ encN (m / 128) = encN n
      rw [List.append_assoc]; exact g3
theorem tdiv_nat (m : Nat) : ((m : Int)).tdiv 128 = ((m / 128 : Nat) : Int) := rfl
theorem tmod_nat (m : Nat) : ((m : Int)).tmod 128 = ((m % 128 : Nat) : Int) := rfl
theorem spec_EncodeNumber_eq (k : Nat) (hk : 10 ≤ k) (n : Int) : spec_EncodeNumber_t A k (n, ()) () = some ((encNum n, ()), ()) := by
  rw [← ok_eq, spec_EncodeNumber_t, l1In_eq, a_obind_some]
  by_cases h : 0 ≤ n ∧ n ≤ 268435455
  case neg => simp [h, ok_some, encNum, numOk]
  simp only [h, and_self, decide_true, a_notB, Bool.not_true, a_cndS, Bool.false_eq_true, if_false]
  obtain ⟨m, rfl⟩ : ∃ m : Nat, n = m := ⟨n.toNat, by omega⟩
  refine (encode_loop (A := A) (f := spec_EncodeNumber_t_b0 A k) ?_ ?_ k hk m (by omega)).bind fun e he => ?_
  · intro m l hm hl h128
    have g1 : (127 : Int) < (m : Int) := by omega
    have g2 : (l.length : Int) + 1 < 4294967296 := by omega
    have w1 : A.wrapI .i64 (((m / 128 : Nat) : Int)) = ((m / 128 : Nat) : Int) := a_wrap (by omega) (by omega)
    have w2 : A.wrapI .i64 ((128 : Int) + ((m % 128 : Nat) : Int)) = ((m % 128 + 128 : Nat) : Int) := by rw [a_wrap (by omega) (by omega)]; omega
    simp only [spec_EncodeNumber_t_b0, a_cndS, a_ltI, g1, decide_true, if_true, a_notB, a_eqI, a_remI, tmod_nat, a_addI, w2, a_quoI, tdiv_nat, w1, a_lenL, a_big, a_appL]
    simp [g2]
  · intro m l hm
    have g1 : ¬ (127 : Int) < (m : Int) := by omega
    simp [spec_EncodeNumber_t_b0, g1]
  · have g : (e.2.1.length : Int) + 1 < 4294967296 := by omega
    have := encNum_ok (n := (m : Int)) (by omega) (by omega)
    simp only [Int.toNat_natCast] at this
    simp [ok_some, g, he.1, this]
theorem impl_EncodeNumber_eq (k : Nat) (hk : 10 ≤ k) (n : Int) : impl_EncodeNumber_t A k (n, ()) () = some ((encNum n, ()), ()) := by
  rw [← ok_eq, impl_EncodeNumber_t]
  by_cases h : 0 ≤ n ∧ n ≤ 268435455
  case neg =>
    by_cases h1 : n < 0
    · simp [h, h1, ok_some, encNum, numOk]
    · have h2 : 268435455 < n := by omega
      simp [h, h1, h2, ok_some, encNum, numOk]
  obtain ⟨m, rfl⟩ : ∃ m : Nat, n = m := ⟨n.toNat, by omega⟩
  have h1 : ¬ (m : Int) < 0 := by omega
  have h2 : ¬ (268435455 : Int) < (m : Int) := by omega
  simp only [h1, h2, a_ltI, decide_false, a_cndS, Bool.false_eq_true, if_false, a_obind_some, a_sumE_inl]
  refine (encode_loop (A := A) (f := impl_EncodeNumber_t_b0 A k) ?_ ?_ k hk m (by omega)).bind fun e he => ?_
  · intro m l hm hl h128
    have g1 : (128 : Int) ≤ (m : Int) := by omega
    have g2 : (l.length : Int) + 1 < 4294967296 := by omega
    have w1 : A.wrapI .i64 (((m / 128 : Nat) : Int)) = ((m / 128 : Nat) : Int) := a_wrap (by omega) (by omega)
    have w2 : A.wrapI .i64 (((m % 128 : Nat) : Int) + 128) = ((m % 128 + 128 : Nat) : Int) := by rw [a_wrap (by omega) (by omega)]; omega
    simp only [impl_EncodeNumber_t_b0, a_cndS, a_leI, a_ltI, g1, decide_true, if_true, a_notB, a_eqI, a_remI, tmod_nat, a_addI, w2, a_quoI, tdiv_nat, w1, a_lenL, a_big, a_appL]
    simp [g2]
  · intro m l hm
    have g1 : ¬ (128 : Int) ≤ (m : Int) := by omega
    simp [impl_EncodeNumber_t_b0, g1]
  · have g : (e.2.1.length : Int) + 1 < 4294967296 := by omega
    have := encNum_ok (n := (m : Int)) (by omega) (by omega)
    simp only [Int.toNat_natCast] at this
    simp [ok_some, g, he.1, this]
/-! ### texts -/
def chars (s : List UInt8) : List Int := s.map fun b => (b.toNat : Int)
@[simp] theorem chars_len (s : List UInt8) : (chars s).length = s.length := by simp [chars]
theorem chars_byte (s : List UInt8) : ∀ x ∈ chars s, 0 ≤ x ∧ x ≤ 255 := by
  intro x hx
  simp only [chars, List.mem_map] at hx
  obtain ⟨b, _, rfl⟩ := hx
  have := b.toNat_lt
  omega
def encText (s : List UInt8) : List Int := if s.length ≤ 8 then encNum s.length ++ chars s else []
theorem text_loop {f : List UInt8 × (List Int × (Int × Unit)) → Option ((List UInt8 × (List Int × (Int × Unit))) ⊕ (List Int × Unit))} (s : List UInt8) (l : List Int) (hs : s.length ≤ 8) (hl : l.length ≤ 100)
    (hf : ∀ (i : Nat) (l' : List Int), i < s.length → l'.length ≤ 200 → f (s, (l', ((i : Int), ()))) = some (.inl (s, (l' ++ [((s.getD i 0).toNat : Int)], (((i + 1 : Nat) : Int), ())))))
    (hd : ∀ l', f (s, (l', ((s.length : Int), ()))) = some (.inr (l', ()))) (k : Nat) (hk : 10 ≤ k) : A.iter k f (s, (l, ((0 : Int), ()))) = some (l ++ chars s, ()) := by
  have h := iter_for (A := A) (f := f) (fun i => (s, (l ++ chars (s.take i), ((i : Int), ())))) s.length (l ++ chars s, ())
    (fun i hi => by
      rw [hf i _ hi (by simp; omega)]
      have e : chars (s.take (i + 1)) = chars (s.take i) ++ [((s.getD i 0).toNat : Int)] := by
        rw [List.take_succ_eq_append_getElem hi, getD_lt hi]; simp only [chars, List.map_append]; rfl
      rw [e, List.append_assoc])
    (by simp only [List.take_length]; exact hd _) (k := k) (by omega)
  simpa [chars] using h
theorem spec_EncodeText_eq (k : Nat) (hk : 10 ≤ k) (s : List UInt8) : spec_EncodeText_t A k (s, ()) () = some ((encText s, ()), ()) := by
  simp only [spec_EncodeText_t, a_cndS, a_ltI, a_lenL, encText]
  by_cases h : s.length ≤ 8
  case neg =>
    have h' : (8 : Int) < s.length := by omega
    simp [h, h']
  have h' : ¬ (8 : Int) < s.length := by omega
  have hl := encNum_len (s.length : Int)
  have hloop := text_loop (A := A) (f := spec_EncodeText_t_b0 A k) s (encNum s.length) h (by omega) (fun i l' hi hl' => by
    have hi' : (i : Int) < (s.length : Int) := by omega
    have w : A.wrapI .i64 ((i : Int) + 1) = ((i + 1 : Nat) : Int) := by rw [a_wrap (by omega) (by omega)]; rfl
    have hb := (s.getD i 0).toNat_lt
    have w2 : A.wrapI .i64 (((s.getD i 0).toNat : Nat) : Int) = ((s.getD i 0).toNat : Int) := a_wrap (by omega) (by omega)
    have g : (l'.length : Int) + 1 < 4294967296 := by omega
    simp only [spec_EncodeText_t_b0, a_cndS, a_ltI, a_lenL, a_le0, a_andB, hi', Int.natCast_nonneg, decide_true, Bool.and_self, if_true, a_atL, Int.toNat_natCast, a_u8i, w2, a_addI, w, a_appL, a_big]
    simp [g]) (fun l' => by simp [spec_EncodeText_t_b0]) k hk
  simp [h, h', spec_EncodeNumber_eq k hk, hloop]
theorem impl_EncodeText_eq (k : Nat) (hk : 10 ≤ k) (s : List UInt8) : impl_EncodeText_t A k (s, ()) () = some ((encText s, ()), ()) := by
  simp only [impl_EncodeText_t, a_cndS, a_ltI, a_lenL, encText]
  by_cases h : s.length ≤ 8
  case neg =>
    have h' : (8 : Int) < s.length := by omega
    simp [h, h']
  have h' : ¬ (8 : Int) < s.length := by omega
  have hl := encNum_len (s.length : Int)
  have hloop := text_loop (A := A) (f := impl_EncodeText_t_b0 A k) s (encNum s.length) h (by omega) (fun i l' hi hl' => by
    have hi' : (i : Int) < (s.length : Int) := by omega
    have w : A.wrapI .i64 ((i : Int) + 1) = ((i + 1 : Nat) : Int) := by rw [a_wrap (by omega) (by omega)]; rfl
    have hb := (s.getD i 0).toNat_lt
    have w2 : A.wrapI .i64 (((s.getD i 0).toNat : Nat) : Int) = ((s.getD i 0).toNat : Int) := a_wrap (by omega) (by omega)
    have g : (l'.length : Int) + 1 < 4294967296 := by omega
    simp only [impl_EncodeText_t_b0, a_cndS, a_ltI, a_lenL, a_le0, a_andB, hi', Int.natCast_nonneg, decide_true, Bool.and_self, if_true, a_atL, Int.toNat_natCast, a_u8i, w2, a_addI, w, a_appL, a_big]
    simp [g]) (fun l' => by simp [impl_EncodeText_t_b0]) k hk
  simp [h, h', impl_EncodeNumber_eq k hk, hloop]
theorem encText_len (s : List UInt8) : (encText s).length ≤ 12 := by
  unfold encText; split
  · have := encNum_len (s.length : Int); simp; omega
  · simp
theorem encText_byte (s : List UInt8) : ∀ x ∈ encText s, 0 ≤ x ∧ x ≤ 255 := by
  intro x hx
  unfold encText at hx; split at hx
  · rcases List.mem_append.1 hx with hx | hx
    · exact encNum_byte _ x hx
    · exact chars_byte s x hx
  · cases hx
/-! ### entries -/
def body (e : Ent) : List Int := encNum e.1 ++ encNum e.2.1 ++ encNum e.2.2.1.1 ++ encText e.2.2.1.2.1 ++ encNum e.2.2.1.2.2.1 ++ encNum (e.2.2.1.2.2.2.1 + 1)
def encEntry (e : Ent) : List Int := if entOk e = true then body e else []
theorem body_len (e : Ent) : (body e).length ≤ 32 := by
  have h1 := encNum_len e.1
  have h2 := encNum_len e.2.1
  have h3 := encNum_len e.2.2.1.1
  have h4 := encText_len e.2.2.1.2.1
  have h5 := encNum_len e.2.2.1.2.2.1
  have h6 := encNum_len (e.2.2.1.2.2.2.1 + 1)
  simp only [body, List.length_append]; omega
theorem body_byte (e : Ent) : ∀ x ∈ body e, 0 ≤ x ∧ x ≤ 255 := by
  intro x hx
  simp only [body, List.mem_append] at hx
  rcases hx with ((((hx | hx) | hx) | hx) | hx) | hx
  · exact encNum_byte _ x hx
  · exact encNum_byte _ x hx
  · exact encNum_byte _ x hx
  · exact encText_byte _ x hx
  · exact encNum_byte _ x hx
  · exact encNum_byte _ x hx
end
end Go.Den.T
