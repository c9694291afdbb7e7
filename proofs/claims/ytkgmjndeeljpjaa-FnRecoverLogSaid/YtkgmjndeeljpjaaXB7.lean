/- Frames read, logs recovered. -/
import Derived.Test.YtkgmjndeeljpjaaXB6

namespace Go.Den.T
set_option linter.unusedVariables false
set_option linter.unusedSimpArgs false
set_option linter.unusedSectionVars false
section
variable {A : Atoms} [IsReal A]
theorem At.slice {b : List Int} {p q : Int} {xs : List Int} (h : At b p xs q) : (b.take q.toNat).drop p.toNat = xs := by
  obtain ⟨h1, h2, h3, h4⟩ := h
  have e : q.toNat - p.toNat = xs.length := by omega
  rw [List.drop_take, h4, e, List.take_left' rfl]
theorem At.of_slice {b : List Int} {p : Int} {xs : List Int} (h1 : 0 ≤ p) (h2 : p + (xs.length : Int) ≤ b.length) (h : (b.take (p + (xs.length : Int)).toNat).drop p.toNat = xs) : At b p xs (p + (xs.length : Int)) := by
  refine ⟨h1, rfl, h2, ?_⟩
  have e : (p + (xs.length : Int)).toNat = p.toNat + xs.length := by omega
  rw [e] at h ⊢
  rw [List.drop_take] at h
  have e2 : p.toNat + xs.length - p.toNat = xs.length := by omega
  rw [e2] at h
  rw [← List.drop_drop]
  conv => lhs; rw [← List.take_append_drop xs.length (b.drop p.toNat), h]
/-- the frame with the number stands there -/
def Fits (b : List Int) (p n : Int) (e : Ent) (q : Int) : Prop := bytesOk b = true ∧ 0 ≤ n ∧ n ≤ 23 ∧ entOk e = true ∧ At b p (frame n e) q
def candP (b : List Int) (p : Int) : Int := (decNum b (decNum b p).2).2
def candE (b : List Int) (p : Int) : Ent × Int := decEntry b (candP b p)
theorem fits_dec {b : List Int} {p n q : Int} {e : Ent} (h : Fits b p n e q) : (decNum b p).1 = n ∧ (decNum b (decNum b p).2).1 = ((body e).length : Int) ∧ (candE b p).1 = e ∧ At b (candP b p) (body e) (candE b p).2 ∧ At b p (inner n e) (candE b p).2 ∧ decNum b (candE b p).2 = (recSum (inner n e), q) := by
  obtain ⟨hb, h0, h1, he, hA⟩ := h
  have hbl := body_len e
  have hrs := recSum_range (inner n e)
  have hil := inner_len n e
  have hio : bytesOk (inner n e) = true := bytesOk_iff.2 ⟨by omega, inner_byte n e⟩
  have hrs0 : 0 ≤ recSum (inner n e) := by
    have := (wsum_small hio (inner n e).length).1
    simp only [recSum, hio, if_true]; omega
  unfold frame at hA
  obtain ⟨hI, hS⟩ := hA.split
  have hI' := hI
  unfold inner at hI'
  obtain ⟨hI1, hB⟩ := hI'.split
  obtain ⟨hN, hZ⟩ := hI1.split
  have d1 := At.num_enc hb (by omega) (by omega) hN
  have d2 := At.num_enc hb (by omega) (by omega) hZ
  have d3 := decEntry_enc hb he hB
  have d4 := At.num_enc hb hrs0 (by omega) hS
  have ec : candP b p = p + (((encNum n ++ encNum ((body e).length : Int)).length : Nat) : Int) := by simp only [candP, d1, d2]
  have ee : candE b p = (e, p + ((inner n e).length : Int)) := by rw [candE, ec]; exact d3
  refine ⟨by rw [d1], by rw [d1]; simp only [d2], by rw [ee], by rw [ee, ec]; exact hB, by rw [ee]; exact hI, by rw [ee]; exact d4⟩
open Classical in
noncomputable def rf (b : List Int) (p n : Int) : Ent × Int := if Fits b p n (candE b p).1 (decNum b (candE b p).2).2 then ((candE b p).1, (decNum b (candE b p).2).2) else (ent0, -1)
theorem fits_cand {b : List Int} {p n q : Int} {e : Ent} (h : Fits b p n e q) : (candE b p).1 = e ∧ (decNum b (candE b p).2).2 = q := by
  obtain ⟨_, _, h3, _, _, h6⟩ := fits_dec h
  exact ⟨h3, by rw [h6]⟩
theorem rf_of {b : List Int} {p n q : Int} {e : Ent} (h : Fits b p n e q) : rf b p n = (e, q) := by
  obtain ⟨h1, h2⟩ := fits_cand h
  have : Fits b p n (candE b p).1 (decNum b (candE b p).2).2 := by rw [h1, h2]; exact h
  rw [rf, if_pos this, h1, h2]
theorem rf_no {b : List Int} {p n : Int} (h : ∀ e q, ¬ Fits b p n e q) : rf b p n = (ent0, -1) := by rw [rf, if_neg (h _ _)]
theorem fits_next {b : List Int} {p n q : Int} {e : Ent} (h : Fits b p n e q) : 0 ≤ q ∧ q = p + ((frame n e).length : Int) ∧ 0 ≤ p := by
  obtain ⟨_, _, _, _, h1, h2, _⟩ := h
  exact ⟨by omega, h2, h1⟩
theorem rf_sound {b : List Int} {p n : Int} (h : 0 ≤ (rf b p n).2) : Fits b p n (rf b p n).1 (rf b p n).2 := by
  unfold rf at h ⊢
  split
  · assumption
  · rename_i hn; rw [if_neg hn] at h; simp at h
theorem slices_Equal_eq (k : Nat) (xs ys : List Int) (hk : xs.length < k) (hl : xs.length ≤ 1000000000) : slices_Equal_int_t A k (xs, (ys, ())) () = some ((decide (xs = ys), ()), ()) := by
  by_cases he : xs.length = ys.length
  · have h := iter_all (A := A) (f := slices_Equal_int_t_b0 A k) (fun i => (xs, (ys, ((xs.length : Int), ((i : Int), ()))))) xs.length (fun i => decide (xs.getD i 0 = ys.getD i 0)) (.inr ((false, ()), ())) (.inl ())
      (fun i hi => by
        have hi' : i < ys.length := by omega
        have hx : (i : Int) < (xs.length : Int) := by omega
        have hy : (i : Int) < (ys.length : Int) := by omega
        have w : A.wrapI .i64 ((i : Int) + 1) = ((i + 1 : Nat) : Int) := by rw [a_wrap (by omega) (by omega)]; rfl
        simp only [slices_Equal_int_t_b0, a_cndS, a_ltI, a_lenL, a_le0, a_andB, hx, hy, Int.natCast_nonneg, decide_true, Bool.and_self, if_true, a_atL, Int.toNat_natCast, a_eqI, a_notB, a_addI, w]
        by_cases hv : xs.getD i 0 = ys.getD i 0
        · simp only [hv]; simp
        · simp only [hv]; simp)
      (by simp [slices_Equal_int_t_b0]) hk
    rw [list_eq_iff he] at h
    simp only [Int.natCast_zero, Int.ofNat_zero] at h
    have h2 : (xs.length : Int) = ys.length := by omega
    simp only [slices_Equal_int_t, a_lenL, ← h2, a_eqI, decide_true, a_notB, Bool.not_true, a_cndS, Bool.false_eq_true, if_false, h, a_obind_some]
    by_cases hv : xs = ys <;> simp [hv]
  · have h2 : ¬ (xs.length : Int) = ys.length := by omega
    have h3 : ¬ xs = ys := fun e => he (by rw [e])
    simp [slices_Equal_int_t, h2, h3]
theorem spec_ReadFrame_eq (k : Nat) (hk : 3000 ≤ k) (b : List Int) (p n : Int) (hn : -1000000 ≤ n ∧ n ≤ 1000000) : spec_ReadFrame_t A k (b, (p, (n, ()))) () = some (((rf b p n).1, ((rf b p n).2, ())), ()) := by
  simp only [spec_ReadFrame_t, spec_DecodeNumber_eq k hk, spec_DecodeEntry_eq k hk, a_obind_some, a_cndS, a_ltI, a_notB, a_eqI, a_leI, a_subI, show decEntry b (decNum b (decNum b p).2).2 = candE b p from rfl]
  by_cases h1 : (decNum b (candE b p).2).2 < 0
  · have : rf b p n = (ent0, -1) := rf_no fun e q hf => by
      have := (fits_cand hf).2; have := (fits_next hf).1; omega
    simp [h1, this]
  have hS := At.num (b := b) (p := (candE b p).2) (.inr (by omega))
  have he2 : 0 ≤ (candE b p).2 := hS.1.1
  obtain ⟨heo, hB⟩ := decEntry_sound (b := b) (p := candP b p) he2
  have hp2 : 0 ≤ candP b p := hB.1
  have hZ := At.num (b := b) (p := (decNum b p).2) (.inr hp2)
  have hp1 : 0 ≤ (decNum b p).2 := hZ.1.1
  have hN := At.num (b := b) (p := p) (.inr hp1)
  have hp0 : 0 ≤ p := hN.1.1
  have hb : bytesOk b = true := (decNum_sound (b := b) (at_ := p) (.inr hp1)).1
  have hbl := (bytes_of hb).1
  by_cases h2 : (decNum b p).1 = n
  case neg =>
    have : rf b p n = (ent0, -1) := rf_no fun e q hf => h2 (fits_dec hf).1
    simp [h1, h2, this]
  by_cases h3 : 24 ≤ n
  · have : rf b p n = (ent0, -1) := rf_no fun e q hf => by have := hf.2.2.1; omega
    simp [h1, h2, h3, this]
  have hlen : (candE b p).2 = candP b p + ((body (candE b p).1).length : Int) := hB.2.1
  have w : A.wrapI .i64 ((candE b p).2 - (decNum b (decNum b p).2).2) = (candE b p).2 - (decNum b (decNum b p).2).2 := by
    have e : (decNum b (decNum b p).2).2 = candP b p := rfl
    have := body_len (candE b p).1
    rw [e]; exact a_wrap (by omega) (by omega)
  by_cases h4 : (decNum b (decNum b p).2).1 = (candE b p).2 - (decNum b (decNum b p).2).2
  case neg =>
    have : rf b p n = (ent0, -1) := rf_no fun e q hf => h4 (by
      obtain ⟨_, d2, d3, d4, _⟩ := fits_dec hf
      have := d4.2.1
      rw [d2]
      show _ = (candE b p).2 - candP b p
      omega)
    simp [h1, h2, h3, h4, w, this]
  have hI : At b p (inner n (candE b p).1) (candE b p).2 := by
    have e1 : (decNum b (decNum b p).2).1 = ((body (candE b p).1).length : Int) := by rw [h4]; show (candE b p).2 - candP b p = _; omega
    unfold inner
    have a1 := hN.1
    rw [h2] at a1
    have a2 := hZ.1
    rw [e1] at a2
    exact (a1.append a2).append hB
  have hle : p ≤ (candE b p).2 := by have := hI.2.1; omega
  have hsl := hI.slice
  have hle2 : (candE b p).2 ≤ b.length := hI.2.2.1
  simp only [h1, h2, h3, w.trans h4.symm, decide_false, decide_true, Bool.not_true, Bool.false_eq_true, if_false, a_le0, hp0, hle, a_lenL, hle2, a_andB, Bool.and_self, if_true, a_takeL, a_dropL, hsl, spec_RecordSum_eq k hk, a_obind_some]
  by_cases h5 : (decNum b (candE b p).2).1 = recSum (inner n (candE b p).1)
  · have hf : Fits b p n (candE b p).1 (decNum b (candE b p).2).2 := by
      refine ⟨hb, by rw [← h2]; exact hN.2, by omega, heo, ?_⟩
      unfold frame
      have a := hS.1
      rw [h5] at a
      exact hI.append a
    rw [rf_of hf]
    simp [h5]
  · have : rf b p n = (ent0, -1) := rf_no fun e q hf => by
      obtain ⟨_, _, d3, _, _, d6⟩ := fits_dec hf
      rw [d3] at h5
      exact h5 (by rw [d6])
    simp [h5, this]
theorem impl_ReadFrame_eq (k : Nat) (hk : 3000 ≤ k) (b : List Int) (p n : Int) (hp : p ≤ 1000000) : impl_ReadFrame_t A k (b, (p, (n, ()))) () = some (((rf b p n).1, ((rf b p n).2, ())), ()) := by
  simp only [impl_ReadFrame_t, impl_BytesValid_eq k hk, a_obind_some, a_cndS, a_ltI, a_notB, a_leI, a_lenL]
  by_cases h1 : n < 0
  · have : rf b p n = (ent0, -1) := rf_no fun e q hf => by have := hf.2.1; omega
    simp [h1, this]
  by_cases h2 : 24 ≤ n
  · have : rf b p n = (ent0, -1) := rf_no fun e q hf => by have := hf.2.2.1; omega
    simp [h1, h2, this]
  rcases Bool.eq_false_or_eq_true (bytesOk b) with hb | hb
  case inr =>
    have : rf b p n = (ent0, -1) := rf_no fun e q hf => by have := hf.1; rw [hb] at this; cases this
    simp [h1, h2, hb, this]
  have hbl := (bytes_of hb).1
  by_cases h3 : p < 0
  · have : rf b p n = (ent0, -1) := rf_no fun e q hf => by have := (fits_next hf).2.2; omega
    simp [h1, h2, h3, hb, this]
  by_cases h4 : (b.length : Int) ≤ p
  · have : rf b p n = (ent0, -1) := rf_no fun e q hf => by
      have h5 := (fits_next hf).2.1
      have h6 := hf.2.2.2.2.2.2.1
      have h7 : (frame n e).length ≠ 0 := by
        have := encN_pos n.toNat
        rw [← encNum_ok (by omega) (by omega)] at this
        simp only [frame, inner, List.length_append]; omega
      omega
    simp [h1, h2, h3, h4, hb, this]
  simp only [h1, h2, h3, h4, hb, decide_false, Bool.not_true, Bool.false_eq_true, if_false, a_obind_some, a_sumE_inl, impl_DecodeNumber_eq k hk, impl_DecodeEntry_eq k hk, show decEntry b (decNum b (decNum b p).2).2 = candE b p from rfl]
  by_cases h5 : (candE b p).2 < 0
  · have : rf b p n = (ent0, -1) := rf_no fun e q hf => by
      obtain ⟨_, _, _, d4, _⟩ := fits_dec hf
      have := d4.1; have := d4.2.1; omega
    simp [h5, this]
  obtain ⟨heo, hB⟩ := decEntry_sound (b := b) (p := candP b p) (by show 0 ≤ (candE b p).2; omega)
  have heo : entOk (candE b p).1 = true := heo
  have hfo : frameOr n (candE b p).1 = frame n (candE b p).1 := by
    have : 0 ≤ n ∧ n ≤ 23 := by omega
    simp [frameOr, heo, this]
  have hfl := frame_len n (candE b p).1
  have w1 : A.wrapI .i64 ((b.length : Int) - p) = (b.length : Int) - p := a_wrap (by omega) (by omega)
  have w2 : A.wrapI .i64 (p + ((frame n (candE b p).1).length : Int)) = p + ((frame n (candE b p).1).length : Int) := a_wrap (by omega) (by omega)
  simp only [h5, decide_false, Bool.false_eq_true, if_false, impl_FrameEntry_eq k hk, hfo, a_obind_some, a_subI, w1, a_addI, w2]
  by_cases h6 : (b.length : Int) - p < ((frame n (candE b p).1).length : Int)
  · have : rf b p n = (ent0, -1) := rf_no fun e q hf => by
      obtain ⟨_, _, d3, _⟩ := fits_dec hf
      rw [d3] at h6
      have := (fits_next hf).2.1
      have := hf.2.2.2.2.2.2.1
      omega
    simp [h6, this]
  have g1 : 0 ≤ p := by omega
  have g2 : p ≤ p + ((frame n (candE b p).1).length : Int) := by omega
  have g3 : p + ((frame n (candE b p).1).length : Int) ≤ (b.length : Int) := by omega
  simp only [h6, decide_false, Bool.false_eq_true, if_false, a_le0, g1, g2, g3, decide_true, a_andB, Bool.and_self, if_true, a_takeL, a_dropL, slices_Equal_eq k (frame n (candE b p).1) _ (by omega) (by omega), a_obind_some]
  by_cases h7 : frame n (candE b p).1 = (b.take (p + ((frame n (candE b p).1).length : Int)).toNat).drop p.toNat
  · have hf : Fits b p n (candE b p).1 (p + ((frame n (candE b p).1).length : Int)) := ⟨hb, by omega, by omega, heo, At.of_slice g1 g3 h7.symm⟩
    rw [rf_of hf]
    simp only [← h7, decide_true, Bool.not_true, Bool.false_eq_true, if_false, a_obind_some, a_sumE_inl, w2]
  · have : rf b p n = (ent0, -1) := rf_no fun e q hf => by
      obtain ⟨_, _, d3, _⟩ := fits_dec hf
      rw [d3] at h7
      have hA := hf.2.2.2.2
      have hs := hA.slice
      rw [hA.2.1] at hs
      exact h7 hs.symm
    simp only [h7, decide_false, Bool.not_false, if_true, this, Bool.false_eq_true, if_false, a_obind_some, a_sumE_inr]
end
end Go.Den.T
