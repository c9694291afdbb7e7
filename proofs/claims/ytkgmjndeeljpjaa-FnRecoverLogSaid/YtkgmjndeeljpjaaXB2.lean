/- Entries, sums, frames and logs as bytes. -/
import Derived.Test.YtkgmjndeeljpjaaXB1

namespace Go.Den.T
set_option linter.unusedVariables false
set_option linter.unusedSimpArgs false
set_option linter.unusedSectionVars false
section
variable {A : Atoms} [IsReal A]
theorem entOk_ranges {e : Ent} (h : entOk e = true) : (0 ≤ e.1 ∧ e.1 ≤ 3) ∧ (1 ≤ e.2.1 ∧ e.2.1 ≤ 999) ∧ (1 ≤ e.2.2.1.1 ∧ e.2.2.1.1 ≤ 5) ∧ e.2.2.1.2.1.length ≤ 4 ∧ (0 ≤ e.2.2.1.2.2.1 ∧ e.2.2.1.2.2.1 ≤ 999) ∧ (-1 ≤ e.2.2.1.2.2.2.1 ∧ e.2.2.1.2.2.2.1 ≤ 999) := by
  obtain ⟨c, s, ⟨kd, key, v, o, _⟩, _⟩ := e
  simp only [entOk, cmdOk, keyOk, Bool.and_eq_true, Bool.or_eq_true, decide_eq_true_eq] at h ⊢
  obtain ⟨h1, h2, h3, h4⟩ := h
  have hkey : key.length ≤ 4 := by
    rcases h3 with h3 | h3
    · exact h3.1.2
    · rw [h3.2]; simp
  by_cases a1 : kd = 1 ∨ kd = 3 ∨ kd = 5
  · rw [if_pos a1] at h4
    simp only [decide_eq_true_eq] at h4
    refine ⟨h1, h2, by omega, hkey, by omega, by omega⟩
  · rw [if_neg a1] at h4
    by_cases a2 : kd = 2
    · rw [if_pos a2] at h4
      simp only [decide_eq_true_eq] at h4
      exact ⟨h1, h2, by omega, hkey, by omega, by omega⟩
    · rw [if_neg a2] at h4
      by_cases a3 : kd = 4
      · rw [if_pos a3] at h4
        simp only [decide_eq_true_eq] at h4
        exact ⟨h1, h2, by omega, hkey, by omega, by omega⟩
      · rw [if_neg a3] at h4; cases h4
theorem spec_EncodeEntry_eq (k : Nat) (hk : 10 ≤ k) (e : Ent) : spec_EncodeEntry_t A k (e, ()) () = some ((encEntry e, ()), ()) := by
  rw [spec_EncodeEntry_t, spec_EntryValid_eq k hk, a_obind_some, a_cndS, encEntry]
  cases h : entOk e with
  | false => simp
  | true =>
    have hr := entOk_ranges h
    have w : A.wrapI .i64 (e.2.2.1.2.2.2.1 + 1) = e.2.2.1.2.2.2.1 + 1 := a_wrap (by omega) (by omega)
    have h1 := encNum_len e.1
    have h2 := encNum_len e.2.1
    have h3 := encNum_len e.2.2.1.1
    have h4 := encText_len e.2.2.1.2.1
    have h5 := encNum_len e.2.2.1.2.2.1
    have h6 := encNum_len (e.2.2.1.2.2.2.1 + 1)
    simp only [a_notB, Bool.not_true, Bool.false_eq_true, if_false, spec_EncodeNumber_eq k hk, spec_EncodeText_eq k hk, a_obind_some, w, a_cndS, a_ltI, a_addI, a_lenL, a_appL, a_big, List.length_append]
    rw [if_pos (by simp; omega), if_pos (by simp; omega), if_pos (by simp; omega), if_pos (by simp; omega), if_pos (by simp; omega)]
    simp only [body, if_true]
theorem impl_EncodeEntry_eq (k : Nat) (hk : 10 ≤ k) (e : Ent) : impl_EncodeEntry_t A k (e, ()) () = some ((encEntry e, ()), ()) := by
  rw [impl_EncodeEntry_t, impl_EntryValid_eq k hk, a_obind_some, a_cndS, encEntry]
  cases h : entOk e with
  | false => simp
  | true =>
    have hr := entOk_ranges h
    have w : A.wrapI .i64 (e.2.2.1.2.2.2.1 + 1) = e.2.2.1.2.2.2.1 + 1 := a_wrap (by omega) (by omega)
    have h1 := encNum_len e.1
    have h2 := encNum_len e.2.1
    have h3 := encNum_len e.2.2.1.1
    have h4 := encText_len e.2.2.1.2.1
    have h5 := encNum_len e.2.2.1.2.2.1
    have h6 := encNum_len (e.2.2.1.2.2.2.1 + 1)
    simp only [a_notB, Bool.not_true, Bool.false_eq_true, if_false, impl_EncodeNumber_eq k hk, impl_EncodeText_eq k hk, a_obind_some, w, a_cndS, a_ltI, a_addI, a_lenL, a_appL, a_big, List.length_append]
    rw [if_pos (by simp; omega), if_pos (by simp; omega), if_pos (by simp; omega), if_pos (by simp; omega), if_pos (by simp; omega)]
    simp only [body, if_true]
theorem body_pos {e : Ent} (h : entOk e = true) : (body e).length ≠ 0 := by
  have hr := entOk_ranges h
  have := encN_pos e.1.toNat
  rw [← encNum_ok (by omega) (by omega)] at this
  simp only [body, List.length_append]; omega
/-! ### sums -/
/-- the sum of bytes, each times its place -/
def wsum : Int → List Int → Int
  | _, [] => 0
  | i, x :: xs => (i + 1) * x + wsum (i + 1) xs
theorem wsum_snoc (xs : List Int) (x : Int) : ∀ i, wsum i (xs ++ [x]) = wsum i xs + (i + xs.length + 1) * x := by
  induction xs with
  | nil => intro i; simp [wsum]
  | cons y ys ih => intro i; simp only [List.cons_append, wsum, ih, List.length_cons]; rw [show i + 1 + (ys.length : Int) + 1 = i + ((ys.length + 1 : Nat) : Int) + 1 by omega]; omega
theorem wsum_take {xs : List Int} {i : Nat} (hi : i < xs.length) : wsum 0 (xs.take (i + 1)) = wsum 0 (xs.take i) + ((i : Int) + 1) * xs[i] := by
  rw [List.take_succ_eq_append_getElem hi, wsum_snoc]
  congr 2
  simp; omega
theorem wsum_bound {xs : List Int} (h : ∀ x ∈ xs, 0 ≤ x ∧ x ≤ 255) : ∀ i : Int, 0 ≤ i → 0 ≤ wsum i xs ∧ wsum i xs ≤ (i + xs.length) * 255 * xs.length := by
  induction xs with
  | nil => intro i hi; simp [wsum]
  | cons x xs ih =>
    intro i hi
    have hx := h x (by simp)
    have h2 := ih (fun y hy => h y (by simp [hy])) (i + 1) (by omega)
    have m1 : 0 ≤ (i + 1) * x := Int.mul_nonneg (by omega) hx.1
    have m2 : (i + 1) * x ≤ (i + 1) * 255 := Int.mul_le_mul_of_nonneg_left hx.2 (by omega)
    simp only [wsum, List.length_cons]
    refine ⟨by omega, ?_⟩
    have e1 : (i + 1 + (xs.length : Int)) * 255 * (xs.length : Int) + (i + 1) * 255 ≤ (i + ((xs.length + 1 : Nat) : Int)) * 255 * ((xs.length + 1 : Nat) : Int) := by
      have : ((xs.length + 1 : Nat) : Int) = (xs.length : Int) + 1 := by omega
      rw [this]
      generalize (xs.length : Int) = n at *
      have hn : 0 ≤ n := by omega
      have : (i + (n + 1)) * 255 * (n + 1) = (i + 1 + n) * 255 * n + (i + 1 + n) * 255 := by
        rw [Int.mul_add]; rw [show i + (n + 1) = i + 1 + n by omega]; omega
      rw [this]
      have : (i + 1) * 255 ≤ (i + 1 + n) * 255 := by omega
      omega
    omega
def recSum (xs : List Int) : Int := if bytesOk xs = true then wsum 0 xs % 65521 else -1
theorem bytes_of {xs : List Int} (h : bytesOk xs = true) : xs.length ≤ 2000 ∧ ∀ x ∈ xs, 0 ≤ x ∧ x ≤ 255 := by
  simp only [bytesOk, Bool.and_eq_true, decide_eq_true_eq, List.all_eq_true, byteOk] at h
  exact h
theorem bytesOk_iff {xs : List Int} : bytesOk xs = true ↔ xs.length ≤ 2000 ∧ ∀ x ∈ xs, 0 ≤ x ∧ x ≤ 255 := by
  simp only [bytesOk, Bool.and_eq_true, decide_eq_true_eq, List.all_eq_true, byteOk]
theorem wsum_small {xs : List Int} (h : bytesOk xs = true) (i : Nat) : 0 ≤ wsum 0 (xs.take i) ∧ wsum 0 (xs.take i) ≤ 1020000000 := by
  obtain ⟨h1, h2⟩ := bytes_of h
  have hb := wsum_bound (xs := xs.take i) (fun x hx => h2 x (List.mem_of_mem_take hx)) 0 (by omega)
  have hl : ((xs.take i).length : Int) ≤ 2000 := by simp; omega
  have hl0 : 0 ≤ ((xs.take i).length : Int) := by omega
  generalize ((xs.take i).length : Int) = n at *
  refine ⟨hb.1, ?_⟩
  have : (0 + n) * 255 * n ≤ 2000 * 255 * 2000 := Int.mul_le_mul (by omega) hl hl0 (by omega)
  omega
theorem recSum_range (xs : List Int) : -1 ≤ recSum xs ∧ recSum xs ≤ 65520 := by
  unfold recSum; split
  · omega
  · omega
theorem spec_RecordSum_eq (k : Nat) (hk : 3000 ≤ k) (xs : List Int) : spec_RecordSum_t A k (xs, ()) () = some ((recSum xs, ()), ()) := by
  rw [spec_RecordSum_t, spec_BytesValid_eq k hk, a_obind_some, a_cndS, recSum]
  cases hb : bytesOk xs with
  | false => simp
  | true =>
    obtain ⟨h1, h2⟩ := bytes_of hb
    have h := iter_for (A := A) (f := spec_RecordSum_t_b0 A k) (fun i => (xs, (wsum 0 (xs.take i) % 65521, ((i : Int), ())))) xs.length (wsum 0 xs % 65521, ())
      (fun i hi => by
        have hx := h2 xs[i] (List.getElem_mem hi)
        have hi' : (i : Int) < (xs.length : Int) := by omega
        have w : A.wrapI .i64 ((i : Int) + 1) = (i : Int) + 1 := a_wrap (by omega) (by omega)
        have m1 : 0 ≤ ((i : Int) + 1) * xs[i] := Int.mul_nonneg (by omega) hx.1
        have m2 : ((i : Int) + 1) * xs[i] ≤ 2001 * 255 := Int.mul_le_mul (by omega) hx.2 hx.1 (by omega)
        have w2 : A.wrapI .i64 (((i : Int) + 1) * xs[i]) = ((i : Int) + 1) * xs[i] := a_wrap (by omega) (by omega)
        have s0 : 0 ≤ wsum 0 (xs.take i) % 65521 := by omega
        have s1 : wsum 0 (xs.take i) % 65521 < 65521 := by omega
        have w3 : A.wrapI .i64 (wsum 0 (xs.take i) % 65521 + ((i : Int) + 1) * xs[i]) = wsum 0 (xs.take i) % 65521 + ((i : Int) + 1) * xs[i] := a_wrap (by omega) (by omega)
        have e : (wsum 0 (xs.take i) % 65521 + ((i : Int) + 1) * xs[i]).tmod 65521 = wsum 0 (xs.take (i + 1)) % 65521 := by
          rw [Int.tmod_eq_emod_of_nonneg (by omega), wsum_take hi]; omega
        simp only [spec_RecordSum_t_b0, a_cndS, a_ltI, a_lenL, a_le0, a_andB, hi', Int.natCast_nonneg, decide_true, Bool.and_self, if_true, a_atL, Int.toNat_natCast, getD_lt hi, a_addI, w, a_mulI, w2, w3, a_remI, e, a_eqI, a_notB]
        simp)
      (by simp [spec_RecordSum_t_b0]) (k := k) (by omega)
    simp [wsum] at h
    simp [h]
theorem impl_RecordSum_eq (k : Nat) (hk : 3000 ≤ k) (xs : List Int) : impl_RecordSum_t A k (xs, ()) () = some ((recSum xs, ()), ()) := by
  rw [impl_RecordSum_t, impl_BytesValid_eq k hk, a_obind_some, a_cndS, recSum]
  cases hb : bytesOk xs with
  | false => simp
  | true =>
    obtain ⟨h1, h2⟩ := bytes_of hb
    have h := iter_for (A := A) (f := impl_RecordSum_t_b0 A k) (fun i => (wsum 0 (xs.take i), (xs, ((xs.length : Int), ((i : Int), ()))))) xs.length (wsum 0 xs, ())
      (fun i hi => by
        have hx := h2 xs[i] (List.getElem_mem hi)
        have hi' : (i : Int) < (xs.length : Int) := by omega
        have w : A.wrapI .i64 ((i : Int) + 1) = (i : Int) + 1 := a_wrap (by omega) (by omega)
        have ec : xs[i] * ((i : Int) + 1) = ((i : Int) + 1) * xs[i] := Int.mul_comm _ _
        have m1 : 0 ≤ ((i : Int) + 1) * xs[i] := Int.mul_nonneg (by omega) hx.1
        have m2 : ((i : Int) + 1) * xs[i] ≤ 2001 * 255 := Int.mul_le_mul (by omega) hx.2 hx.1 (by omega)
        have w2 : A.wrapI .i64 (((i : Int) + 1) * xs[i]) = ((i : Int) + 1) * xs[i] := a_wrap (by omega) (by omega)
        have s0 := wsum_small hb i
        have w3 : A.wrapI .i64 (wsum 0 (xs.take i) + ((i : Int) + 1) * xs[i]) = wsum 0 (xs.take i) + ((i : Int) + 1) * xs[i] := a_wrap (by omega) (by omega)
        simp only [impl_RecordSum_t_b0, a_cndS, a_ltI, a_lenL, a_le0, a_andB, hi', Int.natCast_nonneg, decide_true, Bool.and_self, if_true, a_atL, Int.toNat_natCast, getD_lt hi, a_addI, w, a_mulI, ec, w2, w3, wsum_take hi]
        rfl)
      (by simp [impl_RecordSum_t_b0]) (k := k) (by omega)
    have s0 := wsum_small hb xs.length
    rw [List.take_length] at s0
    simp [wsum] at h
    simp [h, Int.tmod_eq_emod_of_nonneg s0.1]
/-! ### frames -/
/-- what a frame is but for its sum -/
def inner (n : Int) (e : Ent) : List Int := encNum n ++ encNum (body e).length ++ body e
def frame (n : Int) (e : Ent) : List Int := inner n e ++ encNum (recSum (inner n e))
def frameOr (n : Int) (e : Ent) : List Int := if (decide (0 ≤ n ∧ n ≤ 23) && entOk e) = true then frame n e else []
theorem inner_len (n : Int) (e : Ent) : (inner n e).length ≤ 40 := by
  have h1 := encNum_len n
  have h2 := encNum_len (body e).length
  have h3 := body_len e
  simp only [inner, List.length_append]; omega
theorem inner_byte (n : Int) (e : Ent) : ∀ x ∈ inner n e, 0 ≤ x ∧ x ≤ 255 := by
  intro x hx
  simp only [inner, List.mem_append] at hx
  rcases hx with (hx | hx) | hx
  · exact encNum_byte _ x hx
  · exact encNum_byte _ x hx
  · exact body_byte e x hx
theorem frame_len (n : Int) (e : Ent) : (frame n e).length ≤ 44 := by
  have h1 := inner_len n e
  have h2 := encNum_len (recSum (inner n e))
  simp only [frame, List.length_append]; omega
theorem frame_byte (n : Int) (e : Ent) : ∀ x ∈ frame n e, 0 ≤ x ∧ x ≤ 255 := by
  intro x hx
  rcases List.mem_append.1 hx with hx | hx
  · exact inner_byte n e x hx
  · exact encNum_byte _ x hx
theorem spec_FrameEntry_eq (k : Nat) (hk : 3000 ≤ k) (n : Int) (e : Ent) : spec_FrameEntry_t A k (n, (e, ())) () = some ((frameOr n e, ()), ()) := by
  have i1 : ∀ m : Int, spec_EncodeNumber_t A k (m, ()) () = some ((encNum m, ()), ()) := spec_EncodeNumber_eq k (by omega)
  simp only [spec_FrameEntry_t, spec_EncodeEntry_eq k (by omega : 10 ≤ k), l1In_eq, a_obind_some, frameOr]
  by_cases h : 0 ≤ n ∧ n ≤ 23
  case neg => simp [h]
  cases he : entOk e with
  | false => simp [h, encEntry, he]
  | true =>
    have hp : ¬ ((body e).length : Int) = 0 := by have := body_pos he; omega
    have h1 := encNum_len n
    have h2 := encNum_len (body e).length
    have h3 := body_len e
    have h4 := encNum_len (recSum (inner n e))
    have hen : encEntry e = body e := by simp [encEntry, he]
    simp only [h, and_self, decide_true, a_notB, Bool.not_true, a_cndS, Bool.false_eq_true, if_false, hen, a_lenL, a_eqI, hp, decide_false, a_sumE_inl, i1, a_obind_some, a_ltI, a_addI, a_big, a_appL, List.length_append]
    rw [if_pos (by simp; omega), if_pos (by simp; omega), spec_RecordSum_eq k hk, a_obind_some, if_pos (by simp only [show encNum n ++ encNum (body e).length ++ body e = inner n e from rfl]; simp; omega)]
    rfl
theorem impl_FrameEntry_eq (k : Nat) (hk : 3000 ≤ k) (n : Int) (e : Ent) : impl_FrameEntry_t A k (n, (e, ())) () = some ((frameOr n e, ()), ()) := by
  have i1 : ∀ m : Int, impl_EncodeNumber_t A k (m, ()) () = some ((encNum m, ()), ()) := impl_EncodeNumber_eq k (by omega)
  simp only [impl_FrameEntry_t, impl_EntryValid_eq k (by omega : 10 ≤ k), a_obind_some, a_cndS, a_ltI, a_leI, frameOr]
  by_cases h : 0 ≤ n ∧ n ≤ 23
  case neg =>
    by_cases h0 : n < 0
    · simp [h, h0]
    · have h1 : (24 : Int) ≤ n := by omega
      simp [h, h0, h1]
  have h0 : ¬ n < 0 := by omega
  have h1' : ¬ (24 : Int) ≤ n := by omega
  cases he : entOk e with
  | false => simp [h, h0, h1']
  | true =>
    have h1 := encNum_len n
    have h2 := encNum_len (body e).length
    have h3 := body_len e
    have h4 := encNum_len (recSum (inner n e))
    have hen : encEntry e = body e := by simp [encEntry, he]
    simp only [h, h0, h1', and_self, decide_true, decide_false, a_notB, Bool.not_true, Bool.false_eq_true, if_false, if_true, a_obind_some, a_sumE_inl, impl_EncodeEntry_eq k (by omega : 10 ≤ k), hen, a_lenL, i1, a_addI, a_big, a_appL, List.length_append, Bool.and_self]
    rw [if_pos (by simp; omega), if_pos (by simp; omega), impl_RecordSum_eq k hk, a_obind_some, if_pos (by simp only [show encNum n ++ encNum (body e).length ++ body e = inner n e from rfl]; simp; omega)]
    rfl
/-! ### logs -/
/-- the frames of entries, from a number on -/
def frames : Nat → List Ent → List Int
  | _, [] => []
  | n, e :: l => frame n e ++ frames (n + 1) l
theorem frames_snoc (l : List Ent) (e : Ent) : ∀ n, frames n (l ++ [e]) = frames n l ++ frame ((n + l.length : Nat) : Int) e := by
  induction l with
  | nil => intro n; simp [frames]
  | cons x l ih => intro n; simp only [List.cons_append, frames, ih, List.append_assoc, List.length_cons]; rw [show n + 1 + l.length = n + (l.length + 1) by omega]
theorem frames_take {l : List Ent} {i : Nat} (hi : i < l.length) : frames 0 (l.take (i + 1)) = frames 0 (l.take i) ++ frame (i : Int) l[i] := by
  rw [List.take_succ_eq_append_getElem hi, frames_snoc]
  congr 2
  simp; omega
theorem frames_len (l : List Ent) : ∀ n, (frames n l).length ≤ 44 * l.length := by
  induction l with
  | nil => intro n; simp [frames]
  | cons x l ih =>
    intro n
    have h1 := frame_len n x
    have h2 := ih (n + 1)
    simp only [frames, List.length_append, List.length_cons]; omega
theorem frames_byte (l : List Ent) : ∀ n, ∀ x ∈ frames n l, 0 ≤ x ∧ x ≤ 255 := by
  induction l with
  | nil => intro n x hx; cases hx
  | cons y l ih =>
    intro n x hx
    rcases List.mem_append.1 hx with hx | hx
    · exact frame_byte _ _ x hx
    · exact ih _ x hx
def logBytes (l : List Ent) : List Int := if logOk l = true then frames 0 l else []
theorem logOk_iff {l : List Ent} : logOk l = true ↔ l.length ≤ 24 ∧ ∀ e ∈ l, entOk e = true := by
  simp only [logOk, Bool.and_eq_true, decide_eq_true_eq, List.all_eq_true]
theorem logBytes_len (l : List Ent) : (logBytes l).length ≤ 1056 := by
  unfold logBytes; split
  · rename_i h
    have := (logOk_iff.1 h).1
    have := frames_len l 0
    omega
  · simp
theorem log_step {l : List Ent} (h : logOk l = true) {i : Nat} (hi : i < l.length) : frameOr (i : Int) l[i] = frame (i : Int) l[i] ∧ (frames 0 (l.take i)).length ≤ 44 * 24 := by
  obtain ⟨h1, h2⟩ := logOk_iff.1 h
  refine ⟨?_, ?_⟩
  · have he := h2 _ (List.getElem_mem hi)
    have : 0 ≤ (i : Int) ∧ (i : Int) ≤ 23 := by omega
    simp [frameOr, he, this]
  · refine Nat.le_trans (frames_len _ _) (Nat.mul_le_mul_left _ ?_)
    simp; omega
theorem spec_LogBytes_eq (k : Nat) (hk : 3000 ≤ k) (l : List Ent) : spec_LogBytes_t A k (l, ()) () = some ((logBytes l, ()), ()) := by
  rw [spec_LogBytes_t, l10Log_eq k (by omega), a_obind_some, a_cndS, logBytes]
  cases hl : logOk l with
  | false => simp
  | true =>
    have h := iter_for (A := A) (f := spec_LogBytes_t_b0 A k) (fun i => (l, (frames 0 (l.take i), ((i : Int), ())))) l.length (frames 0 l, ())
      (fun i hi => by
        obtain ⟨hf, hb⟩ := log_step hl hi
        have hfl := frame_len (i : Int) l[i]
        have hi' : (i : Int) < (l.length : Int) := by omega
        have hll := (logOk_iff.1 hl).1
        have w : A.wrapI .i64 ((i : Int) + 1) = (i : Int) + 1 := a_wrap (by omega) (by omega)
        have g : ((frames 0 (l.take i)).length : Int) + ((frame (i : Int) l[i]).length : Int) < 4294967296 := by omega
        simp only [spec_LogBytes_t_b0, a_cndS, a_ltI, a_lenL, a_le0, a_andB, hi', Int.natCast_nonneg, decide_true, Bool.and_self, if_true, a_atL, Int.toNat_natCast, getD_lt hi, spec_FrameEntry_eq k hk, hf, a_obind_some, a_addI, w, g, a_big, a_appL, frames_take hi]
        simp)
      (by simp [spec_LogBytes_t_b0]) (k := k) (by have := (logOk_iff.1 hl).1; omega)
    simp [frames] at h
    simp [h]
theorem impl_LogBytes_eq (k : Nat) (hk : 3000 ≤ k) (l : List Ent) : impl_LogBytes_t A k (l, ()) () = some ((logBytes l, ()), ()) := by
  rw [impl_LogBytes_t, entriesValid_eq k (by omega), a_obind_some, a_cndS, logBytes]
  cases hl : logOk l with
  | false => simp
  | true =>
    have h := iter_for (A := A) (f := impl_LogBytes_t_b0 A k) (fun i => (frames 0 (l.take i), (l, ((l.length : Int), ((i : Int), ()))))) l.length (frames 0 l, ())
      (fun i hi => by
        obtain ⟨hf, hb⟩ := log_step hl hi
        have hfl := frame_len (i : Int) l[i]
        have hi' : (i : Int) < (l.length : Int) := by omega
        have hll := (logOk_iff.1 hl).1
        have w : A.wrapI .i64 ((i : Int) + 1) = (i : Int) + 1 := a_wrap (by omega) (by omega)
        have g : ((frames 0 (l.take i)).length : Int) + ((frame (i : Int) l[i]).length : Int) < 4294967296 := by omega
        simp only [impl_LogBytes_t_b0, a_cndS, a_ltI, a_lenL, a_le0, a_andB, hi', Int.natCast_nonneg, decide_true, Bool.and_self, if_true, a_atL, Int.toNat_natCast, getD_lt hi, impl_FrameEntry_eq k hk, hf, a_obind_some, a_addI, w, g, a_big, a_appL, frames_take hi]
        simp)
      (by simp [impl_LogBytes_t_b0]) (k := k) (by have := (logOk_iff.1 hl).1; omega)
    simp [frames] at h
    simp [h]
end
end Go.Den.T
