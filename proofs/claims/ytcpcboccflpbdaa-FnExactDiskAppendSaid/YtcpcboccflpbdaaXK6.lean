/- Disks: writes appended; the law. -/
import Derived.Test.YtcpcboccflpbdaaXB2

namespace Go.Den.T
set_option linter.unusedVariables false
set_option linter.unusedSimpArgs false
set_option linter.unusedSectionVars false
section
variable {A : Atoms} [IsReal A]
theorem copyDisk_eq (k : Nat) (d : Dsk) (hk : d.2.1.length < k) (hf : DskF d) (hl : d.2.1.length ≤ 1000000000) : impl_copyDisk_t A k (d, ()) () = some ((d, ()), ()) := by
  obtain ⟨b, ws, _⟩ := d
  obtain ⟨h1, h2⟩ := hf
  simp only at hk h1 h2 hl
  have h := iter_for (A := A) (f := impl_copyDisk_t_b0 A k) (fun i => (ws, ((ws.length : Int), ((i : Int), ((([] : List Int), (([] : List (List Int)), ())), ((b, (ws.take i, ())), ())))))) ws.length ((([] : List Int), (([] : List (List Int)), ())), ((b, (ws, ())), ()))
    (fun i hi => by
      have hw := h2 ws[i] (List.getElem_mem hi)
      have hi' : (i : Int) < (ws.length : Int) := by omega
      have w : A.wrapI .i64 ((i : Int) + 1) = (i : Int) + 1 := a_wrap (by omega) (by omega)
      have tl : (ws.take i).length ≤ 1000000000 := by rw [List.length_take]; omega
      have g : ((ws.take i).length : Int) + 1 < 4294967296 := by omega
      have e : ws.take (i + 1) = ws.take i ++ [ws[i]] := List.take_succ_eq_append_getElem hi
      simp only [impl_copyDisk_t_b0, a_cndS, a_ltI, a_lenL, a_le0, a_andB, hi', Int.natCast_nonneg, decide_true, Bool.and_self, if_true, a_atL, Int.toNat_natCast, getD_lt hi, copyOf_int_eq k ws[i] hw, a_obind_some, a_addI, w, a_big, a_appL, e, List.length_cons, List.length_nil, Nat.zero_add, Int.natCast_one, Int.ofNat_one, g]
      rfl)
    (by simp [impl_copyDisk_t_b0]) hk
  simp at h
  simp [impl_copyDisk_t, copyOf_int_eq k b h1, h]
theorem l14Copy_eq' (k : Nat) (d : Dsk) (hk : d.2.1.length < k) (hf : DskF d) (hl : d.2.1.length ≤ 1000000000) : spec_l14Copy_t A k (d, ()) () = some ((d, ()), ()) := by
  obtain ⟨b, ws, _⟩ := d
  obtain ⟨h1, h2⟩ := hf
  simp only at hk h1 h2 hl
  have h := iter_for (A := A) (f := spec_l14Copy_t_b0 A k) (fun i => ((i : Int), ((b, (ws, ())), ((([] : List Int), (([] : List (List Int)), ())), ((b, (ws.take i, ())), ()))))) ws.length ((([] : List Int), (([] : List (List Int)), ())), ((b, (ws, ())), ()))
    (fun i hi => by
      have hw := h2 ws[i] (List.getElem_mem hi)
      have g1 : (ws[i].length : Int) < 4294967296 := by omega
      have g2 : ((min i ws.length : Nat) : Int) + 1 < 4294967296 := by omega
      have g3 : min (i : Int) (ws.length : Int) + 1 < 4294967296 := by omega
      have w : A.wrapI .i64 ((i : Int) + 1) = (i : Int) + 1 := a_wrap (by omega) (by omega)
      rw [List.take_succ_eq_append_getElem hi]
      simp [spec_l14Copy_t_b0, hi, w, g1, g2, g3])
    (by simp [spec_l14Copy_t_b0]) hk
  have g0 : (b.length : Int) < 4294967296 := by omega
  simp at h
  simp [spec_l14Copy_t, g0, h]
def plus (d : Dsk) (x : List Int) : Dsk := (d.1, (d.2.1 ++ [x], d.2.2))
def appendD (d : Dsk) (x : List Int) : Dsk × (Bool × Unit) :=
  if (diskOk d && writeOk x) = true then (if diskOk (plus d x) = true then (plus d x, (true, ())) else (d, (false, ()))) else (dsk0, (false, ()))
theorem plus_f {d : Dsk} {x : List Int} (h : DskF d) (hx : x.length ≤ 1000000000) : DskF (plus d x) := ⟨h.1, fun w hw => by
  rcases List.mem_append.1 hw with hw | hw
  · exact h.2 w hw
  · simp at hw; subst hw; exact hx⟩
theorem impl_DiskAppend_eq (k : Nat) (hk : 3000 ≤ k) (d : Dsk) (x : List Int) (hf : DskF d) : impl_DiskAppend_t A k (d, (x, ())) () = some (appendD d x, ()) := by
  simp only [impl_DiskAppend_t, impl_DiskValid_eq k hk d hf.1 hf.2, impl_BytesValid_eq k hk, a_obind_some, a_cndS, a_notB, a_eqI, a_lenL, appendD, writeOk]
  cases hd : diskOk d with
  | false => simp
  | true =>
    have hl := diskOk_len hd
    rcases Bool.eq_false_or_eq_true (bytesOk x) with hb | hb
    case inr => simp [hb]
    case inl =>
      have hx := (bytes_of hb).1
      by_cases h0 : x.length = 0
      · have h0' : (x.length : Int) = 0 := by omega
        have h0'' : x = [] := List.eq_nil_of_length_eq_zero h0
        subst h0''
        simp [hb]
      · have h0' : ¬ (x.length : Int) = 0 := by omega
        have g : (d.2.1.length : Int) + 1 < 4294967296 := by omega
        have hp := plus_f (x := x) hf (by omega)
        have hv := impl_DiskValid_eq (A := A) k hk (plus d x) hp.1 hp.2
        simp only [plus] at hv
        simp only [hb, h0, h0', decide_false, Bool.not_true, Bool.not_false, Bool.false_eq_true, if_false, if_true, a_sumE_inl, copyDisk_eq k d (by omega) hf (by omega), a_obind_some, copyOf_int_eq k x (by omega), a_ltI, a_addI, a_lenL, List.length_cons, List.length_nil, Nat.zero_add, Int.natCast_one, Int.ofNat_one, a_big, g, decide_true, a_appL, hv, Bool.and_self, plus]
        rcases Bool.eq_false_or_eq_true (diskOk (d.1, (d.2.1 ++ [x], d.2.2))) with hq | hq <;> simp [hq]
theorem spec_DiskAppend_eq (k : Nat) (hk : 3000 ≤ k) (d : Dsk) (x : List Int) (hf : DskF d) : spec_DiskAppend_t A k (d, (x, ())) () = some (appendD d x, ()) := by
  simp only [spec_DiskAppend_t, spec_DiskValid_eq k hk d hf.1 hf.2, spec_BytesValid_eq k hk, a_obind_some, a_cndS, a_notB, a_eqI, a_lenL, appendD, writeOk]
  cases hd : diskOk d with
  | false => simp
  | true =>
    have hl := diskOk_len hd
    by_cases h0 : x.length = 0
    · have h0'' : x = [] := List.eq_nil_of_length_eq_zero h0
      simp [h0'']
    · have h0' : ¬ (x.length : Int) = 0 := by omega
      rcases Bool.eq_false_or_eq_true (bytesOk x) with hb | hb
      case inr => simp [h0', hb]
      case inl =>
        have hx := (bytes_of hb).1
        have g : (d.2.1.length : Int) + 1 < 4294967296 := by omega
        have g2 : (x.length : Int) < 4294967296 := by omega
        have hp := plus_f (x := x) hf (by omega)
        have hv := spec_DiskValid_eq (A := A) k hk (plus d x) hp.1 hp.2
        simp only [plus] at hv
        simp only [hb, h0, h0', decide_false, Bool.not_true, Bool.not_false, Bool.false_eq_true, if_false, if_true, a_sumE_inl, l14Copy_eq' k d (by omega) hf (by omega), a_obind_some, a_ltI, a_addI, a_lenL, List.length_cons, List.length_nil, Nat.zero_add, Int.natCast_one, Int.ofNat_one, Int.natCast_zero, Int.ofNat_zero, Int.zero_add, a_big, g, g2, decide_true, a_appL, List.nil_append, hv, Bool.and_self, plus]
        rcases Bool.eq_false_or_eq_true (diskOk (d.1, (d.2.1 ++ [x], d.2.2))) with hq | hq <;> simp [hq]
end
end Go.Den.T
