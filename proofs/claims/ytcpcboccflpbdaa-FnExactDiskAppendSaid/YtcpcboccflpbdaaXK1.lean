/- Disks: what the checks come to. -/
import Derived.Test.YtcpcboccflpbdaaXE2
import Derived.Test.YtcpcboccflpbdaaXTr2

namespace Go.Den.T
set_option linter.unusedVariables false
set_option linter.unusedSimpArgs false
set_option linter.unusedSectionVars false
variable {A : Atoms} [IsReal A]
abbrev Dsk := List Int × (List (List Int) × Unit)
def byteOk (x : Int) : Bool := decide (0 ≤ x ∧ x ≤ 255)
def bytesOk (xs : List Int) : Bool := decide (xs.length ≤ 2000) && xs.all byteOk
theorem spec_BytesValid_eq (k : Nat) (hk : 3000 ≤ k) (xs : List Int) : spec_BytesValid_t A k (xs, ()) () = some ((bytesOk xs, ()), ()) := by
  by_cases hl : (2000 : Int) < xs.length
  · have : ¬ xs.length ≤ 2000 := by omega
    simp [spec_BytesValid_t, hl, bytesOk, this]
  · have hl' : xs.length ≤ 2000 := by omega
    have h := iter_all (A := A) (f := spec_BytesValid_t_b0 A k) (fun i => (xs, ((i : Int), ()))) xs.length (fun i => byteOk (xs.getD i 0)) (.inr ((false, ()), ())) (.inl ())
      (fun i hi => by
        simp (disch := omega) [spec_BytesValid_t_b0, hi, a_wrap, l1In_eq, byteOk]
        by_cases hv : 0 ≤ xs[i] ∧ xs[i] ≤ 255 <;> simp [hv])
      (by simp [spec_BytesValid_t_b0]) (k := k) (by omega)
    rw [all_range] at h
    simp only [Int.natCast_zero, Int.ofNat_zero] at h
    simp only [spec_BytesValid_t, a_cndS, a_ltI, a_lenL, hl, decide_false, Bool.false_eq_true, if_false, h, a_obind_some, bytesOk, hl', decide_true, Bool.true_and]
    cases xs.all byteOk <;> simp
theorem impl_BytesValid_eq (k : Nat) (hk : 3000 ≤ k) (xs : List Int) : impl_BytesValid_t A k (xs, ()) () = some ((bytesOk xs, ()), ()) := by
  by_cases hl : (2000 : Int) < xs.length
  · have : ¬ xs.length ≤ 2000 := by omega
    simp [impl_BytesValid_t, hl, bytesOk, this]
  · have hl' : xs.length ≤ 2000 := by omega
    have h := iter_all (A := A) (f := impl_BytesValid_t_b0 A k) (fun i => (xs, ((xs.length : Int), ((i : Int), ())))) xs.length (fun i => byteOk (xs.getD i 0)) (.inr ((false, ()), ())) (.inl ())
      (fun i hi => by
        simp (disch := omega) [impl_BytesValid_t_b0, hi, a_wrap, byteOk]
        by_cases h1 : xs[i] < 0
        · have : ¬ (0 ≤ xs[i] ∧ xs[i] ≤ 255) := by omega
          simp [h1, this]
        · by_cases h2 : 255 < xs[i]
          · have : ¬ (0 ≤ xs[i] ∧ xs[i] ≤ 255) := by omega
            simp [h1, h2, this]
          · have : (0 ≤ xs[i] ∧ xs[i] ≤ 255) := by omega
            simp [h1, h2, this])
      (by simp [impl_BytesValid_t_b0]) (k := k) (by omega)
    rw [all_range] at h
    simp only [Int.natCast_zero, Int.ofNat_zero] at h
    simp only [impl_BytesValid_t, a_cndS, a_ltI, a_lenL, hl, decide_false, Bool.false_eq_true, if_false, h, a_obind_some, bytesOk, hl', decide_true, Bool.true_and]
    cases xs.all byteOk <;> simp
def total (ws : List (List Int)) : Int := (ws.map fun w => (w.length : Int)).sum
theorem total_snoc (ws : List (List Int)) (w : List Int) : total (ws ++ [w]) = total ws + w.length := by simp [total]
theorem total_take {ws : List (List Int)} {i : Nat} (hi : i < ws.length) : total (ws.take (i + 1)) = total (ws.take i) + (ws[i].length : Int) := by
  rw [List.take_succ_eq_append_getElem hi, total_snoc]
theorem total_bound {ws : List (List Int)} (h : ∀ w ∈ ws, w.length ≤ 1000000000) : 0 ≤ total ws ∧ total ws ≤ 1000000000 * (ws.length : Int) := by
  induction ws with
  | nil => simp [total]
  | cons w ws ih =>
    have h1 := h w (by simp)
    have h2 := ih fun x hx => h x (by simp [hx])
    simp only [total, List.map_cons, List.sum_cons, List.length_cons] at h2 ⊢
    omega
def writeOk (w : List Int) : Bool := !decide (w.length = 0) && bytesOk w
def diskOk (d : Dsk) : Bool := bytesOk d.1 && (decide (d.2.1.length ≤ 8) && (d.2.1.all writeOk && decide ((d.1.length : Int) + total d.2.1 ≤ 2000)))
theorem spec_DiskValid_eq (k : Nat) (hk : 3000 ≤ k) (d : Dsk) (h1 : d.1.length ≤ 1000000000) (h2 : ∀ w ∈ d.2.1, w.length ≤ 1000000000) : spec_DiskValid_t A k (d, ()) () = some ((diskOk d, ()), ()) := by
  obtain ⟨b, ws, _⟩ := d
  simp only at h1 h2
  simp only [spec_DiskValid_t, spec_BytesValid_eq k hk, a_obind_some, a_cndS, a_notB, a_ltI, a_lenL, diskOk]
  rcases Bool.eq_false_or_eq_true (bytesOk b) with hb | hb
  case inr => simp [hb]
  by_cases hw : (8 : Int) < ws.length
  · have : ¬ ws.length ≤ 8 := by omega
    simp [hb, hw, this]
  have hw' : ws.length ≤ 8 := by omega
  have h := iter_all (A := A) (f := spec_DiskValid_t_b0 A k) (fun i => ((b.length : Int) + total (ws.take i), ((i : Int), ((b, (ws, ())), ())))) ws.length (fun i => writeOk (ws.getD i [])) (.inr ((false, ()), ())) (.inl ((b.length : Int) + total ws, ()))
    (fun i hi => by
      have hi' : (i : Int) < (ws.length : Int) := by omega
      have w : A.wrapI .i64 ((i : Int) + 1) = (i : Int) + 1 := a_wrap (by omega) (by omega)
      have tb := total_bound (ws := ws.take i) fun x hx => h2 x (List.mem_of_mem_take hx)
      have hl := h2 ws[i] (List.getElem_mem hi)
      have hll : ((ws.take i).length : Int) ≤ 8 := by simp; omega
      have w2 : A.wrapI .i64 ((b.length : Int) + total (ws.take i) + (ws[i].length : Int)) = (b.length : Int) + total (ws.take i) + (ws[i].length : Int) := a_wrap (by omega) (by omega)
      rw [getD_lt hi]
      rcases Bool.eq_false_or_eq_true (bytesOk ws[i]) with hbi | hbi
      · by_cases h0 : ws[i].length = 0
        · have h0' : ws[i] = [] := List.eq_nil_of_length_eq_zero h0
          simp [spec_DiskValid_t_b0, hi, writeOk, h0']
        · have h0' : ¬ ws[i] = [] := fun e => h0 (by rw [e]; rfl)
          simp [spec_DiskValid_t_b0, hi, writeOk, h0, h0', hbi, spec_BytesValid_eq k hk, w, w2, total_take hi, Int.add_assoc]
          rw [← Int.add_assoc]; exact w2
      · by_cases h0 : ws[i].length = 0
        · have h0' : ws[i] = [] := List.eq_nil_of_length_eq_zero h0
          simp [spec_DiskValid_t_b0, hi, writeOk, h0']
        · have h0' : ¬ ws[i] = [] := fun e => h0 (by rw [e]; rfl)
          simp [spec_DiskValid_t_b0, hi, writeOk, h0, h0', hbi, spec_BytesValid_eq k hk])
    (by simp [spec_DiskValid_t_b0]) (k := k) (by omega)
  rw [all_range] at h
  have t0 : total (ws.take 0) = 0 := by simp [total]
  simp only [Int.natCast_zero, Int.ofNat_zero, t0, Int.add_zero] at h
  simp only [hb, hw, hw', Bool.not_true, Bool.false_eq_true, if_false, decide_false, decide_true, a_sumE_inl, h, a_obind_some, Bool.true_and]
  cases ws.all writeOk <;> simp
end Go.Den.T
