/- Disks: the program's check, and what encoding comes to. -/
import Derived.Test.YtcpcboccflpbdaaXD2
import Derived.Test.YtcpcboccflpbdaaXK1

namespace Go.Den.T
set_option linter.unusedVariables false
set_option linter.unusedSimpArgs false
set_option linter.unusedSectionVars false
variable {A : Atoms} [IsReal A]
theorem impl_DiskValid_eq (k : Nat) (hk : 3000 ≤ k) (d : Dsk) (h1 : d.1.length ≤ 1000000000) (h2 : ∀ w ∈ d.2.1, w.length ≤ 1000000000) : impl_DiskValid_t A k (d, ()) () = some ((diskOk d, ()), ()) := by
  obtain ⟨b, ws, _⟩ := d
  simp only at h1 h2
  simp only [impl_DiskValid_t, a_obind_some, a_cndS, a_notB, a_ltI, a_lenL, diskOk]
  by_cases hw : (8 : Int) < ws.length
  · have : ¬ ws.length ≤ 8 := by omega
    simp [hw, this]
  have hw' : ws.length ≤ 8 := by omega
  rcases Bool.eq_false_or_eq_true (bytesOk b) with hb | hb
  case inr => simp [hb, hw, impl_BytesValid_eq k hk]
  have h := iter_all (A := A) (f := impl_DiskValid_t_b0 A k) (fun i => ((b.length : Int) + total (ws.take i), (ws, ((ws.length : Int), ((i : Int), ()))))) ws.length (fun i => writeOk (ws.getD i [])) (.inr ((false, ()), ())) (.inl ((b.length : Int) + total ws, ()))
    (fun i hi => by
      have hi' : (i : Int) < (ws.length : Int) := by omega
      have w : A.wrapI .i64 ((i : Int) + 1) = (i : Int) + 1 := a_wrap (by omega) (by omega)
      have tb := total_bound (ws := ws.take i) fun x hx => h2 x (List.mem_of_mem_take hx)
      have hl := h2 ws[i] (List.getElem_mem hi)
      have hll : ((ws.take i).length : Int) ≤ 8 := by simp; omega
      have w2 : A.wrapI .i64 ((b.length : Int) + total (ws.take i) + (ws[i].length : Int)) = (b.length : Int) + total (ws.take i) + (ws[i].length : Int) := a_wrap (by omega) (by omega)
      rw [getD_lt hi]
      rcases Bool.eq_false_or_eq_true (bytesOk ws[i]) with hbi | hbi
      · by_cases h0 : ws[i].length = 0
        · have h0' : ws[i] = [] := List.eq_nil_of_length_eq_zero h0
          simp [impl_DiskValid_t_b0, hi, writeOk, h0']
        · have h0' : ¬ ws[i] = [] := fun e => h0 (by rw [e]; rfl)
          simp [impl_DiskValid_t_b0, hi, writeOk, h0, h0', hbi, impl_BytesValid_eq k hk, w, w2, total_take hi, Int.add_assoc]
          rw [← Int.add_assoc]; exact w2
      · by_cases h0 : ws[i].length = 0
        · have h0' : ws[i] = [] := List.eq_nil_of_length_eq_zero h0
          simp [impl_DiskValid_t_b0, hi, writeOk, h0']
        · have h0' : ¬ ws[i] = [] := fun e => h0 (by rw [e]; rfl)
          simp [impl_DiskValid_t_b0, hi, writeOk, h0, h0', hbi, impl_BytesValid_eq k hk])
    (by simp [impl_DiskValid_t_b0]) (k := k) (by omega)
  rw [all_range] at h
  have t0 : total (ws.take 0) = 0 := by simp [total]
  simp only [Int.natCast_zero, Int.ofNat_zero, t0, Int.add_zero] at h
  simp only [hb, hw, hw', impl_BytesValid_eq k hk, Bool.not_true, Bool.false_eq_true, if_false, decide_false, decide_true, a_sumE_inl, a_lenL, h, a_obind_some, Bool.true_and]
  cases ws.all writeOk <;> simp
/-- a disk whose lists are short -/
def DskS (d : Dsk) : Prop := d.1.length ≤ 100000 ∧ d.2.1.length ≤ 1000 ∧ ∀ w ∈ d.2.1, w.length ≤ 100000
theorem diskOk_len {d : Dsk} (h : diskOk d = true) : d.1.length ≤ 2000 ∧ d.2.1.length ≤ 8 ∧ (∀ w ∈ d.2.1, w.length ≤ 2000 ∧ w.length ≠ 0) ∧ (d.1.length : Int) + total d.2.1 ≤ 2000 := by
  simp only [diskOk, bytesOk, Bool.and_eq_true, decide_eq_true_eq, List.all_eq_true] at h
  refine ⟨h.1.1, h.2.1, fun w hw => ?_, h.2.2.2⟩
  have := h.2.2.1 w hw
  simp only [writeOk, bytesOk, Bool.and_eq_true, decide_eq_true_eq, Bool.not_eq_true', decide_eq_false_iff_not] at this
  exact ⟨this.2.1, this.1⟩
/-! ### numbers and texts, encoded -/
end Go.Den.T
