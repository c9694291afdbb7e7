/- Disks: the program's check, and what encoding comes to. -/
import Derived.Test.YtkgmjndeeljpjaaXD2
import Derived.Test.YtkgmjndeeljpjaaXK1

namespace Go.Den.T
set_option linter.unusedVariables false
set_option linter.unusedSimpArgs false
set_option linter.unusedSectionVars false
variable {A : Atoms} [IsReal A]
theorem impl_DiskValid_eq (k : Nat) (hk : 3000 ≤ k) (d : Dsk) (h1 : d.1.length ≤ 1000000000) (h2 : ∀ w ∈ d.2.1, w.length ≤ 1000000000) : impl_DiskValid_t A k (d, ()) () = some ((diskOk d, ()), ()) := by
  obtain ⟨b, ws, _⟩ := d
  simp only at h1 h2
  simp only [impl_DiskValid_t, a_obind_some, a_cndS, a_notB, a_ltI, a_lenL, diskOk]
  by_cases hw : (8 : Int) < ws.length
  · have : ¬ ws.length ≤ 8 := by omega
    simp [hw, this]
  have hw' : ws.length ≤ 8 := by omega
  rcases Bool.eq_false_or_eq_true (bytesOk b) with hb | hb
  case inr => simp [hb, hw, impl_BytesValid_eq k hk]
  have h := iter_all (A := A) (f := impl_DiskValid_t_b0 A k) (fun i => ((b.length : Int) + total (ws.take i), (ws, ((ws.length : Int), ((i : Int), ()))))) ws.length (fun i => writeOk (ws.getD i [])) (.inr ((false, ()), ())) (.inl ((b.length : Int) + total ws, ()))
    (fun i hi => by
      have hi' : (i : Int) < (ws.length : Int) := by omega
      have w : A.wrapI .i64 ((i : Int) + 1) = (i : Int) + 1 := a_wrap (by omega) (by omega)
      have tb := total_bound (ws := ws.take i) fun x hx => h2 x (List.mem_of_mem_take hx)
      have hl := h2 ws[i] (List.getElem_mem hi)
      have hll : ((ws.take i).length : Int) ≤ 8 := by simp; omega
      have w2 : A.wrapI .i64 ((b.length : Int) + total (ws.take i) + (ws[i].length : Int)) = (b.length : Int) + total (ws.take i) + (ws[i].length : Int) := a_wrap (by omega) (by omega)
      rw [getD_lt hi]
      rcases Bool.eq_false_or_eq_true (bytesOk ws[i]) with hbi | hbi
      · by_cases h0 : ws[i].length = 0
        · have h0' : ws[i] = [] := List.eq_nil_of_length_eq_zero h0
          simp [impl_DiskValid_t_b0, hi, writeOk, h0']
        · have h0' : ¬ ws[i] = [] := fun e => h0 (by rw [e]; rfl)
          simp [impl_DiskValid_t_b0, hi, writeOk, h0, h0', hbi, impl_BytesValid_eq k hk, w, w2, total_take hi, Int.add_assoc]
          rw [← Int.add_assoc]; exact w2
      · by_cases h0 : ws[i].length = 0
        · have h0' : ws[i] = [] := List.eq_nil_of_length_eq_zero h0
          simp [impl_DiskValid_t_b0, hi, writeOk, h0']
        · have h0' : ¬ ws[i] = [] := fun e => h0 (by rw [e]; rfl)
          simp [impl_DiskValid_t_b0, hi, writeOk, h0, h0', hbi, impl_BytesValid_eq k hk])
    (by simp [impl_DiskValid_t_b0]) (k := k) (by omega)
  rw [all_range] at h
  have t0 : total (ws.take 0) = 0 := by simp [total]
  simp only [Int.natCast_zero, Int.ofNat_zero, t0, Int.add_zero] at h
  simp only [hb, hw, hw', impl_BytesValid_eq k hk, Bool.not_true, Bool.false_eq_true, if_false, decide_false, decide_true, a_sumE_inl, a_lenL, h, a_obind_some, Bool.true_and]
  cases ws.all writeOk <;> simp
/-- a disk whose lists are short -/
def DskS (d : Dsk) : Prop := d.1.length ≤ 100000 ∧ d.2.1.length ≤ 1000 ∧ ∀ w ∈ d.2.1, w.length ≤ 100000
theorem diskOk_len {d : Dsk} (h : diskOk d = true) : d.1.length ≤ 2000 ∧ d.2.1.length ≤ 8 ∧ (∀ w ∈ d.2.1, w.length ≤ 2000 ∧ w.length ≠ 0) ∧ (d.1.length : Int) + total d.2.1 ≤ 2000 := by
  simp only [diskOk, bytesOk, Bool.and_eq_true, decide_eq_true_eq, List.all_eq_true] at h
  refine ⟨h.1.1, h.2.1, fun w hw => ?_, h.2.2.2⟩
  have := h.2.2.1 w hw
  simp only [writeOk, bytesOk, Bool.and_eq_true, decide_eq_true_eq, Bool.not_eq_true', decide_eq_false_iff_not] at this
  exact ⟨this.2.1, this.1⟩
/-! ### numbers and texts, encoded -/
theorem EncodeNumber_ok (k : Nat) (hk : 100 ≤ k) (n : Int) : Ok (spec_EncodeNumber_t A k (n, ()) ()) (fun q => q.1.1.length ≤ 5) := by
  rw [spec_EncodeNumber_t, l1In_eq, a_obind_some, ok_cndS]
  refine ⟨fun _ => ok_some.2 (by simp), fun h => ?_⟩
  simp at h
  have e4 : (128 : Nat) ^ (3 + 1) = 268435456 := by decide
  have start : ∃ m : Nat, n = (m : Int) ∧ m < 128 ^ (3 + 1) ∧ ([] : List Int).length + 3 ≤ 3 := ⟨n.toNat, by omega, by omega, by simp⟩
  refine Ok.bind (P := fun e : Int × (List Int × Unit) => e.2.1.length ≤ 4) (iter_ok (fun j (s : Int × (List Int × Unit)) => ∃ m : Nat, s.1 = (m : Int) ∧ m < 128 ^ (j + 1) ∧ s.2.1.length + j ≤ 3) _ ?_ (n := 3) (by omega) start) fun e he => ?_
  · rintro j ⟨x, l, _⟩ ⟨m, h1, h2, h3⟩
    simp only at h1 h2 h3
    subst h1
    rw [spec_EncodeNumber_t_b0, ok_cndS]
    simp only [a_ltI, decide_eq_true_eq, decide_eq_false_iff_not]
    refine ⟨fun hgt => ?_, fun hle => ok_some.2 ⟨fun s' e => (by cases e), fun e he => (by injection he with he; subst he; show l.length ≤ 4; omega)⟩⟩
    have hj : j ≠ 0 := by rintro rfl; simp at h2; omega
    have hd : ((m : Int)).tdiv 128 = ((m / 128 : Nat) : Int) := rfl
    have hw : A.wrapI .i64 (A.quoI (m : Int) 128) = ((m / 128 : Nat) : Int) := by
      rw [a_quoI, hd]
      have : m < 128 ^ (3 + 1) := Nat.lt_of_lt_of_le h2 (Nat.pow_le_pow_right (by decide) (by omega))
      have e : (128 : Nat) ^ (3 + 1) = 268435456 := by decide
      exact a_wrap (by omega) (by omega)
    have hlen : (l.length : Int) + 1 < 4294967296 := by omega
    refine ⟨.inl (((m / 128 : Nat) : Int), (l ++ [A.wrapI .i64 (A.addI 128 (A.remI (m : Int) 128))], ())), ?_, fun s' e => ?_, fun e he => (by cases he)⟩
    · rw [hw]; simp [hlen]
    · injection e with e; subst e
      refine ⟨j - 1, by omega, m / 128, rfl, ?_, by simp; omega⟩
      have : j - 1 + 1 = j := by omega
      rw [this]
      rw [Nat.pow_succ] at h2
      exact Nat.div_lt_of_lt_mul (by rw [Nat.mul_comm]; exact h2)
  · rw [ok_cndS]
    refine ⟨fun _ => ok_some.2 (by simp; exact he), fun hc => ?_⟩
    simp at hc; omega
end Go.Den.T
