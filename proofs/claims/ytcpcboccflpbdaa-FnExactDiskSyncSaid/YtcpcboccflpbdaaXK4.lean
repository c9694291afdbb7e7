/- Disks drawn; the law on valid disks. -/
import Derived.Test.YtcpcboccflpbdaaXC4
import Derived.Test.YtcpcboccflpbdaaXK3

namespace Go.Den.T
set_option linter.unusedVariables false
set_option linter.unusedSimpArgs false
set_option linter.unusedSectionVars false
section
variable {A : Atoms} [IsReal A]
abbrev dsk0 : Dsk := ([], ([], ()))
theorem DskS.fit {d : Dsk} (h : DskS d) : d.1.length ≤ 1000000000 ∧ ∀ w ∈ d.2.1, w.length ≤ 1000000000 := ⟨by have := h.1; omega, fun w hw => by have := h.2.2 w hw; omega⟩
theorem flatten_total (ws : List (List Int)) : ((ws.flatten).length : Int) = total ws := by
  induction ws with
  | nil => rfl
  | cons w ws ih =>
    simp only [total, List.flatten_cons, List.length_append, List.map_cons, List.sum_cons] at ih ⊢
    omega
def sync (d : Dsk) : Dsk := if diskOk d = true then (d.1 ++ d.2.1.flatten, ([], ())) else dsk0
theorem spec_DiskSync_eq (k : Nat) (hk : 3000 ≤ k) (d : Dsk) (h : DskS d) : spec_DiskSync_t A k (d, ()) () = some ((sync d, ()), ()) := by
  have hf := h.fit
  obtain ⟨b, ws, _⟩ := d
  obtain ⟨h1, h2, h3⟩ := h
  simp only at h1 h2 h3
  simp only [spec_DiskSync_t, spec_DiskValid_eq k hk _ hf.1 hf.2, a_obind_some, a_cndS, a_notB, sync]
  rcases Bool.eq_false_or_eq_true (diskOk (b, (ws, ()))) with hd | hd
  case inr => simp [hd]
  have hl := diskOk_len hd
  simp only at hl
  have h := iter_for (A := A) (f := spec_DiskSync_t_b0 A k) (fun i => (b ++ (ws.take i).flatten, ((i : Int), ((b, (ws, ())), (dsk0, ()))))) ws.length (b ++ ws.flatten, (dsk0, ()))
    (fun i hi => by
      have hw := (hl.2.2.1 ws[i] (List.getElem_mem hi)).1
      have tf := flatten_total (ws.take i)
      have tb := total_bound (ws := ws.take i) fun x hx => by have := (hl.2.2.1 x (List.mem_of_mem_take hx)).1; omega
      have tl : ((ws.take i).flatten).length ≤ 20000 := by
        have e : ((ws.take i).flatten).length ≤ (ws.flatten).length := by
          conv => rhs; rw [← List.take_append_drop i ws]
          rw [List.flatten_append, List.length_append]; omega
        have := flatten_total ws
        omega
      have g : (((b ++ (ws.take i).flatten).length : Nat) : Int) + (ws[i].length : Int) < 4294967296 := by rw [List.length_append]; omega
      have hi' : (i : Int) < (ws.length : Int) := by omega
      have w : A.wrapI .i64 ((i : Int) + 1) = (i : Int) + 1 := a_wrap (by omega) (by omega)
      simp only [spec_DiskSync_t_b0, a_cndS, a_ltI, a_lenL, a_le0, a_andB, hi', Int.natCast_nonneg, decide_true, Bool.and_self, if_true, a_atL, Int.toNat_natCast, getD_lt hi, a_addI, a_big, g, w, a_appL]
      have e : (ws.take (i + 1)).flatten = (ws.take i).flatten ++ ws[i] := by rw [List.take_succ_eq_append_getElem hi, List.flatten_append]; congr 1; exact List.append_nil _
      rw [e]
      simp)
    (by simp [spec_DiskSync_t_b0]) (k := k) (by omega)
  have g0 : (b.length : Int) < 4294967296 := by omega
  simp at h
  simp [hd, g0, h]
def DskT (d : Dsk) : Prop := d.1.length ≤ 200000 ∧ d.2.1.length ≤ 2000 ∧ ∀ w ∈ d.2.1, w.length ≤ 200000
theorem DskS.t {d : Dsk} (h : DskS d) : DskT d := ⟨by have := h.1; omega, by have := h.2.1; omega, fun w hw => by have := h.2.2 w hw; omega⟩
theorem DskT.fit {d : Dsk} (h : DskT d) : d.1.length ≤ 1000000000 ∧ ∀ w ∈ d.2.1, w.length ≤ 1000000000 := ⟨by have := h.1; omega, fun w hw => by have := h.2.2 w hw; omega⟩
end
end Go.Den.T
