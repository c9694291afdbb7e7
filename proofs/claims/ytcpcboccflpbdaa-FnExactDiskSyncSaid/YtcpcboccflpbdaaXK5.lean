/- Disks: crashes and syncs; the law on syncs. -/
import Derived.Test.YtcpcboccflpbdaaXC5
import Derived.Test.YtcpcboccflpbdaaXK4

namespace Go.Den.T
set_option linter.unusedVariables false
set_option linter.unusedSimpArgs false
set_option linter.unusedSectionVars false
section
variable {A : Atoms} [IsReal A]
/-- a disk whose lists fit -/
def DskF (d : Dsk) : Prop := d.1.length ≤ 1000000000 ∧ ∀ w ∈ d.2.1, w.length ≤ 1000000000
theorem flatten_le {ws : List (List Int)} {m : Nat} (h : ∀ w ∈ ws, w.length ≤ m) : ws.flatten.length ≤ m * ws.length := by
  induction ws with
  | nil => simp
  | cons w ws ih =>
    have h1 := h w (by simp)
    have h2 := ih fun x hx => h x (by simp [hx])
    rw [List.flatten_cons, List.length_append, List.length_cons, Nat.mul_succ]
    omega
theorem flatten_take {ws : List (List Int)} {i : Nat} (hi : i < ws.length) : (ws.take (i + 1)).flatten = (ws.take i).flatten ++ ws[i] := by
  rw [List.take_succ_eq_append_getElem hi, List.flatten_append]; congr 1; exact List.append_nil _
def next (d : Dsk) (keep : Int) : List Int := d.2.1.getD keep.toNat []
def crash (d : Dsk) (keep torn : Int) : Dsk :=
  if (diskOk d && (decide (0 ≤ keep ∧ keep ≤ d.2.1.length) && decide (0 ≤ torn ∧ torn ≤ (next d keep).length))) = true then (d.1 ++ (d.2.1.take keep.toNat).flatten ++ (next d keep).take torn.toNat, ([], ())) else dsk0
theorem impl_crash_loop (k : Nat) (torn : Int) (nx b : List Int) (ws : List (List Int)) (hk : ws.length < k) (hb : b.length ≤ 2000) (hl : ws.length ≤ 8) (hw : ∀ w ∈ ws, w.length ≤ 2000) :
    A.iter k (impl_DiskCrash_t_b0 A k) (torn, (nx, (b, (ws, ((ws.length : Int), ((0 : Int), (dsk0, ()))))))) = some (torn, (nx, (b ++ ws.flatten, (dsk0, ())))) := by
  have h := iter_for (A := A) (f := impl_DiskCrash_t_b0 A k) (fun i => (torn, (nx, (b ++ (ws.take i).flatten, (ws, ((ws.length : Int), ((i : Int), (dsk0, ()))))))) ) ws.length (torn, (nx, (b ++ ws.flatten, (dsk0, ()))))
    (fun i hi => by
      have hwi := hw ws[i] (List.getElem_mem hi)
      have tl : ((ws.take i).flatten).length ≤ 2000 * 8 := Nat.le_trans (flatten_le fun w hw' => hw w (List.mem_of_mem_take hw')) (Nat.mul_le_mul_left _ (by simp; omega))
      have g : (((b ++ (ws.take i).flatten).length : Nat) : Int) + (ws[i].length : Int) < 4294967296 := by rw [List.length_append]; omega
      have hi' : (i : Int) < (ws.length : Int) := by omega
      have w : A.wrapI .i64 ((i : Int) + 1) = (i : Int) + 1 := a_wrap (by omega) (by omega)
      simp only [impl_DiskCrash_t_b0, a_cndS, a_ltI, a_lenL, a_le0, a_andB, hi', Int.natCast_nonneg, decide_true, Bool.and_self, if_true, a_atL, Int.toNat_natCast, getD_lt hi, a_addI, a_big, g, w, a_appL, flatten_take hi]
      simp)
    (by simp [impl_DiskCrash_t_b0]) hk
  simp only [List.take_zero, List.flatten_nil, List.append_nil, Int.natCast_zero, Int.ofNat_zero] at h
  exact h
theorem next_eq {b : List Int} {ws : List (List Int)} {u : Unit} {n : Nat} : next (b, (ws, u)) (n : Int) = if n < ws.length then ws.getD n [] else [] := by
  simp only [next, Int.toNat_natCast]
  split
  · rfl
  · rename_i h; simp only [List.getD_eq_getElem?_getD, List.getElem?_eq_none (Nat.not_lt.1 h), Option.getD_none]
theorem impl_DiskCrash_eq (k : Nat) (hk : 3000 ≤ k) (d : Dsk) (hf : DskF d) (keep torn : Int) : impl_DiskCrash_t A k (d, (keep, (torn, ()))) () = some ((crash d keep torn, ()), ()) := by
  rw [← ok_eq, impl_DiskCrash_t, impl_DiskValid_eq k hk d hf.1 hf.2, a_obind_some]
  rcases Bool.eq_false_or_eq_true (diskOk d) with hd | hd
  case inr => simp [hd, crash, ok_some]
  obtain ⟨b, ws, _⟩ := d
  have hl := diskOk_len hd
  simp only at hl
  by_cases h1 : 0 ≤ keep ∧ keep ≤ ws.length
  case neg =>
    by_cases h0 : keep < 0
    · simp [hd, crash, ok_some, h1, h0]
    · have h2 : (ws.length : Int) < keep := by omega
      simp [hd, crash, ok_some, h1, h0, h2]
  obtain ⟨n, rfl⟩ : ∃ n : Nat, keep = n := ⟨keep.toNat, by omega⟩
  have h0 : ¬ (n : Int) < 0 := by omega
  have h2 : ¬ (ws.length : Int) < (n : Int) := by omega
  simp only [hd, a_notB, Bool.not_true, a_cndS, Bool.false_eq_true, if_false, if_true, a_ltI, h0, h2, decide_false, a_lenL, a_obind_some, a_sumE_inl]
  refine Ok.bind (P := fun r => r = ((n : Int), (torn, (next (b, (ws, ())) (n : Int), ((b, (ws, ())), (dsk0, ())))))) ?_ fun r hr => ?_
  · rw [next_eq, ok_eq]
    by_cases hn : n < ws.length
    · have hn' : (n : Int) < ws.length := by omega
      simp [hn, hn']
    · have hn' : ¬ (n : Int) < ws.length := by omega
      simp [hn, hn']
  subst hr
  generalize hx : next (b, (ws, ())) (n : Int) = nx
  have hnx : nx.length ≤ 2000 := by
    rw [← hx, next_eq]; split
    · rename_i hn; rw [getD_lt hn]; exact (hl.2.2.1 _ (List.getElem_mem hn)).1
    · simp
  by_cases h3 : 0 ≤ torn ∧ torn ≤ nx.length
  case neg =>
    by_cases h4 : torn < 0
    · simp [h4, ok_some, crash, hx, h3]
    · have h5 : (nx.length : Int) < torn := by omega
      simp [h4, h5, ok_some, crash, hx, h3]
  obtain ⟨t, rfl⟩ : ∃ t : Nat, torn = t := ⟨torn.toNat, by omega⟩
  have h4 : ¬ (t : Int) < 0 := by omega
  have h5 : ¬ (nx.length : Int) < (t : Int) := by omega
  have hc := impl_crash_loop (A := A) k (t : Int) nx b (ws.take n) (by simp; omega) hl.1 (by simp; omega) (fun w hw => (hl.2.2.1 w (List.mem_of_mem_take hw)).1)
  have tl : ((ws.take n).flatten).length ≤ 2000 * 8 := Nat.le_trans (flatten_le fun w hw' => (hl.2.2.1 w (List.mem_of_mem_take hw')).1) (Nat.mul_le_mul_left _ (by simp; omega))
  have tn : (nx.take t).length ≤ nx.length := by rw [List.length_take]; omega
  have g : (((b ++ (ws.take n).flatten).length : Nat) : Int) + (((nx.take t).length : Nat) : Int) < 4294967296 := by rw [List.length_append]; omega
  have h6 : (n : Int) ≤ ws.length := by omega
  have h7 : (t : Int) ≤ nx.length := by omega
  simp only [h4, h5, decide_false, Bool.false_eq_true, if_false, a_obind_some, a_sumE_inl, copyOf_int_eq k b (by omega), a_le0, a_leI, Int.natCast_nonneg, decide_true, h6, h7, a_andB, Bool.and_self, if_true, a_takeL, Int.toNat_natCast, hc, a_addI, a_big, g, a_appL]
  rw [ok_some]
  simp [crash, hd, hx, h6, h7]
theorem crash_all (d : Dsk) : crash d d.2.1.length 0 = sync d := by
  simp only [crash, sync, Int.toNat_natCast]
  rcases Bool.eq_false_or_eq_true (diskOk d) with hd | hd
  · simp [hd]
  · simp [hd]
theorem impl_DiskSync_eq (k : Nat) (hk : 3000 ≤ k) (d : Dsk) (hf : DskF d) : impl_DiskSync_t A k (d, ()) () = some ((sync d, ()), ()) := by
  rw [impl_DiskSync_t, impl_DiskValid_eq k hk d hf.1 hf.2, a_obind_some]
  rcases Bool.eq_false_or_eq_true (diskOk d) with hd | hd
  · simp [hd, impl_DiskCrash_eq k hk d hf, crash_all]
  · simp [hd, sync]
theorem spec_DiskSync_eq' (k : Nat) (hk : 3000 ≤ k) (d : Dsk) (hf : DskF d) : spec_DiskSync_t A k (d, ()) () = some ((sync d, ()), ()) := by
  rcases Bool.eq_false_or_eq_true (diskOk d) with hd | hd
  · have hl := diskOk_len hd
    exact spec_DiskSync_eq k hk d ⟨by omega, by omega, fun w hw => by have := (hl.2.2.1 w hw).1; omega⟩
  · simp [spec_DiskSync_t, spec_DiskValid_eq k hk d hf.1 hf.2, hd, sync]
theorem DskT.f {d : Dsk} (h : DskT d) : DskF d := h.fit
end
end Go.Den.T
