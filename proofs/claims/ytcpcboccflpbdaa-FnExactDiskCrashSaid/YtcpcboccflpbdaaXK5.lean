/- Disks: crashes and syncs; the law on syncs. -/
import Derived.Test.YtcpcboccflpbdaaXC5
import Derived.Test.YtcpcboccflpbdaaXK4

namespace Go.Den.T
set_option linter.unusedVariables false
set_option linter.unusedSimpArgs false
set_option linter.unusedSectionVars false
section
variable {A : Atoms} [IsReal A]
/-- a disk whose lists fit -/
def DskF (d : Dsk) : Prop := d.1.length ≤ 1000000000 ∧ ∀ w ∈ d.2.1, w.length ≤ 1000000000
theorem flatten_le {ws : List (List Int)} {m : Nat} (h : ∀ w ∈ ws, w.length ≤ m) : ws.flatten.length ≤ m * ws.length := by
  induction ws with
  | nil => simp
  | cons w ws ih =>
    have h1 := h w (by simp)
    have h2 := ih fun x hx => h x (by simp [hx])
    rw [List.flatten_cons, List.length_append, List.length_cons, Nat.mul_succ]
    omega
theorem flatten_take {ws : List (List Int)} {i : Nat} (hi : i < ws.length) : (ws.take (i + 1)).flatten = (ws.take i).flatten ++ ws[i] := by
  rw [List.take_succ_eq_append_getElem hi, List.flatten_append]; congr 1; exact List.append_nil _
def next (d : Dsk) (keep : Int) : List Int := d.2.1.getD keep.toNat []
def crash (d : Dsk) (keep torn : Int) : Dsk :=
  if (diskOk d && (decide (0 ≤ keep ∧ keep ≤ d.2.1.length) && decide (0 ≤ torn ∧ torn ≤ (next d keep).length))) = true then (d.1 ++ (d.2.1.take keep.toNat).flatten ++ (next d keep).take torn.toNat, ([], ())) else dsk0
theorem impl_crash_loop (k : Nat) (torn : Int) (nx b : List Int) (ws : List (List Int)) (hk : ws.length < k) (hb : b.length ≤ 2000) (hl : ws.length ≤ 8) (hw : ∀ w ∈ ws, w.length ≤ 2000) :
    A.iter k (impl_DiskCrash_t_b0 A k) (torn, (nx, (b, (ws, ((ws.length : Int), ((0 : Int), (dsk0, ()))))))) = some (torn, (nx, (b ++ ws.flatten, (dsk0, ())))) := by
  have h := iter_for (A := A) (f := impl_DiskCrash_t_b0 A k) (fun i => (torn, (nx, (b ++ (ws.take i).flatten, (ws, ((ws.length : Int), ((i : Int), (dsk0, ()))))))) ) ws.length (torn, (nx, (b ++ ws.flatten, (dsk0, ()))))
    (fun i hi => by
      have hwi := hw ws[i] (List.getElem_mem hi)
      have tl : ((ws.take i).flatten).length ≤ 2000 * 8 := Nat.le_trans (flatten_le fun w hw' => hw w (List.mem_of_mem_take hw')) (Nat.mul_le_mul_left _ (by simp; omega))
      have g : (((b ++ (ws.take i).flatten).length : Nat) : Int) + (ws[i].length : Int) < 4294967296 := by rw [List.length_append]; omega
      have hi' : (i : Int) < (ws.length : Int) := by omega
      have w : A.wrapI .i64 ((i : Int) + 1) = (i : Int) + 1 := a_wrap (by omega) (by omega)
      simp only [impl_DiskCrash_t_b0, a_cndS, a_ltI, a_lenL, a_le0, a_andB, hi', Int.natCast_nonneg, decide_true, Bool.and_self, if_true, a_atL, Int.toNat_natCast, getD_lt hi, a_addI, a_big, g, w, a_appL, flatten_take hi]
      simp)
    (by simp [impl_DiskCrash_t_b0]) hk
  simp only [List.take_zero, List.flatten_nil, List.append_nil, Int.natCast_zero, Int.ofNat_zero] at h
  exact h
theorem spec_crash_loop (k : Nat) (torn : Int) (b : List Int) (d z : Dsk) (n : Nat) (hk : n < k) (hn : n ≤ d.2.1.length) (hb : b.length ≤ 2000) (hl : d.2.1.length ≤ 8) (hw : ∀ w ∈ d.2.1, w.length ≤ 2000) :
    A.iter k (spec_DiskCrash_t_b0 A k) ((n : Int), (torn, (b, ((0 : Int), (d, (z, ())))))) = some ((n : Int), (torn, (b ++ (d.2.1.take n).flatten, (d, (z, ()))))) := by
  have h := iter_for (A := A) (f := spec_DiskCrash_t_b0 A k) (fun i => ((n : Int), (torn, (b ++ (d.2.1.take i).flatten, ((i : Int), (d, (z, ()))))))) n ((n : Int), (torn, (b ++ (d.2.1.take n).flatten, (d, (z, ())))))
    (fun i hi => by
      have hid : i < d.2.1.length := by omega
      have hwi := hw d.2.1[i] (List.getElem_mem hid)
      have tl : ((d.2.1.take i).flatten).length ≤ 2000 * 8 := Nat.le_trans (flatten_le fun w hw' => hw w (List.mem_of_mem_take hw')) (Nat.mul_le_mul_left _ (by simp; omega))
      have g : (((b ++ (d.2.1.take i).flatten).length : Nat) : Int) + (d.2.1[i].length : Int) < 4294967296 := by rw [List.length_append]; omega
      have hi' : (i : Int) < (d.2.1.length : Int) := by omega
      have hin : (i : Int) < (n : Int) := by omega
      have w : A.wrapI .i64 ((i : Int) + 1) = (i : Int) + 1 := a_wrap (by omega) (by omega)
      simp only [spec_DiskCrash_t_b0, a_cndS, a_ltI, a_lenL, a_le0, a_andB, hi', hin, Int.natCast_nonneg, decide_true, Bool.and_self, if_true, a_atL, Int.toNat_natCast, getD_lt hid, a_addI, a_big, g, w, a_appL, flatten_take hid]
      simp)
    (by simp [spec_DiskCrash_t_b0]) hk
  simp only [List.take_zero, List.flatten_nil, List.append_nil, Int.natCast_zero, Int.ofNat_zero] at h
  exact h
theorem next_eq {b : List Int} {ws : List (List Int)} {u : Unit} {n : Nat} : next (b, (ws, u)) (n : Int) = if n < ws.length then ws.getD n [] else [] := by
  simp only [next, Int.toNat_natCast]
  split
  · rfl
  · rename_i h; simp only [List.getD_eq_getElem?_getD, List.getElem?_eq_none (Nat.not_lt.1 h), Option.getD_none]
theorem impl_DiskCrash_eq (k : Nat) (hk : 3000 ≤ k) (d : Dsk) (hf : DskF d) (keep torn : Int) : impl_DiskCrash_t A k (d, (keep, (torn, ()))) () = some ((crash d keep torn, ()), ()) := by
  rw [← ok_eq, impl_DiskCrash_t, impl_DiskValid_eq k hk d hf.1 hf.2, a_obind_some]
  rcases Bool.eq_false_or_eq_true (diskOk d) with hd | hd
  case inr => simp [hd, crash, ok_some]
  obtain ⟨b, ws, _⟩ := d
  have hl := diskOk_len hd
  simp only at hl
  by_cases h1 : 0 ≤ keep ∧ keep ≤ ws.length
  case neg =>
    by_cases h0 : keep < 0
    · simp [hd, crash, ok_some, h1, h0]
    · have h2 : (ws.length : Int) < keep := by omega
      simp [hd, crash, ok_some, h1, h0, h2]
  obtain ⟨n, rfl⟩ : ∃ n : Nat, keep = n := ⟨keep.toNat, by omega⟩
  have h0 : ¬ (n : Int) < 0 := by omega
  have h2 : ¬ (ws.length : Int) < (n : Int) := by omega
  simp only [hd, a_notB, Bool.not_true, a_cndS, Bool.false_eq_true, if_false, if_true, a_ltI, h0, h2, decide_false, a_lenL, a_obind_some, a_sumE_inl]
  refine Ok.bind (P := fun r => r = ((n : Int), (torn, (next (b, (ws, ())) (n : Int), ((b, (ws, ())), (dsk0, ())))))) ?_ fun r hr => ?_
  · rw [next_eq, ok_eq]
    by_cases hn : n < ws.length
    · have hn' : (n : Int) < ws.length := by omega
      simp [hn, hn']
    · have hn' : ¬ (n : Int) < ws.length := by omega
      simp [hn, hn']
  subst hr
  generalize hx : next (b, (ws, ())) (n : Int) = nx
  have hnx : nx.length ≤ 2000 := by
    rw [← hx, next_eq]; split
    · rename_i hn; rw [getD_lt hn]; exact (hl.2.2.1 _ (List.getElem_mem hn)).1
    · simp
  by_cases h3 : 0 ≤ torn ∧ torn ≤ nx.length
  case neg =>
    by_cases h4 : torn < 0
    · simp [h4, ok_some, crash, hx, h3]
    · have h5 : (nx.length : Int) < torn := by omega
      simp [h4, h5, ok_some, crash, hx, h3]
  obtain ⟨t, rfl⟩ : ∃ t : Nat, torn = t := ⟨torn.toNat, by omega⟩
  have h4 : ¬ (t : Int) < 0 := by omega
  have h5 : ¬ (nx.length : Int) < (t : Int) := by omega
  have hc := impl_crash_loop (A := A) k (t : Int) nx b (ws.take n) (by simp; omega) hl.1 (by simp; omega) (fun w hw => (hl.2.2.1 w (List.mem_of_mem_take hw)).1)
  have tl : ((ws.take n).flatten).length ≤ 2000 * 8 := Nat.le_trans (flatten_le fun w hw' => (hl.2.2.1 w (List.mem_of_mem_take hw')).1) (Nat.mul_le_mul_left _ (by simp; omega))
  have tn : (nx.take t).length ≤ nx.length := by rw [List.length_take]; omega
  have g : (((b ++ (ws.take n).flatten).length : Nat) : Int) + (((nx.take t).length : Nat) : Int) < 4294967296 := by rw [List.length_append]; omega
  have h6 : (n : Int) ≤ ws.length := by omega
  have h7 : (t : Int) ≤ nx.length := by omega
  simp only [h4, h5, decide_false, Bool.false_eq_true, if_false, a_obind_some, a_sumE_inl, copyOf_int_eq k b (by omega), a_le0, a_leI, Int.natCast_nonneg, decide_true, h6, h7, a_andB, Bool.and_self, if_true, a_takeL, Int.toNat_natCast, hc, a_addI, a_big, g, a_appL]
  rw [ok_some]
  simp [crash, hd, hx, h6, h7]
theorem spec_DiskCrash_eq (k : Nat) (hk : 3000 ≤ k) (d : Dsk) (hf : DskF d) (keep torn : Int) : spec_DiskCrash_t A k (d, (keep, (torn, ()))) () = some ((crash d keep torn, ()), ()) := by
  rw [← ok_eq, spec_DiskCrash_t, spec_DiskValid_eq k hk d hf.1 hf.2, a_obind_some]
  rcases Bool.eq_false_or_eq_true (diskOk d) with hd | hd
  case inr => simp [hd, crash, ok_some]
  obtain ⟨b, ws, _⟩ := d
  have hl := diskOk_len hd
  simp only at hl
  by_cases h1 : 0 ≤ keep ∧ keep ≤ ws.length
  case neg => simp [hd, crash, ok_some, h1, l1In_eq]
  obtain ⟨n, rfl⟩ : ∃ n : Nat, keep = n := ⟨keep.toNat, by omega⟩
  have hc := spec_crash_loop (A := A) k torn b (b, (ws, ())) dsk0 n (by omega) (by simp only; omega) hl.1 hl.2.1 (fun w hw => (hl.2.2.1 w hw).1)
  have g0 : (b.length : Int) < 4294967296 := by omega
  simp only [hd, a_notB, Bool.not_true, a_cndS, Bool.false_eq_true, if_false, if_true, l1In_eq, h1, and_self, decide_true, a_lenL, a_obind_some, a_sumE_inl, a_ltI, a_addI, List.length_nil, Int.natCast_zero, Int.ofNat_zero, Int.zero_add, a_big, g0, a_appL, List.nil_append, hc]
  refine Ok.bind (P := fun r => r = (torn, (b ++ (ws.take n).flatten, (next (b, (ws, ())) (n : Int), (dsk0, ()))))) ?_ fun r hr => ?_
  · rw [next_eq, ok_eq]
    by_cases hn : n < ws.length
    · have hn' : (n : Int) < ws.length := by omega
      simp [hn, hn']
    · have hn' : ¬ (n : Int) < ws.length := by omega
      simp [hn, hn']
  subst hr
  generalize hx : next (b, (ws, ())) (n : Int) = nx
  have hnx : nx.length ≤ 2000 := by
    rw [← hx, next_eq]; split
    · rename_i hn; rw [getD_lt hn]; exact (hl.2.2.1 _ (List.getElem_mem hn)).1
    · simp
  by_cases h3 : 0 ≤ torn ∧ torn ≤ nx.length
  case neg => simp [ok_some, crash, hx, h3, l1In_eq]
  obtain ⟨t, rfl⟩ : ∃ t : Nat, torn = t := ⟨torn.toNat, by omega⟩
  have tl : ((ws.take n).flatten).length ≤ 2000 * 8 := Nat.le_trans (flatten_le fun w hw' => (hl.2.2.1 w (List.mem_of_mem_take hw')).1) (Nat.mul_le_mul_left _ (by simp; omega))
  have tn : (nx.take t).length ≤ nx.length := by rw [List.length_take]; omega
  have g : (((b ++ (ws.take n).flatten).length : Nat) : Int) + (((nx.take t).length : Nat) : Int) < 4294967296 := by rw [List.length_append]; omega
  have h6 : (n : Int) ≤ ws.length := by omega
  have h7 : (t : Int) ≤ nx.length := by omega
  simp only [l1In_eq, h3, and_self, decide_true, Bool.not_true, Bool.false_eq_true, if_false, a_obind_some, a_le0, a_leI, Int.natCast_nonneg, h6, h7, a_andB, Bool.and_self, if_true, a_takeL, Int.toNat_natCast, g, a_appL]
  rw [ok_some]
  simp [crash, hd, hx, h6, h7]
theorem DskT.f {d : Dsk} (h : DskT d) : DskF d := h.fit
end
end Go.Den.T
