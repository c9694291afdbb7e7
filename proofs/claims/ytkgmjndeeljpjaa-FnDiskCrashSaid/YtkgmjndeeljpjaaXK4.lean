/- Disks drawn; the law on valid disks. -/
import Derived.Test.YtkgmjndeeljpjaaXC4
import Derived.Test.YtkgmjndeeljpjaaXK3

namespace Go.Den.T
set_option linter.unusedVariables false
set_option linter.unusedSimpArgs false
set_option linter.unusedSectionVars false
section
variable {A : Atoms} [IsReal A]
theorem l14Copy_eq (k : Nat) (d : Dsk) (hk : d.2.1.length < k) (h : DskS d) : spec_l14Copy_t A k (d, ()) () = some ((d, ()), ()) := by
  obtain ⟨b, ws, _⟩ := d
  obtain ⟨h1, h2, h3⟩ := h
  simp only at hk h1 h2 h3
  have h := iter_for (A := A) (f := spec_l14Copy_t_b0 A k) (fun i => ((i : Int), ((b, (ws, ())), ((([] : List Int), (([] : List (List Int)), ())), ((b, (ws.take i, ())), ()))))) ws.length ((([] : List Int), (([] : List (List Int)), ())), ((b, (ws, ())), ()))
    (fun i hi => by
      have hl := h3 ws[i] (List.getElem_mem hi)
      have g1 : (ws[i].length : Int) < 4294967296 := by omega
      have g2 : ((min i ws.length : Nat) : Int) + 1 < 4294967296 := by omega
      have g3 : min (i : Int) (ws.length : Int) + 1 < 4294967296 := by omega
      have w : A.wrapI .i64 ((i : Int) + 1) = (i : Int) + 1 := a_wrap (by omega) (by omega)
      rw [List.take_succ_eq_append_getElem hi]
      simp [spec_l14Copy_t_b0, hi, w, g1, g2, g3])
    (by simp [spec_l14Copy_t_b0]) hk
  have g0 : (b.length : Int) < 4294967296 := by omega
  simp at h
  simp [spec_l14Copy_t, g0, h]
abbrev dsk0 : Dsk := ([], ([], ()))
theorem dsk0_s : DskS dsk0 := ⟨by simp, by simp, by simp⟩
theorem DskS.fit {d : Dsk} (h : DskS d) : d.1.length ≤ 1000000000 ∧ ∀ w ∈ d.2.1, w.length ≤ 1000000000 := ⟨by have := h.1; omega, fun w hw => by have := h.2.2 w hw; omega⟩
theorem DiskAppend_ok (k : Nat) (hk : 3000 ≤ k) (d : Dsk) (x : List Int) (h : DskS d) (hx : x.length ≤ 100000) : Ok (spec_DiskAppend_t A k (d, (x, ())) ()) (fun q => DskS q.1.1) := by
  have hf := h.fit
  have h2 := h.2.1
  rw [spec_DiskAppend_t, spec_DiskValid_eq k hk d hf.1 hf.2, a_obind_some]
  refine Ok.bind (P := fun r : (List Int × (Dsk × (Dsk × Unit))) ⊕ ((Dsk × (Bool × Unit)) × Unit) => r = .inl (x, (d, (dsk0, ()))) ∨ r = .inr ((dsk0, (false, ())), ())) ?_ fun r hr => ?_
  · rw [ok_cndS]
    refine ⟨fun _ => ok_some.2 (.inr rfl), fun _ => ?_⟩
    rw [ok_cndS]
    refine ⟨fun _ => ok_some.2 (.inr rfl), fun _ => ?_⟩
    rw [spec_BytesValid_eq k hk, a_obind_some, ok_cndS]
    exact ⟨fun _ => ok_some.2 (.inr rfl), fun _ => ok_some.2 (.inl rfl)⟩
  · rcases hr with rfl | rfl
    · rw [a_sumE_inl, l14Copy_eq k d (by omega) h, a_obind_some, ok_cndS]
      refine ⟨fun _ => ?_, fun hc => by simp at hc; omega⟩
      rw [ok_cndS]
      refine ⟨fun _ => ?_, fun hc => by simp at hc; omega⟩
      have e : A.appL d.2.1 ((A.appL ([] : List Int) x) :: ([] : List (List Int))) = d.2.1 ++ [x] := by simp
      rw [e]
      have hs : DskS (d.1, (d.2.1 ++ [x], d.2.2)) → DskS (d.1, (d.2.1 ++ [x], d.2.2)) := id
      have hfw : ∀ w ∈ d.2.1 ++ [x], w.length ≤ 1000000000 := fun w hw => by
        rcases List.mem_append.1 hw with hw | hw
        · exact hf.2 w hw
        · simp at hw; subst hw; omega
      rw [spec_DiskValid_eq k hk (d.1, (d.2.1 ++ [x], d.2.2)) hf.1 hfw, a_obind_some, ok_cndS]
      refine ⟨fun _ => ?_, fun hv => ok_some.2 ?_⟩
      · rw [a_obind_some]; exact ok_some.2 h
      · simp only [a_notB, Bool.not_eq_false'] at hv
        have := diskOk_len hv
        exact ⟨by have := this.1; simp only at this ⊢; omega, by have := this.2.1; simp only at this ⊢; omega, fun w hw => by have := (this.2.2.1 w hw).1; omega⟩
    · rw [a_sumE_inr]; exact ok_some.2 dsk0_s
theorem flatten_total (ws : List (List Int)) : ((ws.flatten).length : Int) = total ws := by
  induction ws with
  | nil => rfl
  | cons w ws ih =>
    simp only [total, List.flatten_cons, List.length_append, List.map_cons, List.sum_cons] at ih ⊢
    omega
def sync (d : Dsk) : Dsk := if diskOk d = true then (d.1 ++ d.2.1.flatten, ([], ())) else dsk0
theorem spec_DiskSync_eq (k : Nat) (hk : 3000 ≤ k) (d : Dsk) (h : DskS d) : spec_DiskSync_t A k (d, ()) () = some ((sync d, ()), ()) := by
  have hf := h.fit
  obtain ⟨b, ws, _⟩ := d
  obtain ⟨h1, h2, h3⟩ := h
  simp only at h1 h2 h3
  simp only [spec_DiskSync_t, spec_DiskValid_eq k hk _ hf.1 hf.2, a_obind_some, a_cndS, a_notB, sync]
  rcases Bool.eq_false_or_eq_true (diskOk (b, (ws, ()))) with hd | hd
  case inr => simp [hd]
  have hl := diskOk_len hd
  simp only at hl
  have h := iter_for (A := A) (f := spec_DiskSync_t_b0 A k) (fun i => (b ++ (ws.take i).flatten, ((i : Int), ((b, (ws, ())), (dsk0, ()))))) ws.length (b ++ ws.flatten, (dsk0, ()))
    (fun i hi => by
      have hw := (hl.2.2.1 ws[i] (List.getElem_mem hi)).1
      have tf := flatten_total (ws.take i)
      have tb := total_bound (ws := ws.take i) fun x hx => by have := (hl.2.2.1 x (List.mem_of_mem_take hx)).1; omega
      have tl : ((ws.take i).flatten).length ≤ 20000 := by
        have e : ((ws.take i).flatten).length ≤ (ws.flatten).length := by
          conv => rhs; rw [← List.take_append_drop i ws]
          rw [List.flatten_append, List.length_append]; omega
        have := flatten_total ws
        omega
      have g : (((b ++ (ws.take i).flatten).length : Nat) : Int) + (ws[i].length : Int) < 4294967296 := by rw [List.length_append]; omega
      have hi' : (i : Int) < (ws.length : Int) := by omega
      have w : A.wrapI .i64 ((i : Int) + 1) = (i : Int) + 1 := a_wrap (by omega) (by omega)
      simp only [spec_DiskSync_t_b0, a_cndS, a_ltI, a_lenL, a_le0, a_andB, hi', Int.natCast_nonneg, decide_true, Bool.and_self, if_true, a_atL, Int.toNat_natCast, getD_lt hi, a_addI, a_big, g, w, a_appL]
      have e : (ws.take (i + 1)).flatten = (ws.take i).flatten ++ ws[i] := by rw [List.take_succ_eq_append_getElem hi, List.flatten_append]; congr 1; exact List.append_nil _
      rw [e]
      simp)
    (by simp [spec_DiskSync_t_b0]) (k := k) (by omega)
  have g0 : (b.length : Int) < 4294967296 := by omega
  simp at h
  simp [hd, g0, h]
theorem sync_s {d : Dsk} (h : DskS d) : DskS (sync d) := by
  unfold sync
  split
  · rename_i hd
    have hl := diskOk_len hd
    have := flatten_total d.2.1
    exact ⟨by simp only [List.length_append]; omega, by simp, by simp⟩
  · exact dsk0_s
def DskT (d : Dsk) : Prop := d.1.length ≤ 200000 ∧ d.2.1.length ≤ 2000 ∧ ∀ w ∈ d.2.1, w.length ≤ 200000
theorem DskS.t {d : Dsk} (h : DskS d) : DskT d := ⟨by have := h.1; omega, by have := h.2.1; omega, fun w hw => by have := h.2.2 w hw; omega⟩
theorem l20Disk_ok (k : Nat) (hk : 3000 ≤ k) (n N : Int) (r : Rd) (h : RdOk N r) (hp : N ≤ 300000000) (hn : n ≤ 1000000000) : Ok (spec_l20Disk_t A k ((), (n, ())) r) (fun q => RdOk (N + 9000) q.2 ∧ DskT q.1.1) := by
  rw [spec_l20Disk_t]
  refine (l20Log_ok k (by omega) 0 N r h (by omega) (by omega)).bind fun q0 hq0 => ?_
  have hlog := hq0.2.1
  refine Ok.bind (P := fun e : Int × (Dsk × (Dsk × Rd)) => e.1 = n ∧ DskS e.2.2.1 ∧ RdOk (N + 8000) e.2.2.2) (iter_ok (fun j (s : Int × (List Ent × (Int × (Dsk × (Dsk × Rd))))) => s.1 = n ∧ s.2.1 = q0.1.1 ∧ (∃ i : Nat, s.2.2.1 = (i : Int) ∧ i + j = q0.1.1.length ∧ RdOk (N + 4000 + 20 * (i : Int)) s.2.2.2.2.2) ∧ DskS s.2.2.2.2.1) _ ?_ (n := q0.1.1.length) (by omega) ⟨rfl, rfl, ⟨0, rfl, by omega, hq0.1.le (by omega)⟩, dsk0_s⟩) fun e he => ?_
  · rintro j ⟨n', l, x, z, d, rr⟩ ⟨h1, h2, ⟨i, h3, h4, h5⟩, h6⟩
    simp only at h1 h2 h3 h4 h5 h6
    subst h1 h2 h3
    rw [spec_l20Disk_t_b0, ok_cndS]
    simp only [a_lenL, a_ltI, decide_eq_true_eq, decide_eq_false_iff_not]
    refine ⟨fun hlt => ?_, fun hge => ok_some.2 ⟨fun s' e => (by cases e), fun e he => (by injection he with he; subst he; exact ⟨rfl, h6, h5.le (by omega)⟩)⟩⟩
    rw [ok_cndS]
    refine ⟨fun _ => ?_, fun hc => by simp at hc; omega⟩
    refine (FrameEntry_ok k hk _ _).bind fun q1 h1 => ?_
    refine (DiskAppend_ok k hk d q1.1.1 h6 (by omega)).bind fun q2 hq2 => ?_
    refine Ok.bind (P := fun r4 : Int × (List Ent × (Int × (Dsk × (Dsk × Rd)))) => r4.1 = n' ∧ r4.2.1 = q0.1.1 ∧ r4.2.2.1 = (i : Int) ∧ DskS r4.2.2.2.2.1 ∧ RdOk (N + 4000 + 20 * (i : Int) + 1) r4.2.2.2.2.2) ?_ fun r4 hr4 => ?_
    · refine (pick_ok k 4 _ _ h5 (by omega) (by omega)).bind fun q3 hq3 => ?_
      rw [ok_cndS]
      refine ⟨fun _ => ?_, fun _ => ok_some.2 ⟨rfl, rfl, rfl, hq2, hq3.1.le (by omega)⟩⟩
      rw [spec_DiskSync_eq k hk _ hq2, a_obind_some]
      exact ok_some.2 ⟨rfl, rfl, rfl, sync_s hq2, hq3.1.le (by omega)⟩
    · obtain ⟨f1, f2, f3, f4, f5⟩ := hr4
      have w : A.wrapI .i64 (A.addI r4.2.2.1 1) = ((i + 1 : Nat) : Int) := by rw [a_addI, f3]; rw [a_wrap (by omega) (by omega)]; rfl
      refine (pick_ok k 16 _ _ f5 (by omega) (by omega)).bind fun q5 hq5 => ?_
      rw [ok_cndS]
      refine ⟨fun _ => ?_, fun _ => ok_some.2 ⟨fun s' e => ?_, fun e he => (by cases he)⟩⟩
      · refine (pick_ok k 256 _ _ hq5.1 (by omega) (by omega)).bind fun q6 hq6 => ?_
        refine (pick_ok k 256 _ _ hq6.1 (by omega) (by omega)).bind fun q7 hq7 => ?_
        refine (DiskAppend_ok k hk _ _ f4 (by simp)).bind fun q8 hq8 => ok_some.2 ⟨fun s' e => ?_, fun e he => (by cases he)⟩
        injection e with e; subst e
        exact ⟨j - 1, by omega, f1, f2, ⟨i + 1, w, by omega, hq7.1.le (by omega)⟩, hq8⟩
      · injection e with e; subst e
        exact ⟨j - 1, by omega, f1, f2, ⟨i + 1, w, by omega, hq5.1.le (by omega)⟩, f4⟩
  · obtain ⟨e1, e2, e3⟩ := he
    have s1 := e2.1
    have s2 := e2.2.1
    refine (odd_ok k _ _ _ e3 (by omega) (by rw [e1]; omega)).bind fun q2 hq2 => ?_
    rw [ok_cndS]
    refine ⟨fun _ => ?_, fun _ => ok_some.2 ⟨hq2.le (by omega), e2.t⟩⟩
    refine (pick_ok k 4 _ _ hq2 (by omega) (by omega)).bind fun q3 hq3 => ?_
    rw [ok_cndS]
    refine ⟨fun _ => ?_, fun _ => ?_⟩
    · rw [ok_cndS]
      refine ⟨fun _ => ok_some.2 ⟨hq3.1.le (by omega), ?_⟩, fun hc => by simp at hc; omega⟩
      rw [a_appL]
      refine ⟨by show e.2.2.1.1.length ≤ 200000; omega, by show (e.2.2.1.2.1 ++ [[]]).length ≤ 2000; simp; omega, fun w hw => ?_⟩
      rcases List.mem_append.1 hw with hw | hw
      · have := e2.2.2 w hw; omega
      · simp at hw; subst hw; simp
    rw [ok_cndS]
    refine ⟨fun _ => ?_, fun _ => ?_⟩
    · rw [ok_cndS]
      refine ⟨fun _ => ok_some.2 ⟨hq3.1.le (by omega), ?_⟩, fun hc => by simp at hc; omega⟩
      rw [a_appL]
      exact ⟨by show (e.2.2.1.1 ++ [256]).length ≤ 200000; simp; omega, by show e.2.2.1.2.1.length ≤ 2000; omega, fun w hw => by have := e2.2.2 w hw; omega⟩
    rw [ok_cndS]
    refine ⟨fun _ => ?_, fun _ => ?_⟩
    · rw [ok_cndS]
      refine ⟨fun _ => ok_some.2 ⟨hq3.1.le (by omega), ?_⟩, fun hc => ?_⟩
      · rw [a_repL]
        refine ⟨by show e.2.2.1.1.length ≤ 200000; omega, by show 2 ≤ 2000; omega, fun w hw => ?_⟩
        rcases List.mem_cons.1 hw with hw | hw
        · rw [hw, List.length_replicate]; exact (by decide : (2000 : Int).toNat ≤ 200000)
        · rcases List.mem_cons.1 hw with hw | hw
          · rw [hw]; show 1 ≤ 200000; omega
          · cases hw
      · simp only [a_le0, a_leI, a_ltI, a_andB, a_big] at hc
        exact absurd hc (by decide)
    · refine Ok.bind (P := fun t : Dsk × (Dsk × Rd) => DskT t.2.1 ∧ RdOk (N + 8002) t.2.2) (iter_ok (fun j (t : Dsk × (Dsk × Rd)) => 9 - t.2.1.2.1.length ≤ j ∧ t.2.1.1.length ≤ 100000 ∧ t.2.1.2.1.length ≤ 1009 ∧ (t.2.1.2.1.length ≤ 1000 ∨ 9 < t.2.1.2.1.length) ∧ (∀ w ∈ t.2.1.2.1, w.length ≤ 100000) ∧ RdOk (N + 8002) t.2.2) _ ?_ (n := 9) (by omega) ⟨by show 9 - e.2.2.1.2.1.length ≤ 9; omega, s1, by show e.2.2.1.2.1.length ≤ 1009; omega, .inl s2, e2.2.2, hq3.1.le (by omega)⟩) fun t ht => ok_some.2 ⟨ht.2.le (by omega), ht.1⟩
      rintro j ⟨z, d, rr⟩ ⟨g1, g2, g3, g4, g5, g6⟩
      simp only at g1 g2 g3 g4 g5 g6
      rw [spec_l20Disk_t_b1, ok_cndS]
      simp only [a_lenL, a_leI, decide_eq_true_eq, decide_eq_false_iff_not]
      refine ⟨fun hle => ?_, fun hgt => ok_some.2 ⟨fun s' e => (by cases e), fun e he => (by injection he with he; subst he; exact ⟨⟨by show d.1.length ≤ 200000; omega, by show d.2.1.length ≤ 2000; omega, fun w hw => by have := g5 w hw; omega⟩, g6⟩)⟩⟩
      rw [ok_cndS]
      refine ⟨fun _ => ok_some.2 ⟨fun s' e => ?_, fun e he => (by cases he)⟩, fun hc => by simp at hc; omega⟩
      injection e with e; subst e
      rw [a_appL]
      refine ⟨j - 1, by omega, by show 9 - (d.2.1 ++ [[1]]).length ≤ j - 1; simp; omega, g2, by show (d.2.1 ++ [[1]]).length ≤ 1009; simp; omega, .inl (by show (d.2.1 ++ [[1]]).length ≤ 1000; simp; omega), fun w hw => ?_, g6⟩
      rcases List.mem_append.1 hw with hw | hw
      · exact g5 w hw
      · simp at hw; subst hw; simp
theorem DskT.fit {d : Dsk} (h : DskT d) : d.1.length ≤ 1000000000 ∧ ∀ w ∈ d.2.1, w.length ≤ 1000000000 := ⟨by have := h.1; omega, fun w hw => by have := h.2.2 w hw; omega⟩
end
end Go.Den.T
