/- Disks: writes appended; the law. -/
import Derived.Test.YtbfndjfjkkfaeaaXB2

namespace Go.Den.T
set_option linter.unusedVariables false
set_option linter.unusedSimpArgs false
set_option linter.unusedSectionVars false
section
variable {A : Atoms} [IsReal A]
theorem copyDisk_eq (k : Nat) (d : Dsk) (hk : d.2.1.length < k) (hf : DskF d) (hl : d.2.1.length ≤ 1000000000) : impl_copyDisk_t A k (d, ()) () = some ((d, ()), ()) := by
  obtain ⟨b, ws, _⟩ := d
  obtain ⟨h1, h2⟩ := hf
  simp only at hk h1 h2 hl
  have h := iter_for (A := A) (f := impl_copyDisk_t_b0 A k) (fun i => (ws, ((ws.length : Int), ((i : Int), ((([] : List Int), (([] : List (List Int)), ())), ((b, (ws.take i, ())), ())))))) ws.length ((([] : List Int), (([] : List (List Int)), ())), ((b, (ws, ())), ()))
    (fun i hi => by
      have hw := h2 ws[i] (List.getElem_mem hi)
      have hi' : (i : Int) < (ws.length : Int) := by omega
      have w : A.wrapI .i64 ((i : Int) + 1) = (i : Int) + 1 := a_wrap (by omega) (by omega)
      have tl : (ws.take i).length ≤ 1000000000 := by rw [List.length_take]; omega
      have g : ((ws.take i).length : Int) + 1 < 4294967296 := by omega
      have e : ws.take (i + 1) = ws.take i ++ [ws[i]] := List.take_succ_eq_append_getElem hi
      simp only [impl_copyDisk_t_b0, a_cndS, a_ltI, a_lenL, a_le0, a_andB, hi', Int.natCast_nonneg, decide_true, Bool.and_self, if_true, a_atL, Int.toNat_natCast, getD_lt hi, copyOf_int_eq k ws[i] hw, a_obind_some, a_addI, w, a_big, a_appL, e, List.length_cons, List.length_nil, Nat.zero_add, Int.natCast_one, Int.ofNat_one, g]
      rfl)
    (by simp [impl_copyDisk_t_b0]) hk
  simp at h
  simp [impl_copyDisk_t, copyOf_int_eq k b h1, h]
theorem l14Copy_eq' (k : Nat) (d : Dsk) (hk : d.2.1.length < k) (hf : DskF d) (hl : d.2.1.length ≤ 1000000000) : spec_l14Copy_t A k (d, ()) () = some ((d, ()), ()) := by
  obtain ⟨b, ws, _⟩ := d
  obtain ⟨h1, h2⟩ := hf
  simp only at hk h1 h2 hl
  have h := iter_for (A := A) (f := spec_l14Copy_t_b0 A k) (fun i => ((i : Int), ((b, (ws, ())), ((([] : List Int), (([] : List (List Int)), ())), ((b, (ws.take i, ())), ()))))) ws.length ((([] : List Int), (([] : List (List Int)), ())), ((b, (ws, ())), ()))
    (fun i hi => by
      have hw := h2 ws[i] (List.getElem_mem hi)
      have g1 : (ws[i].length : Int) < 4294967296 := by omega
      have g2 : ((min i ws.length : Nat) : Int) + 1 < 4294967296 := by omega
      have g3 : min (i : Int) (ws.length : Int) + 1 < 4294967296 := by omega
      have w : A.wrapI .i64 ((i : Int) + 1) = (i : Int) + 1 := a_wrap (by omega) (by omega)
      rw [List.take_succ_eq_append_getElem hi]
      simp [spec_l14Copy_t_b0, hi, w, g1, g2, g3])
    (by simp [spec_l14Copy_t_b0]) hk
  have g0 : (b.length : Int) < 4294967296 := by omega
  simp at h
  simp [spec_l14Copy_t, g0, h]
def plus (d : Dsk) (x : List Int) : Dsk := (d.1, (d.2.1 ++ [x], d.2.2))
def appendD (d : Dsk) (x : List Int) : Dsk × (Bool × Unit) :=
  if (diskOk d && writeOk x) = true then (if diskOk (plus d x) = true then (plus d x, (true, ())) else (d, (false, ()))) else (dsk0, (false, ()))
theorem plus_f {d : Dsk} {x : List Int} (h : DskF d) (hx : x.length ≤ 1000000000) : DskF (plus d x) := ⟨h.1, fun w hw => by
  rcases List.mem_append.1 hw with hw | hw
  · exact h.2 w hw
  · simp at hw; subst hw; exact hx⟩
theorem impl_DiskAppend_eq (k : Nat) (hk : 3000 ≤ k) (d : Dsk) (x : List Int) (hf : DskF d) : impl_DiskAppend_t A k (d, (x, ())) () = some (appendD d x, ()) := by
  simp only [impl_DiskAppend_t, impl_DiskValid_eq k hk d hf.1 hf.2, impl_BytesValid_eq k hk, a_obind_some, a_cndS, a_notB, a_eqI, a_lenL, appendD, writeOk]
  cases hd : diskOk d with
  | false => simp
  | true =>
    have hl := diskOk_len hd
    rcases Bool.eq_false_or_eq_true (bytesOk x) with hb | hb
    case inr => simp [hb]
    case inl =>
      have hx := (bytes_of hb).1
      by_cases h0 : x.length = 0
      · have h0' : (x.length : Int) = 0 := by omega
        have h0'' : x = [] := List.eq_nil_of_length_eq_zero h0
        subst h0''
        simp [hb]
      · have h0' : ¬ (x.length : Int) = 0 := by omega
        have g : (d.2.1.length : Int) + 1 < 4294967296 := by omega
        have hp := plus_f (x := x) hf (by omega)
        have hv := impl_DiskValid_eq (A := A) k hk (plus d x) hp.1 hp.2
        simp only [plus] at hv
        simp only [hb, h0, h0', decide_false, Bool.not_true, Bool.not_false, Bool.false_eq_true, if_false, if_true, a_sumE_inl, copyDisk_eq k d (by omega) hf (by omega), a_obind_some, copyOf_int_eq k x (by omega), a_ltI, a_addI, a_lenL, List.length_cons, List.length_nil, Nat.zero_add, Int.natCast_one, Int.ofNat_one, a_big, g, decide_true, a_appL, hv, Bool.and_self, plus]
        rcases Bool.eq_false_or_eq_true (diskOk (d.1, (d.2.1 ++ [x], d.2.2))) with hq | hq <;> simp [hq]
theorem spec_DiskAppend_eq (k : Nat) (hk : 3000 ≤ k) (d : Dsk) (x : List Int) (hf : DskF d) : spec_DiskAppend_t A k (d, (x, ())) () = some (appendD d x, ()) := by
  simp only [spec_DiskAppend_t, spec_DiskValid_eq k hk d hf.1 hf.2, spec_BytesValid_eq k hk, a_obind_some, a_cndS, a_notB, a_eqI, a_lenL, appendD, writeOk]
  cases hd : diskOk d with
  | false => simp
  | true =>
    have hl := diskOk_len hd
    by_cases h0 : x.length = 0
    · have h0'' : x = [] := List.eq_nil_of_length_eq_zero h0
      simp [h0'']
    · have h0' : ¬ (x.length : Int) = 0 := by omega
      rcases Bool.eq_false_or_eq_true (bytesOk x) with hb | hb
      case inr => simp [h0', hb]
      case inl =>
        have hx := (bytes_of hb).1
        have g : (d.2.1.length : Int) + 1 < 4294967296 := by omega
        have g2 : (x.length : Int) < 4294967296 := by omega
        have hp := plus_f (x := x) hf (by omega)
        have hv := spec_DiskValid_eq (A := A) k hk (plus d x) hp.1 hp.2
        simp only [plus] at hv
        simp only [hb, h0, h0', decide_false, Bool.not_true, Bool.not_false, Bool.false_eq_true, if_false, if_true, a_sumE_inl, l14Copy_eq' k d (by omega) hf (by omega), a_obind_some, a_ltI, a_addI, a_lenL, List.length_cons, List.length_nil, Nat.zero_add, Int.natCast_one, Int.ofNat_one, Int.natCast_zero, Int.ofNat_zero, Int.zero_add, a_big, g, g2, decide_true, a_appL, List.nil_append, hv, Bool.and_self, plus]
        rcases Bool.eq_false_or_eq_true (diskOk (d.1, (d.2.1 ++ [x], d.2.2))) with hq | hq <;> simp [hq]
theorem l20Number_ok (k : Nat) (n N : Int) (r : Rd) (h : RdOk N r) (hp : N ≤ 900000000) (hn : n ≤ 1000000000) : Ok (spec_l20Number_t A k ((), (n, ())) r) (fun q => RdOk (N + 9) q.2) := by
  rw [spec_l20Number_t]
  refine (odd_ok k _ _ _ h (by omega) (by omega)).bind fun q0 h0 => ?_
  rw [ok_cndS]
  refine ⟨fun _ => ?_, fun _ => ?_⟩
  · refine (pick_ok k 2 _ _ h0 (by omega) (by omega)).bind fun q1 h1 => ?_
    have b1 := h1.2.1
    have b2 := h1.2.2.2.1 (by omega)
    rw [ok_cndS]
    refine ⟨fun _ => ok_some.2 (h1.1.le (by omega)), fun hc => by simp at hc; omega⟩
  · refine (pick_ok k 256 _ _ h0 (by omega) (by omega)).bind fun q1 h1 => ?_
    refine (pick_ok k 256 _ _ h1.1 (by omega) (by omega)).bind fun q2 h2 => ?_
    refine (pick_ok k 256 _ _ h2.1 (by omega) (by omega)).bind fun q3 h3 => ?_
    refine (pick_ok k 256 _ _ h3.1 (by omega) (by omega)).bind fun q4 h4 => ?_
    refine (pick_ok k 256 _ _ h4.1 (by omega) (by omega)).bind fun q5 h5 => ?_
    refine (pick_ok k 256 _ _ h5.1 (by omega) (by omega)).bind fun q6 h6 => ?_
    refine (pick_ok k 9 _ _ h6.1 (by omega) (by omega)).bind fun q7 h7 => ?_
    have b1 := h7.2.1
    have b2 := h7.2.2.2.1 (by omega)
    rw [ok_cndS]
    refine ⟨fun _ => ok_some.2 (h7.1.le (by omega)), fun hc => by simp at hc; omega⟩
theorem l20Text_ok (k : Nat) (hk : 100 ≤ k) (n N : Int) (r : Rd) (h : RdOk N r) (hp : N ≤ 900000000) (hn : n ≤ 1000000000) : Ok (spec_l20Text_t A k ((), (n, ())) r) (fun q => RdOk (N + 12) q.2) := by
  rw [spec_l20Text_t]
  refine (odd_ok k _ _ _ h (by omega) (by omega)).bind fun q0 h0 => ?_
  rw [ok_cndS]
  refine ⟨fun _ => ok_some.2 (h0.le (by omega)), fun _ => ?_⟩
  refine (pick_ok k 9 _ _ h0 (by omega) (by omega)).bind fun q1 h1 => ?_
  have b1 := h1.2.1
  have b2 := h1.2.2.2.1 (by omega)
  refine Ok.bind (P := fun e : List UInt8 × Rd => RdOk (N + 12) e.2) (iter_ok (fun j (s : List UInt8 × (Int × Rd)) => s.2.1 = (j : Int) ∧ s.1.length + j ≤ 8 ∧ RdOk (N + 11 - (j : Int)) s.2.2) _ ?_ (n := q1.1.1.toNat) (by omega) ⟨by show q1.1.1 = _; omega, by show ([] : List UInt8).length + _ ≤ 8; simp; omega, h1.1.le (by omega)⟩) fun e he => ok_some.2 he
  rintro j ⟨l, x, rr⟩ ⟨g1, g2, g3⟩
  simp only at g1 g2 g3
  subst g1
  rw [spec_l20Text_t_b0, ok_cndS]
  simp only [a_ltI, decide_eq_true_eq, decide_eq_false_iff_not]
  refine ⟨fun hpos => ?_, fun _ => ok_some.2 ⟨fun s' e => (by cases e), fun e he => (by injection he with he; subst he; exact g3.le (by omega))⟩⟩
  refine (pick_ok k 256 _ _ g3 (by omega) (by omega)).bind fun q2 h2 => ?_
  rw [ok_cndS]
  refine ⟨fun _ => ok_some.2 ⟨fun s' e => ?_, fun e he => (by cases he)⟩, fun hc => by simp at hc; omega⟩
  injection e with e; subst e
  have w : A.wrapI .i64 (A.subI (j : Int) 1) = (j : Int) - 1 := by rw [a_subI]; exact a_wrap (by omega) (by omega)
  refine ⟨j - 1, by omega, by show A.wrapI .i64 (A.subI (j : Int) 1) = _; rw [w]; omega, by simp; omega, h2.1.le (by omega)⟩
theorem l20Bytes_ok (k : Nat) (hk : 3000 ≤ k) (n N : Int) (r : Rd) (h : RdOk N r) (hp : N ≤ 800000000) (hn : n ≤ 1000000000) : Ok (spec_l20Bytes_t A k ((), (n, ())) r) (fun q => RdOk (N + 400) q.2 ∧ q.1.1.length ≤ 3000) := by
  rw [spec_l20Bytes_t]
  refine (pick_ok k 12 _ _ h (by omega) (by omega)).bind fun q0 h0 => ?_
  have b1 := h0.2.1
  have b2 := h0.2.2.2.1 (by omega)
  refine Ok.bind (P := fun e : Int × (List Int × Rd) => e.1 = n ∧ e.2.1.length ≤ 200 ∧ RdOk (N + 300) e.2.2) (iter_ok (fun j (s : Int × (List Int × (Int × Rd))) => s.1 = n ∧ s.2.2.1 = (j : Int) ∧ j ≤ 11 ∧ s.2.1.length + 12 * j ≤ 150 ∧ RdOk (N + 1 + 20 * (12 - (j : Int))) s.2.2.2) _ ?_ (n := q0.1.1.toNat) (by omega) ⟨rfl, by show q0.1.1 = _; omega, by omega, by show ([] : List Int).length + _ ≤ 150; simp; omega, h0.1.le (by omega)⟩) fun e he => ?_
  · rintro j ⟨n', l, x, rr⟩ ⟨g0, g1, g2, g3, g4⟩
    simp only at g0 g1 g3 g4
    subst g0 g1
    rw [spec_l20Bytes_t_b0, ok_cndS]
    simp only [a_ltI, decide_eq_true_eq, decide_eq_false_iff_not]
    refine ⟨fun hpos => ?_, fun _ => ok_some.2 ⟨fun s' e => (by cases e), fun e he => (by injection he with he; subst he; exact ⟨rfl, by show l.length ≤ 200; omega, g4.le (by omega)⟩)⟩⟩
    have w : A.wrapI .i64 (A.subI (j : Int) 1) = (j : Int) - 1 := by rw [a_subI]; exact a_wrap (by omega) (by omega)
    have w' : A.wrapI .i64 (A.subI (j : Int) 1) = ((j - 1 : Nat) : Int) := by rw [w]; omega
    refine (pick_ok k 4 _ _ g4 (by omega) (by omega)).bind fun q1 h1 => ?_
    rw [ok_cndS]
    refine ⟨fun _ => ?_, fun _ => ?_⟩
    · refine (l20Number_ok k 0 _ _ h1.1 (by omega) (by omega)).bind fun q2 h2 => ?_
      rw [spec_EncodeNumber_eq k (by omega), a_obind_some, ok_cndS]
      have := encNum_len q2.1.1
      refine ⟨fun _ => ok_some.2 ⟨fun s' e => ?_, fun e he => (by cases he)⟩, fun hc => by simp at hc; omega⟩
      injection e with e; subst e
      exact ⟨j - 1, by omega, rfl, w', by omega, by simp; omega, h2.le (by omega)⟩
    · rw [ok_cndS]
      refine ⟨fun _ => ?_, fun _ => ?_⟩
      · refine (l20Text_ok k (by omega) 0 _ _ h1.1 (by omega) (by omega)).bind fun q2 h2 => ?_
        rw [spec_EncodeText_eq k (by omega), a_obind_some, ok_cndS]
        have := encText_len q2.1.1
        refine ⟨fun _ => ok_some.2 ⟨fun s' e => ?_, fun e he => (by cases he)⟩, fun hc => by simp at hc; omega⟩
        injection e with e; subst e
        exact ⟨j - 1, by omega, rfl, w', by omega, by simp; omega, h2.le (by omega)⟩
      · refine (pick_ok k 256 _ _ h1.1 (by omega) (by omega)).bind fun q2 h2 => ?_
        rw [ok_cndS]
        refine ⟨fun _ => ok_some.2 ⟨fun s' e => ?_, fun e he => (by cases he)⟩, fun hc => by simp at hc; omega⟩
        injection e with e; subst e
        exact ⟨j - 1, by omega, rfl, w', by omega, by simp; omega, h2.1.le (by omega)⟩
  · obtain ⟨e1, e2, e3⟩ := he
    refine (odd_ok k _ _ _ e3 (by omega) (by rw [e1]; omega)).bind fun q2 h2 => ?_
    rw [ok_cndS]
    refine ⟨fun _ => ?_, fun _ => ok_some.2 ⟨h2.le (by omega), by show e.2.1.length ≤ 3000; omega⟩⟩
    refine (pick_ok k 3 _ _ h2 (by omega) (by omega)).bind fun q3 h3 => ?_
    rw [ok_cndS]
    refine ⟨fun _ => ?_, fun _ => ?_⟩
    · rw [ok_cndS]
      refine ⟨fun _ => ok_some.2 ⟨h3.1.le (by omega), ?_⟩, fun hc => ?_⟩
      · show (A.repL (2001 : Int) (0 : Int)).length ≤ 3000
        rw [a_repL, List.length_replicate]; exact (by decide : (2001 : Int).toNat ≤ 3000)
      · simp only [a_le0, a_leI, a_ltI, a_andB, a_big] at hc
        exact absurd hc (by decide)
    · refine (pick_ok k 2 _ _ h3.1 (by omega) (by omega)).bind fun q4 h4 => ?_
      have c1 := h4.2.1
      have c2 := h4.2.2.2.1 (by omega)
      rw [ok_cndS]
      refine ⟨fun _ => ?_, fun hc => by simp at hc; omega⟩
      rw [ok_cndS]
      exact ⟨fun _ => ok_some.2 ⟨h4.1.le (by omega), by simp; omega⟩, fun hc => by simp at hc; omega⟩
theorem DrawDiskAppend_ok (k : Nat) (hk : 3000 ≤ k) (a : List Int) (hb : ∀ x ∈ a, 0 ≤ x ∧ x ≤ 255) : Ok (spec_DrawDiskAppend_t A k (a, ()) ()) (fun q => DskT q.1.1 ∧ q.1.2.1.length ≤ 3000) := by
  rw [spec_DrawDiskAppend_t]
  refine (open_ok k a hb).bind fun q hq => ?_
  refine (l20Disk_ok k hk 9 0 q.1 hq (by omega) (by omega)).bind fun q1 h1 => ?_
  refine (l20Bytes_ok k hk 9 _ _ h1.1 (by omega) (by omega)).bind fun q2 h2 => ?_
  refine (pick_ok k 12 _ _ h2.1 (by omega) (by omega)).bind fun q3 h3 => ?_
  rw [ok_cndS]
  refine ⟨fun _ => ?_, fun _ => ok_some.2 ⟨h1.2, h2.2⟩⟩
  rw [ok_cndS]
  refine ⟨fun _ => ok_some.2 ⟨h1.2, ?_⟩, fun hc => ?_⟩
  · show (A.repL (2000 : Int) (0 : Int)).length ≤ 3000
    rw [a_repL, List.length_replicate]; exact (by decide : (2000 : Int).toNat ≤ 3000)
  · simp only [a_le0, a_leI, a_ltI, a_andB, a_big] at hc
    exact absurd hc (by decide)
theorem appendD_t {d : Dsk} {x : List Int} (h : DskT d) : DskT (appendD d x).1 := by
  unfold appendD
  split
  · split
    · rename_i hv
      have hl := diskOk_len hv
      exact ⟨by show (plus d x).1.length ≤ 200000; omega, by show (plus d x).2.1.length ≤ 2000; omega, fun w hw => by have := (hl.2.2.1 w hw).1; omega⟩
    · exact h
  · exact ⟨by simp, by simp, by simp⟩
theorem FnDiskAppend_true (k : Nat) (hk : 300000 ≤ k) (a : List Int) (hb : ∀ x ∈ a, 0 ≤ x ∧ x ≤ 255) : laws_FnDiskAppend_t A k (a, ()) () = some ((true, ()), ()) := by
  rw [← ok_eq, laws_FnDiskAppend_t, ok_cndS]
  refine ⟨fun _ => ok_some.2 rfl, fun _ => ?_⟩
  refine (DrawDiskAppend_ok k (by omega) a hb).bind fun q hs => ?_
  obtain ⟨⟨d, x, _⟩, _⟩ := q
  simp only at hs
  obtain ⟨hs, hx⟩ := hs
  have hf := hs.f
  have ht := appendD_t (x := x) hs
  have e0 : ∀ e, laws_sameDisk_t A k ((appendD d x).1, (e, ())) () = some ((decide ((appendD d x).1 = e), ()), ()) := fun e =>
    sameDisk_eq k _ e ⟨by have := ht.1; omega, by have := ht.2.1; omega, fun w hw => by have := ht.2.2 w hw; omega⟩ ht.f (by have := ht.2.1; omega)
  rw [ok_eq]
  simp only [impl_DiskAppend_eq k (by omega : 3000 ≤ k) d x hf, spec_DiskAppend_eq k (by omega : 3000 ≤ k) d x hf, a_obind_some, e0, decide_true, a_notB, Bool.not_true, a_cndS, Bool.false_eq_true, if_false, a_eqB, beq_self_eq_true, a_sumE_inl]
  by_cases hok : (appendD d x).2.1 = true
  · have h1 : (diskOk d && writeOk x) = true := by
      cases h : (diskOk d && writeOk x) with
      | true => rfl
      | false => simp only [appendD, h] at hok; cases hok
    have h2 : diskOk (plus d x) = true := by
      cases h : diskOk (plus d x) with
      | true => rfl
      | false => simp only [appendD, h1, h] at hok; cases hok
    have ed : appendD d x = (plus d x, (true, ())) := by simp only [appendD, h1, h2, if_true]
    have hp := plus_f (x := x) hf (by omega)
    simp only [Bool.and_eq_true] at h1
    have e1 : sync (plus d x) = ((sync d).1 ++ x, ([], ())) := by
      simp only [sync, h2, h1.1, if_true]
      simp [plus, List.flatten_append]
    have hsl := sync_len (d := d)
    have g1 : ((sync d).1.length : Int) < 4294967296 := by omega
    have g2 : ((sync d).1.length : Int) + (x.length : Int) < 4294967296 := by omega
    rw [ed]
    simp only [Bool.not_true, Bool.false_eq_true, if_false, impl_DiskSync_eq k (by omega : 3000 ≤ k) d hf, a_obind_some, impl_DiskValid_eq k (by omega : 3000 ≤ k) (plus d x) hp.1 hp.2, h2, if_true, impl_DiskSync_eq k (by omega : 3000 ≤ k) (plus d x) hp, e1]
    have i1 : laws_sameInts_t A k ((plus d x).1, (d.1, ())) () = some ((true, ()), ()) := by
      have := sameInts_eq (A := A) k d.1 d.1 (by have := hs.1; omega) (by have := hs.1; omega)
      simp only [decide_true] at this; exact this
    have i2 : laws_sameInts_t A k ((sync d).1 ++ x, ((sync d).1 ++ x, ())) () = some ((true, ()), ()) := by
      have := sameInts_eq (A := A) k ((sync d).1 ++ x) ((sync d).1 ++ x) (by rw [List.length_append]; omega) (by rw [List.length_append]; omega)
      simpa using this
    simp [i1, g1, g2, i2]
  · have hok' : (appendD d x).2.1 = false := by simpa using hok
    have hc : (appendD d x).1 = d ∨ (appendD d x).1 = dsk0 := by
      unfold appendD at hok' ⊢
      split
      · rename_i h
        rw [if_pos h] at hok'
        split
        · rename_i h2; rw [if_pos h2] at hok'; cases hok'
        · exact .inl rfl
      · exact .inr rfl
    simp only [hok', Bool.not_false, if_true, alive_eq k (by omega : 10 ≤ k), a_obind_some]
    by_cases hcc : (appendD d x).1 = d
    · simp [hcc]
    · have hz := hc.resolve_left hcc
      simp only [hcc, decide_false, Bool.false_eq_true, if_false]
      simp [hz]
end
theorem FnDiskAppend_pure (a : List Int) (h : InR (.slice (.int .u8)) a) : ∃ k, laws_FnDiskAppend_t real k (a, ()) () = some ((true, ()), ()) :=
  haveI := isReal_real
  ⟨300000, FnDiskAppend_true 300000 (by omega) a (code_bytes h)⟩
end Go.Den.T
