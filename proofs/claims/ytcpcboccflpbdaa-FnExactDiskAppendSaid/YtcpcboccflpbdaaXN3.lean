/- Disks as arguments of exact laws: size, copies, comparisons, marks; the laws. -/
import Derived.Test.YtcpcboccflpbdaaXE3
import Derived.Test.YtcpcboccflpbdaaXE4
import Derived.Test.YtcpcboccflpbdaaXK6
import Derived.Test.YtcpcboccflpbdaaXTr7

namespace Go.Den.T
set_option linter.unusedVariables false
set_option linter.unusedSimpArgs false
set_option linter.unusedSectionVars false
section
variable {A : Atoms} [IsReal A]
theorem total_cons (w : List Int) (ws : List (List Int)) : total (w :: ws) = w.length + total ws := by simp [total]
theorem total_nonneg (ws : List (List Int)) : 0 ≤ total ws := by
  induction ws with
  | nil => simp [total]
  | cons w ws ih => rw [total_cons]; omega
theorem total_mem {ws : List (List Int)} {w : List Int} (h : w ∈ ws) : (w.length : Int) ≤ total ws := by
  induction ws with
  | nil => cases h
  | cons v ws ih =>
    rw [total_cons]
    have := total_nonneg ws
    rcases List.mem_cons.1 h with rfl | h
    · omega
    · have := ih h; omega
theorem total_app (xs ys : List (List Int)) : total (xs ++ ys) = total xs + total ys := by simp [total]
theorem total_take_le (ws : List (List Int)) (i : Nat) : total (ws.take i) ≤ total ws := by
  have h : total ws = total (ws.take i) + total (ws.drop i) := by
    rw [← total_app, List.take_append_drop]
  have := total_nonneg (ws.drop i)
  omega
/-- what of a disk is short enough -/
def DskZ (d : Dsk) : Prop := (d.1.length : Int) + total d.2.1 + d.2.1.length ≤ 1048576
theorem DskZ.len {d : Dsk} (h : DskZ d) : d.1.length ≤ 1048576 ∧ d.2.1.length ≤ 1048576 ∧ (∀ w ∈ d.2.1, w.length ≤ 1048576) ∧ 0 ≤ total d.2.1 ∧ total d.2.1 ≤ 1048576 := by
  have h0 := total_nonneg d.2.1
  unfold DskZ at h
  exact ⟨by omega, by omega, fun w hw => by have := total_mem hw; omega, h0, by omega⟩
theorem szIntSS_ok (k : Nat) (xs : List (List Int)) (n : Int) (h0 : 0 ≤ n) (hn : n ≤ 1048576) (hk : 2000000 ≤ k) (hl : xs.length ≤ 9223372036854775807) (hm : ∀ m ∈ xs, m.length ≤ 9223372036854775807) :
    Ok (laws_szIntSS_t A k (xs, (n, ())) ()) (fun q => q.1.1 = -1 ∨ (0 ≤ q.1.1 ∧ q.1.1 + total xs + xs.length = n)) := by
  have w : A.wrapI .i64 (n - (xs.length : Int)) = n - (xs.length : Int) := a_wrap (by omega) (by omega)
  rw [laws_szIntSS_t, ok_cndS]
  simp only [a_lenL, a_subI, w, a_ltI, decide_eq_true_eq, decide_eq_false_iff_not]
  refine ⟨fun _ => ok_some.2 (.inl rfl), fun h => ?_⟩
  have loop : Ok (A.iter k (laws_szIntSS_t_b0 A k) (xs, (n - (xs.length : Int), (0, ())))) (fun r => (∃ m, r = .inl (m, ()) ∧ 0 ≤ m ∧ m + total xs + xs.length = n) ∨ r = .inr ((-1, ()), ())) := by
    refine iter_ok (fun j s => ∃ (i : Nat) (m : Int), s = (xs, (m, ((i : Int), ()))) ∧ i + j = xs.length ∧ 0 ≤ m ∧ m + total (xs.take i) + xs.length = n) _ ?_ (n := xs.length) (by omega) ⟨0, n - xs.length, rfl, by omega, by omega, by simp [total]⟩
    rintro j s ⟨i, m, rfl, hij, g0, g1⟩
    by_cases hi : i < xs.length
    · have hti := total_take hi
      have g2 := total_nonneg (xs.take i)
      have w2 : A.wrapI .i64 ((i : Int) + 1) = ((i + 1 : Nat) : Int) := by rw [a_wrap (by omega) (by omega)]; rfl
      have hi' : (i : Int) < (xs.length : Int) := by omega
      have ha : A.atL xs (i : Int) ([] : List Int) = xs[i] := by rw [a_atL]; simp [hi]
      have hz := szIntS_eq (A := A) k xs[i] m g0 (by omega) (hm _ (List.getElem_mem hi))
      simp only [laws_szIntSS_t_b0, a_cndS, a_ltI, a_lenL, hi', decide_true, if_true, a_le0, Int.natCast_nonneg, a_andB, Bool.and_self, ha, a_addI, w2, hz, a_obind_some]
      by_cases hh : m < (xs[i].length : Int)
      · simp only [hh, if_true]
        refine ok_some.2 ⟨fun s' e => (by cases e), fun e he => (by injection he with he; subst he; exact .inr rfl)⟩
      · have : ¬ m - (xs[i].length : Int) < 0 := by omega
        simp only [hh, if_false, this, decide_false, Bool.false_eq_true]
        refine ok_some.2 ⟨fun s' e => ?_, fun e he => (by cases he)⟩
        injection e with e; subst e
        exact ⟨j - 1, by omega, i + 1, _, rfl, by omega, by omega, by omega⟩
    · have : i = xs.length := by omega
      subst this
      have hd : laws_szIntSS_t_b0 A k (xs, (m, ((xs.length : Int), ()))) = some (.inr (.inl (m, ()))) := by simp [laws_szIntSS_t_b0]
      rw [hd]
      refine ok_some.2 ⟨fun s' e => (by cases e), fun e he => ?_⟩
      injection he with he; subst he
      rw [List.take_length] at g1
      exact .inl ⟨m, rfl, g0, g1⟩
  refine loop.bind fun r hr => ?_
  rcases hr with ⟨m, rfl, g0, g1⟩ | rfl
  · rw [a_sumE_inl]; exact ok_some.2 (.inr ⟨g0, g1⟩)
  · rw [a_sumE_inr]; exact ok_some.2 (.inl rfl)
def DskI (d : Dsk) : Prop := d.1.length ≤ 9223372036854775807 ∧ d.2.1.length ≤ 9223372036854775807 ∧ ∀ w ∈ d.2.1, w.length ≤ 9223372036854775807
theorem szDisk_ok (k : Nat) (d : Dsk) (hk : 2000000 ≤ k) (hd : DskI d) : Ok (laws_szDisk_t A k (d, (1048576, ())) ()) (fun q => q.1.1 < 0 ∨ DskZ d) := by
  obtain ⟨h1, h2, h3⟩ := hd
  rw [laws_szDisk_t]
  simp only [szIntS_eq k d.1 1048576 (by omega) (by omega) h1, a_obind_some, a_cndS, a_ltI]
  by_cases hh : (1048576 : Int) < (d.1.length : Int)
  · simp only [hh, if_true]
    exact ok_some.2 (.inl (by decide))
  · have : ¬ (1048576 : Int) - (d.1.length : Int) < 0 := by omega
    simp only [hh, if_false, this, decide_false, Bool.false_eq_true]
    refine (szIntSS_ok k d.2.1 (1048576 - d.1.length) (by omega) (by omega) hk h2 h3).bind fun q hq => ?_
    rcases hq with hq | ⟨g0, g1⟩
    · simp only [hq]; exact ok_some.2 (.inl (by decide))
    · have : ¬ q.1.1 < 0 := by omega
      simp only [this, decide_false, Bool.false_eq_true, if_false]
      exact ok_some.2 (.inr (by unfold DskZ; omega))
theorem toIntSS_eq (k : Nat) (xs : List (List Int)) (hk : 2000000 ≤ k) (hl : xs.length ≤ 1048576) (hz : ∀ m ∈ xs, m.length ≤ 1048576) : laws_toIntSS_t A k (xs, ()) () = some ((xs, ()), ()) := by
  have h := to_loop (A := A) (k := k) (f := laws_toIntSS_t_b0 A k) ([] : List Int) xs (by omega)
    (fun i ys hi hy => by
      have hi' : i < ys.length := by omega
      have hm := hz xs[i] (List.getElem_mem hi)
      have ha : A.atL xs (i : Int) ([] : List Int) = xs[i] := by rw [a_atL]; simp [hi]
      simp (disch := omega) [laws_toIntSS_t_b0, hi, hi', hy, a_wrap, toIntS_eq k xs[i] (by omega) (by omega)])
    (fun ys hy => by simp [laws_toIntSS_t_b0])
  have h1 : (xs.length : Int) < 4294967296 := by omega
  simp [laws_toIntSS_t, h1, h]
theorem toDisk_eq (k : Nat) (d : Dsk) (hk : 2000000 ≤ k) (hz : DskZ d) : laws_toDisk_t A k (d, ()) () = some ((d, ()), ()) := by
  obtain ⟨h1, h2, h3, _, _⟩ := hz.len
  simp [laws_toDisk_t, toIntS_eq k d.1 (by omega) (by omega), toIntSS_eq k d.2.1 hk h2 h3]
theorem eqIntSS_eq (k : Nat) (xs ys : List (List Int)) (hk : 2000000 ≤ k) (hl : xs.length ≤ 1048576) (hz : ∀ m ∈ xs, m.length ≤ 1048576) : laws_eqIntSS_t A k (xs, (ys, ())) () = some ((decide (xs = ys), ()), ()) := by
  by_cases he : xs.length = ys.length
  · have h := eq_loop (A := A) (k := k) (f := laws_eqIntSS_t_b0 A k) ([] : List Int) xs ys (by omega) he
      (fun i hi => by
        have hi' : i < ys.length := by omega
        have hm := hz xs[i] (List.getElem_mem hi)
        simp (disch := omega) [laws_eqIntSS_t_b0, hi, hi', a_wrap, eqIntS_eq k xs[i] ys[i] (by omega) (by omega)]
        by_cases hv : xs[i] = ys[i] <;> simp [hv])
      (by simp [laws_eqIntSS_t_b0])
    simp only [laws_eqIntSS_t, a_lenL, he, a_eqI, decide_true, a_notB, Bool.not_true, a_cndS, Bool.false_eq_true, if_false, h]
    by_cases hv : xs = ys <;> simp [hv]
  · have h2 : ¬ (xs.length : Int) = ys.length := by omega
    have h3 : ¬ xs = ys := fun e => he (by rw [e])
    simp [laws_eqIntSS_t, h2, h3]
theorem eqDisk_eq (k : Nat) (d e : Dsk) (hk : 2000000 ≤ k) (hz : DskZ d) : laws_eqDisk_t A k (d, (e, ())) () = some ((decide (d = e), ()), ()) := by
  obtain ⟨h1, h2, h3, _, _⟩ := hz.len
  obtain ⟨b, ws, _⟩ := d
  obtain ⟨c, vs, _⟩ := e
  simp only at h1 h2 h3
  simp [laws_eqDisk_t, eqIntS_eq k b c (by omega) (by omega), eqIntSS_eq k ws vs hk h2 h3]
  by_cases e1 : b = c
  · by_cases e2 : ws = vs <;> simp [e1, e2]
  · simp [e1]
/-- the numbers n, n+1, .. in lists as long as these -/
def marksS : Int → List (List Int) → List (List Int)
  | _, [] => []
  | n, w :: ws => marks n w.length :: marksS (n + w.length) ws
theorem marksS_len (n : Int) (ws : List (List Int)) : (marksS n ws).length = ws.length := by
  induction ws generalizing n with
  | nil => rfl
  | cons w ws ih => simp [marksS, ih]
theorem marksS_snoc (n : Int) (ws : List (List Int)) (w : List Int) : marksS n (ws ++ [w]) = marksS n ws ++ [marks (n + total ws) w.length] := by
  induction ws generalizing n with
  | nil => simp [marksS, total]
  | cons v ws ih => simp only [List.cons_append, marksS, ih, total_cons]; rw [Int.add_assoc]
theorem marksS_get {n : Int} {ws : List (List Int)} {i : Nat} (hi : i < ws.length) : (marksS n ws)[i]?.getD [] = marks (n + total (ws.take i)) (ws[i]).length := by
  induction ws generalizing n i with
  | nil => simp at hi
  | cons v ws ih =>
    cases i with
    | zero => simp [marksS, total]
    | succ i =>
      have hi' : i < ws.length := by simpa using hi
      have := ih (n := n + v.length) hi'
      simp only [marksS, List.getElem?_cons_succ, this, List.take_succ_cons, total_cons, List.getElem_cons_succ]
      rw [Int.add_assoc]
theorem markS_set (ws : List (List Int)) (n : Int) (i : Nat) (h : i < ws.length) : (marksS n (ws.take i) ++ ws.drop i).set i (marks (n + total (ws.take i)) ws[i].length) = marksS n (ws.take (i + 1)) ++ ws.drop (i + 1) := by
  have hl : (marksS n (ws.take i)).length = i := by rw [marksS_len]; simp; omega
  rw [List.set_append_right _ _ (by omega), hl, Nat.sub_self]
  rw [List.drop_eq_getElem_cons h, List.set_cons_zero, List.take_succ_eq_append_getElem h, marksS_snoc]
  simp
theorem markIntSS_eq (k : Nat) (n : Int) (ws : List (List Int)) (hk : 2000000 ≤ k) (hl : ws.length ≤ 1048576) (ht : total ws ≤ 1048576) (h0 : 0 ≤ n) (h1 : n ≤ 100000000) :
    laws_markIntSS_t A k ((), (n, ())) ws = some ((n + total ws, ()), marksS n ws) := by
  have h := iter_for (A := A) (k := k) (f := laws_markIntSS_t_b0 A k) (fun i => (n + total (ws.take i), ((i : Int), (marksS n (ws.take i) ++ ws.drop i, ())))) ws.length (n + total ws, (marksS n ws, ()))
    (fun i hi => by
      have hw := total_mem (List.getElem_mem hi)
      have ht0 := total_nonneg (ws.take i)
      have ht1 := total_take_le ws i
      have hlen : (marksS n (ws.take i) ++ ws.drop i).length = ws.length := by rw [List.length_append, marksS_len]; simp; omega
      have hat : A.atL (marksS n (ws.take i) ++ ws.drop i) (i : Int) ([] : List Int) = ws[i] := by
        rw [a_atL]
        have hl : (marksS n (ws.take i)).length = i := by rw [marksS_len]; simp; omega
        simp [List.getD, List.getElem?_append_right (show (marksS n (ws.take i)).length ≤ i by omega), hl, hi]
      have hi' : (i : Int) < (ws.length : Int) := by omega
      have w2 : A.wrapI .i64 ((i : Int) + 1) = ((i + 1 : Nat) : Int) := by rw [a_wrap (by omega) (by omega)]; rfl
      simp only [laws_markIntSS_t_b0, a_cndS, a_ltI, a_lenL, hlen, hi', decide_true, if_true, a_le0, Int.natCast_nonneg, a_andB, Bool.and_self, hat, a_addI, w2,
        markIntS_eq k (n + total (ws.take i)) ws[i] (by omega) (by omega) (by omega) (by omega), a_obind_some, a_setL, Int.toNat_natCast, markS_set ws n i hi, total_take hi, Int.add_assoc])
    (by
      have hlen : (marksS n ws).length = ws.length := marksS_len n ws
      simp [laws_markIntSS_t_b0, hlen]) (by omega)
  simp only [List.take_zero, List.drop_zero, show marksS n [] = [] from rfl, List.nil_append, show total [] = 0 from rfl, Int.add_zero, Int.natCast_zero, Int.ofNat_zero] at h
  simp only [laws_markIntSS_t]
  have h' : A.iter k (laws_markIntSS_t_b0 A k) (n, ((0 : Int), (ws, ()))) = _ := h
  rw [h']; simp
theorem heldIntSS_eq (k : Nat) (n : Int) (ws : List (List Int)) (hk : 2000000 ≤ k) (hl : ws.length ≤ 1048576) (ht : total ws ≤ 1048576) (h0 : 0 ≤ n) (h1 : n ≤ 100000000) :
    laws_heldIntSS_t A k (marksS n ws, (n, ())) () = some ((n + total ws, ()), ()) := by
  have h := iter_for (A := A) (k := k) (f := laws_heldIntSS_t_b0 A k) (fun i => (marksS n ws, (n + total (ws.take i), ((i : Int), ())))) ws.length (.inl (n + total ws, ()))
    (fun i hi => by
      have hw := total_mem (List.getElem_mem hi)
      have ht0 := total_nonneg (ws.take i)
      have ht1 := total_take_le ws i
      have hat : A.atL (marksS n ws) (i : Int) ([] : List Int) = marks (n + total (ws.take i)) ws[i].length := by
        rw [a_atL, Int.toNat_natCast, List.getD]; exact marksS_get hi
      have hi' : (i : Int) < (ws.length : Int) := by omega
      have w2 : A.wrapI .i64 ((i : Int) + 1) = ((i + 1 : Nat) : Int) := by rw [a_wrap (by omega) (by omega)]; rfl
      have hge : ¬ n + (total (ws.take i) + (ws[i].length : Int)) < 0 := by omega
      simp only [laws_heldIntSS_t_b0, a_cndS, a_ltI, a_lenL, marksS_len, hi', decide_true, if_true, a_le0, Int.natCast_nonneg, a_andB, Bool.and_self, hat, a_addI, w2,
        heldIntS_eq k (n + total (ws.take i)) ws[i].length (by omega) (by omega) (by omega) (by omega), a_obind_some, hge, decide_false, Bool.false_eq_true, if_false, total_take hi, Int.add_assoc])
    (by simp [laws_heldIntSS_t_b0, marksS_len]) (by omega)
  simp only [List.take_zero, show total [] = 0 from rfl, Int.add_zero, Int.natCast_zero, Int.ofNat_zero] at h
  have h' : A.iter k (laws_heldIntSS_t_b0 A k) (marksS n ws, (n, ((0 : Int), ()))) = _ := h
  simp only [laws_heldIntSS_t]
  rw [h']; simp
def marksD (n : Int) (d : Dsk) : Dsk := (marks n d.1.length, (marksS (n + d.1.length) d.2.1, d.2.2))
def sizeD (d : Dsk) : Int := d.1.length + total d.2.1
theorem sizeD_nonneg (d : Dsk) : 0 ≤ sizeD d := by have := total_nonneg d.2.1; unfold sizeD; omega
theorem markDisk_eq (k : Nat) (n : Int) (d : Dsk) (hk : 2000000 ≤ k) (hz : DskZ d) (h0 : 0 ≤ n) (h1 : n ≤ 1000000) : laws_markDisk_t A k ((), (n, ())) d = some ((n + sizeD d, ()), marksD n d) := by
  obtain ⟨g1, g2, g3, g4, g5⟩ := hz.len
  simp [laws_markDisk_t, markIntS_eq k n d.1 (by omega) (by omega) h0 (by omega), markIntSS_eq k (n + d.1.length) d.2.1 hk g2 g5 (by omega) (by omega), marksD, sizeD, Int.add_assoc]
theorem heldDisk_eq (k : Nat) (n : Int) (d : Dsk) (hk : 2000000 ≤ k) (hz : DskZ d) (h0 : 0 ≤ n) (h1 : n ≤ 1000000) : laws_heldDisk_t A k (marksD n d, (n, ())) () = some ((n + sizeD d, ()), ()) := by
  obtain ⟨g1, g2, g3, g4, g5⟩ := hz.len
  have e1 : ¬ n + (d.1.length : Int) < 0 := by omega
  have e2 : ¬ n + (d.1.length : Int) + total d.2.1 < 0 := by omega
  simp [laws_heldDisk_t, marksD, heldIntS_eq k n d.1.length (by omega) (by omega) h0 (by omega), heldIntSS_eq k (n + d.1.length) d.2.1 hk g2 g5 (by omega) (by omega), sizeD, e1, e2]
  omega
theorem DskZ.f {d : Dsk} (h : DskZ d) : DskF d := ⟨by have := h.len.1; omega, fun w hw => by have := h.len.2.2.1 w hw; omega⟩
theorem DskZ0 : DskZ dsk0 := by simp [DskZ, total]
theorem diskOk_z {d : Dsk} (h : diskOk d = true) : DskZ d := by
  have hl := diskOk_len h
  unfold DskZ; omega
theorem appendD_z (d : Dsk) (x : List Int) : DskZ (appendD d x).1 := by
  unfold appendD
  split
  · rename_i hd
    simp only [Bool.and_eq_true] at hd
    split
    · rename_i hp; exact diskOk_z hp
    · exact diskOk_z hd.1
  · exact DskZ0
theorem FnExactDiskAppend_true (k : Nat) (hk : 2000000 ≤ k) (d : Dsk) (x : List Int) (hd : DskI d) : laws_FnExactDiskAppend_t A k (d, (x, ())) () = some ((true, ()), ()) := by
  rw [← ok_eq, laws_FnExactDiskAppend_t, ok_cndS]
  simp only [a_ltI, a_lenL, decide_eq_true_eq, decide_eq_false_iff_not]
  refine ⟨fun _ => ok_some.2 rfl, fun hx => ?_⟩
  refine (szDisk_ok k d hk hd).bind fun q hq => ?_
  rw [ok_cndS]
  simp only [a_ltI, decide_eq_true_eq, decide_eq_false_iff_not]
  refine ⟨fun _ => ok_some.2 rfl, fun hn => ?_⟩
  rcases hq with hq | hz
  · exact absurd hq hn
  have hs := appendD_z d x
  have s0 := sizeD_nonneg d
  have s1 := sizeD_nonneg (appendD d x).1
  have e1 : ¬ 1 + sizeD d + (x.length : Int) < 0 := by omega
  have e2 : ¬ 1 + sizeD (appendD d x).1 < 0 := by omega
  have b0 : sizeD d ≤ 1048576 := by have := hz.len; unfold DskZ at hz; unfold sizeD; omega
  rw [ok_eq]
  simp [toDisk_eq k d hk hz, toIntS_eq k x (by omega) (by omega), eqIntS_eq k x x (by omega) (by omega), impl_DiskAppend_eq k (by omega) d x hz.f, spec_DiskAppend_eq k (by omega) d x hz.f, eqDisk_eq k _ _ hk hs, eqDisk_eq k _ _ hk hz, markDisk_eq k 1 _ hk hz (by omega) (by omega), markIntS_eq k (1 + sizeD d) x (by omega) (by omega) (by omega) (by omega),
    markDisk_eq k 1 _ hk hs (by omega) (by omega), heldDisk_eq k 1 _ hk hs (by omega) (by omega), e1, e2]
end
abbrev TDsk : Ty := .prod (.slice (.int .i64)) (.prod (.slice (.slice (.int .i64))) .unit)
theorem dskI_of {d : TDsk.val} (h : InR TDsk d) : DskI d := ⟨len_of h.1, len_of h.2.1, fun w hw => len_of (h.2.1.2 w hw)⟩
theorem FnExactDiskAppend_pure (d : TDsk.val) (h : InR TDsk d) (x : (Ty.slice (.int .i64)).val) (_ : InR (.slice (.int .i64)) x) : ∃ k, laws_FnExactDiskAppend_t real k (d, (x, ())) () = some ((true, ()), ()) :=
  haveI := isReal_real
  ⟨2000000, FnExactDiskAppend_true 2000000 (by omega) d x (dskI_of h)⟩
end Go.Den.T
