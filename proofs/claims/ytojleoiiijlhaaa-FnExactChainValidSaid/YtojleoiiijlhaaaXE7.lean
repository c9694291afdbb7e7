/- Sessions, states, checkpoints: what the checks come to. -/
import Derived.Test.YtojleoiiijlhaaaXE6

namespace Go.Den.T
set_option linter.unusedVariables false
set_option linter.unusedSimpArgs false
set_option linter.unusedSectionVars false
variable {A : Atoms} [IsReal A]
def sesP (s q : Ses) (i : Nat) : Bool := decide (0 ≤ s.1 ∧ s.1 ≤ 3) && (decide (1 ≤ s.2.1 ∧ s.2.1 ≤ 999) && (decide (-2 ≤ s.2.2.1 ∧ s.2.2.1 ≤ 999) && (decide (i = 0) || !decide (s.1 ≤ q.1))))
def sesAt (l : List Ses) (i : Nat) : Bool := sesP (l.getD i ((0 : Int), ((0 : Int), ((0 : Int), ())))) (l.getD (i - 1) ((0 : Int), ((0 : Int), ((0 : Int), ())))) i
def sesOk (l : List Ses) : Bool := (List.range l.length).all (sesAt l)
theorem spec_SessionsValid_eq (k : Nat) (l : List Ses) (hk : l.length < k) (hl : l.length ≤ 1000000000) : spec_SessionsValid_t A k (l, ()) () = some ((sesOk l, ()), ()) := by
  have h := iter_all (A := A) (f := spec_SessionsValid_t_b0 A k) (fun i => (l, ((i : Int), ()))) l.length (sesAt l) (.inr ((false, ()), ())) (.inl ())
    (fun i hi => by
      have hi' : (i : Int) < (l.length : Int) := by omega
      have w : A.wrapI .i64 ((i : Int) + 1) = (i : Int) + 1 := a_wrap (by omega) (by omega)
      rw [show sesAt l i = sesP (l.getD i ((0 : Int), ((0 : Int), ((0 : Int), ())))) (l.getD (i - 1) ((0 : Int), ((0 : Int), ((0 : Int), ())))) i from rfl]
      simp only [spec_SessionsValid_t_b0, a_atL, Int.toNat_natCast]
      by_cases h0 : i = 0
      · generalize l.getD i ((0 : Int), ((0 : Int), ((0 : Int), ()))) = s
        subst h0
        obtain ⟨c, q, v, _⟩ := s
        simp only [sesP, l1In_eq, a_obind_some, a_cndS, a_ltI, a_lenL, a_le0, a_andB, hi', a_notB, a_addI, w]
        by_cases h1 : 0 ≤ c ∧ c ≤ 3 <;> by_cases h2 : 1 ≤ q ∧ q ≤ 999 <;> by_cases h3 : -2 ≤ v ∧ v ≤ 999 <;> simp [h1, h2, h3, hi]
      · have g1 : (0 : Int) < (i : Int) := by omega
        have w2 : A.wrapI .i64 (A.subI (i : Int) 1) = (i : Int) - 1 := by rw [a_subI]; exact a_wrap (by omega) (by omega)
        have g2 : (0 : Int) ≤ (i : Int) - 1 := by omega
        have g2' : (1 : Int) ≤ (i : Int) := by omega
        have g3 : (i : Int) - 1 < (l.length : Int) := by omega
        have g4 : ((i : Int) - 1).toNat = i - 1 := by omega
        simp only [w2, g4]
        generalize l.getD i ((0 : Int), ((0 : Int), ((0 : Int), ()))) = s
        generalize l.getD (i - 1) ((0 : Int), ((0 : Int), ((0 : Int), ()))) = s'
        obtain ⟨c, q, v, _⟩ := s
        obtain ⟨c', _⟩ := s'
        simp only [sesP, l1In_eq, a_obind_some, a_cndS, a_ltI, a_lenL, a_le0, a_andB, hi', a_notB, a_addI, w, a_leI]
        by_cases h1 : 0 ≤ c ∧ c ≤ 3 <;> by_cases h2 : 1 ≤ q ∧ q ≤ 999 <;> by_cases h3 : -2 ≤ v ∧ v ≤ 999 <;> by_cases h4 : c ≤ c' <;> simp [h1, h2, h3, h4, hi, g1, g2, g2', g3, h0] <;> omega)
    (by simp [spec_SessionsValid_t_b0]) (k := k) hk
  simp only [Int.natCast_zero, Int.ofNat_zero] at h
  simp only [spec_SessionsValid_t, h, a_obind_some, sesOk]
  cases (List.range l.length).all (sesAt l) <;> simp
theorem impl_SessionsValid_eq (k : Nat) (l : List Ses) (hk : l.length < k) (hl : l.length ≤ 1000000000) : impl_SessionsValid_t A k (l, ()) () = some ((sesOk l, ()), ()) := by
  have h := iter_all (A := A) (f := impl_SessionsValid_t_b0 A k) (fun i => (l, (l, ((l.length : Int), ((i : Int), ()))))) l.length (sesAt l) (.inr ((false, ()), ())) (.inl ())
    (fun i hi => by
      have hi' : (i : Int) < (l.length : Int) := by omega
      have w : A.wrapI .i64 ((i : Int) + 1) = (i : Int) + 1 := a_wrap (by omega) (by omega)
      rw [show sesAt l i = sesP (l.getD i ((0 : Int), ((0 : Int), ((0 : Int), ())))) (l.getD (i - 1) ((0 : Int), ((0 : Int), ((0 : Int), ())))) i from rfl]
      simp only [impl_SessionsValid_t_b0, a_atL, Int.toNat_natCast]
      have hw : ∀ j : Int, A.wrapI .i64 (A.subI j 1) = A.wrapI .i64 (j - 1) := fun j => by rw [a_subI]
      by_cases h0 : i = 0
      · generalize l.getD i ((0 : Int), ((0 : Int), ((0 : Int), ()))) = s
        subst h0
        obtain ⟨c, q, v, _⟩ := s
        simp only [sesP, seqValid_eq, a_obind_some, a_cndS, a_ltI, a_leI, a_lenL, a_le0, a_andB, hi', a_notB]
        by_cases h1 : c < 0
        · have : ¬ (0 ≤ c ∧ c ≤ 3) := by omega
          simp [h1, this, hi]
        by_cases h1' : 4 ≤ c
        · have : ¬ (0 ≤ c ∧ c ≤ 3) := by omega
          simp [h1, h1', this, hi]
        have h1'' : 0 ≤ c ∧ c ≤ 3 := by omega
        by_cases h2 : 1 ≤ q ∧ q ≤ 999
        case neg => simp [h1, h1', h1'', h2, hi]
        by_cases h3 : v < -2
        · have : ¬ (-2 ≤ v ∧ v ≤ 999) := by omega
          simp [h1, h1', h1'', h2, h3, this, hi]
        by_cases h3' : 999 < v
        · have : ¬ (-2 ≤ v ∧ v ≤ 999) := by omega
          simp [h1, h1', h1'', h2, h3, h3', this, hi]
        have h3'' : -2 ≤ v ∧ v ≤ 999 := by omega
        simp [h1, h1', h1'', h2, h3, h3', h3'', hi]; exact w
      · have g1 : 0 < i := by omega
        have w2 : A.wrapI .i64 ((i : Int) - 1) = (i : Int) - 1 := a_wrap (by omega) (by omega)
        have g2' : (1 : Int) ≤ (i : Int) := by omega
        have g2 : (0 : Int) ≤ (i : Int) - 1 := by omega
        have g3 : (i : Int) - 1 < (l.length : Int) := by omega
        have g4 : ((i : Int) - 1).toNat = i - 1 := by omega
        generalize hs : l.getD i ((0 : Int), ((0 : Int), ((0 : Int), ()))) = s
        generalize hs' : l.getD (i - 1) ((0 : Int), ((0 : Int), ((0 : Int), ()))) = s'
        obtain ⟨c, q, v, _⟩ := s
        obtain ⟨c', _⟩ := s'
        have hs2 : l[i - 1]?.getD ((0 : Int), ((0 : Int), ((0 : Int), ()))) = (c', ‹_›) := by simpa [List.getD] using hs'
        simp only [sesP, seqValid_eq, a_obind_some, a_cndS, a_ltI, a_leI, a_lenL, a_le0, a_andB, hi', a_notB]
        by_cases h1 : c < 0
        · have : ¬ (0 ≤ c ∧ c ≤ 3) := by omega
          simp [h1, this, hi]
        by_cases h1' : 4 ≤ c
        · have : ¬ (0 ≤ c ∧ c ≤ 3) := by omega
          simp [h1, h1', this, hi]
        have h1'' : 0 ≤ c ∧ c ≤ 3 := by omega
        by_cases h2 : 1 ≤ q ∧ q ≤ 999
        case neg => simp [h1, h1', h1'', h2, hi]
        by_cases h3 : v < -2
        · have : ¬ (-2 ≤ v ∧ v ≤ 999) := by omega
          simp [h1, h1', h1'', h2, h3, this, hi]
        by_cases h3' : 999 < v
        · have : ¬ (-2 ≤ v ∧ v ≤ 999) := by omega
          simp [h1, h1', h1'', h2, h3, h3', this, hi]
        have h3'' : -2 ≤ v ∧ v ≤ 999 := by omega
        by_cases hq : c ≤ c'
        · have hq' : ¬ c' < c := by omega
          simp [h1, h1', h1'', h2, h3, h3', h3'', g1, w2, g2, g2', g3, g4, h0, w, hi, hs2, hq, hq']
        · have hq' : c' < c := by omega
          simp [h1, h1', h1'', h2, h3, h3', h3'', g1, w2, g2, g2', g3, g4, h0, w, hi, hs2, hq, hq']
      )
    (by simp [impl_SessionsValid_t_b0]) (k := k) hk
  simp only [Int.natCast_zero, Int.ofNat_zero] at h
  simp only [impl_SessionsValid_t, a_lenL, h, a_obind_some, sesOk]
  cases (List.range l.length).all (sesAt l) <;> simp
/-! ### intervals -/
def inside (i : Itv) (s : List UInt8) : Bool := !bless s i.1 && (decide (i.2.1 = []) || bless s i.2.1)
theorem inside_eq (k : Nat) (i : Itv) (s : List UInt8) : impl_inside_t A k (i, (s, ())) () = some ((inside i s, ()), ()) := by
  have ht := bless_total s i.1
  simp only [bless] at ht
  simp only [impl_inside_t, a_cndS, a_orB, a_lessS, a_eqS, inside, bless, ht, Bool.not_not]
  by_cases h : i.2.1 = [] <;> cases (Op.bytesLess i.1 s || decide (i.1 = s)) <;> simp [h]
theorem IntervalHas_eq (k : Nat) (hk : 10 ≤ k) (i : Itv) (s : List UInt8) : spec_IntervalHas_t A k (i, (s, ())) () = some (((itvOk i && (keyOk s && inside i s)), ()), ()) := by
  simp only [spec_IntervalHas_t, spec_IntervalValid_eq k hk, spec_KeyValid_eq k hk, a_obind_some, a_cndS, a_notB, a_lessS, a_eqS, inside, bless]
  cases itvOk i <;> cases keyOk s <;> cases Op.bytesLess s i.1 <;> by_cases h : i.2.1 = [] <;> simp [h]
abbrev itv0 : Itv := ([], ([], ()))
def cut (i : Itv) (s : List UInt8) : Itv × (Itv × (Bool × Unit)) :=
  if (itvOk i && (keyOk s && (itvOk (i.1, (s, ())) && itvOk (s, (i.2.1, ()))))) = true then ((i.1, (s, ())), ((s, (i.2.1, ())), (true, ()))) else (itv0, (itv0, (false, ())))
theorem spec_IntervalCut_eq (k : Nat) (hk : 10 ≤ k) (i : Itv) (s : List UInt8) : spec_IntervalCut_t A k (i, (s, ())) () = some (cut i s, ()) := by
  simp only [spec_IntervalCut_t, spec_IntervalValid_eq k hk, spec_KeyValid_eq k hk, a_obind_some, a_cndS, a_notB, cut]
  cases itvOk i <;> cases keyOk s <;> cases itvOk (i.1, (s, ())) <;> cases itvOk (s, (i.2.1, ())) <;> simp
theorem impl_IntervalCut_eq (k : Nat) (hk : 10 ≤ k) (i : Itv) (s : List UInt8) : impl_IntervalCut_t A k (i, (s, ())) () = some (cut i s, ()) := by
  simp only [impl_IntervalCut_t, impl_IntervalValid_eq k hk, impl_KeyValid_eq k hk, a_obind_some, a_cndS, a_notB, cut]
  cases itvOk i <;> cases keyOk s <;> cases h3 : itvOk (i.1, (s, ())) <;> cases h4 : itvOk (s, (i.2.1, ())) <;> simp [h3, h4]
/-! ### states -/
def stOk (s : Stt) : Bool := itvOk s.1 && (pairsOk s.2.1 && (sesOk s.2.2.1 && (s.2.1.all (fun p => inside s.1 p.1) && (decide (s.2.2.2.2.1 = []) || (s.2.2.2.1 && (cut s.1 s.2.2.2.2.1).2.2.1)))))
theorem pairs_keys {l : List Pair} (h : pairsOk l = true) : l.length ≤ 48 ∧ ∀ p ∈ l, keyOk p.1 = true := by
  simp only [pairsOk, Bool.and_eq_true, decide_eq_true_eq] at h
  refine ⟨h.1, fun p hp => ?_⟩
  obtain ⟨i, hi, rfl⟩ := List.mem_iff_getElem.1 hp
  have := range_all.1 h.2 i hi
  simp only [pairAt, Bool.and_eq_true] at this
  have := this.1
  rwa [getD_lt hi] at this
theorem impl_StateValid_eq (k : Nat) (hk : 60 ≤ k) (s : Stt) (hk2 : s.2.2.1.length < k) (hl : s.2.2.1.length ≤ 1000000000) : impl_StateValid_t A k (s, ()) () = some ((stOk s, ()), ()) := by
  obtain ⟨i, ps, ss, fz, ct, _⟩ := s
  simp only at hk2 hl
  simp only [impl_StateValid_t, impl_IntervalValid_eq k (by omega : 10 ≤ k), impl_PairsValid_eq k hk, impl_SessionsValid_eq k ss hk2 hl, a_obind_some, a_cndS, a_notB, stOk]
  cases itvOk i with
  | false => simp
  | true =>
    cases hp : pairsOk ps with
    | false => simp
    | true =>
      obtain ⟨hp1, hp2⟩ := pairs_keys hp
      cases sesOk ss with
      | false => simp
      | true =>
        have h := iter_all (A := A) (f := impl_StateValid_t_b0 A k) (fun j => (ps, ((ps.length : Int), ((j : Int), ((i, (ps, (ss, (fz, (ct, ()))))), ()))))) ps.length (fun j => inside i (ps.getD j (([] : List UInt8), ((0 : Int), ()))).1) (.inr ((false, ()), ())) (.inl ((i, (ps, (ss, (fz, (ct, ()))))), ()))
          (fun j hj => by
            have w : A.wrapI .i64 ((j : Int) + 1) = (j : Int) + 1 := a_wrap (by omega) (by omega)
            simp [impl_StateValid_t_b0, hj, w, inside_eq]
            cases inside i ps[j].1 <;> simp)
          (by simp [impl_StateValid_t_b0]) (k := k) (by omega)
        have e := all_range (xs := ps) (q := fun p => inside i p.1) (d := (([] : List UInt8), ((0 : Int), ())))
        rw [e] at h
        simp only [Int.natCast_zero, Int.ofNat_zero] at h
        simp only [Bool.not_true, Bool.false_eq_true, if_false, a_sumE_inl, a_lenL, h, a_obind_some, Bool.true_and]
        cases ps.all (fun p => inside i p.1) with
        | false => simp
        | true =>
          by_cases hc : ct = []
          · simp [hc]
          · have hcut := impl_IntervalCut_eq (A := A) k (by omega : 10 ≤ k) i ct
            cases fz <;> simp [hc, hcut]
theorem spec_StateValid_eq (k : Nat) (hk : 60 ≤ k) (s : Stt) (hk2 : s.2.2.1.length < k) (hl : s.2.2.1.length ≤ 1000000000) : spec_StateValid_t A k (s, ()) () = some ((stOk s, ()), ()) := by
  obtain ⟨i, ps, ss, fz, ct, _⟩ := s
  simp only at hk2 hl
  simp only [spec_StateValid_t, spec_IntervalValid_eq k (by omega : 10 ≤ k), spec_PairsValid_eq k hk, spec_SessionsValid_eq k ss hk2 hl, a_obind_some, a_cndS, a_notB, stOk]
  cases hi : itvOk i with
  | false => simp
  | true =>
    cases hp : pairsOk ps with
    | false => simp
    | true =>
      obtain ⟨hp1, hp2⟩ := pairs_keys hp
      cases sesOk ss with
      | false => simp
      | true =>
        have h := iter_all (A := A) (f := spec_StateValid_t_b0 A k) (fun j => ((j : Int), ((i, (ps, (ss, (fz, (ct, ()))))), ()))) ps.length (fun j => inside i (ps.getD j (([] : List UInt8), ((0 : Int), ()))).1) (.inr ((false, ()), ())) (.inl ((i, (ps, (ss, (fz, (ct, ()))))), ()))
          (fun j hj => by
            have w : A.wrapI .i64 ((j : Int) + 1) = (j : Int) + 1 := a_wrap (by omega) (by omega)
            have hkey := hp2 ps[j] (List.getElem_mem hj)
            simp [spec_StateValid_t_b0, hj, w, IntervalHas_eq k (by omega : 10 ≤ k), hi, hkey]
            cases inside i ps[j].1 <;> simp)
          (by simp [spec_StateValid_t_b0]) (k := k) (by omega)
        have e := all_range (xs := ps) (q := fun p => inside i p.1) (d := (([] : List UInt8), ((0 : Int), ())))
        rw [e] at h
        simp only [Int.natCast_zero, Int.ofNat_zero] at h
        simp only [Bool.not_true, Bool.false_eq_true, if_false, a_sumE_inl, h, a_obind_some, Bool.true_and]
        cases ps.all (fun p => inside i p.1) with
        | false => simp
        | true =>
          have hcut := spec_IntervalCut_eq (A := A) k (by omega : 10 ≤ k) i ct
          by_cases hc : ct = []
          · subst hc; simp [hcut]
          · cases fz <;> simp [hc, hcut]
end Go.Den.T
