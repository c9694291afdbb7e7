/- Chains as arguments of exact laws: their size, copies and comparisons; which chains are valid. -/
import Derived.Test.YtojleoiiijlhaaaXE8
import Derived.Test.YtojleoiiijlhaaaXN1
import Derived.Test.YtojleoiiijlhaaaXTr8

namespace Go.Den.T
set_option linter.unusedVariables false
set_option linter.unusedSimpArgs false
set_option linter.unusedSectionVars false
abbrev Ans := Ent × (Int × Unit)
abbrev Chn := Stt × (Cfg × (List Rep × (List Bool × (List Msg × (List Ans × Unit)))))
instance : DecidableEq Msg := inferInstanceAs (DecidableEq (Int × (Int × (Int × (Cfg × (List Ent × Unit))))))
instance : DecidableEq Stt := inferInstanceAs (DecidableEq (Itv × (List Pair × (List Ses × (Bool × (List UInt8 × Unit))))))
instance : DecidableEq Ans := inferInstanceAs (DecidableEq (Ent × (Int × Unit)))
instance decMsgAns : DecidableEq (List Msg × (List Ans × Unit)) := inferInstance
instance decReps : DecidableEq (List Rep × (List Bool × (List Msg × (List Ans × Unit)))) := inferInstance
instance decCfgs : DecidableEq (Cfg × (List Rep × (List Bool × (List Msg × (List Ans × Unit))))) := inferInstance
instance : DecidableEq Chn := inferInstanceAs (DecidableEq (Stt × (Cfg × (List Rep × (List Bool × (List Msg × (List Ans × Unit)))))))
abbrev rep0 : Rep := ((0, ([], (false, ()))), (false, ([], ())))
abbrev ans0 : Ans := (ent0, (0, ()))
section
variable {A : Atoms} [IsReal A]
/-! ### sizes -/
theorem szState_ok2 (k : Nat) (s : Stt) (hk : 2000000 ≤ k) (hf : StFit s) : Ok (laws_szState_t A k (s, (1048576, ())) ()) (fun q => q.1.1 = -1 ∨ (0 ≤ q.1.1 ∧ q.1.1 ≤ 1048576 ∧ StShort s)) := by
  obtain ⟨f1, f2, f3, f4, f5, f6⟩ := hf
  have w1 : A.wrapI .i64 (1048576 - (s.1.1.length : Int)) = 1048576 - (s.1.1.length : Int) := a_wrap (by omega) (by omega)
  have hi : Ok (laws_szInterval_t A k (s.1, (1048576, ())) ()) (fun q => q.1.1 = -1 ∨ (0 ≤ q.1.1 ∧ q.1.1 ≤ 1048576)) := by
    rw [laws_szInterval_t, ok_cndS]
    simp only [a_lenL, a_subI, w1, a_ltI, decide_eq_true_eq, decide_eq_false_iff_not]
    refine ⟨fun _ => ok_some.2 (.inl rfl), fun h => ?_⟩
    have w2 : A.wrapI .i64 (1048576 - (s.1.1.length : Int) - (s.1.2.1.length : Int)) = 1048576 - (s.1.1.length : Int) - (s.1.2.1.length : Int) := a_wrap (by omega) (by omega)
    rw [ok_cndS]
    simp only [w2, decide_eq_true_eq, decide_eq_false_iff_not]
    exact ⟨fun _ => ok_some.2 (.inl rfl), fun h => ok_some.2 (.inr ⟨by show (0 : Int) ≤ 1048576 - (s.1.1.length : Int) - (s.1.2.1.length : Int); omega, by show (1048576 : Int) - (s.1.1.length : Int) - (s.1.2.1.length : Int) ≤ 1048576; omega⟩)⟩
  rw [laws_szState_t]
  refine hi.bind fun q hq => ?_
  rw [ok_cndS]
  simp only [a_ltI, decide_eq_true_eq, decide_eq_false_iff_not]
  refine ⟨fun _ => ok_some.2 (.inl rfl), fun h => ?_⟩
  have hq' : 0 ≤ q.1.1 ∧ q.1.1 ≤ 1048576 := hq.resolve_left (fun e => h (by omega))
  refine (szPairS_ok k s.2.1 q.1.1 hq'.1 hq'.2 hk f3 f4).bind fun q1 hq1 => ?_
  rw [ok_cndS]
  simp only [a_ltI, decide_eq_true_eq, decide_eq_false_iff_not]
  refine ⟨fun _ => ok_some.2 (.inl rfl), fun h1 => ?_⟩
  have hq1' : 0 ≤ q1.1.1 ∧ q1.1.1 ≤ q.1.1 ∧ s.2.1.length ≤ 1048576 := hq1.resolve_left (fun e => h1 (by omega))
  have w3 : A.wrapI .i64 (q1.1.1 - (s.2.2.1.length : Int)) = q1.1.1 - (s.2.2.1.length : Int) := a_wrap (by omega) (by omega)
  rw [laws_szSessionS_t]
  simp only [a_lenL, a_subI, w3, a_ltI]
  by_cases hs : q1.1.1 - (s.2.2.1.length : Int) < 0
  · simp [hs, ok_some]
  · have hsh : StShort s := ⟨hq1'.2.2, by omega⟩
    have w4 : A.wrapI .i64 (q1.1.1 - (s.2.2.1.length : Int) - (s.2.2.2.2.1.length : Int)) = q1.1.1 - (s.2.2.1.length : Int) - (s.2.2.2.2.1.length : Int) := a_wrap (by omega) (by omega)
    simp only [hs, a_cndS, decide_false, Bool.false_eq_true, if_false, a_obind_some, w4, decide_eq_true_eq]
    split
    · exact ok_some.2 (.inl rfl)
    · exact ok_some.2 (.inr ⟨by show (0 : Int) ≤ q1.1.1 - (s.2.2.1.length : Int) - (s.2.2.2.2.1.length : Int); omega, by show q1.1.1 - (s.2.2.1.length : Int) - (s.2.2.2.2.1.length : Int) ≤ 1048576; omega, hsh⟩)
/-- what of a replica is short enough -/
def RepZ (r : Rep) : Prop := r.1.2.1.length ≤ 1048576 ∧ r.2.2.1.length ≤ 1048576
def RepI (r : Rep) : Prop := r.1.2.1.length ≤ 9223372036854775807 ∧ r.2.2.1.length ≤ 9223372036854775807 ∧ ∀ e ∈ r.2.2.1, e.2.2.1.2.1.length ≤ 9223372036854775807
theorem szReplica_n (k : Nat) (r : Rep) (n : Int) (h0 : 0 ≤ n) (hn : n ≤ 1048576) (hk : 2000000 ≤ k) (hr : RepI r) :
    Ok (laws_szReplica_t A k (r, (n, ())) ()) (fun q => q.1.1 = -1 ∨ (0 ≤ q.1.1 ∧ q.1.1 ≤ n ∧ RepZ r)) := by
  obtain ⟨h1, hl, hs⟩ := hr
  rw [laws_szReplica_t, szConfig_eq k r.1 n (by omega) (by omega) h1, a_obind_some, ok_cndS]
  simp only [a_ltI, decide_eq_true_eq, decide_eq_false_iff_not]
  refine ⟨fun _ => ok_some.2 (.inl rfl), fun h => ?_⟩
  by_cases hc : n < r.1.2.1.length
  · rw [if_pos hc] at h; omega
  rw [if_neg hc] at h ⊢
  refine (szEntryS_ok k r.2.2.1 _ (by omega) (by omega) hk hl hs).bind fun q hq => ?_
  rw [ok_cndS]
  simp only [a_ltI, decide_eq_true_eq, decide_eq_false_iff_not]
  refine ⟨fun _ => ok_some.2 (.inl rfl), fun hh => ok_some.2 (.inr ?_)⟩
  rcases hq with hq | hq
  · omega
  · exact ⟨hq.1, by show q.1.1 ≤ n; omega, by omega, hq.2.2⟩
theorem szReplicaS_ok (k : Nat) (xs : List Rep) (n : Int) (h0 : 0 ≤ n) (hn : n ≤ 1048576) (hk : 2000000 ≤ k) (hl : xs.length ≤ 9223372036854775807) (hm : ∀ m ∈ xs, RepI m) :
    Ok (laws_szReplicaS_t A k (xs, (n, ())) ()) (fun q => q.1.1 = -1 ∨ (0 ≤ q.1.1 ∧ q.1.1 ≤ n ∧ xs.length ≤ 1048576 ∧ ∀ m ∈ xs, RepZ m)) := by
  have w : A.wrapI .i64 (n - (xs.length : Int)) = n - (xs.length : Int) := a_wrap (by omega) (by omega)
  rw [laws_szReplicaS_t, ok_cndS]
  simp only [a_lenL, a_subI, w, a_ltI, decide_eq_true_eq, decide_eq_false_iff_not]
  refine ⟨fun _ => ok_some.2 (.inl rfl), fun h => ?_⟩
  refine (sz_loopP (A := A) RepZ (f := laws_szReplicaS_t_b0 A k) xs (n - xs.length) (by omega) (by omega) (fun i m hi g0 g1 => ?_) (fun m => by simp [laws_szReplicaS_t_b0])).bind fun r hr => ?_
  · have g := szReplica_n (A := A) k xs[i] m g0 (by omega) hk (hm _ (List.getElem_mem hi))
    have w2 : A.wrapI .i64 ((i : Int) + 1) = ((i + 1 : Nat) : Int) := by rw [a_wrap (by omega) (by omega)]; rfl
    have hi' : (i : Int) < (xs.length : Int) := by omega
    have ha : A.atL xs (i : Int) rep0 = xs[i] := by rw [a_atL]; simp [hi]
    simp only [laws_szReplicaS_t_b0, a_cndS, a_ltI, a_lenL, hi', decide_true, if_true, a_le0, Int.natCast_nonneg, a_andB, Bool.and_self, ha, a_addI, w2]
    refine g.bind fun q hq => ?_
    rcases hq with hq | ⟨q0, q1, q2⟩
    · have : q.1.1 < 0 := by omega
      simp only [this, decide_true, if_true]
      exact ok_some.2 (.inr rfl)
    · have : ¬ q.1.1 < 0 := by omega
      simp only [this, decide_false, Bool.false_eq_true, if_false]
      exact ok_some.2 (.inl ⟨_, rfl, q0, q1, q2⟩)
  · rcases hr with ⟨m, rfl, g0, g1, g2⟩ | rfl
    · rw [a_sumE_inl]; exact ok_some.2 (.inr ⟨g0, by show m ≤ n; omega, by omega, g2⟩)
    · rw [a_sumE_inr]; exact ok_some.2 (.inl rfl)
theorem szAnswerS_ok (k : Nat) (xs : List Ans) (n : Int) (h0 : 0 ≤ n) (hn : n ≤ 1048576) (hk : 2000000 ≤ k) (hl : xs.length ≤ 9223372036854775807) (hm : ∀ m ∈ xs, m.1.2.2.1.2.1.length ≤ 9223372036854775807) :
    Ok (laws_szAnswerS_t A k (xs, (n, ())) ()) (fun q => q.1.1 = -1 ∨ (0 ≤ q.1.1 ∧ q.1.1 ≤ n ∧ xs.length ≤ 1048576)) := by
  have w : A.wrapI .i64 (n - (xs.length : Int)) = n - (xs.length : Int) := a_wrap (by omega) (by omega)
  rw [laws_szAnswerS_t, ok_cndS]
  simp only [a_lenL, a_subI, w, a_ltI, decide_eq_true_eq, decide_eq_false_iff_not]
  refine ⟨fun _ => ok_some.2 (.inl rfl), fun h => ?_⟩
  refine (sz_loopP (A := A) (fun _ => True) (f := laws_szAnswerS_t_b0 A k) xs (n - xs.length) (by omega) (by omega) (fun i m hi g0 g1 => ?_) (fun m => by simp [laws_szAnswerS_t_b0])).bind fun r hr => ?_
  · have g := szEntry_eq (A := A) k xs[i].1 m g0 (by omega) (hm _ (List.getElem_mem hi))
    have w2 : A.wrapI .i64 ((i : Int) + 1) = ((i + 1 : Nat) : Int) := by rw [a_wrap (by omega) (by omega)]; rfl
    have hi' : (i : Int) < (xs.length : Int) := by omega
    have ha : A.atL xs (i : Int) ans0 = xs[i] := by rw [a_atL]; simp [hi]
    simp only [laws_szAnswerS_t_b0, a_cndS, a_ltI, a_lenL, hi', decide_true, if_true, a_le0, Int.natCast_nonneg, a_andB, Bool.and_self, ha, a_addI, w2, laws_szAnswer_t, g, a_obind_some, szOf]
    by_cases hh : m < (xs[i].1.2.2.1.2.1.length : Int)
    · have e1 : (-1 : Int) < 0 := by omega
      simp only [hh, if_true, e1, decide_true, a_obind_some]
      exact ok_some.2 (.inr rfl)
    · have e1 : ¬ m - (xs[i].1.2.2.1.2.1.length : Int) < 0 := by omega
      simp only [hh, if_false, e1, decide_false, Bool.false_eq_true, a_obind_some]
      exact ok_some.2 (.inl ⟨_, rfl, by omega, by omega, trivial⟩)
  · rcases hr with ⟨m, rfl, g0, g1, g2⟩ | rfl
    · rw [a_sumE_inl]; exact ok_some.2 (.inr ⟨g0, by show m ≤ n; omega, by omega⟩)
    · rw [a_sumE_inr]; exact ok_some.2 (.inl rfl)
def ChnI (c : Chn) : Prop := StFit c.1 ∧ c.2.1.2.1.length ≤ 9223372036854775807 ∧ (c.2.2.1.length ≤ 9223372036854775807 ∧ ∀ r ∈ c.2.2.1, RepI r) ∧ c.2.2.2.1.length ≤ 9223372036854775807 ∧ (c.2.2.2.2.1.length ≤ 9223372036854775807 ∧ ∀ m ∈ c.2.2.2.2.1, MsgI m) ∧
  c.2.2.2.2.2.1.length ≤ 9223372036854775807 ∧ ∀ m ∈ c.2.2.2.2.2.1, m.1.2.2.1.2.1.length ≤ 9223372036854775807
def ChnZ (c : Chn) : Prop := StShort c.1 ∧ c.2.1.2.1.length ≤ 1048576 ∧ (c.2.2.1.length ≤ 1048576 ∧ ∀ r ∈ c.2.2.1, RepZ r) ∧ c.2.2.2.1.length ≤ 1048576 ∧ (c.2.2.2.2.1.length ≤ 1048576 ∧ ∀ m ∈ c.2.2.2.2.1, MsgZ m) ∧ c.2.2.2.2.2.1.length ≤ 1048576
theorem szChain_ok (k : Nat) (c : Chn) (hk : 2000000 ≤ k) (hc : ChnI c) : Ok (laws_szChain_t A k (c, (1048576, ())) ()) (fun q => q.1.1 < 0 ∨ ChnZ c) := by
  obtain ⟨h1, h2, ⟨h3, h3'⟩, h4, ⟨h5, h5'⟩, h6, h6'⟩ := hc
  have neg : (-1 : Int) < 0 := by omega
  rw [laws_szChain_t]
  refine (szState_ok2 k c.1 hk h1).bind fun q hq => ?_
  rw [ok_cndS]
  simp only [a_ltI, decide_eq_true_eq, decide_eq_false_iff_not]
  refine ⟨fun _ => ok_some.2 (.inl neg), fun hn => ?_⟩
  obtain ⟨a0, a1, a2⟩ := hq.resolve_left (fun e => hn (by omega))
  rw [szConfig_eq k c.2.1 _ (by omega) (by omega) h2, a_obind_some, ok_cndS]
  simp only [decide_eq_true_eq, decide_eq_false_iff_not]
  refine ⟨fun _ => ok_some.2 (.inl neg), fun hn => ?_⟩
  by_cases hh : q.1.1 < (c.2.1.2.1.length : Int)
  · rw [if_pos hh] at hn; omega
  rw [if_neg hh] at hn ⊢
  refine (szReplicaS_ok k c.2.2.1 _ (by omega) (by omega) hk h3 h3').bind fun q1 hq1 => ?_
  rw [ok_cndS]
  simp only [decide_eq_true_eq, decide_eq_false_iff_not]
  refine ⟨fun _ => ok_some.2 (.inl neg), fun hn => ?_⟩
  obtain ⟨b0, b1, b2, b3⟩ := hq1.resolve_left (fun e => hn (by omega))
  have w : A.wrapI .i64 (q1.1.1 - (c.2.2.2.1.length : Int)) = q1.1.1 - (c.2.2.2.1.length : Int) := a_wrap (by omega) (by omega)
  rw [laws_szBoolS_t]
  simp only [a_lenL, a_subI, w, a_ltI]
  by_cases hu : q1.1.1 - (c.2.2.2.1.length : Int) < 0
  · simp [hu, ok_some]
  simp only [hu, a_cndS, decide_false, Bool.false_eq_true, if_false, a_obind_some]
  refine (szMessageS_ok k c.2.2.2.2.1 _ (by omega) (by omega) hk h5 h5').bind fun q2 hq2 => ?_
  by_cases hn2 : q2.1.1 < 0
  · simp only [hn2, decide_true, if_true]; exact ok_some.2 (.inl neg)
  simp only [hn2, decide_false, Bool.false_eq_true, if_false]
  obtain ⟨c0, c1, c2, c3⟩ := hq2.resolve_left (fun e => hn2 (by omega))
  refine (szAnswerS_ok k c.2.2.2.2.2.1 _ c0 (by omega) hk h6 h6').bind fun q3 hq3 => ?_
  by_cases hn3 : q3.1.1 < 0
  · simp only [hn3, decide_true, if_true]; exact ok_some.2 (.inl neg)
  simp only [hn3, decide_false, Bool.false_eq_true, if_false]
  obtain ⟨d0, d1, d2⟩ := hq3.resolve_left (fun e => hn3 (by omega))
  exact ok_some.2 (.inr ⟨a2, by omega, ⟨b2, b3⟩, by omega, ⟨c2, c3⟩, d2⟩)
/-! ### copies and comparisons -/
theorem toReplicaS_eq (k : Nat) (xs : List Rep) (hk : 2000000 ≤ k) (hl : xs.length ≤ 1048576) (hz : ∀ m ∈ xs, RepZ m) : laws_toReplicaS_t A k (xs, ()) () = some ((xs, ()), ()) := by
  have h := to_loop (A := A) (k := k) (f := laws_toReplicaS_t_b0 A k) rep0 xs (by omega)
    (fun i ys hi hy => by
      have hi' : i < ys.length := by omega
      have hm := hz xs[i] (List.getElem_mem hi)
      simp (disch := omega) [laws_toReplicaS_t_b0, hi, hi', hy, a_wrap, toReplica_eq k xs[i] hk hm.1 hm.2])
    (fun ys hy => by simp [laws_toReplicaS_t_b0])
  have h1 : (xs.length : Int) < 4294967296 := by omega
  simp [laws_toReplicaS_t, h1, h]
theorem eqReplicaS_eq (k : Nat) (xs ys : List Rep) (hk : 2000000 ≤ k) (hl : xs.length ≤ 1048576) (hz : ∀ m ∈ xs, RepZ m) : laws_eqReplicaS_t A k (xs, (ys, ())) () = some ((decide (xs = ys), ()), ()) := by
  by_cases he : xs.length = ys.length
  · have h := eq_loop (A := A) (k := k) (f := laws_eqReplicaS_t_b0 A k) rep0 xs ys (by omega) he
      (fun i hi => by
        have hi' : i < ys.length := by omega
        have hm := hz xs[i] (List.getElem_mem hi)
        simp (disch := omega) [laws_eqReplicaS_t_b0, hi, hi', a_wrap, eqReplica_eq k xs[i] ys[i] hk hm.1 hm.2]
        by_cases hv : xs[i] = ys[i] <;> simp [hv])
      (by simp [laws_eqReplicaS_t_b0])
    simp only [laws_eqReplicaS_t, a_lenL, he, a_eqI, decide_true, a_notB, Bool.not_true, a_cndS, Bool.false_eq_true, if_false, h]
    by_cases hv : xs = ys <;> simp [hv]
  · have h2 : ¬ (xs.length : Int) = ys.length := by omega
    have h3 : ¬ xs = ys := fun e => he (by rw [e])
    simp [laws_eqReplicaS_t, h2, h3]
theorem toBoolS_eq (k : Nat) (xs : List Bool) (hk : 2000000 ≤ k) (hl : xs.length ≤ 1048576) : laws_toBoolS_t A k (xs, ()) () = some ((xs, ()), ()) := by
  have h := to_loop (A := A) (k := k) (f := laws_toBoolS_t_b0 A k) false xs (by omega)
    (fun i ys hi hy => by
      have hi' : i < ys.length := by omega
      simp (disch := omega) [laws_toBoolS_t_b0, hi, hi', hy, a_wrap])
    (fun ys hy => by simp [laws_toBoolS_t_b0])
  have h1 : (xs.length : Int) < 4294967296 := by omega
  simp [laws_toBoolS_t, h1, h]
theorem eqBoolS_eq (k : Nat) (xs ys : List Bool) (hk : 2000000 ≤ k) (hl : xs.length ≤ 1048576) : laws_eqBoolS_t A k (xs, (ys, ())) () = some ((decide (xs = ys), ()), ()) := by
  by_cases he : xs.length = ys.length
  · have h := eq_loop (A := A) (k := k) (f := laws_eqBoolS_t_b0 A k) false xs ys (by omega) he
      (fun i hi => by
        have hi' : i < ys.length := by omega
        simp (disch := omega) [laws_eqBoolS_t_b0, hi, hi', a_wrap]
        by_cases hv : xs[i] = ys[i] <;> simp [hv])
      (by simp [laws_eqBoolS_t_b0])
    simp only [laws_eqBoolS_t, a_lenL, he, a_eqI, decide_true, a_notB, Bool.not_true, a_cndS, Bool.false_eq_true, if_false, h]
    by_cases hv : xs = ys <;> simp [hv]
  · have h2 : ¬ (xs.length : Int) = ys.length := by omega
    have h3 : ¬ xs = ys := fun e => he (by rw [e])
    simp [laws_eqBoolS_t, h2, h3]
theorem toAnswerS_eq (k : Nat) (xs : List Ans) (hk : 2000000 ≤ k) (hl : xs.length ≤ 1048576) : laws_toAnswerS_t A k (xs, ()) () = some ((xs, ()), ()) := by
  have h := to_loop (A := A) (k := k) (f := laws_toAnswerS_t_b0 A k) ans0 xs (by omega)
    (fun i ys hi hy => by
      have hi' : i < ys.length := by omega
      simp (disch := omega) [laws_toAnswerS_t_b0, hi, hi', hy, a_wrap, laws_toAnswer_t, toEntry_eq])
    (fun ys hy => by simp [laws_toAnswerS_t_b0])
  have h1 : (xs.length : Int) < 4294967296 := by omega
  simp [laws_toAnswerS_t, h1, h]
theorem eqAnswer_eq (k : Nat) (c d : Ans) : laws_eqAnswer_t A k (c, (d, ())) () = some ((decide (c = d), ()), ()) := by
  obtain ⟨a1, a2, _⟩ := c
  obtain ⟨b1, b2, _⟩ := d
  simp only [laws_eqAnswer_t, eqEntry_eq, a_obind_some, a_cndS, a_notB, a_eqI]
  by_cases h1 : a1 = b1
  · by_cases h2 : a2 = b2 <;> simp [h1, h2]
  · simp [h1]
theorem eqAnswerS_eq (k : Nat) (xs ys : List Ans) (hk : 2000000 ≤ k) (hl : xs.length ≤ 1048576) : laws_eqAnswerS_t A k (xs, (ys, ())) () = some ((decide (xs = ys), ()), ()) := by
  by_cases he : xs.length = ys.length
  · have h := eq_loop (A := A) (k := k) (f := laws_eqAnswerS_t_b0 A k) ans0 xs ys (by omega) he
      (fun i hi => by
        have hi' : i < ys.length := by omega
        simp (disch := omega) [laws_eqAnswerS_t_b0, hi, hi', a_wrap, eqAnswer_eq]
        by_cases hv : xs[i] = ys[i] <;> simp [hv])
      (by simp [laws_eqAnswerS_t_b0])
    simp only [laws_eqAnswerS_t, a_lenL, he, a_eqI, decide_true, a_notB, Bool.not_true, a_cndS, Bool.false_eq_true, if_false, h]
    by_cases hv : xs = ys <;> simp [hv]
  · have h2 : ¬ (xs.length : Int) = ys.length := by omega
    have h3 : ¬ xs = ys := fun e => he (by rw [e])
    simp [laws_eqAnswerS_t, h2, h3]
theorem toChain_eq (k : Nat) (c : Chn) (hk : 2000000 ≤ k) (hz : ChnZ c) : laws_toChain_t A k (c, ()) () = some ((c, ()), ()) := by
  obtain ⟨h1, h2, h3, h4, h5, h6⟩ := hz
  simp only [laws_toChain_t, toState_eq k hk c.1 h1, toConfig_eq k c.2.1 (by omega) (by omega), toReplicaS_eq k c.2.2.1 hk h3.1 h3.2, toBoolS_eq k c.2.2.2.1 hk h4, toMessageS_eq k c.2.2.2.2.1 hk h5.1 h5.2, toAnswerS_eq k c.2.2.2.2.2.1 hk h6, a_obind_some]
theorem eqChain_eq (k : Nat) (c d : Chn) (hk : 2000000 ≤ k) (hz : ChnZ c) : laws_eqChain_t A k (c, (d, ())) () = some ((decide (c = d), ()), ()) := by
  obtain ⟨h1, h2, h3, h4, h5, h6⟩ := hz
  obtain ⟨a1, a2, a3, a4, a5, a6, _⟩ := c
  obtain ⟨b1, b2, b3, b4, b5, b6, _⟩ := d
  simp only at h1 h2 h3 h4 h5 h6
  simp only [laws_eqChain_t, eqState_eq k hk a1 b1 h1, eqConfig_eq k a2 b2 (by omega) (by omega), eqReplicaS_eq k a3 b3 hk h3.1 h3.2, eqBoolS_eq k a4 b4 hk h4, eqMessageS_eq k a5 b5 hk h5.1 h5.2, eqAnswerS_eq k a6 b6 hk h6, a_obind_some, a_cndS, a_notB]
  by_cases e1 : a1 = b1
  · by_cases e2 : a2 = b2
    · by_cases e3 : a3 = b3
      · by_cases e4 : a4 = b4
        · by_cases e5 : a5 = b5
          · by_cases e6 : a6 = b6 <;> simp [e1, e2, e3, e4, e5, e6]
          · simp [e1, e2, e3, e4, e5]
        · simp [e1, e2, e3, e4]
      · simp [e1, e2, e3]
    · simp [e1, e2]
  · simp [e1]
/-! ### valid chains -/
def ansOk (a : Ans) : Bool := entOk a.1 && decide (-4 ≤ a.2.1 ∧ a.2.1 ≤ 999)
def chnOk (c : Chn) : Bool := stOk c.1 && (cfgOk c.2.1 && (decide (c.2.2.1.length = 5) && (decide (c.2.2.2.1.length = 5) && (bagOk c.2.2.2.2.1 && (decide (c.2.2.2.2.2.1.length ≤ 24) &&
  (c.2.2.1.all (fun r => repOk r && decide (r.1.1 ≤ c.2.1.1)) && (c.2.2.2.2.1.all (fun m => decide (m.2.2.1 ≤ c.2.1.1)) && c.2.2.2.2.2.1.all ansOk)))))))
theorem spec_ChainValid_eq (k : Nat) (hk : 2000000 ≤ k) (c : Chn) (hs : StShort c.1) : spec_ChainValid_t A k (c, ()) () = some ((chnOk c, ()), ()) := by
  have hs2 := hs.2
  simp only [spec_ChainValid_t, spec_StateValid_eq k (by omega) c.1 (by omega) (by omega), spec_ConfigValid_eq k (by omega) c.2.1, spec_BagValid_eq k (by omega) c.2.2.2.2.1, a_obind_some, a_cndS, a_notB, a_eqI, a_lenL, a_ltI, chnOk]
  rcases Bool.eq_false_or_eq_true (stOk c.1) with g1 | g1
  case inr => simp [g1]
  rcases Bool.eq_false_or_eq_true (cfgOk c.2.1) with g2 | g2
  case inr => simp [g1, g2]
  by_cases g3 : c.2.2.1.length = 5
  case neg =>
    have : ¬ (c.2.2.1.length : Int) = 5 := by omega
    simp [g1, g2, g3, this]
  by_cases g4 : c.2.2.2.1.length = 5
  case neg =>
    have : ¬ (c.2.2.2.1.length : Int) = 5 := by omega
    simp [g1, g2, g3, g4, this]
  rcases Bool.eq_false_or_eq_true (bagOk c.2.2.2.2.1) with g5 | g5
  case inr => simp [g1, g2, g3, g4, g5]
  by_cases g6 : c.2.2.2.2.2.1.length ≤ 24
  case neg =>
    have : (24 : Int) < (c.2.2.2.2.2.1.length : Int) := by omega
    simp [g1, g2, g3, g4, g5, g6, this]
  have g3' : (c.2.2.1.length : Int) = 5 := by omega
  have g4' : (c.2.2.2.1.length : Int) = 5 := by omega
  have g6' : ¬ (24 : Int) < (c.2.2.2.2.2.1.length : Int) := by omega
  have hb : c.2.2.2.2.1.length ≤ 10 := by simp [bagOk] at g5; exact g5.1
  have l0 := iter_all (A := A) (f := spec_ChainValid_t_b0 A k) (fun i => ((i : Int), (c, ()))) c.2.2.1.length (fun i => repOk (c.2.2.1.getD i rep0) && decide ((c.2.2.1.getD i rep0).1.1 ≤ c.2.1.1)) (.inr ((false, ()), ())) (.inl (c, ()))
    (fun i hi => by
      have i5 : (i : Int) < 5 := by omega
      have w : A.wrapI .i64 ((i : Int) + 1) = ((i + 1 : Nat) : Int) := by rw [a_wrap (by omega) (by omega)]; rfl
      have ha : A.atL c.2.2.1 (i : Int) rep0 = c.2.2.1.getD i rep0 := by rw [a_atL]; rfl
      simp only [spec_ChainValid_t_b0, a_cndS, a_ltI, i5, decide_true, if_true, a_lenL, g3', a_le0, Int.natCast_nonneg, a_andB, Bool.and_self, ha, spec_ReplicaValid_eq k (by omega), a_obind_some, a_notB, a_addI, w]
      generalize c.2.2.1.getD i rep0 = r
      rcases Bool.eq_false_or_eq_true (repOk r) with v | v
      · by_cases u : r.1.1 ≤ c.2.1.1
        · have : ¬ c.2.1.1 < r.1.1 := by omega
          simp [v, u, this]
        · have : c.2.1.1 < r.1.1 := by omega
          simp [v, u, this]
      · simp [v])
    (by rw [g3]; simp [spec_ChainValid_t_b0]) (k := k) (by omega)
  have l1 := iter_all (A := A) (f := spec_ChainValid_t_b1 A k) (fun i => ((i : Int), (c, ()))) c.2.2.2.2.1.length (fun i => decide ((c.2.2.2.2.1.getD i msg0).2.2.1 ≤ c.2.1.1)) (.inr ((false, ()), ())) (.inl (c, ()))
    (fun i hi => by
      have i5 : (i : Int) < (c.2.2.2.2.1.length : Int) := by omega
      have w : A.wrapI .i64 ((i : Int) + 1) = ((i + 1 : Nat) : Int) := by rw [a_wrap (by omega) (by omega)]; rfl
      have ha : A.atL c.2.2.2.2.1 (i : Int) msg0 = c.2.2.2.2.1.getD i msg0 := by rw [a_atL]; rfl
      simp only [spec_ChainValid_t_b1, a_cndS, a_ltI, i5, decide_true, if_true, a_lenL, a_le0, Int.natCast_nonneg, a_andB, Bool.and_self, ha, a_addI, w]
      generalize c.2.2.2.2.1.getD i msg0 = r
      by_cases u : r.2.2.1 ≤ c.2.1.1
      · have : ¬ c.2.1.1 < r.2.2.1 := by omega
        simp [u, this]
      · have : c.2.1.1 < r.2.2.1 := by omega
        simp [u, this])
    (by simp [spec_ChainValid_t_b1]) (k := k) (by omega)
  have l2 := iter_all (A := A) (f := spec_ChainValid_t_b2 A k) (fun i => ((i : Int), (c, ()))) c.2.2.2.2.2.1.length (fun i => ansOk (c.2.2.2.2.2.1.getD i ans0)) (.inr ((false, ()), ())) (.inl ())
    (fun i hi => by
      have i5 : (i : Int) < (c.2.2.2.2.2.1.length : Int) := by omega
      have w : A.wrapI .i64 ((i : Int) + 1) = ((i + 1 : Nat) : Int) := by rw [a_wrap (by omega) (by omega)]; rfl
      have ha : A.atL c.2.2.2.2.2.1 (i : Int) ans0 = c.2.2.2.2.2.1.getD i ans0 := by rw [a_atL]; rfl
      simp only [spec_ChainValid_t_b2, a_cndS, a_ltI, i5, decide_true, if_true, a_lenL, a_le0, Int.natCast_nonneg, a_andB, Bool.and_self, ha, a_addI, w, spec_EntryValid_eq k (by omega), l1In_eq, a_obind_some, a_notB]
      generalize c.2.2.2.2.2.1.getD i ans0 = r
      rcases Bool.eq_false_or_eq_true (entOk r.1) with v | v
      · by_cases u : -4 ≤ r.2.1 ∧ r.2.1 ≤ 999 <;> simp [ansOk, v, u]
      · simp [ansOk, v])
    (by simp [spec_ChainValid_t_b2]) (k := k) (by omega)
  rw [all_range (q := fun r : Rep => repOk r && decide (r.1.1 ≤ c.2.1.1))] at l0
  rw [all_range (q := fun m : Msg => decide (m.2.2.1 ≤ c.2.1.1))] at l1
  rw [all_range (q := ansOk)] at l2
  simp only [Int.natCast_zero, Int.ofNat_zero] at l0 l1 l2
  have e5 : ((5 : Nat) : Int) = 5 := rfl
  simp only [g1, g2, g3', g4', g5, g6', g3, g4, g6, e5, decide_true, decide_false, Bool.not_true, Bool.false_eq_true, if_false, a_sumE_inl, l0, a_obind_some, Bool.true_and]
  cases c.2.2.1.all (fun r => repOk r && decide (r.1.1 ≤ c.2.1.1)) with
  | false => simp
  | true =>
    simp only [if_true, a_sumE_inl, l1, a_obind_some, Bool.true_and]
    cases c.2.2.2.2.1.all (fun m => decide (m.2.2.1 ≤ c.2.1.1)) with
    | false => simp
    | true =>
      simp only [if_true, a_sumE_inl, l2, a_obind_some, Bool.true_and]
      cases c.2.2.2.2.2.1.all ansOk <;> simp
theorem answersValid_eq (k : Nat) (hk : 2000000 ≤ k) (l : List Ans) : impl_answersValid_t A k (l, ()) () = some (((decide (l.length ≤ 24) && l.all ansOk), ()), ()) := by
  rw [impl_answersValid_t]
  by_cases g6 : l.length ≤ 24
  case neg =>
    have : (24 : Int) < (l.length : Int) := by omega
    simp [g6, this]
  have g6' : ¬ (24 : Int) < (l.length : Int) := by omega
  have l2 := iter_all (A := A) (f := impl_answersValid_t_b0 A k) (fun i => (l, ((l.length : Int), ((i : Int), ())))) l.length (fun i => ansOk (l.getD i ans0)) (.inr ((false, ()), ())) (.inl ())
    (fun i hi => by
      have i5 : (i : Int) < (l.length : Int) := by omega
      have w : A.wrapI .i64 ((i : Int) + 1) = ((i + 1 : Nat) : Int) := by rw [a_wrap (by omega) (by omega)]; rfl
      have ha : A.atL l (i : Int) ans0 = l.getD i ans0 := by rw [a_atL]; rfl
      simp only [impl_answersValid_t_b0, a_cndS, a_ltI, i5, decide_true, if_true, a_lenL, a_le0, Int.natCast_nonneg, a_andB, Bool.and_self, ha, a_addI, w, impl_EntryValid_eq k (by omega), a_obind_some, a_notB]
      generalize l.getD i ans0 = r
      rcases Bool.eq_false_or_eq_true (entOk r.1) with v | v
      · by_cases u1 : r.2.1 < -4
        · have : ¬ (-4 ≤ r.2.1 ∧ r.2.1 ≤ 999) := by omega
          simp [ansOk, v, u1, this]
        · by_cases u2 : 999 < r.2.1
          · have : ¬ (-4 ≤ r.2.1 ∧ r.2.1 ≤ 999) := by omega
            simp [ansOk, v, u1, u2, this]
          · have : -4 ≤ r.2.1 ∧ r.2.1 ≤ 999 := by omega
            simp [ansOk, v, u1, u2, this]
      · simp [ansOk, v])
    (by simp [impl_answersValid_t_b0]) (k := k) (by omega)
  rw [all_range (q := ansOk)] at l2
  simp only [Int.natCast_zero, Int.ofNat_zero] at l2
  simp only [a_cndS, a_ltI, a_lenL, g6', decide_false, Bool.false_eq_true, if_false, l2, a_obind_some, g6, decide_true, Bool.true_and]
  cases l.all ansOk <;> simp
theorem impl_ChainValid_eq (k : Nat) (hk : 2000000 ≤ k) (c : Chn) (hs : StShort c.1) : impl_ChainValid_t A k (c, ()) () = some ((chnOk c, ()), ()) := by
  have hs2 := hs.2
  simp only [impl_ChainValid_t, impl_StateValid_eq k (by omega) c.1 (by omega) (by omega), impl_ConfigValid_eq k (by omega) c.2.1, impl_BagValid_eq k (by omega) c.2.2.2.2.1, a_obind_some, a_cndS, a_notB, a_eqI, a_lenL, chnOk]
  rcases Bool.eq_false_or_eq_true (stOk c.1) with g1 | g1
  case inr => simp [g1]
  rcases Bool.eq_false_or_eq_true (cfgOk c.2.1) with g2 | g2
  case inr => simp [g1, g2]
  by_cases g3 : c.2.2.1.length = 5
  case neg =>
    have : ¬ (c.2.2.1.length : Int) = 5 := by omega
    simp [g1, g2, g3, this]
  by_cases g4 : c.2.2.2.1.length = 5
  case neg =>
    have : ¬ (c.2.2.2.1.length : Int) = 5 := by omega
    simp [g1, g2, g3, g4, this]
  rcases Bool.eq_false_or_eq_true (bagOk c.2.2.2.2.1) with g5 | g5
  case inr => simp [g1, g2, g3, g4, g5]
  have g3' : (c.2.2.1.length : Int) = 5 := by omega
  have g4' : (c.2.2.2.1.length : Int) = 5 := by omega
  have hb : c.2.2.2.2.1.length ≤ 10 := by simp [bagOk] at g5; exact g5.1
  have l0 := iter_all (A := A) (f := impl_ChainValid_t_b0 A k) (fun i => (c.2.2.1, (((c.2.2.1.length : Nat) : Int), ((i : Int), (c, ()))))) c.2.2.1.length (fun i => repOk (c.2.2.1.getD i rep0) && decide ((c.2.2.1.getD i rep0).1.1 ≤ c.2.1.1)) (.inr ((false, ()), ())) (.inl (c, ()))
    (fun i hi => by
      have i5 : (i : Int) < (c.2.2.1.length : Int) := by omega
      have w : A.wrapI .i64 ((i : Int) + 1) = ((i + 1 : Nat) : Int) := by rw [a_wrap (by omega) (by omega)]; rfl
      have ha : A.atL c.2.2.1 (i : Int) rep0 = c.2.2.1.getD i rep0 := by rw [a_atL]; rfl
      simp only [impl_ChainValid_t_b0, a_cndS, a_ltI, i5, decide_true, if_true, a_lenL, a_le0, Int.natCast_nonneg, a_andB, Bool.and_self, ha, impl_ReplicaValid_eq k (by omega), a_obind_some, a_notB, a_addI, w]
      generalize c.2.2.1.getD i rep0 = r
      rcases Bool.eq_false_or_eq_true (repOk r) with v | v
      · by_cases u : r.1.1 ≤ c.2.1.1
        · have : ¬ c.2.1.1 < r.1.1 := by omega
          simp [v, u, this]
        · have : c.2.1.1 < r.1.1 := by omega
          simp [v, u, this]
      · simp [v])
    (by simp [impl_ChainValid_t_b0]) (k := k) (by omega)
  have l1 := iter_all (A := A) (f := impl_ChainValid_t_b1 A k) (fun i => (c.2.2.2.2.1, (((c.2.2.2.2.1.length : Nat) : Int), ((i : Int), (c, ()))))) c.2.2.2.2.1.length (fun i => decide ((c.2.2.2.2.1.getD i msg0).2.2.1 ≤ c.2.1.1)) (.inr ((false, ()), ())) (.inl (c, ()))
    (fun i hi => by
      have i5 : (i : Int) < (c.2.2.2.2.1.length : Int) := by omega
      have w : A.wrapI .i64 ((i : Int) + 1) = ((i + 1 : Nat) : Int) := by rw [a_wrap (by omega) (by omega)]; rfl
      have ha : A.atL c.2.2.2.2.1 (i : Int) msg0 = c.2.2.2.2.1.getD i msg0 := by rw [a_atL]; rfl
      simp only [impl_ChainValid_t_b1, a_cndS, a_ltI, i5, decide_true, if_true, a_lenL, a_le0, Int.natCast_nonneg, a_andB, Bool.and_self, ha, a_addI, w]
      generalize c.2.2.2.2.1.getD i msg0 = r
      by_cases u : r.2.2.1 ≤ c.2.1.1
      · have : ¬ c.2.1.1 < r.2.2.1 := by omega
        simp [u, this]
      · have : c.2.1.1 < r.2.2.1 := by omega
        simp [u, this])
    (by simp [impl_ChainValid_t_b1]) (k := k) (by omega)
  rw [all_range (q := fun r : Rep => repOk r && decide (r.1.1 ≤ c.2.1.1))] at l0
  rw [all_range (q := fun m : Msg => decide (m.2.2.1 ≤ c.2.1.1))] at l1
  simp only [Int.natCast_zero, Int.ofNat_zero] at l0 l1
  have e5 : ((5 : Nat) : Int) = 5 := rfl
  simp only [g1, g2, g3', g4', g5, g3, g4, e5, decide_true, decide_false, Bool.not_true, Bool.false_eq_true, if_false, a_sumE_inl, a_obind_some, Bool.true_and]
  rw [g3, e5] at l0
  simp only [l0, a_obind_some]
  cases c.2.2.1.all (fun r => repOk r && decide (r.1.1 ≤ c.2.1.1)) with
  | false => simp
  | true =>
    simp only [if_true, a_sumE_inl, l1, a_obind_some, Bool.true_and]
    cases c.2.2.2.2.1.all (fun m => decide (m.2.2.1 ≤ c.2.1.1)) with
    | false => simp
    | true => simp only [if_true, a_sumE_inl, answersValid_eq k hk, a_obind_some, Bool.true_and]
theorem FnExactChainValid_true (k : Nat) (hk : 2000000 ≤ k) (c : Chn) (hc : ChnI c) : laws_FnExactChainValid_t A k (c, ()) () = some ((true, ()), ()) := by
  rw [← ok_eq, laws_FnExactChainValid_t]
  refine (szChain_ok k c hk hc).bind fun q hq => ?_
  rw [ok_cndS]
  simp only [a_ltI, decide_eq_true_eq, decide_eq_false_iff_not]
  refine ⟨fun _ => ok_some.2 rfl, fun hn => ?_⟩
  have hz := hq.resolve_left hn
  rw [ok_eq]
  simp only [toChain_eq k c hk hz, eqChain_eq k c c hk hz, spec_ChainValid_eq k hk c hz.1, impl_ChainValid_eq k hk c hz.1, a_obind_some, a_eqB, a_notB, a_cndS]
  simp
end
abbrev TAns : Ty := .prod TEnt (.prod (.int .i64) .unit)
abbrev TChn : Ty := .prod TStt (.prod TCfg' (.prod (.slice TRep) (.prod (.slice .bool) (.prod (.slice TMsg) (.prod (.slice TAns) .unit)))))
theorem repI_of {m : TRep.val} (h : InR TRep m) : RepI m := ⟨Nat.le_trans h.1.2.1.1 (by decide), Nat.le_trans h.2.2.1.1 (by decide), keys_of h.2.2.1⟩
theorem chnI_of {c : TChn.val} (h : InR TChn c) : ChnI c :=
  ⟨st_fit h.1, Nat.le_trans h.2.1.2.1.1 (by decide), ⟨Nat.le_trans h.2.2.1.1 (by decide), fun r hr => repI_of (h.2.2.1.2 r hr)⟩, Nat.le_trans h.2.2.2.1.1 (by decide), ⟨Nat.le_trans h.2.2.2.2.1.1 (by decide), fun r hr => msgI_of (h.2.2.2.2.1.2 r hr)⟩,
    Nat.le_trans h.2.2.2.2.2.1.1 (by decide), fun r hr => Nat.le_trans (h.2.2.2.2.2.1.2 r hr).1.2.2.1.2.1 (by decide)⟩
theorem FnExactChainValid_pure (c : TChn.val) (h : InR TChn c) : ∃ k, laws_FnExactChainValid_t real k (c, ()) () = some ((true, ()), ()) :=
  haveI := isReal_real
  ⟨2000000, FnExactChainValid_true 2000000 (by omega) c (chnI_of h)⟩
end Go.Den.T
