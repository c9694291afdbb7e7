/- Chains as arguments of exact laws: their size, copies and comparisons; which chains are valid. -/
import Derived.Test.YtojleoiiijlhaaaGreatXPm1
import Derived.Test.YtojleoiiijlhaaaGreatXPm2
import Derived.Test.YtojleoiiijlhaaaGreatXPm3
import Derived.Test.YtojleoiiijlhaaaGreatXPm4

namespace Go.Den.T
set_option linter.unusedVariables false
set_option linter.unusedSimpArgs false
set_option linter.unusedSectionVars false
abbrev Ans := Ent × (Int × Unit)
abbrev Chn := Stt × (Cfg × (List Rep × (List Bool × (List Msg × (List Ans × Unit)))))
instance : DecidableEq Msg := inferInstanceAs (DecidableEq (Int × (Int × (Int × (Cfg × (List Ent × Unit))))))
instance : DecidableEq Stt := inferInstanceAs (DecidableEq (Itv × (List Pair × (List Ses × (Bool × (List UInt8 × Unit))))))
instance : DecidableEq Ans := inferInstanceAs (DecidableEq (Ent × (Int × Unit)))
instance decMsgAns : DecidableEq (List Msg × (List Ans × Unit)) := inferInstance
instance decReps : DecidableEq (List Rep × (List Bool × (List Msg × (List Ans × Unit)))) := inferInstance
instance decCfgs : DecidableEq (Cfg × (List Rep × (List Bool × (List Msg × (List Ans × Unit))))) := inferInstance
instance : DecidableEq Chn := inferInstanceAs (DecidableEq (Stt × (Cfg × (List Rep × (List Bool × (List Msg × (List Ans × Unit)))))))
abbrev ans0 : Ans := (ent0, (0, ()))
section
variable {A : Atoms} [IsReal A]
/-! ### sizes -/
theorem szState_ok2 (k : Nat) (s : Stt) (hk : 2000000 ≤ k) (hf : StFit s) : Ok (laws_szState_t A k (s, (1048576, ())) ()) (fun q => q.1.1 = -1 ∨ (0 ≤ q.1.1 ∧ q.1.1 ≤ 1048576 ∧ StShort s)) := by
  obtain ⟨f1, f2, f3, f4, f5, f6⟩ := hf
  have w1 : A.wrapI .i64 (1048576 - (s.1.1.length : Int)) = 1048576 - (s.1.1.length : Int) := a_wrap (by omega) (by omega)
  have hi : Ok (laws_szInterval_t A k (s.1, (1048576, ())) ()) (fun q => q.1.1 = -1 ∨ (0 ≤ q.1.1 ∧ q.1.1 ≤ 1048576)) := by
    rw [laws_szInterval_t, ok_cndS]
    simp only [a_lenL, a_subI, w1, a_ltI, decide_eq_true_eq, decide_eq_false_iff_not]
    refine ⟨fun _ => ok_some.2 (.inl rfl), fun h => ?_⟩
    have w2 : A.wrapI .i64 (1048576 - (s.1.1.length : Int) - (s.1.2.1.length : Int)) = 1048576 - (s.1.1.length : Int) - (s.1.2.1.length : Int) := a_wrap (by omega) (by omega)
    rw [ok_cndS]
    simp only [w2, decide_eq_true_eq, decide_eq_false_iff_not]
    exact ⟨fun _ => ok_some.2 (.inl rfl), fun h => ok_some.2 (.inr ⟨by show (0 : Int) ≤ 1048576 - (s.1.1.length : Int) - (s.1.2.1.length : Int); omega, by show (1048576 : Int) - (s.1.1.length : Int) - (s.1.2.1.length : Int) ≤ 1048576; omega⟩)⟩
  rw [laws_szState_t]
  refine hi.bind fun q hq => ?_
  rw [ok_cndS]
  simp only [a_ltI, decide_eq_true_eq, decide_eq_false_iff_not]
  refine ⟨fun _ => ok_some.2 (.inl rfl), fun h => ?_⟩
  have hq' : 0 ≤ q.1.1 ∧ q.1.1 ≤ 1048576 := hq.resolve_left (fun e => h (by omega))
  refine (szPairS_ok k s.2.1 q.1.1 hq'.1 hq'.2 hk f3 f4).bind fun q1 hq1 => ?_
  rw [ok_cndS]
  simp only [a_ltI, decide_eq_true_eq, decide_eq_false_iff_not]
  refine ⟨fun _ => ok_some.2 (.inl rfl), fun h1 => ?_⟩
  have hq1' : 0 ≤ q1.1.1 ∧ q1.1.1 ≤ q.1.1 ∧ s.2.1.length ≤ 1048576 := hq1.resolve_left (fun e => h1 (by omega))
  have w3 : A.wrapI .i64 (q1.1.1 - (s.2.2.1.length : Int)) = q1.1.1 - (s.2.2.1.length : Int) := a_wrap (by omega) (by omega)
  rw [laws_szSessionS_t]
  simp only [a_lenL, a_subI, w3, a_ltI]
  by_cases hs : q1.1.1 - (s.2.2.1.length : Int) < 0
  · simp [hs, ok_some]
  · have hsh : StShort s := ⟨hq1'.2.2, by omega⟩
    have w4 : A.wrapI .i64 (q1.1.1 - (s.2.2.1.length : Int) - (s.2.2.2.2.1.length : Int)) = q1.1.1 - (s.2.2.1.length : Int) - (s.2.2.2.2.1.length : Int) := a_wrap (by omega) (by omega)
    simp only [hs, a_cndS, decide_false, Bool.false_eq_true, if_false, a_obind_some, w4, decide_eq_true_eq]
    split
    · exact ok_some.2 (.inl rfl)
    · exact ok_some.2 (.inr ⟨by show (0 : Int) ≤ q1.1.1 - (s.2.2.1.length : Int) - (s.2.2.2.2.1.length : Int); omega, by show q1.1.1 - (s.2.2.1.length : Int) - (s.2.2.2.2.1.length : Int) ≤ 1048576; omega, hsh⟩)
def RepZ (r : Rep) : Prop := r.1.2.1.length ≤ 1048576 ∧ r.2.2.1.length ≤ 1048576
def RepI (r : Rep) : Prop := r.1.2.1.length ≤ 9223372036854775807 ∧ r.2.2.1.length ≤ 9223372036854775807 ∧ ∀ e ∈ r.2.2.1, e.2.2.1.2.1.length ≤ 9223372036854775807
theorem szReplica_n (k : Nat) (r : Rep) (n : Int) (h0 : 0 ≤ n) (hn : n ≤ 1048576) (hk : 2000000 ≤ k) (hr : RepI r) :
    Ok (laws_szReplica_t A k (r, (n, ())) ()) (fun q => q.1.1 = -1 ∨ (0 ≤ q.1.1 ∧ q.1.1 ≤ n ∧ RepZ r)) := by
  obtain ⟨h1, hl, hs⟩ := hr
  rw [laws_szReplica_t, szConfig_eq k r.1 n (by omega) (by omega) h1, a_obind_some, ok_cndS]
  simp only [a_ltI, decide_eq_true_eq, decide_eq_false_iff_not]
  refine ⟨fun _ => ok_some.2 (.inl rfl), fun h => ?_⟩
  by_cases hc : n < r.1.2.1.length
  · rw [if_pos hc] at h; omega
  rw [if_neg hc] at h ⊢
  refine (szEntryS_ok k r.2.2.1 _ (by omega) (by omega) hk hl hs).bind fun q hq => ?_
  rw [ok_cndS]
  simp only [a_ltI, decide_eq_true_eq, decide_eq_false_iff_not]
  refine ⟨fun _ => ok_some.2 (.inl rfl), fun hh => ok_some.2 (.inr ?_)⟩
  rcases hq with hq | hq
  · omega
  · exact ⟨hq.1, by show q.1.1 ≤ n; omega, by omega, hq.2.2⟩
theorem szReplicaS_ok (k : Nat) (xs : List Rep) (n : Int) (h0 : 0 ≤ n) (hn : n ≤ 1048576) (hk : 2000000 ≤ k) (hl : xs.length ≤ 9223372036854775807) (hm : ∀ m ∈ xs, RepI m) :
    Ok (laws_szReplicaS_t A k (xs, (n, ())) ()) (fun q => q.1.1 = -1 ∨ (0 ≤ q.1.1 ∧ q.1.1 ≤ n ∧ xs.length ≤ 1048576 ∧ ∀ m ∈ xs, RepZ m)) := by
  have w : A.wrapI .i64 (n - (xs.length : Int)) = n - (xs.length : Int) := a_wrap (by omega) (by omega)
  rw [laws_szReplicaS_t, ok_cndS]
  simp only [a_lenL, a_subI, w, a_ltI, decide_eq_true_eq, decide_eq_false_iff_not]
  refine ⟨fun _ => ok_some.2 (.inl rfl), fun h => ?_⟩
  refine (sz_loopP (A := A) RepZ (f := laws_szReplicaS_t_b0 A k) xs (n - xs.length) (by omega) (by omega) (fun i m hi g0 g1 => ?_) (fun m => by simp [laws_szReplicaS_t_b0])).bind fun r hr => ?_
  · have g := szReplica_n (A := A) k xs[i] m g0 (by omega) hk (hm _ (List.getElem_mem hi))
    have w2 : A.wrapI .i64 ((i : Int) + 1) = ((i + 1 : Nat) : Int) := by rw [a_wrap (by omega) (by omega)]; rfl
    have hi' : (i : Int) < (xs.length : Int) := by omega
    have ha : A.atL xs (i : Int) rep0 = xs[i] := by rw [a_atL]; simp [hi]
    simp only [laws_szReplicaS_t_b0, a_cndS, a_ltI, a_lenL, hi', decide_true, if_true, a_le0, Int.natCast_nonneg, a_andB, Bool.and_self, ha, a_addI, w2]
    refine g.bind fun q hq => ?_
    rcases hq with hq | ⟨q0, q1, q2⟩
    · have : q.1.1 < 0 := by omega
      simp only [this, decide_true, if_true]
      exact ok_some.2 (.inr rfl)
    · have : ¬ q.1.1 < 0 := by omega
      simp only [this, decide_false, Bool.false_eq_true, if_false]
      exact ok_some.2 (.inl ⟨_, rfl, q0, q1, q2⟩)
  · rcases hr with ⟨m, rfl, g0, g1, g2⟩ | rfl
    · rw [a_sumE_inl]; exact ok_some.2 (.inr ⟨g0, by show m ≤ n; omega, by omega, g2⟩)
    · rw [a_sumE_inr]; exact ok_some.2 (.inl rfl)
theorem szAnswerS_ok (k : Nat) (xs : List Ans) (n : Int) (h0 : 0 ≤ n) (hn : n ≤ 1048576) (hk : 2000000 ≤ k) (hl : xs.length ≤ 9223372036854775807) (hm : ∀ m ∈ xs, m.1.2.2.1.2.1.length ≤ 9223372036854775807) :
    Ok (laws_szAnswerS_t A k (xs, (n, ())) ()) (fun q => q.1.1 = -1 ∨ (0 ≤ q.1.1 ∧ q.1.1 ≤ n ∧ xs.length ≤ 1048576)) := by
  have w : A.wrapI .i64 (n - (xs.length : Int)) = n - (xs.length : Int) := a_wrap (by omega) (by omega)
  rw [laws_szAnswerS_t, ok_cndS]
  simp only [a_lenL, a_subI, w, a_ltI, decide_eq_true_eq, decide_eq_false_iff_not]
  refine ⟨fun _ => ok_some.2 (.inl rfl), fun h => ?_⟩
  refine (sz_loopP (A := A) (fun _ => True) (f := laws_szAnswerS_t_b0 A k) xs (n - xs.length) (by omega) (by omega) (fun i m hi g0 g1 => ?_) (fun m => by simp [laws_szAnswerS_t_b0])).bind fun r hr => ?_
  · have g := szEntry_eq (A := A) k xs[i].1 m g0 (by omega) (hm _ (List.getElem_mem hi))
    have w2 : A.wrapI .i64 ((i : Int) + 1) = ((i + 1 : Nat) : Int) := by rw [a_wrap (by omega) (by omega)]; rfl
    have hi' : (i : Int) < (xs.length : Int) := by omega
    have ha : A.atL xs (i : Int) ans0 = xs[i] := by rw [a_atL]; simp [hi]
    simp only [laws_szAnswerS_t_b0, a_cndS, a_ltI, a_lenL, hi', decide_true, if_true, a_le0, Int.natCast_nonneg, a_andB, Bool.and_self, ha, a_addI, w2, laws_szAnswer_t, g, a_obind_some, szOf]
    by_cases hh : m < (xs[i].1.2.2.1.2.1.length : Int)
    · have e1 : (-1 : Int) < 0 := by omega
      simp only [hh, if_true, e1, decide_true, a_obind_some]
      exact ok_some.2 (.inr rfl)
    · have e1 : ¬ m - (xs[i].1.2.2.1.2.1.length : Int) < 0 := by omega
      simp only [hh, if_false, e1, decide_false, Bool.false_eq_true, a_obind_some]
      exact ok_some.2 (.inl ⟨_, rfl, by omega, by omega, trivial⟩)
  · rcases hr with ⟨m, rfl, g0, g1, g2⟩ | rfl
    · rw [a_sumE_inl]; exact ok_some.2 (.inr ⟨g0, by show m ≤ n; omega, by omega⟩)
    · rw [a_sumE_inr]; exact ok_some.2 (.inl rfl)
def ChnI (c : Chn) : Prop := StFit c.1 ∧ c.2.1.2.1.length ≤ 9223372036854775807 ∧ (c.2.2.1.length ≤ 9223372036854775807 ∧ ∀ r ∈ c.2.2.1, RepI r) ∧ c.2.2.2.1.length ≤ 9223372036854775807 ∧ (c.2.2.2.2.1.length ≤ 9223372036854775807 ∧ ∀ m ∈ c.2.2.2.2.1, MsgI m) ∧
  c.2.2.2.2.2.1.length ≤ 9223372036854775807 ∧ ∀ m ∈ c.2.2.2.2.2.1, m.1.2.2.1.2.1.length ≤ 9223372036854775807
def ChnZ (c : Chn) : Prop := StShort c.1 ∧ c.2.1.2.1.length ≤ 1048576 ∧ (c.2.2.1.length ≤ 1048576 ∧ ∀ r ∈ c.2.2.1, RepZ r) ∧ c.2.2.2.1.length ≤ 1048576 ∧ (c.2.2.2.2.1.length ≤ 1048576 ∧ ∀ m ∈ c.2.2.2.2.1, MsgZ m) ∧ c.2.2.2.2.2.1.length ≤ 1048576
theorem szChain_ok (k : Nat) (c : Chn) (hk : 2000000 ≤ k) (hc : ChnI c) : Ok (laws_szChain_t A k (c, (1048576, ())) ()) (fun q => q.1.1 < 0 ∨ ChnZ c) := by
  obtain ⟨h1, h2, ⟨h3, h3'⟩, h4, ⟨h5, h5'⟩, h6, h6'⟩ := hc
  have neg : (-1 : Int) < 0 := by omega
  rw [laws_szChain_t]
  refine (szState_ok2 k c.1 hk h1).bind fun q hq => ?_
  rw [ok_cndS]
  simp only [a_ltI, decide_eq_true_eq, decide_eq_false_iff_not]
  refine ⟨fun _ => ok_some.2 (.inl neg), fun hn => ?_⟩
  obtain ⟨a0, a1, a2⟩ := hq.resolve_left (fun e => hn (by omega))
  rw [szConfig_eq k c.2.1 _ (by omega) (by omega) h2, a_obind_some, ok_cndS]
  simp only [decide_eq_true_eq, decide_eq_false_iff_not]
  refine ⟨fun _ => ok_some.2 (.inl neg), fun hn => ?_⟩
  by_cases hh : q.1.1 < (c.2.1.2.1.length : Int)
  · rw [if_pos hh] at hn; omega
  rw [if_neg hh] at hn ⊢
  refine (szReplicaS_ok k c.2.2.1 _ (by omega) (by omega) hk h3 h3').bind fun q1 hq1 => ?_
  rw [ok_cndS]
  simp only [decide_eq_true_eq, decide_eq_false_iff_not]
  refine ⟨fun _ => ok_some.2 (.inl neg), fun hn => ?_⟩
  obtain ⟨b0, b1, b2, b3⟩ := hq1.resolve_left (fun e => hn (by omega))
  have w : A.wrapI .i64 (q1.1.1 - (c.2.2.2.1.length : Int)) = q1.1.1 - (c.2.2.2.1.length : Int) := a_wrap (by omega) (by omega)
  rw [laws_szBoolS_t]
  simp only [a_lenL, a_subI, w, a_ltI]
  by_cases hu : q1.1.1 - (c.2.2.2.1.length : Int) < 0
  · simp [hu, ok_some]
  simp only [hu, a_cndS, decide_false, Bool.false_eq_true, if_false, a_obind_some]
  refine (szMessageS_ok k c.2.2.2.2.1 _ (by omega) (by omega) hk h5 h5').bind fun q2 hq2 => ?_
  by_cases hn2 : q2.1.1 < 0
  · simp only [hn2, decide_true, if_true]; exact ok_some.2 (.inl neg)
  simp only [hn2, decide_false, Bool.false_eq_true, if_false]
  obtain ⟨c0, c1, c2, c3⟩ := hq2.resolve_left (fun e => hn2 (by omega))
  refine (szAnswerS_ok k c.2.2.2.2.2.1 _ c0 (by omega) hk h6 h6').bind fun q3 hq3 => ?_
  by_cases hn3 : q3.1.1 < 0
  · simp only [hn3, decide_true, if_true]; exact ok_some.2 (.inl neg)
  simp only [hn3, decide_false, Bool.false_eq_true, if_false]
  obtain ⟨d0, d1, d2⟩ := hq3.resolve_left (fun e => hn3 (by omega))
  exact ok_some.2 (.inr ⟨a2, by omega, ⟨b2, b3⟩, by omega, ⟨c2, c3⟩, d2⟩)
/-! ### copies and comparisons -/
theorem toReplicaS_eq (k : Nat) (xs : List Rep) (hk : 2000000 ≤ k) (hl : xs.length ≤ 1048576) (hz : ∀ m ∈ xs, RepZ m) : laws_toReplicaS_t A k (xs, ()) () = some ((xs, ()), ()) := by
  have h := to_loop (A := A) (k := k) (f := laws_toReplicaS_t_b0 A k) rep0 xs (by omega)
    (fun i ys hi hy => by
      have hi' : i < ys.length := by omega
      have hm := hz xs[i] (List.getElem_mem hi)
      simp (disch := omega) [laws_toReplicaS_t_b0, hi, hi', hy, a_wrap, toReplica_eq k xs[i] hk hm.1 hm.2])
    (fun ys hy => by simp [laws_toReplicaS_t_b0])
  have h1 : (xs.length : Int) < 4294967296 := by omega
  simp [laws_toReplicaS_t, h1, h]
theorem eqReplicaS_eq (k : Nat) (xs ys : List Rep) (hk : 2000000 ≤ k) (hl : xs.length ≤ 1048576) (hz : ∀ m ∈ xs, RepZ m) : laws_eqReplicaS_t A k (xs, (ys, ())) () = some ((decide (xs = ys), ()), ()) := by
  by_cases he : xs.length = ys.length
  · have h := eq_loop (A := A) (k := k) (f := laws_eqReplicaS_t_b0 A k) rep0 xs ys (by omega) he
      (fun i hi => by
        have hi' : i < ys.length := by omega
        have hm := hz xs[i] (List.getElem_mem hi)
        simp (disch := omega) [laws_eqReplicaS_t_b0, hi, hi', a_wrap, eqReplica_eq k xs[i] ys[i] hk hm.1 hm.2]
        by_cases hv : xs[i] = ys[i] <;> simp [hv])
      (by simp [laws_eqReplicaS_t_b0])
    simp only [laws_eqReplicaS_t, a_lenL, he, a_eqI, decide_true, a_notB, Bool.not_true, a_cndS, Bool.false_eq_true, if_false, h]
    by_cases hv : xs = ys <;> simp [hv]
  · have h2 : ¬ (xs.length : Int) = ys.length := by omega
    have h3 : ¬ xs = ys := fun e => he (by rw [e])
    simp [laws_eqReplicaS_t, h2, h3]
theorem toBoolS_eq (k : Nat) (xs : List Bool) (hk : 2000000 ≤ k) (hl : xs.length ≤ 1048576) : laws_toBoolS_t A k (xs, ()) () = some ((xs, ()), ()) := by
  have h := to_loop (A := A) (k := k) (f := laws_toBoolS_t_b0 A k) false xs (by omega)
    (fun i ys hi hy => by
      have hi' : i < ys.length := by omega
      simp (disch := omega) [laws_toBoolS_t_b0, hi, hi', hy, a_wrap])
    (fun ys hy => by simp [laws_toBoolS_t_b0])
  have h1 : (xs.length : Int) < 4294967296 := by omega
  simp [laws_toBoolS_t, h1, h]
theorem eqBoolS_eq (k : Nat) (xs ys : List Bool) (hk : 2000000 ≤ k) (hl : xs.length ≤ 1048576) : laws_eqBoolS_t A k (xs, (ys, ())) () = some ((decide (xs = ys), ()), ()) := by
  by_cases he : xs.length = ys.length
  · have h := eq_loop (A := A) (k := k) (f := laws_eqBoolS_t_b0 A k) false xs ys (by omega) he
      (fun i hi => by
        have hi' : i < ys.length := by omega
        simp (disch := omega) [laws_eqBoolS_t_b0, hi, hi', a_wrap]
        by_cases hv : xs[i] = ys[i] <;> simp [hv])
      (by simp [laws_eqBoolS_t_b0])
    simp only [laws_eqBoolS_t, a_lenL, he, a_eqI, decide_true, a_notB, Bool.not_true, a_cndS, Bool.false_eq_true, if_false, h]
    by_cases hv : xs = ys <;> simp [hv]
  · have h2 : ¬ (xs.length : Int) = ys.length := by omega
    have h3 : ¬ xs = ys := fun e => he (by rw [e])
    simp [laws_eqBoolS_t, h2, h3]
theorem toAnswerS_eq (k : Nat) (xs : List Ans) (hk : 2000000 ≤ k) (hl : xs.length ≤ 1048576) : laws_toAnswerS_t A k (xs, ()) () = some ((xs, ()), ()) := by
  have h := to_loop (A := A) (k := k) (f := laws_toAnswerS_t_b0 A k) ans0 xs (by omega)
    (fun i ys hi hy => by
      have hi' : i < ys.length := by omega
      simp (disch := omega) [laws_toAnswerS_t_b0, hi, hi', hy, a_wrap, laws_toAnswer_t, toEntry_eq])
    (fun ys hy => by simp [laws_toAnswerS_t_b0])
  have h1 : (xs.length : Int) < 4294967296 := by omega
  simp [laws_toAnswerS_t, h1, h]
theorem eqAnswer_eq (k : Nat) (c d : Ans) : laws_eqAnswer_t A k (c, (d, ())) () = some ((decide (c = d), ()), ()) := by
  obtain ⟨a1, a2, _⟩ := c
  obtain ⟨b1, b2, _⟩ := d
  simp only [laws_eqAnswer_t, eqEntry_eq, a_obind_some, a_cndS, a_notB, a_eqI]
  by_cases h1 : a1 = b1
  · by_cases h2 : a2 = b2 <;> simp [h1, h2]
  · simp [h1]
theorem eqAnswerS_eq (k : Nat) (xs ys : List Ans) (hk : 2000000 ≤ k) (hl : xs.length ≤ 1048576) : laws_eqAnswerS_t A k (xs, (ys, ())) () = some ((decide (xs = ys), ()), ()) := by
  by_cases he : xs.length = ys.length
  · have h := eq_loop (A := A) (k := k) (f := laws_eqAnswerS_t_b0 A k) ans0 xs ys (by omega) he
      (fun i hi => by
        have hi' : i < ys.length := by omega
        simp (disch := omega) [laws_eqAnswerS_t_b0, hi, hi', a_wrap, eqAnswer_eq]
        by_cases hv : xs[i] = ys[i] <;> simp [hv])
      (by simp [laws_eqAnswerS_t_b0])
    simp only [laws_eqAnswerS_t, a_lenL, he, a_eqI, decide_true, a_notB, Bool.not_true, a_cndS, Bool.false_eq_true, if_false, h]
    by_cases hv : xs = ys <;> simp [hv]
  · have h2 : ¬ (xs.length : Int) = ys.length := by omega
    have h3 : ¬ xs = ys := fun e => he (by rw [e])
    simp [laws_eqAnswerS_t, h2, h3]
theorem toChain_eq (k : Nat) (c : Chn) (hk : 2000000 ≤ k) (hz : ChnZ c) : laws_toChain_t A k (c, ()) () = some ((c, ()), ()) := by
  obtain ⟨h1, h2, h3, h4, h5, h6⟩ := hz
  simp only [laws_toChain_t, toState_eq k hk c.1 h1, toConfig_eq k c.2.1 (by omega) (by omega), toReplicaS_eq k c.2.2.1 hk h3.1 h3.2, toBoolS_eq k c.2.2.2.1 hk h4, toMessageS_eq k c.2.2.2.2.1 hk h5.1 h5.2, toAnswerS_eq k c.2.2.2.2.2.1 hk h6, a_obind_some]
theorem eqChain_eq (k : Nat) (c d : Chn) (hk : 2000000 ≤ k) (hz : ChnZ c) : laws_eqChain_t A k (c, (d, ())) () = some ((decide (c = d), ()), ()) := by
  obtain ⟨h1, h2, h3, h4, h5, h6⟩ := hz
  obtain ⟨a1, a2, a3, a4, a5, a6, _⟩ := c
  obtain ⟨b1, b2, b3, b4, b5, b6, _⟩ := d
  simp only at h1 h2 h3 h4 h5 h6
  simp only [laws_eqChain_t, eqState_eq k hk a1 b1 h1, eqConfig_eq k a2 b2 (by omega) (by omega), eqReplicaS_eq k a3 b3 hk h3.1 h3.2, eqBoolS_eq k a4 b4 hk h4, eqMessageS_eq k a5 b5 hk h5.1 h5.2, eqAnswerS_eq k a6 b6 hk h6, a_obind_some, a_cndS, a_notB]
  by_cases e1 : a1 = b1
  · by_cases e2 : a2 = b2
    · by_cases e3 : a3 = b3
      · by_cases e4 : a4 = b4
        · by_cases e5 : a5 = b5
          · by_cases e6 : a6 = b6 <;> simp [e1, e2, e3, e4, e5, e6]
          · simp [e1, e2, e3, e4, e5]
        · simp [e1, e2, e3, e4]
      · simp [e1, e2, e3]
    · simp [e1, e2]
  · simp [e1]
/-! ### valid chains -/
def ansOk (a : Ans) : Bool := entOk a.1 && decide (-4 ≤ a.2.1 ∧ a.2.1 ≤ 999)
def chnOk (c : Chn) : Bool := stOk c.1 && (cfgOk c.2.1 && (decide (c.2.2.1.length = 5) && (decide (c.2.2.2.1.length = 5) && (bagOk c.2.2.2.2.1 && (decide (c.2.2.2.2.2.1.length ≤ 24) &&
  (c.2.2.1.all (fun r => repOk r && decide (r.1.1 ≤ c.2.1.1)) && (c.2.2.2.2.1.all (fun m => decide (m.2.2.1 ≤ c.2.1.1)) && c.2.2.2.2.2.1.all ansOk)))))))
theorem spec_ChainValid_eq (k : Nat) (hk : 2000000 ≤ k) (c : Chn) (hs : StShort c.1) : spec_ChainValid_t A k (c, ()) () = some ((chnOk c, ()), ()) := by
  have hs2 := hs.2
  simp only [spec_ChainValid_t, spec_StateValid_eq k (by omega) c.1 (by omega) (by omega), spec_ConfigValid_eq k (by omega) c.2.1, spec_BagValid_eq k (by omega) c.2.2.2.2.1, a_obind_some, a_cndS, a_notB, a_eqI, a_lenL, a_ltI, chnOk]
  rcases Bool.eq_false_or_eq_true (stOk c.1) with g1 | g1
  case inr => simp [g1]
  rcases Bool.eq_false_or_eq_true (cfgOk c.2.1) with g2 | g2
  case inr => simp [g1, g2]
  by_cases g3 : c.2.2.1.length = 5
  case neg =>
    have : ¬ (c.2.2.1.length : Int) = 5 := by omega
    simp [g1, g2, g3, this]
  by_cases g4 : c.2.2.2.1.length = 5
  case neg =>
    have : ¬ (c.2.2.2.1.length : Int) = 5 := by omega
    simp [g1, g2, g3, g4, this]
  rcases Bool.eq_false_or_eq_true (bagOk c.2.2.2.2.1) with g5 | g5
  case inr => simp [g1, g2, g3, g4, g5]
  by_cases g6 : c.2.2.2.2.2.1.length ≤ 24
  case neg =>
    have : (24 : Int) < (c.2.2.2.2.2.1.length : Int) := by omega
    simp [g1, g2, g3, g4, g5, g6, this]
  have g3' : (c.2.2.1.length : Int) = 5 := by omega
  have g4' : (c.2.2.2.1.length : Int) = 5 := by omega
  have g6' : ¬ (24 : Int) < (c.2.2.2.2.2.1.length : Int) := by omega
  have hb : c.2.2.2.2.1.length ≤ 10 := by simp [bagOk] at g5; exact g5.1
  have l0 := iter_all (A := A) (f := spec_ChainValid_t_b0 A k) (fun i => ((i : Int), (c, ()))) c.2.2.1.length (fun i => repOk (c.2.2.1.getD i rep0) && decide ((c.2.2.1.getD i rep0).1.1 ≤ c.2.1.1)) (.inr ((false, ()), ())) (.inl (c, ()))
    (fun i hi => by
      have i5 : (i : Int) < 5 := by omega
      have w : A.wrapI .i64 ((i : Int) + 1) = ((i + 1 : Nat) : Int) := by rw [a_wrap (by omega) (by omega)]; rfl
      have ha : A.atL c.2.2.1 (i : Int) rep0 = c.2.2.1.getD i rep0 := by rw [a_atL]; rfl
      simp only [spec_ChainValid_t_b0, a_cndS, a_ltI, i5, decide_true, if_true, a_lenL, g3', a_le0, Int.natCast_nonneg, a_andB, Bool.and_self, ha, spec_ReplicaValid_eq k (by omega), a_obind_some, a_notB, a_addI, w]
      generalize c.2.2.1.getD i rep0 = r
      rcases Bool.eq_false_or_eq_true (repOk r) with v | v
      · by_cases u : r.1.1 ≤ c.2.1.1
        · have : ¬ c.2.1.1 < r.1.1 := by omega
          simp [v, u, this]
        · have : c.2.1.1 < r.1.1 := by omega
          simp [v, u, this]
      · simp [v])
    (by rw [g3]; simp [spec_ChainValid_t_b0]) (k := k) (by omega)
  have l1 := iter_all (A := A) (f := spec_ChainValid_t_b1 A k) (fun i => ((i : Int), (c, ()))) c.2.2.2.2.1.length (fun i => decide ((c.2.2.2.2.1.getD i msg0).2.2.1 ≤ c.2.1.1)) (.inr ((false, ()), ())) (.inl (c, ()))
    (fun i hi => by
      have i5 : (i : Int) < (c.2.2.2.2.1.length : Int) := by omega
      have w : A.wrapI .i64 ((i : Int) + 1) = ((i + 1 : Nat) : Int) := by rw [a_wrap (by omega) (by omega)]; rfl
      have ha : A.atL c.2.2.2.2.1 (i : Int) msg0 = c.2.2.2.2.1.getD i msg0 := by rw [a_atL]; rfl
      simp only [spec_ChainValid_t_b1, a_cndS, a_ltI, i5, decide_true, if_true, a_lenL, a_le0, Int.natCast_nonneg, a_andB, Bool.and_self, ha, a_addI, w]
      generalize c.2.2.2.2.1.getD i msg0 = r
      by_cases u : r.2.2.1 ≤ c.2.1.1
      · have : ¬ c.2.1.1 < r.2.2.1 := by omega
        simp [u, this]
      · have : c.2.1.1 < r.2.2.1 := by omega
        simp [u, this])
    (by simp [spec_ChainValid_t_b1]) (k := k) (by omega)
  have l2 := iter_all (A := A) (f := spec_ChainValid_t_b2 A k) (fun i => ((i : Int), (c, ()))) c.2.2.2.2.2.1.length (fun i => ansOk (c.2.2.2.2.2.1.getD i ans0)) (.inr ((false, ()), ())) (.inl ())
    (fun i hi => by
      have i5 : (i : Int) < (c.2.2.2.2.2.1.length : Int) := by omega
      have w : A.wrapI .i64 ((i : Int) + 1) = ((i + 1 : Nat) : Int) := by rw [a_wrap (by omega) (by omega)]; rfl
      have ha : A.atL c.2.2.2.2.2.1 (i : Int) ans0 = c.2.2.2.2.2.1.getD i ans0 := by rw [a_atL]; rfl
      simp only [spec_ChainValid_t_b2, a_cndS, a_ltI, i5, decide_true, if_true, a_lenL, a_le0, Int.natCast_nonneg, a_andB, Bool.and_self, ha, a_addI, w, spec_EntryValid_eq k (by omega), l1In_eq, a_obind_some, a_notB]
      generalize c.2.2.2.2.2.1.getD i ans0 = r
      rcases Bool.eq_false_or_eq_true (entOk r.1) with v | v
      · by_cases u : -4 ≤ r.2.1 ∧ r.2.1 ≤ 999 <;> simp [ansOk, v, u]
      · simp [ansOk, v])
    (by simp [spec_ChainValid_t_b2]) (k := k) (by omega)
  rw [all_range (q := fun r : Rep => repOk r && decide (r.1.1 ≤ c.2.1.1))] at l0
  rw [all_range (q := fun m : Msg => decide (m.2.2.1 ≤ c.2.1.1))] at l1
  rw [all_range (q := ansOk)] at l2
  simp only [Int.natCast_zero, Int.ofNat_zero] at l0 l1 l2
  have e5 : ((5 : Nat) : Int) = 5 := rfl
  simp only [g1, g2, g3', g4', g5, g6', g3, g4, g6, e5, decide_true, decide_false, Bool.not_true, Bool.false_eq_true, if_false, a_sumE_inl, l0, a_obind_some, Bool.true_and]
  cases c.2.2.1.all (fun r => repOk r && decide (r.1.1 ≤ c.2.1.1)) with
  | false => simp
  | true =>
    simp only [if_true, a_sumE_inl, l1, a_obind_some, Bool.true_and]
    cases c.2.2.2.2.1.all (fun m => decide (m.2.2.1 ≤ c.2.1.1)) with
    | false => simp
    | true =>
      simp only [if_true, a_sumE_inl, l2, a_obind_some, Bool.true_and]
      cases c.2.2.2.2.2.1.all ansOk <;> simp
theorem answersValid_eq (k : Nat) (hk : 2000000 ≤ k) (l : List Ans) : impl_answersValid_t A k (l, ()) () = some (((decide (l.length ≤ 24) && l.all ansOk), ()), ()) := by
  rw [impl_answersValid_t]
  by_cases g6 : l.length ≤ 24
  case neg =>
    have : (24 : Int) < (l.length : Int) := by omega
    simp [g6, this]
  have g6' : ¬ (24 : Int) < (l.length : Int) := by omega
  have l2 := iter_all (A := A) (f := impl_answersValid_t_b0 A k) (fun i => (l, ((l.length : Int), ((i : Int), ())))) l.length (fun i => ansOk (l.getD i ans0)) (.inr ((false, ()), ())) (.inl ())
    (fun i hi => by
      have i5 : (i : Int) < (l.length : Int) := by omega
      have w : A.wrapI .i64 ((i : Int) + 1) = ((i + 1 : Nat) : Int) := by rw [a_wrap (by omega) (by omega)]; rfl
      have ha : A.atL l (i : Int) ans0 = l.getD i ans0 := by rw [a_atL]; rfl
      simp only [impl_answersValid_t_b0, a_cndS, a_ltI, i5, decide_true, if_true, a_lenL, a_le0, Int.natCast_nonneg, a_andB, Bool.and_self, ha, a_addI, w, impl_EntryValid_eq k (by omega), a_obind_some, a_notB]
      generalize l.getD i ans0 = r
      rcases Bool.eq_false_or_eq_true (entOk r.1) with v | v
      · by_cases u1 : r.2.1 < -4
        · have : ¬ (-4 ≤ r.2.1 ∧ r.2.1 ≤ 999) := by omega
          simp [ansOk, v, u1, this]
        · by_cases u2 : 999 < r.2.1
          · have : ¬ (-4 ≤ r.2.1 ∧ r.2.1 ≤ 999) := by omega
            simp [ansOk, v, u1, u2, this]
          · have : -4 ≤ r.2.1 ∧ r.2.1 ≤ 999 := by omega
            simp [ansOk, v, u1, u2, this]
      · simp [ansOk, v])
    (by simp [impl_answersValid_t_b0]) (k := k) (by omega)
  rw [all_range (q := ansOk)] at l2
  simp only [Int.natCast_zero, Int.ofNat_zero] at l2
  simp only [a_cndS, a_ltI, a_lenL, g6', decide_false, Bool.false_eq_true, if_false, l2, a_obind_some, g6, decide_true, Bool.true_and]
  cases l.all ansOk <;> simp
theorem impl_ChainValid_eq (k : Nat) (hk : 2000000 ≤ k) (c : Chn) (hs : StShort c.1) : impl_ChainValid_t A k (c, ()) () = some ((chnOk c, ()), ()) := by
  have hs2 := hs.2
  simp only [impl_ChainValid_t, impl_StateValid_eq k (by omega) c.1 (by omega) (by omega), impl_ConfigValid_eq k (by omega) c.2.1, impl_BagValid_eq k (by omega) c.2.2.2.2.1, a_obind_some, a_cndS, a_notB, a_eqI, a_lenL, chnOk]
  rcases Bool.eq_false_or_eq_true (stOk c.1) with g1 | g1
  case inr => simp [g1]
  rcases Bool.eq_false_or_eq_true (cfgOk c.2.1) with g2 | g2
  case inr => simp [g1, g2]
  by_cases g3 : c.2.2.1.length = 5
  case neg =>
    have : ¬ (c.2.2.1.length : Int) = 5 := by omega
    simp [g1, g2, g3, this]
  by_cases g4 : c.2.2.2.1.length = 5
  case neg =>
    have : ¬ (c.2.2.2.1.length : Int) = 5 := by omega
    simp [g1, g2, g3, g4, this]
  rcases Bool.eq_false_or_eq_true (bagOk c.2.2.2.2.1) with g5 | g5
  case inr => simp [g1, g2, g3, g4, g5]
  have g3' : (c.2.2.1.length : Int) = 5 := by omega
  have g4' : (c.2.2.2.1.length : Int) = 5 := by omega
  have hb : c.2.2.2.2.1.length ≤ 10 := by simp [bagOk] at g5; exact g5.1
  have l0 := iter_all (A := A) (f := impl_ChainValid_t_b0 A k) (fun i => (c.2.2.1, (((c.2.2.1.length : Nat) : Int), ((i : Int), (c, ()))))) c.2.2.1.length (fun i => repOk (c.2.2.1.getD i rep0) && decide ((c.2.2.1.getD i rep0).1.1 ≤ c.2.1.1)) (.inr ((false, ()), ())) (.inl (c, ()))
    (fun i hi => by
      have i5 : (i : Int) < (c.2.2.1.length : Int) := by omega
      have w : A.wrapI .i64 ((i : Int) + 1) = ((i + 1 : Nat) : Int) := by rw [a_wrap (by omega) (by omega)]; rfl
      have ha : A.atL c.2.2.1 (i : Int) rep0 = c.2.2.1.getD i rep0 := by rw [a_atL]; rfl
      simp only [impl_ChainValid_t_b0, a_cndS, a_ltI, i5, decide_true, if_true, a_lenL, a_le0, Int.natCast_nonneg, a_andB, Bool.and_self, ha, impl_ReplicaValid_eq k (by omega), a_obind_some, a_notB, a_addI, w]
      generalize c.2.2.1.getD i rep0 = r
      rcases Bool.eq_false_or_eq_true (repOk r) with v | v
      · by_cases u : r.1.1 ≤ c.2.1.1
        · have : ¬ c.2.1.1 < r.1.1 := by omega
          simp [v, u, this]
        · have : c.2.1.1 < r.1.1 := by omega
          simp [v, u, this]
      · simp [v])
    (by simp [impl_ChainValid_t_b0]) (k := k) (by omega)
  have l1 := iter_all (A := A) (f := impl_ChainValid_t_b1 A k) (fun i => (c.2.2.2.2.1, (((c.2.2.2.2.1.length : Nat) : Int), ((i : Int), (c, ()))))) c.2.2.2.2.1.length (fun i => decide ((c.2.2.2.2.1.getD i msg0).2.2.1 ≤ c.2.1.1)) (.inr ((false, ()), ())) (.inl (c, ()))
    (fun i hi => by
      have i5 : (i : Int) < (c.2.2.2.2.1.length : Int) := by omega
      have w : A.wrapI .i64 ((i : Int) + 1) = ((i + 1 : Nat) : Int) := by rw [a_wrap (by omega) (by omega)]; rfl
      have ha : A.atL c.2.2.2.2.1 (i : Int) msg0 = c.2.2.2.2.1.getD i msg0 := by rw [a_atL]; rfl
      simp only [impl_ChainValid_t_b1, a_cndS, a_ltI, i5, decide_true, if_true, a_lenL, a_le0, Int.natCast_nonneg, a_andB, Bool.and_self, ha, a_addI, w]
      generalize c.2.2.2.2.1.getD i msg0 = r
      by_cases u : r.2.2.1 ≤ c.2.1.1
      · have : ¬ c.2.1.1 < r.2.2.1 := by omega
        simp [u, this]
      · have : c.2.1.1 < r.2.2.1 := by omega
        simp [u, this])
    (by simp [impl_ChainValid_t_b1]) (k := k) (by omega)
  rw [all_range (q := fun r : Rep => repOk r && decide (r.1.1 ≤ c.2.1.1))] at l0
  rw [all_range (q := fun m : Msg => decide (m.2.2.1 ≤ c.2.1.1))] at l1
  simp only [Int.natCast_zero, Int.ofNat_zero] at l0 l1
  have e5 : ((5 : Nat) : Int) = 5 := rfl
  simp only [g1, g2, g3', g4', g5, g3, g4, e5, decide_true, decide_false, Bool.not_true, Bool.false_eq_true, if_false, a_sumE_inl, a_obind_some, Bool.true_and]
  rw [g3, e5] at l0
  simp only [l0, a_obind_some]
  cases c.2.2.1.all (fun r => repOk r && decide (r.1.1 ≤ c.2.1.1)) with
  | false => simp
  | true =>
    simp only [if_true, a_sumE_inl, l1, a_obind_some, Bool.true_and]
    cases c.2.2.2.2.1.all (fun m => decide (m.2.2.1 ≤ c.2.1.1)) with
    | false => simp
    | true => simp only [if_true, a_sumE_inl, answersValid_eq k hk, a_obind_some, Bool.true_and]
end
abbrev TAns : Ty := .prod TEnt (.prod (.int .i64) .unit)
abbrev TChn : Ty := .prod TStt (.prod TCfg' (.prod (.slice TRep) (.prod (.slice .bool) (.prod (.slice TMsg) (.prod (.slice TAns) .unit)))))
theorem repI_of {m : TRep.val} (h : InR TRep m) : RepI m := ⟨Nat.le_trans h.1.2.1.1 (by decide), Nat.le_trans h.2.2.1.1 (by decide), keys_of h.2.2.1⟩
theorem chnI_of {c : TChn.val} (h : InR TChn c) : ChnI c :=
  ⟨st_fit h.1, Nat.le_trans h.2.1.2.1.1 (by decide), ⟨Nat.le_trans h.2.2.1.1 (by decide), fun r hr => repI_of (h.2.2.1.2 r hr)⟩, Nat.le_trans h.2.2.2.1.1 (by decide), ⟨Nat.le_trans h.2.2.2.2.1.1 (by decide), fun r hr => msgI_of (h.2.2.2.2.1.2 r hr)⟩,
    Nat.le_trans h.2.2.2.2.2.1.1 (by decide), fun r hr => Nat.le_trans (h.2.2.2.2.2.1.2 r hr).1.2.2.1.2.1 (by decide)⟩
end Go.Den.T

namespace Go.Den.T
set_option linter.unusedVariables false
set_option linter.unusedSimpArgs false
set_option linter.unusedSectionVars false
section
variable {A : Atoms} [IsReal A]
theorem markText_ok (k : Nat) (hk : 100 ≤ k) (n : Int) (h1 : n ≤ 1000000000000000) : Ok (laws_markText_t A k (n, ()) ()) (fun q => q.1.1.length ≤ 30) := by
  rw [laws_markText_t, ok_cndS]
  refine ⟨fun _ => ok_some.2 (by simp), fun h => ?_⟩
  simp at h
  have e : (10 : Nat) ^ 17 = 100000000000000000 := by decide
  refine Ok.bind (P := fun e : List UInt8 × Unit => e.1.length ≤ 20) (iter_ok (fun j (s : Int × (List UInt8 × Unit)) => ∃ m : Nat, s.1 = (m : Int) ∧ m < 10 ^ j ∧ s.2.1.length + j ≤ 17 ∧ m ≤ 1000000000000000) _ ?_ (n := 17) (by omega) ⟨n.toNat, by simp only; omega, by omega, by simp, by omega⟩) fun e he => ?_
  · rintro j ⟨x, l, _⟩ ⟨m, g1, g2, g3, g4⟩
    simp only at g1 g2 g3
    subst g1
    rw [laws_markText_t_b0, ok_cndS]
    simp only [a_ltI, decide_eq_true_eq, decide_eq_false_iff_not]
    refine ⟨fun hpos => ?_, fun _ => ok_some.2 ⟨fun s' e => (by cases e), fun e he => (by injection he with he; subst he; show l.length ≤ 20; omega)⟩⟩
    have hj : j ≠ 0 := by rintro rfl; simp at g2; omega
    have hw : A.wrapI .i64 (A.quoI (m : Int) 10) = ((m / 10 : Nat) : Int) := by
      rw [a_quoI, show ((m : Int)).tdiv 10 = ((m / 10 : Nat) : Int) from rfl]
      exact a_wrap (by omega) (by omega)
    have g : 1 + (l.length : Int) < 4294967296 := by omega
    rw [hw]
    refine ⟨.inl (((m / 10 : Nat) : Int), (A.appL (A.byteList ((A.wrapI .u8 (A.wrapI .i64 (A.addI 48 (A.remI (m : Int) 10)))) :: ([] : List Int))) l, ())), by simp [g], fun s' e => ?_, fun e he => (by cases he)⟩
    injection e with e; subst e
    refine ⟨j - 1, by omega, m / 10, rfl, ?_, by simp; omega, by omega⟩
    have : j - 1 + 1 = j := by omega
    rw [← this, Nat.pow_succ] at g2
    exact Nat.div_lt_of_lt_mul (by rw [Nat.mul_comm]; exact g2)
  · rw [ok_cndS]
    refine ⟨fun _ => ok_some.2 (by simp; omega), fun hc => ?_⟩
    simp at hc; omega
def mtx (A : Atoms) (k : Nat) (n : Int) : List UInt8 := match laws_markText_t A k (n, ()) () with
  | some r => r.1.1
  | none => []
theorem markText_eq (k : Nat) (hk : 100 ≤ k) (n : Int) (h1 : n ≤ 1000000000000000) : laws_markText_t A k (n, ()) () = some ((mtx A k n, ()), ()) := by
  obtain ⟨r, h, _⟩ := markText_ok (A := A) k hk n h1
  rw [mtx, h]
def mE (A : Atoms) (k : Nat) (n : Int) : Ent := (n, (n + 1, ((n + 2, (mtx A k (n + 3), (n + 4, (n + 5, ())))), ())))
def marksE (A : Atoms) (k : Nat) (n : Int) (m : Nat) : List Ent := (List.range m).map fun i : Nat => mE A k (n + 6 * (i : Int))
@[simp] theorem marksE_len (k : Nat) (n : Int) (m : Nat) : (marksE A k n m).length = m := by simp [marksE]
theorem marksE_succ (k : Nat) (n : Int) (m : Nat) : marksE A k n (m + 1) = marksE A k n m ++ [mE A k (n + 6 * (m : Int))] := by simp [marksE, List.range_succ]
theorem markE_set (k : Nat) (xs : List Ent) (n : Int) (i : Nat) (h : i < xs.length) : (marksE A k n i ++ xs.drop i).set i (mE A k (n + 6 * (i : Int))) = marksE A k n (i + 1) ++ xs.drop (i + 1) := by
  rw [List.set_append_right _ _ (by simp)]
  simp only [marksE_len, Nat.sub_self]
  rw [List.drop_eq_getElem_cons h, List.set_cons_zero, marksE_succ]
  simp
theorem markE_step (k : Nat) (hk : 100 ≤ k) (L : List Ent) (i : Nat) (hi : i < L.length) (hl : L.length ≤ 1000000000) (n : Int) (h0 : 0 ≤ n) (h1 : n ≤ 100000000000000) :
    laws_markEntryS_t_b0 A k (n, ((i : Int), (L, ()))) = some (.inl (n + 6, (((i + 1 : Nat) : Int), (L.set i (mE A k n), ())))) := by
  have hi' : (i : Int) < (L.length : Int) := by omega
  have w1 : A.wrapI .i64 (n + 1) = n + 1 := a_wrap (by omega) (by omega)
  have w2 : A.wrapI .i64 (n + 1 + 1) = n + 2 := by rw [a_wrap (by omega) (by omega)]; omega
  have w3 : A.wrapI .i64 (n + 2 + 1) = n + 3 := by rw [a_wrap (by omega) (by omega)]; omega
  have w4 : A.wrapI .i64 (n + 3 + 1) = n + 4 := by rw [a_wrap (by omega) (by omega)]; omega
  have w5 : A.wrapI .i64 (n + 4 + 1) = n + 5 := by rw [a_wrap (by omega) (by omega)]; omega
  have w6 : A.wrapI .i64 (n + 5 + 1) = n + 6 := by rw [a_wrap (by omega) (by omega)]; omega
  have w : A.wrapI .i64 ((i : Int) + 1) = ((i + 1 : Nat) : Int) := by rw [a_wrap (by omega) (by omega)]; rfl
  have ge : ∀ (M : List Ent) (x d : Ent), i < M.length → (M.set i x).getD i d = x := fun M x d h => by rw [getD_lt (by simpa using h)]; simp
  have ls : ∀ (M : List Ent) (x : Ent), (M.set i x).length = M.length := fun M x => by simp
  simp only [laws_markEntryS_t_b0, a_cndS, a_ltI, a_lenL, a_le0, a_andB, hi', Int.natCast_nonneg, decide_true, Bool.and_self, if_true, a_setL, a_atL, Int.toNat_natCast, a_obind_some, a_addI, w, w1, w2, w3, w4, w5, w6, ls, ge, List.set_set, markText_eq k hk (n + 3) (by omega), hi]
  rfl
theorem markEntryS_eq (k : Nat) (hk : 100 ≤ k) (n : Int) (xs : List Ent) (hkx : xs.length < k) (hl : xs.length ≤ 1000000000) (h0 : 0 ≤ n) (h1 : n ≤ 90000000000000) :
    laws_markEntryS_t A k ((), (n, ())) xs = some ((n + 6 * xs.length, ()), marksE A k n xs.length) := by
  have h := iter_for (A := A) (f := laws_markEntryS_t_b0 A k) (fun i => (n + 6 * (i : Int), ((i : Int), (marksE A k n i ++ xs.drop i, ())))) xs.length (n + 6 * (xs.length : Int), (marksE A k n xs.length, ()))
    (fun i hi => by
      rw [markE_step k hk _ i (by simp; omega) (by simp; omega) _ (by omega) (by omega), markE_set k xs n i hi]
      simp; omega)
    (by simp [laws_markEntryS_t_b0]) hkx
  have z : marksE A k n 0 = [] := rfl
  simp [z] at h
  simp [laws_markEntryS_t, h]
end
end Go.Den.T

namespace Go.Den.T
set_option linter.unusedVariables false
set_option linter.unusedSimpArgs false
set_option linter.unusedSectionVars false
section
variable {A : Atoms} [IsReal A]
/-! ### compared -/
def MsgT (k : Nat) (m : Msg) : Prop := m.2.2.2.1.2.1.length < k ∧ m.2.2.2.2.1.length < k ∧ MsgF m
/-! ### drawn -/
theorem BagS.t {k : Nat} {l : List Msg} (hk : 200 ≤ k) (h : BagS l) : ∀ m ∈ l, MsgT k m := fun m hm => by
  have := h.2 m hm
  have h1 : m.2.2.2.1.2.1.length ≤ 100 := this.1
  have h2 : m.2.2.2.2.1.length ≤ 30 := this.2.1
  exact ⟨by omega, by omega, by omega, by omega⟩
end
end Go.Den.T

namespace Go.Den.T
set_option linter.unusedVariables false
set_option linter.unusedSimpArgs false
set_option linter.unusedSectionVars false
section
variable {A : Atoms} [IsReal A]
theorem markIntS_eq2 (k : Nat) (n : Int) (xs : List Int) (hk : xs.length < k) (hl : xs.length ≤ 1000000000) (h0 : 0 ≤ n) (h1 : n ≤ 100000000000000) : laws_markIntS_t A k ((), (n, ())) xs = some ((n + xs.length, ()), marks n xs.length) := by
  have h := iter_for (A := A) (f := laws_markIntS_t_b0 A k) (fun i => (n + (i : Int), ((i : Int), (marks n i ++ xs.drop i, ())))) xs.length (n + (xs.length : Int), (marks n xs.length, ()))
    (fun i hi => by
      have e : i + (xs.length - i) = xs.length := by omega
      have := mark_step xs n i hi
      simp (disch := omega) [laws_markIntS_t_b0, hi, a_wrap, e, this]
      omega)
    (by simp [laws_markIntS_t_b0]) hk
  have z : marks n 0 = [] := rfl
  simp [z] at h
  simp [laws_markIntS_t, h]
/-! marks, element by element -/
section
variable {α : Type} (mk : Int → α → α) (nx : Int → α → Int)
def marksG : Int → List α → List α
  | _, [] => []
  | n, x :: xs => mk n x :: marksG (nx n x) xs
def endG : Int → List α → Int
  | n, [] => n
  | n, x :: xs => endG (nx n x) xs
theorem marksG_len (n : Int) (xs : List α) : (marksG mk nx n xs).length = xs.length := by
  induction xs generalizing n with
  | nil => rfl
  | cons x xs ih => simp [marksG, ih]
theorem marksG_snoc (n : Int) (xs : List α) (x : α) : marksG mk nx n (xs ++ [x]) = marksG mk nx n xs ++ [mk (endG nx n xs) x] ∧ endG nx n (xs ++ [x]) = nx (endG nx n xs) x := by
  induction xs generalizing n with
  | nil => exact ⟨rfl, rfl⟩
  | cons v xs ih => obtain ⟨h1, h2⟩ := ih (nx n v); exact ⟨by simp only [List.cons_append, marksG, endG, h1], by simp only [List.cons_append, endG, h2]⟩
theorem endG_take {xs : List α} {i : Nat} (n : Int) (hi : i < xs.length) : endG nx n (xs.take (i + 1)) = nx (endG nx n (xs.take i)) xs[i] := by
  rw [List.take_succ_eq_append_getElem hi]; exact (marksG_snoc (fun _ x => x) nx n _ _).2
theorem markG_set {xs : List α} {n : Int} {i : Nat} (h : i < xs.length) : (marksG mk nx n (xs.take i) ++ xs.drop i).set i (mk (endG nx n (xs.take i)) xs[i]) = marksG mk nx n (xs.take (i + 1)) ++ xs.drop (i + 1) := by
  have hl : (marksG mk nx n (xs.take i)).length = i := by rw [marksG_len]; simp; omega
  rw [List.set_append_right _ _ (by omega), hl, Nat.sub_self]
  rw [List.drop_eq_getElem_cons h, List.set_cons_zero, List.take_succ_eq_append_getElem h, (marksG_snoc mk nx _ _ _).1]
  simp
theorem endG_bound {xs : List α} {C : Int} (hC : 0 ≤ C) (hnx : ∀ n x, x ∈ xs → 0 ≤ n → n ≤ nx n x ∧ nx n x ≤ n + C) {n : Int} (h0 : 0 ≤ n) : n ≤ endG nx n xs ∧ endG nx n xs ≤ n + C * xs.length := by
  induction xs generalizing n with
  | nil => simp [endG]
  | cons x xs ih =>
    obtain ⟨h1, h2⟩ := hnx n x (by simp) h0
    obtain ⟨h3, h4⟩ := ih (fun n y hy => hnx n y (by simp [hy])) (n := nx n x) (by omega)
    refine ⟨by simp only [endG]; omega, ?_⟩
    simp only [endG, List.length_cons]
    have : C * ((xs.length + 1 : Nat) : Int) = C * xs.length + C := by rw [Int.natCast_add, Int.mul_add]; simp
    omega
theorem mark_loop {f : Int × (Int × (List α × Unit)) → Option ((Int × (Int × (List α × Unit))) ⊕ (Int × (List α × Unit)))} {k : Nat} (d : α) (xs : List α) (hk : xs.length < k) {n C : Int} (h0 : 0 ≤ n) (hC : 0 ≤ C)
    (hnx : ∀ n x, x ∈ xs → 0 ≤ n → n ≤ nx n x ∧ nx n x ≤ n + C)
    (hs : ∀ (i : Nat) (m : Int) (ys : List α) (hi : i < xs.length), ys.length = xs.length → ys.getD i d = xs[i] → 0 ≤ m → m ≤ n + C * xs.length → f (m, ((i : Int), (ys, ()))) = some (.inl (nx m xs[i], (((i + 1 : Nat) : Int), (ys.set i (mk m xs[i]), ())))))
    (hd : ∀ (m : Int) (ys : List α), ys.length = xs.length → f (m, (((xs.length : Nat) : Int), (ys, ()))) = some (.inr (m, (ys, ())))) :
    A.iter k f (n, (0, (xs, ()))) = some (endG nx n xs, (marksG mk nx n xs, ())) := by
  have h := iter_for (A := A) (k := k) (f := f) (fun i => (endG nx n (xs.take i), ((i : Int), (marksG mk nx n (xs.take i) ++ xs.drop i, ())))) xs.length (endG nx n xs, (marksG mk nx n xs, ()))
    (fun i hi => by
      have hb := endG_bound nx hC (xs := xs.take i) (fun n x hx => hnx n x (List.mem_of_mem_take hx)) h0
      have hl : (marksG mk nx n (xs.take i)).length = i := by rw [marksG_len]; simp; omega
      have hm : C * ((xs.take i).length : Int) ≤ C * xs.length := Int.mul_le_mul_of_nonneg_left (by simp; omega) hC
      rw [hs i _ _ hi (by rw [List.length_append, hl]; simp; omega) (by simp [List.getD, List.getElem?_append_right (show (marksG mk nx n (xs.take i)).length ≤ i by omega), hl, hi]) (by omega) (by omega), markG_set mk nx hi, endG_take nx n hi])
    (by
      have := hd (endG nx n xs) (marksG mk nx n xs) (marksG_len mk nx n xs)
      simpa using this) hk
  simpa [marksG, endG] using h
end
/-! messages -/
def nxM (n : Int) (m : Msg) : Int := n + 5 + m.2.2.2.1.2.1.length + 6 * m.2.2.2.2.1.length
def mM (A : Atoms) (k : Nat) (n : Int) (m : Msg) : Msg :=
  (n, (n + 1, (n + 2, ((n + 3, (marks (n + 4) m.2.2.2.1.2.1.length, (decide ((n + 4 + (m.2.2.2.1.2.1.length : Int)).tmod 3 = 0), m.2.2.2.1.2.2.2))), (marksE A k (n + 5 + (m.2.2.2.1.2.1.length : Int)) m.2.2.2.2.1.length, m.2.2.2.2.2)))))
theorem markM_step (k : Nat) (hk : 2000000 ≤ k) (L : List Msg) (i : Nat) (hi : i < L.length) (hl : L.length ≤ 1000000000) (m : Msg) (hm : L.getD i msg0 = m) (hz : MsgZ m) (n : Int) (h0 : 0 ≤ n) (h1 : n ≤ 80000000000000) :
    laws_markMessageS_t_b0 A k (n, ((i : Int), (L, ()))) = some (.inl (nxM n m, (((i + 1 : Nat) : Int), (L.set i (mM A k n m), ())))) := by
  obtain ⟨z1, z2⟩ := hz
  have hi' : (i : Int) < (L.length : Int) := by omega
  have w1 : A.wrapI .i64 (n + 1) = n + 1 := a_wrap (by omega) (by omega)
  have w2 : A.wrapI .i64 (n + 1 + 1) = n + 2 := by rw [a_wrap (by omega) (by omega)]; omega
  have w3 : A.wrapI .i64 (n + 2 + 1) = n + 3 := by rw [a_wrap (by omega) (by omega)]; omega
  have w4 : A.wrapI .i64 (n + 3 + 1) = n + 4 := by rw [a_wrap (by omega) (by omega)]; omega
  have w5 : A.wrapI .i64 (n + 4 + (m.2.2.2.1.2.1.length : Int) + 1) = n + 5 + (m.2.2.2.1.2.1.length : Int) := by rw [a_wrap (by omega) (by omega)]; omega
  have w : A.wrapI .i64 ((i : Int) + 1) = ((i + 1 : Nat) : Int) := by rw [a_wrap (by omega) (by omega)]; rfl
  have ge : ∀ (M : List Msg) (x d : Msg), i < M.length → (M.set i x).getD i d = x := fun M x d h => by rw [getD_lt (by simpa using h)]; simp
  have ls : ∀ (M : List Msg) (x : Msg), (M.set i x).length = M.length := fun M x => by simp
  have h3 : ¬ (3 : Int) = 0 := by decide
  simp only [laws_markMessageS_t_b0, a_cndS, a_ltI, a_lenL, a_le0, a_andB, hi', Int.natCast_nonneg, decide_true, Bool.and_self, if_true, a_setL, a_atL, Int.toNat_natCast, a_obind_some, a_addI, w, w1, w2, w3, w4, w5, ls, ge, List.set_set, hm, hi,
    markIntS_eq2 k (n + 4) m.2.2.2.1.2.1 (by omega) (by omega) (by omega) (by omega), markEntryS_eq k (by omega) (n + 5 + (m.2.2.2.1.2.1.length : Int)) m.2.2.2.2.1 (by omega) (by omega) (by omega) (by omega), a_eqI, a_notB, a_remI, h3, decide_false, Bool.not_false]
  rfl
theorem nxM_bound (xs : List Msg) (hz : ∀ m ∈ xs, MsgZ m) : ∀ (n : Int) (x : Msg), x ∈ xs → 0 ≤ n → n ≤ nxM n x ∧ nxM n x ≤ n + 7340037 := fun n x hx h0 => by
  obtain ⟨z1, z2⟩ := hz x hx
  unfold nxM; omega
theorem markMessageS_eqn (k : Nat) (hk : 2000000 ≤ k) (n : Int) (xs : List Msg) (hl : xs.length ≤ 1048576) (hz : ∀ m ∈ xs, MsgZ m) (h0 : 0 ≤ n) (h1 : n ≤ 50000000000000) : laws_markMessageS_t A k ((), (n, ())) xs = some ((endG nxM n xs, ()), marksG (mM A k) nxM n xs) := by
  have h := mark_loop (A := A) (mM A k) nxM (f := laws_markMessageS_t_b0 A k) (k := k) msg0 xs (by omega) (n := n) (C := 7340037) (by omega) (by omega) (nxM_bound xs hz)
    (fun i m ys hi hy hg h0 h1 => markM_step k hk ys i (by omega) (by omega) xs[i] hg (hz _ (List.getElem_mem hi)) m h0 (by omega))
    (fun m ys hy => by simp [laws_markMessageS_t_b0, hy])
  simp only [laws_markMessageS_t, h, a_obind_some]
end
end Go.Den.T

namespace Go.Den.T
end Go.Den.T

namespace Go.Den.T
set_option linter.unusedVariables false
set_option linter.unusedSimpArgs false
set_option linter.unusedSectionVars false
section
variable {A : Atoms} [IsReal A]
theorem in_bounds {α : Type} {l : List α} {i : Int} (h0 : 0 ≤ i) (h1 : i < l.length) : A.andB (A.le0 i) (A.ltI i (A.lenL l)) = true := by simp [h0, h1]
end
end Go.Den.T

namespace Go.Den.T
set_option linter.unusedVariables false
set_option linter.unusedSimpArgs false
set_option linter.unusedSectionVars false
section
variable {A : Atoms} [IsReal A]
end
end Go.Den.T

namespace Go.Den.T
set_option linter.unusedVariables false
set_option linter.unusedSimpArgs false
set_option linter.unusedSectionVars false
section
abbrev pair0 : Pair := (([] : List UInt8), ((0 : Int), ()))
def ahead {α : Type} (lt : α → Bool) (l : List α) : Nat := (l.takeWhile lt).length
theorem ahead_cons {α : Type} (lt : α → Bool) (x : α) (l : List α) : ahead lt (x :: l) = if lt x = true then ahead lt l + 1 else 0 := by
  unfold ahead
  rw [List.takeWhile_cons]
  split <;> simp
theorem ahead_le {α : Type} (lt : α → Bool) : ∀ l : List α, ahead lt l ≤ l.length
  | [] => Nat.le_refl _
  | x :: l => by rw [ahead_cons]; have := ahead_le lt l; split <;> simp; omega
theorem ahead_eq {α : Type} {lt : α → Bool} {d : α} : ∀ {l : List α} {n : Nat}, n ≤ l.length → (∀ i, i < n → lt (l.getD i d) = true) → (n < l.length → lt (l.getD n d) = false) → ahead lt l = n
  | [], n, h1, _, _ => by simp at h1; subst h1; rfl
  | x :: l, 0, _, _, h3 => by
    have := h3 (by simp)
    simp at this
    rw [ahead_cons, this]; rfl
  | x :: l, n + 1, h1, h2, h3 => by
    have h0 := h2 0 (by omega)
    simp at h0
    rw [ahead_cons, h0]
    simp only [if_true]
    rw [ahead_eq (l := l) (n := n) (d := d) (by simpa using h1) (fun i hi => by simpa using h2 (i + 1) (by omega)) (fun h => by simpa using h3 (by simpa using h))]
theorem ahead_spec {α : Type} {lt : α → Bool} {d : α} : ∀ {l : List α}, (∀ i, i < ahead lt l → lt (l.getD i d) = true) ∧ (ahead lt l < l.length → lt (l.getD (ahead lt l) d) = false)
  | [] => ⟨fun i h => by simp [ahead] at h, fun h => by simp [ahead] at h⟩
  | x :: l => by
    rw [ahead_cons]
    rcases Bool.eq_false_or_eq_true (lt x) with h | h
    · simp only [h, if_true]
      obtain ⟨k1, k2⟩ := ahead_spec (lt := lt) (d := d) (l := l)
      refine ⟨fun i hi => ?_, fun hl => by simpa using k2 (by simpa using hl)⟩
      cases i with
      | zero => simpa using h
      | succ i => simpa using k1 i (by omega)
    · simp only [h, Bool.false_eq_true, if_false]
      exact ⟨fun i hi => by omega, fun _ => by simpa using h⟩
def Mono {α : Type} (lt : α → Bool) (d : α) (l : List α) : Prop := ∀ i j, i < j → j < l.length → lt (l.getD j d) = true → lt (l.getD i d) = true
theorem bless_trans : ∀ {a b c : List UInt8}, bless a b = true → bless b c = true → bless a c = true
  | [], b, [], h1, h2 => by rw [bless_to_nil] at h2; cases h2
  | [], b, z :: c, h1, h2 => by simp [bless_nil]
  | x :: a, [], c, h1, h2 => by rw [bless_to_nil] at h1; cases h1
  | x :: a, y :: b, [], h1, h2 => by rw [bless_to_nil] at h2; cases h2
  | x :: a, y :: b, z :: c, h1, h2 => by
    simp only [bless_cons, Bool.or_eq_true, decide_eq_true_eq, Bool.and_eq_true, beq_iff_eq] at h1 h2 ⊢
    rcases h1 with h1 | ⟨rfl, h1⟩
    · rcases h2 with h2 | ⟨rfl, h2⟩
      · exact .inl (UInt8.lt_trans h1 h2)
      · exact .inl h1
    · rcases h2 with h2 | ⟨rfl, h2⟩
      · exact .inl h2
      · exact .inr ⟨rfl, bless_trans h1 h2⟩
theorem chain_all {α : Type} {R : α → α → Prop} (ht : ∀ a b c, R a b → R b c → R a c) {l : List α} {d : α} (h : ∀ i, 1 ≤ i → i < l.length → R (l.getD (i - 1) d) (l.getD i d)) : ∀ i j, i < j → j < l.length → R (l.getD i d) (l.getD j d) := by
  intro i j hij
  induction j with
  | zero => omega
  | succ j ih =>
    intro hj
    have h1 := h (j + 1) (by omega) hj
    simp only [Nat.add_sub_cancel] at h1
    by_cases e : i = j
    · subst e; exact h1
    · exact ht _ _ _ (ih (by omega) (by omega)) h1
theorem pairs_sorted {l : List Pair} (h : pairsOk l = true) : ∀ i j, i < j → j < l.length → bless (l.getD i pair0).1 (l.getD j pair0).1 = true := by
  simp only [pairsOk, Bool.and_eq_true, range_all] at h
  refine chain_all (R := fun a b : Pair => bless a.1 b.1 = true) (fun a b c => bless_trans) (fun i hi hl => ?_)
  have := h.2 i hl
  simp only [pairAt, Bool.and_eq_true, Bool.or_eq_true, decide_eq_true_eq] at this
  rcases this.2.2 with h0 | h0
  · omega
  · exact h0
theorem ses_sorted {l : List Ses} (h : sesOk l = true) : ∀ i j, i < j → j < l.length → (l.getD i ses0).1 < (l.getD j ses0).1 := by
  simp only [sesOk, range_all] at h
  refine chain_all (R := fun a b : Ses => a.1 < b.1) (fun a b c h1 h2 => by omega) (fun i hi hl => ?_)
  have := h i hl
  simp only [sesAt, sesP, Bool.and_eq_true, Bool.or_eq_true, decide_eq_true_eq, Bool.not_eq_true', decide_eq_false_iff_not] at this
  rcases this.2.2.2 with h0 | h0
  · omega
  · show (l.getD (i - 1) ses0).1 < (l.getD i ses0).1
    have : ¬ (l.getD i ses0).1 ≤ (l.getD (i - 1) ses0).1 := h0
    omega
def ltP (s : List UInt8) (p : Pair) : Bool := bless p.1 s
def ltS (c : Int) (s : Ses) : Bool := decide (s.1 < c)
theorem pairs_mono {l : List Pair} (h : pairsOk l = true) (s : List UInt8) : Mono (ltP s) pair0 l := fun i j hij hj hl => bless_trans (pairs_sorted h i j hij hj) hl
theorem ses_mono {l : List Ses} (h : sesOk l = true) (c : Int) : Mono (ltS c) ses0 l := fun i j hij hj hl => by
  have := ses_sorted h i j hij hj
  simp only [ltS, decide_eq_true_eq] at hl ⊢
  omega
def pp (l : List Pair) (s : List UInt8) : Nat := ahead (ltP s) l
def ph (l : List Pair) (s : List UInt8) : Bool := decide (pp l s < l.length) && decide ((l.getD (pp l s) pair0).1 = s)
def sp (l : List Ses) (c : Int) : Nat := ahead (ltS c) l
def sh (l : List Ses) (c : Int) : Bool := decide (sp l c < l.length) && decide ((l.getD (sp l c) ses0).1 = c)
variable {A : Atoms} [IsReal A]
theorem l4Place_eq (k : Nat) (l : List Pair) (s : List UInt8) (hk : l.length < k) (hl : l.length ≤ 1000000000) : spec_l4Place_t A k (l, (s, ())) () = some (((pp l s : Int), ()), ()) := by
  rw [← ok_eq, spec_l4Place_t]
  refine Ok.bind (P := fun e : Int × Unit => e = ((pp l s : Int), ())) (iter_ok (fun m (st : List Pair × (List UInt8 × (Int × Unit))) => ∃ i : Nat, st = (l, (s, ((i : Int), ()))) ∧ i ≤ l.length ∧ m = l.length - i ∧ ∀ t, t < i → ltP s (l.getD t pair0) = true) _ ?_ (n := l.length) (by omega) ⟨0, rfl, by omega, by omega, fun t ht => by omega⟩) fun e he => ok_some.2 (by rw [he])
  rintro m st ⟨i, rfl, hi, rfl, ha⟩
  have w : A.wrapI .i64 (A.addI (i : Int) 1) = ((i + 1 : Nat) : Int) := by rw [a_addI, a_wrap (by omega) (by omega)]; rfl
  rw [spec_l4Place_t_b0, ok_cndS]
  refine ⟨fun h1 => ?_, fun h1 => ok_some.2 ⟨fun s' e => (by cases e), fun r e => ?_⟩⟩
  · have hlt : (i : Int) < l.length := by simpa using h1
    have hb := in_bounds (A := A) (l := l) (i := (i : Int)) (by omega) hlt
    rw [ok_cndS]
    refine ⟨fun _ => ?_, fun hc => (by rw [hb] at hc; cases hc)⟩
    rw [ok_cndS]
    refine ⟨fun h2 => ok_some.2 ⟨fun s' e => ?_, fun r e => (by cases e)⟩, fun h2 => ok_some.2 ⟨fun s' e => (by cases e), fun r e => ?_⟩⟩
    · injection e with e; subst e
      have h2' : ltP s (l.getD i pair0) = true := by simpa [ltP, bless] using h2
      exact ⟨l.length - (i + 1), by omega, i + 1, by rw [w], by omega, rfl, fun t ht => by
        rcases Nat.lt_or_ge t i with h | h
        · exact ha t h
        · have : t = i := by omega
          subst this; exact h2'⟩
    · injection e with e; subst e
      have h2' : ltP s (l.getD i pair0) = false := by simpa [ltP, bless] using h2
      have : pp l s = i := ahead_eq (d := pair0) hi ha (fun _ => h2')
      rw [this]
  · injection e with e; subst e
    have hge : ¬ (i : Int) < l.length := by simpa using h1
    have : pp l s = i := ahead_eq (d := pair0) hi ha (fun h => by omega)
    rw [this]
def cmpS (a b : List UInt8) : Int := if bless a b = true then -1 else if a = b then 0 else 1
theorem pairPlace_1_eq (k : Nat) (p : Pair) (s : List UInt8) : impl_pairPlace_1_t A k (p, (s, ())) () = some ((cmpS p.1 s, ()), ()) := by
  simp only [impl_pairPlace_1_t, cmp_Compare_string_t, cmp_isNaN_string_t, a_eqS, decide_true, a_notB, Bool.not_true, a_obind_some, a_cndS, Bool.false_eq_true, if_false, a_lessS, a_orB, cmpS, bless]
  rcases Bool.eq_false_or_eq_true (Op.bytesLess p.1 s) with h | h
  · simp [h]
  · by_cases e : p.1 = s
    · rw [e] at h; simp [h, e]
    · simp [h, e]
def cmpI (a b : Int) : Int := if a < b then -1 else if a = b then 0 else 1
theorem sessionPlace_1_eq (k : Nat) (p : Ses) (c : Int) : impl_sessionPlace_1_t A k (p, (c, ())) () = some ((cmpI p.1 c, ()), ()) := by
  simp only [impl_sessionPlace_1_t, cmp_Compare_int_t, cmp_isNaN_int_t, a_eqI, decide_true, a_notB, Bool.not_true, a_obind_some, a_cndS, Bool.false_eq_true, if_false, a_ltI, cmpI, decide_eq_true_eq]
  by_cases h : p.1 < c
  · simp [h]
  · by_cases e : c < p.1
    · have : ¬ p.1 = c := by omega
      simp [h, e, this]
    · have : p.1 = c := by omega
      simp [this]
theorem half_eq {i j : Nat} (h : i + j ≤ 4000000000) : A.wrapI .i64 (A.shrI (A.wrapI .u64 (A.wrapI .i64 (A.addI (i : Int) (j : Int)))) 1) = (((i + j) / 2 : Nat) : Int) := by
  have w1 : A.wrapI .i64 (A.addI (i : Int) (j : Int)) = (i : Int) + (j : Int) := by rw [a_addI]; exact a_wrap (by omega) (by omega)
  have w2 : A.wrapI .u64 ((i : Int) + (j : Int)) = (i : Int) + (j : Int) := by
    rw [a_wrapI]
    simp only [IntKind.wrap, IntKind.bits, IntKind.signed]
    simp
    omega
  have e : ((i : Int) + (j : Int)).fdiv (2 ^ (1 : Int).toNat) = (((i + j) / 2 : Nat) : Int) := by
    rw [Int.fdiv_eq_ediv_of_nonneg _ (by decide)]
    simp
  rw [w1, w2, a_shrI, e]
  exact a_wrap (by omega) (by omega)
structure Halves {α : Type} (lt : α → Bool) (d : α) (l : List α) (i j : Nat) : Prop where
  le : i ≤ j
  len : j ≤ l.length
  below : ∀ t, t < i → lt (l.getD t d) = true
  above : ∀ t, j ≤ t → t < l.length → lt (l.getD t d) = false
theorem Halves.start {α : Type} (lt : α → Bool) (d : α) (l : List α) : Halves lt d l 0 l.length := ⟨by omega, Nat.le_refl _, fun t h => by omega, fun t h1 h2 => by omega⟩
theorem Halves.up {α : Type} {lt : α → Bool} {d : α} {l : List α} {i j : Nat} (hm : Mono lt d l) (h : Halves lt d l i j) (hij : i < j) (ht : lt (l.getD ((i + j) / 2) d) = true) : Halves lt d l ((i + j) / 2 + 1) j :=
  ⟨by omega, h.len, fun t htl => by
    rcases Nat.lt_or_ge t ((i + j) / 2) with h1 | h1
    · exact hm t _ h1 (by have := h.len; omega) ht
    · have : t = (i + j) / 2 := by omega
      rw [this]; exact ht, h.above⟩
theorem Halves.down {α : Type} {lt : α → Bool} {d : α} {l : List α} {i j : Nat} (hm : Mono lt d l) (h : Halves lt d l i j) (hij : i < j) (hf : lt (l.getD ((i + j) / 2) d) = false) : Halves lt d l i ((i + j) / 2) :=
  ⟨by omega, by have := h.len; omega, h.below, fun t h1 h2 => by
    rcases Bool.eq_false_or_eq_true (lt (l.getD t d)) with hq | hq
    · rcases Nat.lt_or_ge ((i + j) / 2) t with h3 | h3
      · rw [hm _ t h3 h2 hq] at hf; cases hf
      · have : t = (i + j) / 2 := by omega
        rw [this] at hq; rw [hq] at hf; cases hf
    · exact hq⟩
theorem Halves.done {α : Type} {lt : α → Bool} {d : α} {l : List α} {i : Nat} (h : Halves lt d l i i) : ahead lt l = i := ahead_eq h.len h.below (fun hl => h.above i (Nat.le_refl _) hl)
theorem pairSearch_eq (k : Nat) (l : List Pair) (s : List UInt8) (hm : Mono (ltP s) pair0 l) (hk : l.length + 1 < k) (hl : l.length ≤ 1000000000) : slices_BinarySearchFunc_string_t A k (l, (s, ())) () = some (((pp l s : Int), (ph l s, ())), ()) := by
  rw [← ok_eq, slices_BinarySearchFunc_string_t]
  refine Ok.bind (P := fun e : List Pair × (List UInt8 × (Int × (Int × Unit))) => e = (l, (s, ((l.length : Int), ((pp l s : Int), ()))))) (iter_ok (fun m (st : List Pair × (List UInt8 × (Int × (Int × (Int × Unit))))) => ∃ i j : Nat, st = (l, (s, ((l.length : Int), ((i : Int), ((j : Int), ()))))) ∧ m = j - i ∧ Halves (ltP s) pair0 l i j) _ ?_ (n := l.length) (by omega) ⟨0, l.length, by simp only [a_lenL]; rfl, by omega, Halves.start ..⟩) fun e he => ?_
  · rintro m st ⟨i, j, rfl, rfl, H⟩
    have hle := H.le
    have hjl := H.len
    rw [slices_BinarySearchFunc_string_t_b0]
    simp only [half_eq (A := A) (show i + j ≤ 4000000000 by omega)]
    rw [ok_cndS]
    refine ⟨fun h1 => ?_, fun h1 => ok_some.2 ⟨fun s' e => (by cases e), fun r e => ?_⟩⟩
    · have hij : i < j := by
        have : (i : Int) < (j : Int) := by simpa using h1
        omega
      rw [ok_cndS]
      refine ⟨fun _ => ?_, fun hc => (by simp at hc)⟩
      have hb := in_bounds (A := A) (l := l) (i := (((i + j) / 2 : Nat) : Int)) (by omega) (by omega)
      rw [ok_cndS]
      refine ⟨fun _ => ?_, fun hc => (by rw [hb] at hc; cases hc)⟩
      rw [pairPlace_1_eq, a_obind_some, a_atL, Int.toNat_natCast, ok_cndS]
      have hw : A.wrapI .i64 (A.addI (((i + j) / 2 : Nat) : Int) 1) = (((i + j) / 2 + 1 : Nat) : Int) := by rw [a_addI, a_wrap (by omega) (by omega)]; rfl
      refine ⟨fun hlt => ok_some.2 ⟨fun s' e => ?_, fun r e => (by cases e)⟩, fun hge => ok_some.2 ⟨fun s' e => ?_, fun r e => (by cases e)⟩⟩
      · injection e with e; subst e
        have ht : ltP s (l.getD ((i + j) / 2) pair0) = true := by
          have : cmpS (l.getD ((i + j) / 2) pair0).1 s < 0 := by simpa using hlt
          rcases Bool.eq_false_or_eq_true (bless (l.getD ((i + j) / 2) pair0).1 s) with h | h
          · exact h
          · simp only [cmpS, h, Bool.false_eq_true, if_false] at this; split at this <;> omega
        exact ⟨j - ((i + j) / 2 + 1), by omega, (i + j) / 2 + 1, j, by rw [hw], rfl, H.up hm hij ht⟩
      · injection e with e; subst e
        have hf : ltP s (l.getD ((i + j) / 2) pair0) = false := by
          have : ¬ cmpS (l.getD ((i + j) / 2) pair0).1 s < 0 := by simpa using hge
          rcases Bool.eq_false_or_eq_true (bless (l.getD ((i + j) / 2) pair0).1 s) with h | h
          · simp only [cmpS, h, if_true] at this; omega
          · exact h
        exact ⟨(i + j) / 2 - i, by omega, i, (i + j) / 2, rfl, rfl, H.down hm hij hf⟩
    · injection e with e; subst e
      have hij : ¬ i < j := by
        have : ¬ (i : Int) < (j : Int) := by simpa using h1
        omega
      have : i = j := by omega
      subst this
      rw [pp, H.done]
  · subst he
    have hpl : pp l s ≤ l.length := ahead_le ..
    rw [ok_cndS]
    simp only [a_ltI, decide_eq_true_eq, decide_eq_false_iff_not]
    refine ⟨fun h1 => ?_, fun h1 => ok_some.2 ?_⟩
    · have hb := in_bounds (A := A) (l := l) (i := (pp l s : Int)) (by omega) h1
      simp only [a_ltI, a_lenL] at hb
      rw [ok_cndS]
      refine ⟨fun _ => ?_, fun hc => (by simp at hc; omega)⟩
      rw [pairPlace_1_eq, a_obind_some, a_atL, Int.toNat_natCast]
      refine ok_some.2 ?_
      have hlt : pp l s < l.length := by omega
      have hnb : bless (l.getD (pp l s) pair0).1 s = false := (ahead_spec (lt := ltP s) (d := pair0) (l := l)).2 hlt
      simp only [a_cndS, if_true, a_eqI, ph, hlt, decide_true, Bool.true_and, cmpS, hnb, Bool.false_eq_true, if_false]
      by_cases he : (l.getD (pp l s) pair0).1 = s
      · rw [if_pos he, decide_eq_true he]; rfl
      · rw [if_neg he, decide_eq_false he]; rfl
    · have : ¬ pp l s < l.length := by omega
      simp [ph, this]
theorem pairPlace_eq (k : Nat) (l : List Pair) (s : List UInt8) (hm : Mono (ltP s) pair0 l) (hk : l.length + 1 < k) (hl : l.length ≤ 1000000000) : impl_pairPlace_t A k (l, (s, ())) () = some (((pp l s : Int), (ph l s, ())), ()) := by
  simp only [impl_pairPlace_t, pairSearch_eq k l s hm hk hl, a_obind_some]
theorem sesSearch_eq (k : Nat) (l : List Ses) (s : Int) (hm : Mono (ltS s) ses0 l) (hk : l.length + 1 < k) (hl : l.length ≤ 1000000000) : slices_BinarySearchFunc_int_t A k (l, (s, ())) () = some (((sp l s : Int), (sh l s, ())), ()) := by
  rw [← ok_eq, slices_BinarySearchFunc_int_t]
  refine Ok.bind (P := fun e : List Ses × (Int × (Int × (Int × Unit))) => e = (l, (s, ((l.length : Int), ((sp l s : Int), ()))))) (iter_ok (fun m (st : List Ses × (Int × (Int × (Int × (Int × Unit))))) => ∃ i j : Nat, st = (l, (s, ((l.length : Int), ((i : Int), ((j : Int), ()))))) ∧ m = j - i ∧ Halves (ltS s) ses0 l i j) _ ?_ (n := l.length) (by omega) ⟨0, l.length, by simp only [a_lenL]; rfl, by omega, Halves.start ..⟩) fun e he => ?_
  · rintro m st ⟨i, j, rfl, rfl, H⟩
    have hle := H.le
    have hjl := H.len
    rw [slices_BinarySearchFunc_int_t_b0]
    simp only [half_eq (A := A) (show i + j ≤ 4000000000 by omega)]
    rw [ok_cndS]
    refine ⟨fun h1 => ?_, fun h1 => ok_some.2 ⟨fun s' e => (by cases e), fun r e => ?_⟩⟩
    · have hij : i < j := by
        have : (i : Int) < (j : Int) := by simpa using h1
        omega
      rw [ok_cndS]
      refine ⟨fun _ => ?_, fun hc => (by simp at hc)⟩
      have hb := in_bounds (A := A) (l := l) (i := (((i + j) / 2 : Nat) : Int)) (by omega) (by omega)
      rw [ok_cndS]
      refine ⟨fun _ => ?_, fun hc => (by rw [hb] at hc; cases hc)⟩
      rw [sessionPlace_1_eq, a_obind_some, a_atL, Int.toNat_natCast, ok_cndS]
      have hw : A.wrapI .i64 (A.addI (((i + j) / 2 : Nat) : Int) 1) = (((i + j) / 2 + 1 : Nat) : Int) := by rw [a_addI, a_wrap (by omega) (by omega)]; rfl
      refine ⟨fun hlt => ok_some.2 ⟨fun s' e => ?_, fun r e => (by cases e)⟩, fun hge => ok_some.2 ⟨fun s' e => ?_, fun r e => (by cases e)⟩⟩
      · injection e with e; subst e
        have ht : ltS s (l.getD ((i + j) / 2) ses0) = true := by
          have : cmpI (l.getD ((i + j) / 2) ses0).1 s < 0 := by simpa using hlt
          by_cases h : (l.getD ((i + j) / 2) ses0).1 < s
          · simpa [ltS] using h
          · simp only [cmpI, h, if_false] at this; split at this <;> omega
        exact ⟨j - ((i + j) / 2 + 1), by omega, (i + j) / 2 + 1, j, by rw [hw], rfl, H.up hm hij ht⟩
      · injection e with e; subst e
        have hf : ltS s (l.getD ((i + j) / 2) ses0) = false := by
          have : ¬ cmpI (l.getD ((i + j) / 2) ses0).1 s < 0 := by simpa using hge
          by_cases h : (l.getD ((i + j) / 2) ses0).1 < s
          · simp only [cmpI, h, if_true] at this; omega
          · simpa [ltS] using h
        exact ⟨(i + j) / 2 - i, by omega, i, (i + j) / 2, rfl, rfl, H.down hm hij hf⟩
    · injection e with e; subst e
      have hij : ¬ i < j := by
        have : ¬ (i : Int) < (j : Int) := by simpa using h1
        omega
      have : i = j := by omega
      subst this
      rw [sp, H.done]
  · subst he
    have hpl : sp l s ≤ l.length := ahead_le ..
    rw [ok_cndS]
    simp only [a_ltI, decide_eq_true_eq, decide_eq_false_iff_not]
    refine ⟨fun h1 => ?_, fun h1 => ok_some.2 ?_⟩
    · rw [ok_cndS]
      refine ⟨fun _ => ?_, fun hc => (by simp at hc; omega)⟩
      rw [sessionPlace_1_eq, a_obind_some, a_atL, Int.toNat_natCast]
      refine ok_some.2 ?_
      have hlt : sp l s < l.length := by omega
      have hnb : ltS s (l.getD (sp l s) ses0) = false := (ahead_spec (lt := ltS s) (d := ses0) (l := l)).2 hlt
      have hnb : ¬ (l.getD (sp l s) ses0).1 < s := by simpa [ltS] using hnb
      simp only [a_cndS, if_true, a_eqI, sh, hlt, decide_true, Bool.true_and, cmpI, hnb, if_false]
      by_cases he : (l.getD (sp l s) ses0).1 = s
      · rw [if_pos he, decide_eq_true he]; rfl
      · rw [if_neg he, decide_eq_false he]; rfl
    · have : ¬ sp l s < l.length := by omega
      simp [sh, this]
theorem sessionPlace_eq (k : Nat) (l : List Ses) (s : Int) (hm : Mono (ltS s) ses0 l) (hk : l.length + 1 < k) (hl : l.length ≤ 1000000000) : impl_sessionPlace_t A k (l, (s, ())) () = some (((sp l s : Int), (sh l s, ())), ()) := by
  simp only [impl_sessionPlace_t, sesSearch_eq k l s hm hk hl, a_obind_some]
end
end Go.Den.T

namespace Go.Den.T
set_option linter.unusedVariables false
set_option linter.unusedSimpArgs false
set_option linter.unusedSectionVars false
section
variable {A : Atoms} [IsReal A]
theorem copyPair_eq (k : Nat) (l : List Pair) (hl : l.length ≤ 1000000000) : impl_copyOf_Pair_t A k (l, ()) () = some ((l, ()), ()) := by
  have : (l.length : Int) < 4294967296 := by omega
  simp [impl_copyOf_Pair_t, this]
theorem copySes_eq (k : Nat) (l : List Ses) (hl : l.length ≤ 1000000000) : impl_copyOf_Session_t A k (l, ()) () = some ((l, ()), ()) := by
  have : (l.length : Int) < 4294967296 := by omega
  simp [impl_copyOf_Session_t, this]
theorem replacedPair_eq (k : Nat) (l : List Pair) (i n : Nat) (x : List Pair) (hl : l.length ≤ 1000000000) (hx : x.length ≤ 1000000) (hi : i + n ≤ l.length) : impl_replaced_Pair_t A k (l, ((i : Int), ((n : Int), (x, ())))) () = some ((l.take i ++ x ++ l.drop (i + n), ()), ()) := by
  have w1 : A.wrapI .i64 ((l.length : Int) - (n : Int)) = (l.length : Int) - (n : Int) := a_wrap (by omega) (by omega)
  have w2 : A.wrapI .i64 ((l.length : Int) - (n : Int) + (x.length : Int)) = (l.length : Int) - (n : Int) + (x.length : Int) := a_wrap (by omega) (by omega)
  have w3 : A.wrapI .i64 ((i : Int) + (n : Int)) = ((i + n : Nat) : Int) := by rw [a_wrap (by omega) (by omega)]; rfl
  have g1 : 0 ≤ (l.length : Int) - (n : Int) + (x.length : Int) := by omega
  have g2 : (l.length : Int) - (n : Int) + (x.length : Int) < 4294967296 := by omega
  have g3 : (i : Int) ≤ (l.length : Int) := by omega
  have tl : (l.take i).length = i := by rw [List.length_take]; omega
  have dl : (l.drop (i + n)).length = l.length - (i + n) := List.length_drop
  have g4 : (i : Int) < 4294967296 := by omega
  have g5 : (i : Int) + (x.length : Int) < 4294967296 := by omega
  have g6 : ((i + n : Nat) : Int) ≤ (l.length : Int) := by omega
  have g7 : (i : Int) + (x.length : Int) + ((l.length - (i + n) : Nat) : Int) < 4294967296 := by omega
  have g0 : (0 : Int) ≤ ((i + n : Nat) : Int) := by omega
  simp only [impl_replaced_Pair_t, a_lenL, a_subI, w1, a_addI, w2, w3, a_le0, a_leI, a_ltI, a_big, a_andB, g1, g2, g3, decide_true, Bool.and_self, Int.natCast_nonneg, Int.le_refl, a_cndS, if_true, a_repL, Int.toNat_zero, List.replicate_zero, a_takeL, a_dropL, Int.toNat_natCast, a_appL, List.nil_append, List.length_nil, List.length_append, tl, dl, Int.natCast_zero, Int.ofNat_zero, Int.zero_add, Int.natCast_add, g4, g5]
  simp only [Int.natCast_add] at g6 g7 g0
  have en : ((i : Int) + (n : Int)).toNat = i + n := by omega
  simp only [g0, g6, en, dl, g7, decide_true, Bool.and_self, if_true, List.append_assoc]
theorem replacedSes_eq (k : Nat) (l : List Ses) (i n : Nat) (x : List Ses) (hl : l.length ≤ 1000000000) (hx : x.length ≤ 1000000) (hi : i + n ≤ l.length) : impl_replaced_Session_t A k (l, ((i : Int), ((n : Int), (x, ())))) () = some ((l.take i ++ x ++ l.drop (i + n), ()), ()) := by
  have w1 : A.wrapI .i64 ((l.length : Int) - (n : Int)) = (l.length : Int) - (n : Int) := a_wrap (by omega) (by omega)
  have w2 : A.wrapI .i64 ((l.length : Int) - (n : Int) + (x.length : Int)) = (l.length : Int) - (n : Int) + (x.length : Int) := a_wrap (by omega) (by omega)
  have w3 : A.wrapI .i64 ((i : Int) + (n : Int)) = ((i + n : Nat) : Int) := by rw [a_wrap (by omega) (by omega)]; rfl
  have g1 : 0 ≤ (l.length : Int) - (n : Int) + (x.length : Int) := by omega
  have g2 : (l.length : Int) - (n : Int) + (x.length : Int) < 4294967296 := by omega
  have g3 : (i : Int) ≤ (l.length : Int) := by omega
  have tl : (l.take i).length = i := by rw [List.length_take]; omega
  have dl : (l.drop (i + n)).length = l.length - (i + n) := List.length_drop
  have g4 : (i : Int) < 4294967296 := by omega
  have g5 : (i : Int) + (x.length : Int) < 4294967296 := by omega
  have g6 : ((i + n : Nat) : Int) ≤ (l.length : Int) := by omega
  have g7 : (i : Int) + (x.length : Int) + ((l.length - (i + n) : Nat) : Int) < 4294967296 := by omega
  have g0 : (0 : Int) ≤ ((i + n : Nat) : Int) := by omega
  simp only [impl_replaced_Session_t, a_lenL, a_subI, w1, a_addI, w2, w3, a_le0, a_leI, a_ltI, a_big, a_andB, g1, g2, g3, decide_true, Bool.and_self, Int.natCast_nonneg, Int.le_refl, a_cndS, if_true, a_repL, Int.toNat_zero, List.replicate_zero, a_takeL, a_dropL, Int.toNat_natCast, a_appL, List.nil_append, List.length_nil, List.length_append, tl, dl, Int.natCast_zero, Int.ofNat_zero, Int.zero_add, Int.natCast_add, g4, g5]
  simp only [Int.natCast_add] at g6 g7 g0
  have en : ((i : Int) + (n : Int)).toNat = i + n := by omega
  simp only [g0, g6, en, dl, g7, decide_true, Bool.and_self, if_true, List.append_assoc]
/-! ### pairs -/
def pget (l : List Pair) (s : List UInt8) : Int := if (pairsOk l && ph l s) = true then (l.getD (pp l s) pair0).2.1 else -1
def pdrop (l : List Pair) (s : List UInt8) : List Pair × (Bool × Unit) := if pairsOk l = true then (if ph l s = true then (l.take (pp l s) ++ l.drop (pp l s + 1), (true, ())) else (l, (false, ()))) else ([], (false, ()))
def pput (l : List Pair) (s : List UInt8) (v : Int) : List Pair × (Bool × Unit) :=
  if (pairsOk l && (keyOk s && valOk v)) = true then (if ph l s = true then (l.take (pp l s) ++ [(s, (v, ()))] ++ l.drop (pp l s + 1), (true, ())) else if 48 ≤ l.length then (l, (false, ())) else (l.take (pp l s) ++ [(s, (v, ()))] ++ l.drop (pp l s), (true, ()))) else ([], (false, ()))
theorem ph_lt {l : List Pair} {s : List UInt8} (h : ph l s = true) : pp l s < l.length ∧ (l.getD (pp l s) pair0).1 = s := by
  simpa [ph] using h
theorem pp_le (l : List Pair) (s : List UInt8) : pp l s ≤ l.length := ahead_le ..
theorem pairs_len {l : List Pair} (h : pairsOk l = true) : l.length ≤ 48 := (pairs_keys h).1
theorem impl_PairGet_eq (k : Nat) (hk : 100 ≤ k) (l : List Pair) (s : List UInt8) : impl_PairGet_t A k (l, (s, ())) () = some ((pget l s, ()), ()) := by
  simp only [impl_PairGet_t, impl_PairsValid_eq k (by omega : 60 ≤ k), a_obind_some, a_cndS, a_notB, pget]
  rcases Bool.eq_false_or_eq_true (pairsOk l) with hp | hp
  case inr => simp [hp]
  have hl := pairs_len hp
  simp only [hp, pairPlace_eq k l s (pairs_mono hp s) (by omega) (by omega), a_obind_some, Bool.not_true, Bool.false_eq_true, if_false, Bool.true_and]
  rcases Bool.eq_false_or_eq_true (ph l s) with h | h
  · obtain ⟨h1, h2⟩ := ph_lt h
    have h1' : (pp l s : Int) < l.length := by omega
    simp [h, h1', h1]
  · simp [h]
theorem spec_PairGet_eq (k : Nat) (hk : 100 ≤ k) (l : List Pair) (s : List UInt8) (hkl : l.length < k) (hl : l.length ≤ 1000000000) : spec_PairGet_t A k (l, (s, ())) () = some ((pget l s, ()), ()) := by
  have hle := pp_le l s
  simp only [spec_PairGet_t, l4Place_eq k l s hkl hl, spec_PairsValid_eq k (by omega : 60 ≤ k), a_obind_some, a_cndS, a_notB, pget, a_eqI, a_lenL]
  rcases Bool.eq_false_or_eq_true (pairsOk l) with hp | hp
  case inr => simp [hp]
  simp only [hp, Bool.not_true, Bool.false_eq_true, if_false, Bool.true_and]
  by_cases he : pp l s = l.length
  · have he' : (pp l s : Int) = l.length := by omega
    have : ph l s = false := by simp [ph, he]
    simp [he', this]
  · have he' : ¬ (pp l s : Int) = l.length := by omega
    have h1 : pp l s < l.length := by omega
    have h1' : (pp l s : Int) < l.length := by omega
    by_cases hq : (l.getD (pp l s) pair0).1 = s
    · have hph : ph l s = true := by simp only [ph, h1, hq, decide_true, Bool.and_self]
      simp only [he', decide_false, Bool.false_eq_true, if_false, a_le0, Int.natCast_nonneg, a_ltI, h1', decide_true, a_andB, Bool.and_self, if_true, a_atL, Int.toNat_natCast, a_eqS, hq, Bool.not_true, a_obind_some, a_sumE_inl, hph]
    · have hph : ph l s = false := by simp only [ph, h1, hq, decide_true, decide_false, Bool.and_false]
      simp only [he', decide_false, Bool.false_eq_true, if_false, a_le0, Int.natCast_nonneg, a_ltI, h1', decide_true, a_andB, Bool.and_self, if_true, a_atL, Int.toNat_natCast, a_eqS, hq, Bool.not_false, a_obind_some, a_sumE_inr, hph]
theorem impl_PairDrop_eq (k : Nat) (hk : 100 ≤ k) (l : List Pair) (s : List UInt8) : impl_PairDrop_t A k (l, (s, ())) () = some (pdrop l s, ()) := by
  simp only [impl_PairDrop_t, impl_PairsValid_eq k (by omega : 60 ≤ k), a_obind_some, a_cndS, a_notB, pdrop]
  rcases Bool.eq_false_or_eq_true (pairsOk l) with hp | hp
  case inr => simp [hp]
  have hl := pairs_len hp
  simp only [hp, pairPlace_eq k l s (pairs_mono hp s) (by omega) (by omega), a_obind_some, Bool.not_true, Bool.false_eq_true, if_false, if_true]
  rcases Bool.eq_false_or_eq_true (ph l s) with h | h
  · obtain ⟨h1, h2⟩ := ph_lt h
    have hr := replacedPair_eq (A := A) k l (pp l s) 1 [] (by omega) (by simp) (by omega)
    simp only [Int.natCast_one, Int.ofNat_one] at hr
    simp [h, hr]
  · simp [h, copyPair_eq k l (by omega)]
theorem spec_PairDrop_eq (k : Nat) (hk : 100 ≤ k) (l : List Pair) (s : List UInt8) : spec_PairDrop_t A k (l, (s, ())) () = some (pdrop l s, ()) := by
  have hle := pp_le l s
  simp only [spec_PairDrop_t, spec_PairsValid_eq k (by omega : 60 ≤ k), a_obind_some, a_cndS, a_notB, pdrop, a_eqI, a_lenL]
  rcases Bool.eq_false_or_eq_true (pairsOk l) with hp | hp
  case inr => simp [hp]
  have hl := pairs_len hp
  have hb : (l.length : Int) < 4294967296 := by omega
  simp only [hp, l4Place_eq k l s (by omega) (by omega), a_obind_some, Bool.not_true, Bool.false_eq_true, if_false, if_true]
  by_cases he : pp l s = l.length
  · have he' : (pp l s : Int) = l.length := by omega
    have : ph l s = false := by simp [ph, he]
    simp [he', this, hb]
  · have he' : ¬ (pp l s : Int) = l.length := by omega
    have h1 : pp l s < l.length := by omega
    have h1' : (pp l s : Int) < l.length := by omega
    by_cases hq : (l.getD (pp l s) pair0).1 = s
    · have hph : ph l s = true := by simp only [ph, h1, hq, decide_true, Bool.and_self]
      have w : A.wrapI .i64 ((pp l s : Int) + 1) = ((pp l s + 1 : Nat) : Int) := by rw [a_wrap (by omega) (by omega)]; rfl
      have g1 : (pp l s : Int) ≤ l.length := by omega
      have g2 : ((pp l s + 1 : Nat) : Int) ≤ l.length := by omega
      have tl : (l.take (pp l s)).length = pp l s := by rw [List.length_take]; omega
      have dl : (l.drop (pp l s + 1)).length = l.length - (pp l s + 1) := List.length_drop
      have g3 : (pp l s : Int) < 4294967296 := by omega
      have g4 : (pp l s : Int) + ((l.length - (pp l s + 1) : Nat) : Int) < 4294967296 := by omega
      simp only [he', decide_false, Bool.false_eq_true, if_false, a_le0, Int.natCast_nonneg, a_ltI, h1', decide_true, a_andB, Bool.and_self, if_true, a_atL, Int.toNat_natCast, a_eqS, hq, Bool.not_true, a_obind_some, a_sumE_inl, hph, a_leI, g1, a_addI, w, g2, a_takeL, a_dropL, a_appL, List.nil_append, List.length_nil, Int.natCast_zero, Int.ofNat_zero, Int.zero_add, tl, dl, a_big, g3, g4]
    · have hph : ph l s = false := by simp only [ph, h1, hq, decide_true, decide_false, Bool.and_false]
      simp only [he', decide_false, Bool.false_eq_true, if_false, a_le0, Int.natCast_nonneg, a_ltI, h1', decide_true, a_andB, Bool.and_self, if_true, a_atL, Int.toNat_natCast, a_eqS, hq, Bool.not_false, a_obind_some, a_sumE_inr, hph, List.length_nil, Int.natCast_zero, Int.ofNat_zero, a_addI, Int.zero_add, a_big, hb, a_appL, List.nil_append]
theorem impl_PairPut_eq (k : Nat) (hk : 100 ≤ k) (l : List Pair) (s : List UInt8) (v : Int) : impl_PairPut_t A k (l, (s, (v, ()))) () = some (pput l s v, ()) := by
  simp only [impl_PairPut_t, impl_PairsValid_eq k (by omega : 60 ≤ k), impl_KeyValid_eq k (by omega : 10 ≤ k), valueValid_eq, a_obind_some, a_cndS, a_notB, pput]
  rcases Bool.eq_false_or_eq_true (pairsOk l) with hp | hp
  case inr => simp [hp]
  rcases Bool.eq_false_or_eq_true (keyOk s) with hs | hs
  case inr => simp [hp, hs]
  rcases Bool.eq_false_or_eq_true (valOk v) with hv | hv
  case inr =>
    have hv' : ¬ (0 ≤ v ∧ v ≤ 999) := by simpa [valOk] using hv
    simp [hp, hs, hv, hv']
  have hv' : 0 ≤ v ∧ v ≤ 999 := by simpa [valOk] using hv
  have hl := pairs_len hp
  simp only [hp, hs, hv, hv', and_self, decide_true, pairPlace_eq k l s (pairs_mono hp s) (by omega) (by omega), a_obind_some, a_sumE_inl, Bool.not_true, Bool.false_eq_true, if_false, if_true, Bool.and_self]
  rcases Bool.eq_false_or_eq_true (ph l s) with h | h
  · obtain ⟨h1, h2⟩ := ph_lt h
    have hr := replacedPair_eq (A := A) k l (pp l s) 1 [(s, (v, ()))] (by omega) (by simp) (by omega)
    simp only [Int.natCast_one, Int.ofNat_one] at hr
    simp only [h, if_true, hr, a_obind_some]
  · have hr := replacedPair_eq (A := A) k l (pp l s) 0 [(s, (v, ()))] (by omega) (by simp) (by have := pp_le l s; omega)
    simp only [Int.natCast_zero, Int.ofNat_zero, Nat.add_zero] at hr
    simp only [h, Bool.false_eq_true, if_false, a_leI, a_lenL]
    by_cases h48 : 48 ≤ l.length
    · have : (48 : Int) ≤ l.length := by omega
      simp [this, h48, copyPair_eq k l (by omega)]
    · have : ¬ (48 : Int) ≤ l.length := by omega
      simp only [this, h48, decide_false, Bool.false_eq_true, if_false, hr, a_obind_some]
theorem spec_PairPut_eq (k : Nat) (hk : 100 ≤ k) (l : List Pair) (s : List UInt8) (v : Int) : spec_PairPut_t A k (l, (s, (v, ()))) () = some (pput l s v, ()) := by
  have hle := pp_le l s
  simp only [spec_PairPut_t, spec_PairsValid_eq k (by omega : 60 ≤ k), spec_KeyValid_eq k (by omega : 10 ≤ k), l1In_eq, a_obind_some, a_cndS, a_notB, pput]
  rcases Bool.eq_false_or_eq_true (pairsOk l) with hp | hp
  case inr => simp [hp]
  rcases Bool.eq_false_or_eq_true (keyOk s) with hs | hs
  case inr => simp [hp, hs]
  rcases Bool.eq_false_or_eq_true (valOk v) with hv | hv
  case inr =>
    have hv' : ¬ (0 ≤ v ∧ v ≤ 999) := by simpa [valOk] using hv
    simp [hp, hs, hv, hv']
  have hv' : 0 ≤ v ∧ v ≤ 999 := by simpa [valOk] using hv
  have hl := pairs_len hp
  have hb : (l.length : Int) < 4294967296 := by omega
  simp only [hp, hs, hv, hv', and_self, decide_true, l4Place_eq k l s (by omega) (by omega), a_obind_some, a_sumE_inl, Bool.not_true, Bool.false_eq_true, if_false, if_true, Bool.and_self]
  by_cases he : pp l s < l.length ∧ (l.getD (pp l s) pair0).1 = s
  · obtain ⟨h1, hq⟩ := he
    have h1' : (pp l s : Int) < l.length := by omega
    have hph : ph l s = true := by simp only [ph, h1, hq, decide_true, Bool.and_self]
    simp only [hph, a_ltI, a_lenL, h1', decide_true, if_true, a_le0, Int.natCast_nonneg, a_andB, Bool.and_self, a_atL, Int.toNat_natCast, a_eqS, hq, a_eqI, List.length_nil, Int.natCast_zero, Int.ofNat_zero, a_big, hb, a_setL, a_obind_some, a_sumE_inr]
    rw [List.set_eq_take_append_cons_drop, if_pos h1]
    simp
  · have hph : ph l s = false := by
      simp only [ph]
      by_cases h1 : pp l s < l.length
      · have : ¬ (l.getD (pp l s) pair0).1 = s := fun hq => he ⟨h1, hq⟩
        simp only [this, decide_false, Bool.and_false]
      · simp [h1]
    have g1 : (pp l s : Int) ≤ l.length := by omega
    have tl : (l.take (pp l s)).length = pp l s := by rw [List.length_take]; omega
    have dl : (l.drop (pp l s)).length = l.length - pp l s := List.length_drop
    have g3 : (pp l s : Int) < 4294967296 := by omega
    have g4 : (pp l s : Int) + 1 < 4294967296 := by omega
    have g5 : (pp l s : Int) + 1 + ((l.length - pp l s : Nat) : Int) < 4294967296 := by omega
    have fin : (if decide ((48 : Int) ≤ (l.length : Int)) = true then (if decide ((l.length : Int) < 4294967296) = true then some ((l, (false, ())), ()) else none) else some ((l.take (pp l s) ++ [(s, (v, ()))] ++ l.drop (pp l s), (true, ())), ()) : Option ((List Pair × (Bool × Unit)) × Unit)) = some ((if ph l s = true then (l.take (pp l s) ++ [(s, (v, ()))] ++ l.drop (pp l s + 1), (true, ())) else if 48 ≤ l.length then (l, (false, ())) else (l.take (pp l s) ++ [(s, (v, ()))] ++ l.drop (pp l s), (true, ()))), ()) := by
      by_cases h48 : 48 ≤ l.length
      · have : (48 : Int) ≤ l.length := by omega
        simp [hph, h48, this, hb]
      · have : ¬ (48 : Int) ≤ l.length := by omega
        simp [hph, h48, this]
    by_cases h1 : pp l s < l.length
    · have h1' : (pp l s : Int) < l.length := by omega
      have hq : ¬ (l.getD (pp l s) pair0).1 = s := fun hq => he ⟨h1, hq⟩
      simp only [a_ltI, a_lenL, h1', decide_true, if_true, a_le0, Int.natCast_nonneg, a_andB, Bool.and_self, a_atL, Int.toNat_natCast, a_eqS, hq, decide_false, Bool.false_eq_true, if_false, a_obind_some, a_sumE_inl, a_leI, List.length_nil, Int.natCast_zero, Int.ofNat_zero, a_addI, Int.zero_add, a_big, a_appL, List.nil_append, g1, a_takeL, a_dropL, tl, dl, g3, List.length_cons, Nat.zero_add, Int.natCast_one, Int.ofNat_one, g4, List.length_append, Int.natCast_add, g5]
      exact fin
    · have h1' : ¬ (pp l s : Int) < l.length := by omega
      simp only [a_ltI, a_lenL, h1', decide_true, if_true, a_le0, Int.natCast_nonneg, a_andB, Bool.and_self, a_atL, Int.toNat_natCast, a_eqS, decide_false, Bool.false_eq_true, if_false, a_obind_some, a_sumE_inl, a_leI, List.length_nil, Int.natCast_zero, Int.ofNat_zero, a_addI, Int.zero_add, a_big, a_appL, List.nil_append, g1, a_takeL, a_dropL, tl, dl, g3, List.length_cons, Nat.zero_add, Int.natCast_one, Int.ofNat_one, g4, List.length_append, Int.natCast_add, g5]
      exact fin
end
end Go.Den.T
