/- Chains, marked; the exact laws of logs. -/
import Derived.Test.YtojleoiiijlhaaaGreatXPm3
import Derived.Test.YtojleoiiijlhaaaGreatXPm4

namespace Go.Den.T
set_option linter.unusedVariables false
set_option linter.unusedSimpArgs false
set_option linter.unusedSectionVars false
section
variable {A : Atoms} [IsReal A]
def nxR (n : Int) (r : Rep) : Int := n + 3 + r.1.2.1.length + 6 * r.2.2.1.length
def mR (A : Atoms) (k : Nat) (n : Int) (r : Rep) : Rep :=
  ((n, (marks (n + 1) r.1.2.1.length, (decide ((n + 1 + (r.1.2.1.length : Int)).tmod 3 = 0), r.1.2.2.2))), (decide ((n + 2 + (r.1.2.1.length : Int)).tmod 3 = 0), (marksE A k (n + 3 + (r.1.2.1.length : Int)) r.2.2.1.length, r.2.2.2)))
theorem markR_step (k : Nat) (hk : 2000000 ≤ k) (L : List Rep) (i : Nat) (hi : i < L.length) (hl : L.length ≤ 1000000000) (m : Rep) (hm : L.getD i rep0 = m) (hz : RepZ m) (n : Int) (h0 : 0 ≤ n) (h1 : n ≤ 80000000000000) :
    laws_markReplicaS_t_b0 A k (n, ((i : Int), (L, ()))) = some (.inl (nxR n m, (((i + 1 : Nat) : Int), (L.set i (mR A k n m), ())))) := by
  obtain ⟨z1, z2⟩ := hz
  have hi' : (i : Int) < (L.length : Int) := by omega
  have w1 : A.wrapI .i64 (n + 1) = n + 1 := a_wrap (by omega) (by omega)
  have w4 : A.wrapI .i64 (n + 1 + (m.1.2.1.length : Int) + 1) = n + 2 + (m.1.2.1.length : Int) := by rw [a_wrap (by omega) (by omega)]; omega
  have w5 : A.wrapI .i64 (n + 2 + (m.1.2.1.length : Int) + 1) = n + 3 + (m.1.2.1.length : Int) := by rw [a_wrap (by omega) (by omega)]; omega
  have w : A.wrapI .i64 ((i : Int) + 1) = ((i + 1 : Nat) : Int) := by rw [a_wrap (by omega) (by omega)]; rfl
  have ge : ∀ (M : List Rep) (x d : Rep), i < M.length → (M.set i x).getD i d = x := fun M x d h => by rw [getD_lt (by simpa using h)]; simp
  have ls : ∀ (M : List Rep) (x : Rep), (M.set i x).length = M.length := fun M x => by simp
  have h3 : ¬ (3 : Int) = 0 := by decide
  simp only [laws_markReplicaS_t_b0, a_cndS, a_ltI, a_lenL, a_le0, a_andB, hi', Int.natCast_nonneg, decide_true, Bool.and_self, if_true, a_setL, a_atL, Int.toNat_natCast, a_obind_some, a_addI, w, w1, w4, w5, ls, ge, List.set_set, hm, hi,
    markIntS_eq2 k (n + 1) m.1.2.1 (by omega) (by omega) (by omega) (by omega), markEntryS_eq k (by omega) (n + 3 + (m.1.2.1.length : Int)) m.2.2.1 (by omega) (by omega) (by omega) (by omega), a_eqI, a_notB, a_remI, h3, decide_false, Bool.not_false]
  rfl
theorem nxR_bound (xs : List Rep) (hz : ∀ m ∈ xs, RepZ m) : ∀ (n : Int) (x : Rep), x ∈ xs → 0 ≤ n → n ≤ nxR n x ∧ nxR n x ≤ n + 7340037 := fun n x hx h0 => by
  obtain ⟨z1, z2⟩ := hz x hx
  unfold nxR; omega
theorem markReplicaS_eqn (k : Nat) (hk : 2000000 ≤ k) (n : Int) (xs : List Rep) (hl : xs.length ≤ 1048576) (hz : ∀ m ∈ xs, RepZ m) (h0 : 0 ≤ n) (h1 : n ≤ 50000000000000) : laws_markReplicaS_t A k ((), (n, ())) xs = some ((endG nxR n xs, ()), marksG (mR A k) nxR n xs) := by
  have h := mark_loop (A := A) (mR A k) nxR (f := laws_markReplicaS_t_b0 A k) (k := k) rep0 xs (by omega) (n := n) (C := 7340037) (by omega) (by omega) (nxR_bound xs hz)
    (fun i m ys hi hy hg h0 h1 => markR_step k hk ys i (by omega) (by omega) xs[i] hg (hz _ (List.getElem_mem hi)) m h0 (by omega))
    (fun m ys hy => by simp [laws_markReplicaS_t_b0, hy])
  simp only [laws_markReplicaS_t, h, a_obind_some]
def nxB (n : Int) (_ : Bool) : Int := n + 1
def mB (n : Int) (_ : Bool) : Bool := decide (n.tmod 3 = 0)
theorem nxB_bound (xs : List Bool) : ∀ (n : Int) (x : Bool), x ∈ xs → 0 ≤ n → n ≤ nxB n x ∧ nxB n x ≤ n + 1 := fun n x hx h0 => by unfold nxB; omega
theorem markBoolS_eqn (k : Nat) (hk : 2000000 ≤ k) (n : Int) (xs : List Bool) (hl : xs.length ≤ 1048576) (h0 : 0 ≤ n) (h1 : n ≤ 50000000000000) : laws_markBoolS_t A k ((), (n, ())) xs = some ((endG nxB n xs, ()), marksG mB nxB n xs) := by
  have h := mark_loop (A := A) mB nxB (f := laws_markBoolS_t_b0 A k) (k := k) false xs (by omega) (n := n) (C := 1) (by omega) (by omega) (nxB_bound xs)
    (fun i m ys hi hy hg h0 h1 => by
      have hi' : (i : Int) < (ys.length : Int) := by omega
      have h3 : ¬ (3 : Int) = 0 := by decide
      have w1 : A.wrapI .i64 (m + 1) = m + 1 := a_wrap (by omega) (by omega)
      have w : A.wrapI .i64 ((i : Int) + 1) = ((i + 1 : Nat) : Int) := by rw [a_wrap (by omega) (by omega)]; rfl
      simp only [laws_markBoolS_t_b0, a_cndS, a_ltI, a_lenL, a_le0, a_andB, hi', Int.natCast_nonneg, decide_true, Bool.and_self, if_true, a_setL, Int.toNat_natCast, a_addI, w, w1, a_eqI, a_notB, a_remI, h3, decide_false, Bool.not_false]
      rfl)
    (fun m ys hy => by simp [laws_markBoolS_t_b0, hy])
  simp only [laws_markBoolS_t, h, a_obind_some]
def nxA (n : Int) (_ : Ans) : Int := n + 7
def mA (A : Atoms) (k : Nat) (n : Int) (a : Ans) : Ans := (mE A k n, (n + 6, a.2.2))
theorem nxA_bound (xs : List Ans) : ∀ (n : Int) (x : Ans), x ∈ xs → 0 ≤ n → n ≤ nxA n x ∧ nxA n x ≤ n + 7 := fun n x hx h0 => by unfold nxA; omega
theorem markAnswerS_eqn (k : Nat) (hk : 2000000 ≤ k) (n : Int) (xs : List Ans) (hl : xs.length ≤ 1048576) (h0 : 0 ≤ n) (h1 : n ≤ 50000000000000) : laws_markAnswerS_t A k ((), (n, ())) xs = some ((endG nxA n xs, ()), marksG (mA A k) nxA n xs) := by
  have h := mark_loop (A := A) (mA A k) nxA (f := laws_markAnswerS_t_b0 A k) (k := k) ans0 xs (by omega) (n := n) (C := 7) (by omega) (by omega) (nxA_bound xs)
    (fun i m L hi hy hg h0 h1 => by
      have hiL : i < L.length := by omega
      have hi' : (i : Int) < (L.length : Int) := by omega
      have w1 : A.wrapI .i64 (m + 1) = m + 1 := a_wrap (by omega) (by omega)
      have w2 : A.wrapI .i64 (m + 1 + 1) = m + 2 := by rw [a_wrap (by omega) (by omega)]; omega
      have w3 : A.wrapI .i64 (m + 2 + 1) = m + 3 := by rw [a_wrap (by omega) (by omega)]; omega
      have w4 : A.wrapI .i64 (m + 3 + 1) = m + 4 := by rw [a_wrap (by omega) (by omega)]; omega
      have w5 : A.wrapI .i64 (m + 4 + 1) = m + 5 := by rw [a_wrap (by omega) (by omega)]; omega
      have w6 : A.wrapI .i64 (m + 5 + 1) = m + 6 := by rw [a_wrap (by omega) (by omega)]; omega
      have w7 : A.wrapI .i64 (m + 6 + 1) = m + 7 := by rw [a_wrap (by omega) (by omega)]; omega
      have w : A.wrapI .i64 ((i : Int) + 1) = ((i + 1 : Nat) : Int) := by rw [a_wrap (by omega) (by omega)]; rfl
      have ge : ∀ (M : List Ans) (x d : Ans), i < M.length → (M.set i x).getD i d = x := fun M x d h => by rw [getD_lt (by simpa using h)]; simp
      have ls : ∀ (M : List Ans) (x : Ans), (M.set i x).length = M.length := fun M x => by simp
      simp only [laws_markAnswerS_t_b0, a_cndS, a_ltI, a_lenL, a_le0, a_andB, hi', Int.natCast_nonneg, decide_true, Bool.and_self, if_true, a_setL, a_atL, Int.toNat_natCast, a_obind_some, a_addI, w, w1, w2, w3, w4, w5, w6, w7, ls, ge, List.set_set, hg, hiL,
        markText_eq k (show 100 ≤ k by omega) (m + 3) (by omega)]
      rfl)
    (fun m ys hy => by simp [laws_markAnswerS_t_b0, hy])
  simp only [laws_markAnswerS_t, h, a_obind_some]
theorem markConfig_eq2 (k : Nat) (n : Int) (c : Cfg) (hk : c.2.1.length < k) (hl : c.2.1.length ≤ 1000000000) (h0 : 0 ≤ n) (h1 : n ≤ 100000000000000) : laws_markConfig_t A k ((), (n, ())) c = some ((n + c.2.1.length, ()), (c.1, (marks n c.2.1.length, c.2.2))) := by
  simp [laws_markConfig_t, markIntS_eq2 k n c.2.1 hk hl h0 h1]
/-- the marks' ends, part by part -/
def e1C (c : Chn) : Int := 1 + 2 * c.1.2.1.length + 3 * c.1.2.2.1.length
def e2C (c : Chn) : Int := e1C c + c.2.1.2.1.length
def e3C (c : Chn) : Int := endG nxR (e2C c) c.2.2.1
def e4C (c : Chn) : Int := endG nxB (e3C c) c.2.2.2.1
def e5C (c : Chn) : Int := endG nxM (e4C c) c.2.2.2.2.1
def e6C (c : Chn) : Int := endG nxA (e5C c) c.2.2.2.2.2.1
theorem eC_bounds {c : Chn} (h : ChnZ c) : (0 ≤ e1C c ∧ e1C c ≤ 100000000) ∧ (0 ≤ e2C c ∧ e2C c ≤ 100000000) ∧ (0 ≤ e3C c ∧ e3C c ≤ 20000000000000) ∧ (0 ≤ e4C c ∧ e4C c ≤ 20000000000000) ∧ (0 ≤ e5C c ∧ e5C c ≤ 40000000000000) ∧ (0 ≤ e6C c ∧ e6C c ≤ 50000000000000) := by
  obtain ⟨⟨s1, s2⟩, h2, ⟨h3, h4⟩, h5, ⟨h6, h7⟩, h8⟩ := h
  have a1 : 0 ≤ e1C c ∧ e1C c ≤ 10000000 := by unfold e1C; omega
  have a2 : 0 ≤ e2C c ∧ e2C c ≤ 20000000 := by unfold e2C; omega
  have a3 := endG_bound nxR (C := 7340037) (by omega) (nxR_bound _ h4) (n := e2C c) a2.1
  have a4 := endG_bound nxB (C := 1) (by omega) (nxB_bound c.2.2.2.1) (n := e3C c) (by unfold e3C; omega)
  have a5 := endG_bound nxM (C := 7340037) (by omega) (nxM_bound _ h7) (n := e4C c) (by unfold e4C; unfold e3C at *; omega)
  have a6 := endG_bound nxA (C := 7) (by omega) (nxA_bound c.2.2.2.2.2.1) (n := e5C c) (by unfold e5C; unfold e4C e3C at *; omega)
  have b3 : e3C c = endG nxR (e2C c) c.2.2.1 := rfl
  have b4 : e4C c = endG nxB (e3C c) c.2.2.2.1 := rfl
  have b5 : e5C c = endG nxM (e4C c) c.2.2.2.2.1 := rfl
  have b6 : e6C c = endG nxA (e5C c) c.2.2.2.2.2.1 := rfl
  refine ⟨⟨by omega, by omega⟩, ⟨by omega, by omega⟩, ⟨by omega, by omega⟩, ⟨by omega, by omega⟩, ⟨by omega, by omega⟩, ⟨by omega, by omega⟩⟩
def mC (A : Atoms) (k : Nat) (c : Chn) : Chn :=
  (mStt A k 1 c.1, ((c.2.1.1, (marks (e1C c) c.2.1.2.1.length, c.2.1.2.2)), (marksG (mR A k) nxR (e2C c) c.2.2.1, (marksG mB nxB (e3C c) c.2.2.2.1, (marksG (mM A k) nxM (e4C c) c.2.2.2.2.1, (marksG (mA A k) nxA (e5C c) c.2.2.2.2.2.1, c.2.2.2.2.2.2))))))
theorem markChain_eq (k : Nat) (hk : 2000000 ≤ k) (c : Chn) (h : ChnZ c) : laws_markChain_t A k ((), (1, ())) c = some ((e6C c, ()), mC A k c) := by
  obtain ⟨b1, b2, b3, b4, b5, b6⟩ := eC_bounds h
  obtain ⟨hs, h2, ⟨h3, h4⟩, h5, ⟨h6, h7⟩, h8⟩ := h
  have m1 := markState_eq (A := A) k hk 1 c.1 hs (by omega) (by omega)
  have m2 := markConfig_eq2 (A := A) k (e1C c) c.2.1 (by omega) (by omega) (by omega) (by omega)
  have m3 := markReplicaS_eqn (A := A) k hk (e2C c) c.2.2.1 h3 h4 (by omega) (by omega)
  have m4 := markBoolS_eqn (A := A) k hk (e3C c) c.2.2.2.1 h5 (by omega) (by omega)
  have m5 := markMessageS_eqn (A := A) k hk (e4C c) c.2.2.2.2.1 h6 h7 (by omega) (by omega)
  have m6 := markAnswerS_eqn (A := A) k hk (e5C c) c.2.2.2.2.2.1 h8 (by omega) (by omega)
  simp only [laws_markChain_t, m1, a_obind_some]
  rw [show (1 : Int) + 2 * (c.1.2.1.length : Int) + 3 * (c.1.2.2.1.length : Int) = e1C c from rfl, m2]
  simp only [a_obind_some]
  rw [show e1C c + (c.2.1.2.1.length : Int) = e2C c from rfl, m3]
  simp only [a_obind_some]
  rw [show endG nxR (e2C c) c.2.2.1 = e3C c from rfl, m4]
  simp only [a_obind_some]
  rw [show endG nxB (e3C c) c.2.2.2.1 = e4C c from rfl, m5]
  simp only [a_obind_some]
  rw [show endG nxM (e4C c) c.2.2.2.2.1 = e5C c from rfl, m6]
  simp only [a_obind_some]
  rfl
/-! the logs -/
def ansLog (c : Chn) : List Ent := if chnOk c = true then c.2.2.2.2.2.1.map (·.1) else []
theorem askedOf_eq (k : Nat) (l : List Ans) (hk : l.length < k) (hl : l.length ≤ 1000000000) : impl_askedOf_t A k (l, ()) () = some ((l.map (·.1), ()), ()) := by
  have h := iter_for (A := A) (k := k) (f := impl_askedOf_t_b0 A k) (fun i => ((l.take i).map (·.1), (l, ((l.length : Int), ((i : Int), ()))))) l.length (l.map (·.1), ())
    (fun i hi => by
      have hi' : (i : Int) < (l.length : Int) := by omega
      have w : A.wrapI .i64 ((i : Int) + 1) = ((i + 1 : Nat) : Int) := by rw [a_wrap (by omega) (by omega)]; rfl
      have g : (((l.take i).map (·.1)).length : Int) + ((1 : Nat) : Int) < 4294967296 := by simp; omega
      have e : (l.take (i + 1)).map (·.1) = (l.take i).map (·.1) ++ [l[i].1] := by rw [List.take_succ_eq_append_getElem hi, List.map_append]; rfl
      simp only [impl_askedOf_t_b0, a_cndS, a_ltI, a_lenL, a_le0, a_andB, hi', Int.natCast_nonneg, decide_true, Bool.and_self, if_true, a_atL, Int.toNat_natCast, getD_lt hi, a_addI, a_big, List.length_cons, List.length_nil, w, a_appL, e, Nat.zero_add, g])
    (by simp [impl_askedOf_t_b0]) hk
  simp only [List.take_zero, List.map_nil, Int.natCast_zero, Int.ofNat_zero] at h
  simp only [impl_askedOf_t, a_lenL]
  have h' : A.iter k (impl_askedOf_t_b0 A k) (([] : List Ent), (l, ((l.length : Int), ((0 : Int), ())))) = _ := h
  rw [h', a_obind_some]
theorem impl_AnsweredLog_eq (k : Nat) (hk : 2000000 ≤ k) (c : Chn) (h : ChnZ c) : impl_AnsweredLog_t A k (c, ()) () = some ((ansLog c, ()), ()) := by
  have h8 := h.2.2.2.2.2
  simp only [impl_AnsweredLog_t, impl_ChainValid_eq k hk c h.1, a_obind_some, a_notB, a_cndS, askedOf_eq k c.2.2.2.2.2.1 (by omega) (by omega)]
  cases hc : chnOk c <;> simp [ansLog, hc]
theorem spec_AnsweredLog_eq (k : Nat) (hk : 2000000 ≤ k) (c : Chn) (h : ChnZ c) : spec_AnsweredLog_t A k (c, ()) () = some ((ansLog c, ()), ()) := by
  have h8 := h.2.2.2.2.2
  have hv := spec_ChainValid_eq (A := A) k hk c h.1
  cases hc : chnOk c with
  | false =>
    have h1 := iter_for (A := A) (k := k) (f := spec_AnsweredLog_t_b0 A k) (fun i => (([] : List Ent), ((i : Int), (c, ())))) 0 (([] : List Ent), ()) (fun i hi => by omega)
      (by
        simp only [spec_AnsweredLog_t_b0, hv, hc, a_obind_some, a_cndS, a_ltI, a_lenL]
        by_cases hl : (((0 : Nat) : Int) < (c.2.2.2.2.2.1.length : Int)) <;> simp [hl]) (by omega)
    have h1 : A.iter k (spec_AnsweredLog_t_b0 A k) (([] : List Ent), ((0 : Int), (c, ()))) = _ := h1
    simp only [spec_AnsweredLog_t, h1, a_obind_some, ansLog, hc]
    rfl
  | true =>
    have h1 := iter_for (A := A) (k := k) (f := spec_AnsweredLog_t_b0 A k) (fun i => ((c.2.2.2.2.2.1.take i).map (·.1), ((i : Int), (c, ())))) c.2.2.2.2.2.1.length (c.2.2.2.2.2.1.map (·.1), ())
      (fun i hi => by
        have hi' : (i : Int) < (c.2.2.2.2.2.1.length : Int) := by omega
        have w : A.wrapI .i64 ((i : Int) + 1) = ((i + 1 : Nat) : Int) := by rw [a_wrap (by omega) (by omega)]; rfl
        have g : (((c.2.2.2.2.2.1.take i).map (·.1)).length : Int) + ((1 : Nat) : Int) < 4294967296 := by simp; omega
        have e : (c.2.2.2.2.2.1.take (i + 1)).map (·.1) = (c.2.2.2.2.2.1.take i).map (·.1) ++ [(c.2.2.2.2.2.1[i]).1] := by rw [List.take_succ_eq_append_getElem hi, List.map_append]; rfl
        simp only [spec_AnsweredLog_t_b0, hv, hc, a_obind_some, a_sumE_inl, a_cndS, a_ltI, a_lenL, a_le0, a_andB, hi', Int.natCast_nonneg, decide_true, Bool.and_self, if_true, a_atL, Int.toNat_natCast, getD_lt hi, a_addI, a_big, List.length_cons, List.length_nil, w, a_appL, e, Nat.zero_add, g])
      (by simp [spec_AnsweredLog_t_b0]) (by omega)
    simp only [List.take_zero, List.map_nil, Int.natCast_zero, Int.ofNat_zero] at h1
    have h1 : A.iter k (spec_AnsweredLog_t_b0 A k) (([] : List Ent), ((0 : Int), (c, ()))) = _ := h1
    simp only [spec_AnsweredLog_t, h1, a_obind_some, ansLog, hc]
    rfl
theorem chnOk_parts {c : Chn} (h : chnOk c = true) : stOk c.1 = true ∧ cfgOk c.2.1 = true ∧ c.2.2.1.length = 5 ∧ c.2.2.2.1.length = 5 ∧ bagOk c.2.2.2.2.1 = true ∧ c.2.2.2.2.2.1.length ≤ 24 ∧ (∀ r ∈ c.2.2.1, repOk r = true) ∧ ∀ a ∈ c.2.2.2.2.2.1, ansOk a = true := by
  simp only [chnOk, Bool.and_eq_true, decide_eq_true_eq, List.all_eq_true] at h
  obtain ⟨h1, h2, h3, h4, h5, h6, h7, _, h8⟩ := h
  exact ⟨h1, h2, h3, h4, h5, h6, fun r hr => (h7 r hr).1, h8⟩
theorem ansLog_len (c : Chn) : (ansLog c).length ≤ 24 := by
  unfold ansLog
  split
  · rename_i h
    rw [List.length_map]; exact (chnOk_parts h).2.2.2.2.2.1
  · simp
theorem FnExactAnsweredLog_true (k : Nat) (hk : 2000000 ≤ k) (c : Chn) (hc : ChnI c) : laws_FnExactAnsweredLog_t A k (c, ()) () = some ((true, ()), ()) := by
  rw [← ok_eq, laws_FnExactAnsweredLog_t]
  refine (szChain_ok k c hk hc).bind fun q hq => ?_
  rw [ok_cndS]
  simp only [a_ltI, decide_eq_true_eq, decide_eq_false_iff_not]
  refine ⟨fun _ => ok_some.2 rfl, fun hn => ?_⟩
  have hz := hq.resolve_left hn
  have hl := ansLog_len c
  have g6 := (eC_bounds hz).2.2.2.2.2.1
  have e1 : ¬ e6C c < 0 := by omega
  have e2 : ¬ 1 + 6 * ((ansLog c).length : Int) < 0 := by omega
  have i1 := impl_AnsweredLog_eq (A := A) k hk c hz
  have i2 := spec_AnsweredLog_eq (A := A) k hk c hz
  have c1 := eqEntryS_eq (A := A) k (ansLog c) (ansLog c) (by omega) (by omega)
  have c2 := eqChain_eq (A := A) k c c hk hz
  have m1 := markEntryS_eq (A := A) k (by omega) 1 (ansLog c) (by omega) (by omega) (by omega) (by omega)
  have m2 := heldEntryS_eq (A := A) k (by omega) 1 (ansLog c).length (by omega) (by omega) (by omega) (by omega)
  simp only [decide_true] at c1 c2
  rw [ok_eq]
  simp only [toChain_eq k c hk hz, a_obind_some, i1, i2, c1, c2, a_notB, Bool.not_true, a_cndS, Bool.false_eq_true, if_false, if_true, markChain_eq k hk c hz, a_ltI, e1, decide_false, a_sumE_inl, m1, m2, e2, a_eqI, decide_true]
end
theorem FnExactAnsweredLog_pure (c : TChn.val) (h : InR TChn c) : ∃ k, laws_FnExactAnsweredLog_t real k (c, ()) () = some ((true, ()), ()) :=
  haveI := isReal_real
  ⟨2000000, FnExactAnsweredLog_true 2000000 (by omega) c (chnI_of h)⟩
end Go.Den.T
