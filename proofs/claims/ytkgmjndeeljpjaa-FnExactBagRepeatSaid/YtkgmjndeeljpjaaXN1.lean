/- Bags as arguments of exact laws: their size, copies and comparisons. -/
import Derived.Test.YtkgmjndeeljpjaaXE3
import Derived.Test.YtkgmjndeeljpjaaXE5
import Derived.Test.YtkgmjndeeljpjaaXR3
import Derived.Test.YtkgmjndeeljpjaaXR6
import Derived.Test.YtkgmjndeeljpjaaXTr7

namespace Go.Den.T
set_option linter.unusedVariables false
set_option linter.unusedSimpArgs false
set_option linter.unusedSectionVars false
section
variable {A : Atoms} [IsReal A]
theorem sz_loopP {α : Type} (P : α → Prop) {f : List α × (Int × (Int × Unit)) → Option ((List α × (Int × (Int × Unit))) ⊕ ((Int × Unit) ⊕ ((Int × Unit) × Unit)))} {k : Nat} (xs : List α) (n : Int) (hn : 0 ≤ n) (hk : xs.length < k)
    (hs : ∀ (i : Nat) (m : Int) (hi : i < xs.length), 0 ≤ m → m ≤ n → Ok (f (xs, (m, ((i : Int), ())))) (fun r => (∃ m', r = .inl (xs, (m', (((i + 1 : Nat) : Int), ()))) ∧ 0 ≤ m' ∧ m' ≤ m ∧ P xs[i]) ∨ r = .inr (.inr ((-1, ()), ()))))
    (hd : ∀ m, f (xs, (m, (((xs.length : Nat) : Int), ()))) = some (.inr (.inl (m, ())))) :
    Ok (A.iter k f (xs, (n, (0, ())))) (fun r => (∃ m, r = .inl (m, ()) ∧ 0 ≤ m ∧ m ≤ n ∧ ∀ x ∈ xs, P x) ∨ r = .inr ((-1, ()), ())) := by
  refine iter_ok (fun j s => ∃ (i : Nat) (m : Int), s = (xs, (m, ((i : Int), ()))) ∧ i + j = xs.length ∧ 0 ≤ m ∧ m ≤ n ∧ ∀ l (hl : l < xs.length), l < i → P xs[l]) _ ?_ (n := xs.length) hk ⟨0, n, rfl, by omega, hn, Int.le_refl _, fun l _ hl => by omega⟩
  rintro j s ⟨i, m, rfl, hij, h0, h1, hP⟩
  by_cases hi : i < xs.length
  · refine (hs i m hi h0 h1).mono fun r hr => ?_
    rcases hr with ⟨m', rfl, h2, h3, h4⟩ | rfl
    · refine ⟨fun s' e => ?_, fun e he => (by cases he)⟩
      injection e with e; subst e
      refine ⟨j - 1, by omega, i + 1, m', rfl, by omega, h2, by omega, fun l hl hli => ?_⟩
      by_cases e : l = i
      · subst e; exact h4
      · exact hP l hl (by omega)
    · exact ⟨fun s' e => (by cases e), fun e he => (by injection he with he; subst he; exact .inr rfl)⟩
  · have : i = xs.length := by omega
    subst this
    rw [hd m]
    refine ok_some.2 ⟨fun s' e => (by cases e), fun e he => ?_⟩
    injection he with he; subst he
    refine .inl ⟨m, rfl, h0, h1, fun x hx => ?_⟩
    obtain ⟨l, hl, rfl⟩ := List.getElem_of_mem hx
    exact hP l hl hl
/-- what of a message is short enough -/
def MsgZ (m : Msg) : Prop := m.2.2.2.1.2.1.length ≤ 1048576 ∧ m.2.2.2.2.1.length ≤ 1048576
/-- a message as a law gets it -/
def MsgI (m : Msg) : Prop := m.2.2.2.1.2.1.length ≤ 9223372036854775807 ∧ m.2.2.2.2.1.length ≤ 9223372036854775807 ∧ ∀ e ∈ m.2.2.2.2.1, e.2.2.1.2.1.length ≤ 9223372036854775807
theorem szMessage_n (k : Nat) (m : Msg) (n : Int) (h0 : 0 ≤ n) (hn : n ≤ 1048576) (hk : 2000000 ≤ k) (hm : MsgI m) :
    Ok (laws_szMessage_t A k (m, (n, ())) ()) (fun q => q.1.1 = -1 ∨ (0 ≤ q.1.1 ∧ q.1.1 ≤ n ∧ MsgZ m)) := by
  obtain ⟨h1, hl, hs⟩ := hm
  rw [laws_szMessage_t, szConfig_eq k m.2.2.2.1 n (by omega) (by omega) h1, a_obind_some, ok_cndS]
  simp only [a_ltI, decide_eq_true_eq, decide_eq_false_iff_not]
  refine ⟨fun _ => ok_some.2 (.inl rfl), fun h => ?_⟩
  by_cases hc : n < m.2.2.2.1.2.1.length
  · rw [if_pos hc] at h; omega
  rw [if_neg hc] at h ⊢
  refine (szEntryS_ok k m.2.2.2.2.1 _ (by omega) (by omega) hk hl hs).bind fun q hq => ?_
  rw [ok_cndS]
  simp only [a_ltI, decide_eq_true_eq, decide_eq_false_iff_not]
  refine ⟨fun _ => ok_some.2 (.inl rfl), fun hh => ok_some.2 (.inr ?_)⟩
  rcases hq with hq | hq
  · omega
  · exact ⟨hq.1, by show q.1.1 ≤ n; omega, by omega, hq.2.2⟩
theorem szMessageS_ok (k : Nat) (xs : List Msg) (n : Int) (h0 : 0 ≤ n) (hn : n ≤ 1048576) (hk : 2000000 ≤ k) (hl : xs.length ≤ 9223372036854775807) (hm : ∀ m ∈ xs, MsgI m) :
    Ok (laws_szMessageS_t A k (xs, (n, ())) ()) (fun q => q.1.1 = -1 ∨ (0 ≤ q.1.1 ∧ q.1.1 ≤ n ∧ xs.length ≤ 1048576 ∧ ∀ m ∈ xs, MsgZ m)) := by
  have w : A.wrapI .i64 (n - (xs.length : Int)) = n - (xs.length : Int) := a_wrap (by omega) (by omega)
  rw [laws_szMessageS_t, ok_cndS]
  simp only [a_lenL, a_subI, w, a_ltI, decide_eq_true_eq, decide_eq_false_iff_not]
  refine ⟨fun _ => ok_some.2 (.inl rfl), fun h => ?_⟩
  refine (sz_loopP (A := A) MsgZ (f := laws_szMessageS_t_b0 A k) xs (n - xs.length) (by omega) (by omega) (fun i m hi g0 g1 => ?_) (fun m => by simp [laws_szMessageS_t_b0])).bind fun r hr => ?_
  · have g := szMessage_n (A := A) k xs[i] m g0 (by omega) hk (hm _ (List.getElem_mem hi))
    have w2 : A.wrapI .i64 ((i : Int) + 1) = ((i + 1 : Nat) : Int) := by rw [a_wrap (by omega) (by omega)]; rfl
    have hi' : (i : Int) < (xs.length : Int) := by omega
    have ha : A.atL xs (i : Int) msg0 = xs[i] := by rw [a_atL]; simp [hi]
    simp only [laws_szMessageS_t_b0, a_cndS, a_ltI, a_lenL, hi', decide_true, if_true, a_le0, Int.natCast_nonneg, a_andB, Bool.and_self, ha, a_addI, w2]
    refine g.bind fun q hq => ?_
    rcases hq with hq | ⟨q0, q1, q2⟩
    · have : q.1.1 < 0 := by omega
      simp only [this, decide_true, if_true]
      exact ok_some.2 (.inr rfl)
    · have : ¬ q.1.1 < 0 := by omega
      simp only [this, decide_false, Bool.false_eq_true, if_false]
      exact ok_some.2 (.inl ⟨_, rfl, q0, q1, q2⟩)
  · rcases hr with ⟨m, rfl, g0, g1, g2⟩ | rfl
    · rw [a_sumE_inl]; exact ok_some.2 (.inr ⟨g0, by show m ≤ n; omega, by omega, g2⟩)
    · rw [a_sumE_inr]; exact ok_some.2 (.inl rfl)
theorem toMessageS_eq (k : Nat) (xs : List Msg) (hk : 2000000 ≤ k) (hl : xs.length ≤ 1048576) (hz : ∀ m ∈ xs, MsgZ m) : laws_toMessageS_t A k (xs, ()) () = some ((xs, ()), ()) := by
  have h := to_loop (A := A) (k := k) (f := laws_toMessageS_t_b0 A k) msg0 xs (by omega)
    (fun i ys hi hy => by
      have hi' : i < ys.length := by omega
      have hm := hz xs[i] (List.getElem_mem hi)
      have ha : A.atL xs (i : Int) msg0 = xs[i] := by rw [a_atL]; simp [hi]
      simp (disch := omega) [laws_toMessageS_t_b0, hi, hi', hy, a_wrap, toMessage_eq k xs[i] hk hm.1 hm.2])
    (fun ys hy => by simp [laws_toMessageS_t_b0])
  have h1 : (xs.length : Int) < 4294967296 := by omega
  simp [laws_toMessageS_t, h1, h]
theorem eqMessageS_eq (k : Nat) (xs ys : List Msg) (hk : 2000000 ≤ k) (hl : xs.length ≤ 1048576) (hz : ∀ m ∈ xs, MsgZ m) : laws_eqMessageS_t A k (xs, (ys, ())) () = some ((decide (xs = ys), ()), ()) := by
  by_cases he : xs.length = ys.length
  · have h := eq_loop (A := A) (k := k) (f := laws_eqMessageS_t_b0 A k) msg0 xs ys (by omega) he
      (fun i hi => by
        have hi' : i < ys.length := by omega
        have hm := hz xs[i] (List.getElem_mem hi)
        simp (disch := omega) [laws_eqMessageS_t_b0, hi, hi', a_wrap, eqMessage_eq k xs[i] ys[i] hk hm.1 hm.2]
        by_cases hv : xs[i] = ys[i] <;> simp [hv])
      (by simp [laws_eqMessageS_t_b0])
    simp only [laws_eqMessageS_t, a_lenL, he, a_eqI, decide_true, a_notB, Bool.not_true, a_cndS, Bool.false_eq_true, if_false, h]
    by_cases hv : xs = ys <;> simp [hv]
  · have h2 : ¬ (xs.length : Int) = ys.length := by omega
    have h3 : ¬ xs = ys := fun e => he (by rw [e])
    simp [laws_eqMessageS_t, h2, h3]
end
theorem msgI_of {m : TMsg.val} (h : InR TMsg m) : MsgI m := ⟨Nat.le_trans h.2.2.2.1.2.1.1 (by decide), Nat.le_trans h.2.2.2.2.1.1 (by decide), keys_of h.2.2.2.2.1⟩
end Go.Den.T
