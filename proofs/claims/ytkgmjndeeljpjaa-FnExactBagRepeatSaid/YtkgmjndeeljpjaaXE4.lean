/- Exact laws: lists of entries, replicas, messages. -/
import Derived.Test.YtkgmjndeeljpjaaXTr2
import Derived.Test.YtkgmjndeeljpjaaXV1

namespace Go.Den.T
set_option linter.unusedVariables false
set_option linter.unusedSimpArgs false
set_option linter.unusedSectionVars false
variable {A : Atoms} [IsReal A]
/-! ### loops over lists -/
theorem to_loop {α : Type} {f : List α × (Int × (List α × Unit)) → Option ((List α × (Int × (List α × Unit))) ⊕ (List α × Unit))} {k : Nat} (d : α) (xs : List α) (hk : xs.length < k)
    (hs : ∀ (i : Nat) (ys : List α), i < xs.length → ys.length = xs.length → f (xs, ((i : Int), (ys, ()))) = some (.inl (xs, (((i + 1 : Nat) : Int), (ys.set i (xs.getD i d), ())))))
    (hd : ∀ ys : List α, ys.length = xs.length → f (xs, (((xs.length : Nat) : Int), (ys, ()))) = some (.inr (ys, ()))) : A.iter k f (xs, (0, (List.replicate xs.length d, ()))) = some (xs, ()) := by
  have h := iter_for (A := A) (f := f) (fun i => (xs, ((i : Int), (xs.take i ++ List.replicate (xs.length - i) d, ())))) xs.length (xs, ())
    (fun i hi => by
      rw [hs i _ hi (by simp; omega), fill_step xs d d i xs.length rfl hi])
    (by rw [hd _ (by simp)]; simp) hk
  simpa using h
theorem eq_loop {α : Type} [DecidableEq α] {f : List α × (List α × (Int × Unit)) → Option ((List α × (List α × (Int × Unit))) ⊕ (Unit ⊕ ((Bool × Unit) × Unit)))} {k : Nat} (d : α) (xs ys : List α) (hk : xs.length < k) (he : xs.length = ys.length)
    (hs : ∀ i : Nat, i < xs.length → f (xs, (ys, ((i : Int), ()))) = some (if (decide (xs.getD i d = ys.getD i d)) = true then .inl (xs, (ys, (((i + 1 : Nat) : Int), ()))) else .inr (.inr ((false, ()), ()))))
    (hd : f (xs, (ys, (((xs.length : Nat) : Int), ()))) = some (.inr (.inl ()))) : A.iter k f (xs, (ys, (0, ()))) = some (if xs = ys then .inl () else .inr ((false, ()), ())) := by
  have h := iter_all (A := A) (f := f) (fun i => (xs, (ys, ((i : Int), ())))) xs.length (fun i => decide (xs.getD i d = ys.getD i d)) (.inr ((false, ()), ())) (.inl ()) hs hd hk
  have e : (List.range xs.length).all (fun i => decide (xs.getD i d = ys.getD i d)) = decide (xs = ys) := by
    rw [Bool.eq_iff_iff, range_all, decide_eq_true_eq]
    constructor
    · intro hh
      refine List.ext_getElem he fun i h1 h2 => ?_
      have := hh i h1
      rw [getD_lt h1, getD_lt h2] at this; simpa using this
    · intro e i _; subst e; simp
  rw [e] at h
  simpa using h
theorem sz_loop {α : Type} {f : List α × (Int × (Int × Unit)) → Option ((List α × (Int × (Int × Unit))) ⊕ ((Int × Unit) ⊕ ((Int × Unit) × Unit)))} {k : Nat} (xs : List α) (n : Int) (hn : 0 ≤ n) (hk : xs.length < k)
    (hs : ∀ (i : Nat) (m : Int), i < xs.length → 0 ≤ m → m ≤ n → Ok (f (xs, (m, ((i : Int), ())))) (fun r => (∃ m', r = .inl (xs, (m', (((i + 1 : Nat) : Int), ()))) ∧ 0 ≤ m' ∧ m' ≤ m) ∨ r = .inr (.inr ((-1, ()), ()))))
    (hd : ∀ m, f (xs, (m, (((xs.length : Nat) : Int), ()))) = some (.inr (.inl (m, ())))) :
    Ok (A.iter k f (xs, (n, (0, ())))) (fun r => (∃ m, r = .inl (m, ()) ∧ 0 ≤ m ∧ m ≤ n) ∨ r = .inr ((-1, ()), ())) := by
  refine iter_ok (fun j s => ∃ (i : Nat) (m : Int), s = (xs, (m, ((i : Int), ()))) ∧ i + j = xs.length ∧ 0 ≤ m ∧ m ≤ n) _ ?_ (n := xs.length) hk ⟨0, n, rfl, by omega, hn, Int.le_refl _⟩
  rintro j s ⟨i, m, rfl, hij, h0, h1⟩
  by_cases hi : i < xs.length
  · refine (hs i m hi h0 h1).mono fun r hr => ?_
    rcases hr with ⟨m', rfl, h2, h3⟩ | rfl
    · exact ⟨fun s' e => (by injection e with e; subst e; exact ⟨j - 1, by omega, i + 1, m', rfl, by omega, h2, by omega⟩), fun e he => (by cases he)⟩
    · exact ⟨fun s' e => (by cases e), fun e he => (by injection he with he; subst he; exact .inr rfl)⟩
  · have : i = xs.length := by omega
    subst this
    rw [hd m]
    exact ok_some.2 ⟨fun s' e => (by cases e), fun e he => (by injection he with he; subst he; exact .inl ⟨m, rfl, h0, h1⟩)⟩
/-! ### entries -/
instance : DecidableEq Cmd := inferInstanceAs (DecidableEq (Int × (List UInt8 × (Int × (Int × Unit)))))
instance : DecidableEq Ent := inferInstanceAs (DecidableEq (Int × (Int × (Cmd × Unit))))
abbrev ent0 : Ent := (0, (0, ((0, ([], (0, (0, ())))), ())))
theorem toEntryS_eq (k : Nat) (xs : List Ent) (hk : xs.length < k) (hl : xs.length ≤ 1000000000) : laws_toEntryS_t A k (xs, ()) () = some ((xs, ()), ()) := by
  have h := to_loop (A := A) (f := laws_toEntryS_t_b0 A k) ent0 xs hk
    (fun i ys hi hy => by
      have hi' : i < ys.length := by omega
      simp (disch := omega) [laws_toEntryS_t_b0, hi, hi', hy, a_wrap, toEntry_eq])
    (fun ys hy => by simp [laws_toEntryS_t_b0])
  have h1 : (xs.length : Int) < 4294967296 := by omega
  simp [laws_toEntryS_t, h1, h]
theorem eqCommand_eq (k : Nat) (c d : Cmd) : laws_eqCommand_t A k (c, (d, ())) () = some ((decide (c = d), ()), ()) := by
  obtain ⟨a1, a2, a3, a4, _⟩ := c
  obtain ⟨b1, b2, b3, b4, _⟩ := d
  simp only [laws_eqCommand_t, a_cndS, a_notB, a_eqI, a_eqS]
  by_cases h1 : a1 = b1
  · by_cases h2 : a2 = b2
    · by_cases h3 : a3 = b3
      · by_cases h4 : a4 = b4 <;> simp [h1, h2, h3, h4]
      · simp [h1, h2, h3]
    · simp [h1, h2]
  · simp [h1]
theorem eqEntry_eq (k : Nat) (c d : Ent) : laws_eqEntry_t A k (c, (d, ())) () = some ((decide (c = d), ()), ()) := by
  obtain ⟨a1, a2, a3, _⟩ := c
  obtain ⟨b1, b2, b3, _⟩ := d
  simp only [laws_eqEntry_t, eqCommand_eq, a_obind_some, a_cndS, a_notB, a_eqI]
  by_cases h1 : a1 = b1
  · by_cases h2 : a2 = b2
    · by_cases h3 : a3 = b3 <;> simp [h1, h2, h3]
    · simp [h1, h2]
  · simp [h1]
theorem eqEntryS_eq (k : Nat) (xs ys : List Ent) (hk : xs.length < k) (hl : xs.length ≤ 1000000000) : laws_eqEntryS_t A k (xs, (ys, ())) () = some ((decide (xs = ys), ()), ()) := by
  by_cases he : xs.length = ys.length
  · have h := eq_loop (A := A) (f := laws_eqEntryS_t_b0 A k) ent0 xs ys hk he
      (fun i hi => by
        have hi' : i < ys.length := by omega
        simp (disch := omega) [laws_eqEntryS_t_b0, hi, hi', a_wrap, eqEntry_eq]
        by_cases hv : xs[i] = ys[i] <;> simp [hv])
      (by simp [laws_eqEntryS_t_b0])
    simp only [laws_eqEntryS_t, a_lenL, he, a_eqI, decide_true, a_notB, Bool.not_true, a_cndS, Bool.false_eq_true, if_false, h]
    by_cases hv : xs = ys <;> simp [hv]
  · have h2 : ¬ (xs.length : Int) = ys.length := by omega
    have h3 : ¬ xs = ys := fun e => he (by rw [e])
    simp [laws_eqEntryS_t, h2, h3]
theorem szEntryS_ok (k : Nat) (xs : List Ent) (n : Int) (hn : 0 ≤ n) (hn1 : n ≤ 1048576) (hk : 2000000 ≤ k) (hl : xs.length ≤ 9223372036854775807) (hs : ∀ e ∈ xs, e.2.2.1.2.1.length ≤ 9223372036854775807) :
    Ok (laws_szEntryS_t A k (xs, (n, ())) ()) (fun q => q.1.1 = -1 ∨ (0 ≤ q.1.1 ∧ q.1.1 ≤ n ∧ xs.length ≤ 1048576)) := by
  have w : A.wrapI .i64 (n - (xs.length : Int)) = n - (xs.length : Int) := a_wrap (by omega) (by omega)
  rw [laws_szEntryS_t, ok_cndS]
  simp only [a_lenL, a_subI, w, a_ltI, decide_eq_true_eq, decide_eq_false_iff_not]
  refine ⟨fun _ => ok_some.2 (.inl rfl), fun h => ?_⟩
  refine (sz_loop (A := A) (f := laws_szEntryS_t_b0 A k) xs (n - xs.length) (by omega) (by omega) (fun i m hi h0 h1 => ?_) (fun m => by simp [laws_szEntryS_t_b0])).bind fun r hr => ?_
  · have he := hs xs[i] (List.getElem_mem hi)
    by_cases hm : m < (xs[i].2.2.1.2.1.length : Int)
    · refine ⟨.inr (.inr ((-1, ()), ())), ?_, .inr rfl⟩
      simp (disch := omega) [laws_szEntryS_t_b0, hi, a_wrap]
      rw [szEntry_eq k xs[i] m h0 (by omega) he]
      simp [szOf, hm]
    · refine ⟨.inl (xs, (m - (xs[i].2.2.1.2.1.length : Int), (((i + 1 : Nat) : Int), ()))), ?_, .inl ⟨_, rfl, by omega, by omega⟩⟩
      have hm' : ¬ m - (xs[i].2.2.1.2.1.length : Int) < 0 := by omega
      simp (disch := omega) [laws_szEntryS_t_b0, hi, a_wrap]
      rw [szEntry_eq k xs[i] m h0 (by omega) he]
      simp [szOf, hm, hm']
  · rcases hr with ⟨m, rfl, h0, h1⟩ | rfl
    · rw [a_sumE_inl]; exact ok_some.2 (.inr ⟨h0, by show m ≤ n; omega, by omega⟩)
    · rw [a_sumE_inr]; exact ok_some.2 (.inl rfl)
/-! ### replicas -/
abbrev Rep := Cfg × (Bool × (List Ent × Unit))
abbrev Msg := Int × (Int × (Int × (Cfg × (List Ent × Unit))))
instance : DecidableEq Cfg := inferInstanceAs (DecidableEq (Int × (List Int × (Bool × Unit))))
instance : DecidableEq Rep := inferInstanceAs (DecidableEq (Cfg × (Bool × (List Ent × Unit))))
set_option synthInstance.maxSize 1000 in
instance : DecidableEq Msg := inferInstanceAs (DecidableEq (Int × (Int × (Int × (Cfg × (List Ent × Unit))))))
def noCfg (c : Cfg) : Bool := decide (c.1 = 0) && (decide (c.2.1.length = 0) && !c.2.2.1)
theorem l17None_eq (k : Nat) (c : Cfg) : spec_l17None_t A k (c, ()) () = some ((noCfg c, ()), ()) := by
  simp only [spec_l17None_t, a_cndS, a_eqI, a_lenL, a_notB, noCfg]
  by_cases h1 : c.1 = 0
  · by_cases h2 : c.2.1.length = 0
    · simp [h1, h2]
    · simp [h1, h2]
  · simp [h1]
theorem noConfig_eq (k : Nat) (c : Cfg) : impl_noConfig_t A k (c, ()) () = some ((noCfg c, ()), ()) := by
  simp only [impl_noConfig_t, a_cndS, a_eqI, a_lenL, a_notB, noCfg]
  by_cases h1 : c.1 = 0
  · by_cases h2 : c.2.1.length = 0
    · simp [h1, h2]
    · simp [h1, h2]
  · simp [h1]
def logOk (l : List Ent) : Bool := decide (l.length ≤ 24) && l.all entOk
theorem entriesValid_eq (k : Nat) (hk : 30 ≤ k) (l : List Ent) : impl_entriesValid_t A k (l, ()) () = some ((logOk l, ()), ()) := by
  by_cases hl : (24 : Int) < l.length
  · have : ¬ l.length ≤ 24 := by omega
    simp [impl_entriesValid_t, hl, logOk, this]
  · have hl' : l.length ≤ 24 := by omega
    have h := iter_all (A := A) (f := impl_entriesValid_t_b0 A k) (fun i => (l, ((l.length : Int), ((i : Int), ())))) l.length (fun i => entOk (l.getD i ent0)) (.inr ((false, ()), ())) (.inl ())
      (fun i hi => by
        simp (disch := omega) [impl_entriesValid_t_b0, hi, a_wrap, impl_EntryValid_eq k (by omega)]
        cases entOk l[i] <;> simp)
      (by simp [impl_entriesValid_t_b0]) (k := k) (by omega)
    rw [all_range] at h
    simp only [Int.natCast_zero, Int.ofNat_zero] at h
    simp only [impl_entriesValid_t, a_cndS, a_ltI, a_lenL, hl, decide_false, Bool.false_eq_true, if_false, h, a_obind_some, logOk, hl', decide_true, Bool.true_and]
    cases l.all entOk <;> simp
theorem l10Log_eq (k : Nat) (hk : 30 ≤ k) (l : List Ent) : spec_l10Log_t A k (l, ()) () = some ((logOk l, ()), ()) := by
  have h : Ok (A.iter k (spec_l10Log_t_b0 A k) (l, (0, ()))) (fun r => r = if logOk l = true then .inl () else .inr ((false, ()), ())) := by
    refine iter_ok (fun j s => ∃ i : Nat, s = (l, ((i : Int), ())) ∧ i + j = 24 ∧ i ≤ l.length ∧ (l.take i).all entOk = true) _ ?_ (n := 24) (by omega) ⟨0, rfl, by omega, by omega, rfl⟩
    rintro j s ⟨i, rfl, hij, hil, hall⟩
    by_cases hi : i < l.length
    · have hi' : (i : Int) < (l.length : Int) := by omega
      by_cases h24 : (24 : Int) ≤ (i : Int)
      · have : ¬ l.length ≤ 24 := by omega
        refine ⟨.inr (.inr ((false, ()), ())), by simp [spec_l10Log_t_b0, hi, h24], fun s' e => (by cases e), fun e he => ?_⟩
        injection he with he; subst he
        simp [logOk, this]
      · have w : A.wrapI .i64 ((i : Int) + 1) = (i : Int) + 1 := a_wrap (by omega) (by omega)
        by_cases hv : entOk l[i] = true
        · refine ⟨.inl (l, (((i + 1 : Nat) : Int), ())), by simp [spec_l10Log_t_b0, hi, h24, w, spec_EntryValid_eq k (by omega : 10 ≤ k), hv], fun s' e => ?_, fun e he => (by cases he)⟩
          injection e with e; subst e
          refine ⟨j - 1, by omega, i + 1, rfl, by omega, by omega, ?_⟩
          rw [List.take_succ_eq_append_getElem hi, List.all_append, hall]; simp [hv]
        · refine ⟨.inr (.inr ((false, ()), ())), by simp [spec_l10Log_t_b0, hi, h24, w, spec_EntryValid_eq k (by omega : 10 ≤ k), hv], fun s' e => (by cases e), fun e he => ?_⟩
          injection he with he; subst he
          have : l.all entOk = false := by
            rw [← Bool.not_eq_true, List.all_eq_true]
            exact fun h => hv (h _ (List.getElem_mem hi))
          simp [logOk, this]
    · have : i = l.length := by omega
      subst this
      rw [List.take_length] at hall
      refine ⟨.inr (.inl ()), by simp [spec_l10Log_t_b0], fun s' e => (by cases e), fun e he => ?_⟩
      injection he with he; subst he
      have : l.length ≤ 24 := by omega
      simp only [logOk, this, hall, decide_true, Bool.and_self, if_true]
  rw [ok_eq] at h
  rw [spec_l10Log_t, h]
  cases logOk l <;> simp
def msgOk (m : Msg) : Bool :=
  if m.1 = 1 then decide (1 ≤ m.2.2.1 ∧ m.2.2.1 ≤ 60) && (decide (0 ≤ m.2.1 ∧ m.2.1 ≤ 4) && (cfgOk m.2.2.2.1 && (decide (m.2.2.2.1.1 = m.2.2.1) && decide (m.2.2.2.2.1.length = 0))))
  else if m.1 = 2 then decide (1 ≤ m.2.2.1 ∧ m.2.2.1 ≤ 60) && (decide (0 ≤ m.2.1 ∧ m.2.1 ≤ 4) && (noCfg m.2.2.2.1 && logOk m.2.2.2.2.1))
  else if m.1 = 3 then decide (1 ≤ m.2.2.1 ∧ m.2.2.1 ≤ 60) && (decide (m.2.1 = -1) && (noCfg m.2.2.2.1 && decide (m.2.2.2.2.1.length = 0)))
  else false
theorem spec_MessageValid_eq (k : Nat) (hk : 30 ≤ k) (m : Msg) : spec_MessageValid_t A k (m, ()) () = some ((msgOk m, ()), ()) := by
  obtain ⟨kd, nd, ep, c, l, _⟩ := m
  simp only [spec_MessageValid_t, l1In_eq, l17None_eq, spec_ConfigValid_eq k (by omega : 10 ≤ k), l10Log_eq k hk, a_obind_some, a_cndS, a_eqI, a_lenL, msgOk]
  by_cases h1 : kd = 1
  · by_cases h2 : 0 ≤ nd ∧ nd ≤ 4
    · cases hc : cfgOk c with
      | false => simp [h1, h2]
      | true =>
        have hl := cfgOk_len hc
        by_cases h3 : c.1 = ep
        · have : 1 ≤ ep ∧ ep ≤ 60 := by omega
          by_cases h4 : l.length = 0
          · simp [h1, h2, h3, h4, this]
          · simp [h1, h2, h3, h4, this]
        · simp [h1, h2, h3]
    · simp [h1, h2]
  by_cases h1' : kd = 2
  · subst h1'
    by_cases h2 : 0 ≤ nd ∧ nd ≤ 4 <;> by_cases h3 : 1 ≤ ep ∧ ep ≤ 60 <;> cases noCfg c <;> simp [h2, h3]
  by_cases h1'' : kd = 3
  · subst h1''
    by_cases h2 : nd = -1 <;> by_cases h3 : 1 ≤ ep ∧ ep ≤ 60 <;> cases noCfg c <;> simp [h2, h3]
  simp [h1, h1', h1'']
theorem impl_MessageValid_eq (k : Nat) (hk : 30 ≤ k) (m : Msg) : impl_MessageValid_t A k (m, ()) () = some ((msgOk m, ()), ()) := by
  obtain ⟨kd, nd, ep, c, l, _⟩ := m
  simp only [impl_MessageValid_t, nodeValid_eq, noConfig_eq, impl_ConfigValid_eq k (by omega : 10 ≤ k), entriesValid_eq k hk, a_obind_some, a_cndS, a_eqI, a_lenL, a_ltI, msgOk]
  by_cases hlo : ep < 1
  · have : ¬ (1 ≤ ep ∧ ep ≤ 60) := by omega
    simp [hlo, this]
  by_cases hhi : 60 < ep
  · have : ¬ (1 ≤ ep ∧ ep ≤ 60) := by omega
    simp [hlo, hhi, this]
  have hep : 1 ≤ ep ∧ ep ≤ 60 := by omega
  by_cases h1 : kd = 1
  · subst h1
    by_cases h2 : 0 ≤ nd ∧ nd ≤ 4
    · cases hc : cfgOk c with
      | false => simp [hlo, hhi, h2, hep, hc, nodeValid_eq, impl_ConfigValid_eq k (by omega : 10 ≤ k)]
      | true =>
        by_cases h3 : c.1 = ep <;> simp [hlo, hhi, h2, hep, hc, h3, nodeValid_eq, impl_ConfigValid_eq k (by omega : 10 ≤ k)]
    · simp [hlo, hhi, h2, hep, nodeValid_eq]
  by_cases h1' : kd = 2
  · subst h1'
    by_cases h2 : 0 ≤ nd ∧ nd ≤ 4
    · cases hc : noCfg c <;> simp [hlo, hhi, h2, hep, hc, nodeValid_eq, noConfig_eq, entriesValid_eq k hk]
    · simp [hlo, hhi, h2, hep, nodeValid_eq]
  by_cases h1'' : kd = 3
  · subst h1''
    by_cases h2 : nd = -1
    · cases hc : noCfg c <;> simp [hlo, hhi, h2, hep, hc, noConfig_eq]
    · simp [hlo, hhi, h2, hep]
  simp [hlo, hhi, h1, h1', h1'']
end Go.Den.T
