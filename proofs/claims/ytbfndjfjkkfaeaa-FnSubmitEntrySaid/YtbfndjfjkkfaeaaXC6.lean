/- Drawn laws on configurations: members one after the other, members taken away. -/
import Derived.Test.YtbfndjfjkkfaeaaXC5

namespace Go.Den.T
set_option linter.unusedVariables false
set_option linter.unusedSimpArgs false
variable {A : Atoms} [IsReal A]
theorem nodup_inj {xs : List Int} (h : xs.Nodup) {i j : Nat} (hi : i < xs.length) (hj : j < xs.length) (e : xs[i] = xs[j]) : i = j := by
  rw [List.nodup_iff_pairwise_ne, List.pairwise_iff_getElem] at h
  rcases Nat.lt_trichotomy i j with hl | hl | hl
  · exact absurd e (h i j hi hj hl)
  · exact hl
  · exact absurd e.symm (h j i hj hi hl)
theorem idx_at {xs : List Int} {i : Nat} (h : xs.Nodup) (hi : i < xs.length) : idx xs (xs.getD i 0) = i := by
  rcases idx_cases xs (xs.getD i 0) with ⟨_, hm⟩ | ⟨j, e, hj, hv, _⟩
  · exact absurd (by rw [getD_lt hi]; exact List.getElem_mem hi) hm
  · rw [e]
    rw [getD_lt hi, getD_lt hj] at hv
    have := nodup_inj h hj hi hv
    omega
theorem after_at {c : Cfg} {i : Nat} (h : cfgOk c = true) (hi : i < c.2.1.length) : after c (c.2.1.getD i 0) = if i + 1 < c.2.1.length then c.2.1.getD (i + 1) 0 else -1 := by
  have hn := (membersOk_iff.1 (cfgOk_members h)).2
  have e := idx_at hn hi
  have hm : c.2.1.getD i 0 ∈ c.2.1 := by rw [getD_lt hi]; exact List.getElem_mem hi
  simp only [after, h, hm, e, decide_true, Bool.true_and]
  by_cases hh : i + 1 < c.2.1.length
  · have h1 : ¬ (i : Int) = (c.2.1.length : Int) - 1 := by omega
    have h2 : ((i : Int) + 1).toNat = i + 1 := by omega
    simp only [h1, hh, h2, decide_false, Bool.not_false, if_true]
  · have h1 : (i : Int) = (c.2.1.length : Int) - 1 := by omega
    simp only [← h1, hh, decide_true, Bool.not_true, Bool.false_eq_true, if_false]
theorem after_mem {c : Cfg} {n : Int} (h : after c n ≠ -1) : n ∈ c.2.1 := by
  unfold after at h
  by_cases hm : n ∈ c.2.1
  · exact hm
  · simp [hm] at h
theorem FnMemberAfter_loop (k : Nat) (hk : 200 ≤ k) (c : Cfg) (h : cfgOk c = true) (x y : Int) : A.iter k (laws_FnMemberAfter_t_b0 A k) (x, (y, (0, (c, ())))) = some (.inl (x, (y, (c, ())))) := by
  have hl := cfgOk_len h
  exact iter_for (A := A) (f := laws_FnMemberAfter_t_b0 A k) (fun i => (x, (y, ((i : Int), (c, ()))))) c.2.1.length (.inl (x, (y, (c, ()))))
    (fun i hi => by
      have ha := after_at h hi
      have hi' : (i : Int) < (c.2.1.length : Int) := by omega
      have w : A.wrapI .i64 ((i : Int) + 1) = (i : Int) + 1 := a_wrap (by omega) (by omega)
      by_cases hh : i + 1 < c.2.1.length
      · rw [if_pos hh] at ha
        have h1 : (i : Int) + 1 < (c.2.1.length : Int) := by omega
        have h2 : (0 : Int) ≤ (i : Int) + 1 := by omega
        have h3 : ((i : Int) + 1).toNat = i + 1 := by omega
        simp only [laws_FnMemberAfter_t_b0, a_cndS, a_ltI, a_lenL, a_addI, a_le0, a_andB, a_atL, a_notB, a_eqI, w, hi', h1, h2, h3, decide_true, Bool.and_self, if_true, a_obind_some, Int.toNat_natCast, Int.natCast_nonneg, impl_MemberAfter_eq k (by omega : 10 ≤ k), ha, Bool.not_true, Bool.false_eq_true, if_false, Int.natCast_add, Int.natCast_one]
      · rw [if_neg hh] at ha
        have h1 : ¬ (i : Int) + 1 < (c.2.1.length : Int) := by omega
        simp only [laws_FnMemberAfter_t_b0, a_cndS, a_ltI, a_lenL, a_addI, a_le0, a_andB, a_atL, a_notB, a_eqI, w, hi', h1, decide_true, decide_false, Bool.and_self, if_true, a_obind_some, Int.toNat_natCast, Int.natCast_nonneg, impl_MemberAfter_eq k (by omega : 10 ≤ k), ha, Bool.not_true, Bool.false_eq_true, if_false, Int.natCast_add, Int.natCast_one])
    (by simp [laws_FnMemberAfter_t_b0]) (by omega)
theorem FnMemberAfter_true (k : Nat) (hk : 200 ≤ k) (a : List Int) (hb : ∀ x ∈ a, 0 ≤ x ∧ x ≤ 255) : laws_FnMemberAfter_t A k (a, ()) () = some ((true, ()), ()) := by
  rw [← ok_eq, laws_FnMemberAfter_t, ok_cndS]
  refine ⟨fun _ => ok_some.2 rfl, fun _ => ?_⟩
  refine (DrawMemberAfter_ok k (by omega) a hb).bind fun q hs => ?_
  obtain ⟨⟨c, n, _⟩, _⟩ := q
  simp only [Short] at hs
  simp only [impl_ConfigValid_eq k (by omega : 10 ≤ k), impl_MemberAfter_eq k (by omega : 10 ≤ k), spec_MemberAfter_eq k (by omega : 10 ≤ k) c n (by omega) (by omega), alive_eq k (by omega : 10 ≤ k), a_obind_some]
  rw [ok_eq]
  cases h : cfgOk c with
  | false => simp [after, h]
  | true =>
    have hx := cfgOk_len h
    rw [FnMemberAfter_loop k hk c h]
    by_cases ha : after c n = -1
    · simp [ha]
    · have hm := after_mem ha
      simp [ha, hasInt_eq k c.2.1 n (by omega) (by omega), hm]
/-! ### a member taken away -/
theorem FnWithoutMember_loop (k : Nat) (hk : 200 ≤ k) (n : Int) (xs : List Int) (hl : xs.length ≤ 100) (c d : Cfg) : A.iter k (laws_FnWithoutMember_t_b0 A k) (n, ([], (xs, (0, (c, (d, ())))))) = some (n, (xs.filter (fun x => !decide (x = n)), (c, (d, ())))) := by
  exact iter_for (A := A) (f := laws_FnWithoutMember_t_b0 A k) (fun i => (n, ((xs.take i).filter (fun x => !decide (x = n)), (xs, ((i : Int), (c, (d, ()))))))) xs.length (n, (xs.filter (fun x => !decide (x = n)), (c, (d, ()))))
    (fun i hi => by
      have hi' : (i : Int) < (xs.length : Int) := by omega
      have hf : ((xs.take i).filter (fun x => !decide (x = n))).length ≤ xs.length := Nat.le_trans (List.length_filter_le _ _) (by simp; omega)
      have w : A.wrapI .i64 ((i : Int) + 1) = (i : Int) + 1 := a_wrap (by omega) (by omega)
      have hb : (((xs.take i).filter (fun x => !decide (x = n))).length : Int) + 1 < 4294967296 := by omega
      rw [List.take_succ_eq_append_getElem hi, List.filter_append]
      by_cases hv : xs[i] = n
      · simp only [laws_FnWithoutMember_t_b0, a_cndS, a_ltI, a_lenL, a_addI, a_le0, a_andB, a_atL, a_notB, a_eqI, a_appL, w, hi', decide_true, Bool.and_self, if_true, Int.toNat_natCast, Int.natCast_nonneg, getD_lt hi, hv, Bool.not_true, Bool.false_eq_true, if_false, Int.natCast_add, Int.natCast_one]
        simp [hv]
      · simp only [laws_FnWithoutMember_t_b0, a_cndS, a_ltI, a_lenL, a_addI, a_le0, a_andB, a_atL, a_notB, a_eqI, a_appL, a_big, w, hi', decide_true, decide_false, Bool.and_self, if_true, Int.toNat_natCast, Int.natCast_nonneg, getD_lt hi, hv, Bool.not_false, Int.natCast_add, Int.natCast_one, List.length_singleton, hb]
        simp [hv])
    (by simp [laws_FnWithoutMember_t_b0]) (by omega)
theorem filter_erase {xs : List Int} {i : Nat} (h : xs.Nodup) (hi : i < xs.length) : xs.filter (fun x => !decide (x = xs.getD i 0)) = xs.take i ++ xs.drop (i + 1) := by
  have e : xs = xs.take i ++ xs.getD i 0 :: xs.drop (i + 1) := by
    rw [getD_lt hi, ← List.drop_eq_getElem_cons hi, List.take_append_drop]
  generalize xs.getD i 0 = v at *
  generalize xs.take i = l at *
  generalize xs.drop (i + 1) = r at *
  subst e
  rw [List.nodup_append] at h
  obtain ⟨_, h2, h3⟩ := h
  rw [List.nodup_cons] at h2
  rw [List.filter_append, List.filter_cons]
  have f1 : l.filter (fun x => !decide (x = v)) = l := List.filter_eq_self.2 fun x hx => by
    have := h3 x hx v (by simp)
    simp [this]
  have f2 : r.filter (fun x => !decide (x = v)) = r := List.filter_eq_self.2 fun x hx => by
    have : x ≠ v := fun e => h2.1 (e ▸ hx)
    simp [this]
  simp [f1, f2]
/-- the complete members of before, without the node -/
theorem complete_without {c : Cfg} {i : Nat} (h : cfgOk c = true) (hi : i < c.2.1.length) : complete (without c i) = (complete c).filter (fun x => !decide (x = c.2.1.getD i 0)) := by
  obtain ⟨ep, xs, fr, _⟩ := c
  have hn := (membersOk_iff.1 (cfgOk_members h)).2
  simp only at hi hn
  cases fr with
  | false => simp only [complete, without, Bool.false_and, Bool.false_eq_true, if_false]; rw [filter_erase hn hi]
  | true =>
    by_cases hx : i = xs.length - 1
    · have e : complete (without (ep, (xs, (true, ()))) i) = xs.take i := by
        simp only [complete, without, hx, decide_true, Bool.not_true, Bool.and_false, Bool.false_eq_true, if_false]
        rw [List.drop_eq_nil_of_le (by omega)]; simp
      have e2 : complete (ep, (xs, (true, ()))) = xs.take i := by simp [complete, hx]
      rw [e, e2]
      symm
      refine List.filter_eq_self.2 fun x hm => ?_
      simp only [Bool.not_eq_true', decide_eq_false_iff_not]
      intro e
      obtain ⟨j, hj, he⟩ := List.mem_iff_getElem.1 hm
      simp at hj he
      rw [getD_lt hi] at e
      have := nodup_inj hn (by omega) hi (he.trans e)
      omega
    · have hlt : i < xs.length - 1 := by omega
      have hn2 : (xs.take (xs.length - 1)).Nodup := hn.sublist (List.take_sublist _ _)
      have hg : xs.getD i 0 = (xs.take (xs.length - 1)).getD i 0 := by
        rw [getD_lt hi, getD_lt (by simp; omega)]; simp
      have e2 : complete (ep, (xs, (true, ()))) = xs.take (xs.length - 1) := by simp [complete]
      rw [e2]
      show complete (without (ep, (xs, (true, ()))) i) = (xs.take (xs.length - 1)).filter (fun x => !decide (x = xs.getD i 0))
      rw [hg, filter_erase hn2 (by simp; omega)]
      simp only [complete, without, hx, decide_false, Bool.not_false, Bool.and_true, if_true]
      rw [List.length_append, List.length_take, List.length_drop, List.take_append, List.length_take, List.take_take, List.take_take, List.take_drop]
      congr 1
      · congr 1; omega
      · have : i + 1 + (min i xs.length + (xs.length - (i + 1)) - 1 - min i xs.length) = xs.length - 1 := by omega
        rw [this]
theorem FnWithoutMember_true (k : Nat) (hk : 200 ≤ k) (a : List Int) (hb : ∀ x ∈ a, 0 ≤ x ∧ x ≤ 255) : laws_FnWithoutMember_t A k (a, ()) () = some ((true, ()), ()) := by
  rw [← ok_eq, laws_FnWithoutMember_t, ok_cndS]
  refine ⟨fun _ => ok_some.2 rfl, fun _ => ?_⟩
  refine (DrawWithoutMember_ok k (by omega) a hb).bind fun q hs => ?_
  obtain ⟨⟨c, n, _⟩, _⟩ := q
  simp only [Short] at hs
  have e1 := impl_WithoutMember_eq (A := A) k (by omega) c n
  have e2 := spec_WithoutMember_eq (A := A) k (by omega) c n
  have hl := withoutMember_len' c n
  simp only [e1, e2, a_obind_some, sameConfig_eq k (withoutMember c n).1 (withoutMember c n).1 (by omega) (by omega), decide_true, a_notB, Bool.not_true, a_cndS, Bool.false_eq_true, if_false, a_eqB, beq_self_eq_true, a_sumE_inl]
  rw [ok_eq]
  by_cases hok : (withoutMember c n).2.1 = true
  · have hc : cfgOk c = true := by
      cases h : cfgOk c with
      | true => rfl
      | false => simp [withoutMember, h] at hok
    have hd : mayDrop c n = true := by
      cases h : mayDrop c n with
      | true => rfl
      | false => simp [withoutMember, hc, h] at hok
    have ew : withoutMember c n = (without c (idx c.2.1 n).toNat, (true, ())) := by simp [withoutMember, hc, hd]
    have hx := cfgOk_len hc
    have hd' := hd
    simp only [mayDrop, Bool.and_eq_true, decide_eq_true_eq, Bool.not_eq_true', decide_eq_false_iff_not] at hd'
    obtain ⟨hm, h60, hd3⟩ := hd'
    rcases idx_cases c.2.1 n with ⟨_, hno⟩ | ⟨i, e, hi, hv, _⟩
    · exact absurd hm hno
    have et : (idx c.2.1 n).toNat = i := by omega
    rw [et] at ew
    rw [e] at hd3
    have w := without_ok hc hi h60
    rw [hd3] at w
    have hcl := complete_len c
    have hco : completeOr c = complete c := by simp [completeOr, hc]
    have hcw : completeOr (without c i) = complete (without c i) := by simp [completeOr, w]
    have hnd := (membersOk_iff.1 (cfgOk_members hc)).2
    have hnm : n ∉ (without c i).2.1 := by
      show n ∉ c.2.1.take i ++ c.2.1.drop (i + 1)
      rw [← filter_erase hnd hi, hv]
      simp
    have hwl : (without c i).2.1.length ≤ 8 := by rw [ew] at hl; exact hl
    have hwl2 := complete_len (without c i)
    have hep : (without c i).1 = c.1 + 1 := rfl
    have wr : A.wrapI .i64 (c.1 + 1) = c.1 + 1 := a_wrap (by omega) (by omega)
    have cw := complete_without hc hi
    rw [hv] at cw
    have hfl : ((complete c).filter (fun x => !decide (x = n))).length ≤ 8 := by rw [← cw]; omega
    rw [ew]
    simp only [Bool.not_true, Bool.false_eq_true, if_false, impl_CompleteMembers_eq k (by omega : 10 ≤ k), a_obind_some, hco, FnWithoutMember_loop k hk n (complete c) (by omega), impl_ConfigValid_eq k (by omega : 10 ≤ k), w, Bool.not_false, if_true, a_addI, hep, wr, a_eqI, decide_true, hasInt_eq k (without c i).2.1 n (by omega) (by omega), hnm, decide_false, hcw,
      cw, sameInts_eq k ((complete c).filter (fun x => !decide (x = n))) ((complete c).filter (fun x => !decide (x = n))) (by omega) (by omega)]
  · have hok' : (withoutMember c n).2.1 = false := by simpa using hok
    have hc : (withoutMember c n).1 = c ∨ (withoutMember c n).1 = zeroC := by
      unfold withoutMember at hok' ⊢
      split
      · rename_i h
        rw [if_pos h] at hok'
        split
        · rename_i h2; rw [if_pos h2] at hok'; cases hok'
        · exact .inl rfl
      · exact .inr rfl
    simp only [hok', Bool.not_false, if_true, alive_eq k (by omega : 10 ≤ k), a_obind_some]
    rw [sameConfig_eq k (withoutMember c n).1 c (by omega) (by omega)]
    simp only [a_obind_some]
    by_cases hcc : (withoutMember c n).1 = c
    · simp [hcc]
    · have hz := hc.resolve_left hcc
      have := sameConfig_eq (A := A) k (withoutMember c n).1 (0, ([], (false, ()))) (by omega) (by omega)
      simp only [hcc, decide_false, Bool.false_eq_true, if_false]
      rw [this]
      simp [hz, zeroC]
end Go.Den.T
