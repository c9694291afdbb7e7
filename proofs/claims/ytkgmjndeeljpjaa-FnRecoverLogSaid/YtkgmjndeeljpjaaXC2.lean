/- The reader of codes. -/
import Derived.Test.YtkgmjndeeljpjaaXC1

namespace Go.Den.T
set_option linter.unusedVariables false
set_option linter.unusedSimpArgs false
variable {A : Atoms} [IsReal A]
abbrev Rd := List Int × (Int × Unit)
/-- a reader in use: bytes, and a place that is small -/
def RdOk (N : Int) (r : Rd) : Prop := (∀ x ∈ r.1, 0 ≤ x ∧ x ≤ 255) ∧ r.1.length ≤ 2000 ∧ 0 ≤ r.2.1 ∧ r.2.1 ≤ N
theorem RdOk.le {N M : Int} {r : Rd} (h : RdOk N r) (hm : N ≤ M) : RdOk M r := ⟨h.1, h.2.1, h.2.2.1, Int.le_trans h.2.2.2 hm⟩
theorem xor_bound {a b : Int} (ha : 0 ≤ a) (ha' : a < 4611686018427387904) (hb : 0 ≤ b) (hb' : b < 4611686018427387904) : 0 ≤ A.xorI .i64 a b ∧ A.xorI .i64 a b < 4611686018427387904 := by
  have e : A.xorI .i64 a b = IntKind.i64.wrap ((BitVec.ofInt 64 a ^^^ BitVec.ofInt 64 b).toNat : Int) := a_xorI _ _ _
  have h1 : (BitVec.ofInt 64 a).toNat = a.toNat := by rw [BitVec.toNat_ofInt]; omega
  have h2 : (BitVec.ofInt 64 b).toNat = b.toNat := by rw [BitVec.toNat_ofInt]; omega
  have h3 : (BitVec.ofInt 64 a ^^^ BitVec.ofInt 64 b).toNat < 2 ^ 62 := by
    rw [BitVec.toNat_xor, h1, h2]
    exact Nat.xor_lt_two_pow (by omega) (by omega)
  rw [e, wrap_i64 (by omega) (by omega)]
  omega
def PickOk (N n : Int) (q : (Int × Unit) × Rd) : Prop := RdOk (N + 1) q.2 ∧ 0 ≤ q.1.1 ∧ q.1.1 ≤ 1000000000 ∧ (1 ≤ n → q.1.1 < n) ∧ (n < 1 → q.1.1 = 0)
theorem pick_ok (k : Nat) (n N : Int) (r : Rd) (h : RdOk N r) (hp : N ≤ 1000000000) (hn0 : n ≤ 1000000000) : Ok (spec_l20Rd_pick_t A k ((), (n, ())) r) (PickOk N n) := by
  obtain ⟨rb, rp, _⟩ := r
  obtain ⟨hb, h4, h2, h3⟩ := h
  simp only at hb h2 h3 h4
  have w1 : A.wrapI .i64 (rp + 1) = rp + 1 := a_wrap (by omega) (by omega)
  have w2 : A.wrapI .i64 (rp + 1 - 1) = rp := by rw [show rp + 1 - 1 = rp by omega]; exact a_wrap (by omega) (by omega)
  have hq : RdOk (N + 1) (rb, (rp + 1, ())) := ⟨hb, h4, by show 0 ≤ rp + 1; omega, by show rp + 1 ≤ N + 1; omega⟩
  by_cases hn : n < 1
  · exact ⟨((0, ()), (rb, (rp + 1, ()))), by simp [spec_l20Rd_pick_t, hn, w1], hq, by simp, by simp, fun h => by omega, fun _ => rfl⟩
  by_cases hl : (rb.length : Int) = 0
  · have hl' : rb = [] := List.eq_nil_of_length_eq_zero (by omega)
    subst hl'
    exact ⟨((0, ()), ([], (rp + 1, ()))), by simp [spec_l20Rd_pick_t, hn, w1], hq, by simp, by simp, fun h => by show (0 : Int) < n; omega, fun _ => rfl⟩
  have hn0 : ¬ n = 0 := by omega
  by_cases hlt : rp < (rb.length : Int)
  · have hx := hb (rb.getD rp.toNat 0) (by
      have : rp.toNat < rb.length := by omega
      rw [getD_lt this]; exact List.getElem_mem this)
    have w3 : A.wrapI .i64 (rb.getD rp.toNat 0) = rb.getD rp.toNat 0 := a_wrap (by omega) (by omega)
    refine ⟨(((rb.getD rp.toNat 0).tmod n, ()), (rb, (rp + 1, ()))), ?_, hq, ?_, ?_, fun _ => ?_, fun h => by omega⟩
    · simp only [spec_l20Rd_pick_t, a_cndS, a_ltI, a_eqI, a_lenL, a_andB, a_le0, a_notB, a_atL, a_remI, a_subI, a_addI, a_obind_some, a_sumE_inl, hn, hl, hn0, hlt, h2, w1, w2, w3, decide_true, decide_false, Bool.false_eq_true, Bool.not_false, Bool.and_self, if_true, if_false]
    · exact Int.tmod_nonneg _ hx.1
    · show (rb.getD rp.toNat 0).tmod n ≤ 1000000000
      have := Int.tmod_lt_of_pos (rb.getD rp.toNat 0) (b := n) (by omega); omega
    · exact Int.tmod_lt_of_pos _ (by omega)
  · have hL : 0 < (rb.length : Int) := by omega
    have hLn : ¬ (rb.length : Int) = 0 := hl
    have w7 : A.wrapI .i64 (rp * 7) = rp * 7 := a_wrap (by omega) (by omega)
    have w8 : A.wrapI .i64 (rp * 7 + 3) = rp * 7 + 3 := a_wrap (by omega) (by omega)
    have i1 : 0 ≤ rp.tmod rb.length := Int.tmod_nonneg _ h2
    have i2 : rp.tmod rb.length < rb.length := Int.tmod_lt_of_pos _ hL
    have i3 : 0 ≤ (rp * 7 + 3).tmod rb.length := Int.tmod_nonneg _ (by omega)
    have i4 : (rp * 7 + 3).tmod rb.length < rb.length := Int.tmod_lt_of_pos _ hL
    have at' : ∀ i : Int, 0 ≤ i → i < rb.length → 0 ≤ rb.getD i.toNat 0 ∧ rb.getD i.toNat 0 ≤ 255 := fun i hi1 hi2 => hb _ (by
      have : i.toNat < rb.length := by omega
      rw [getD_lt this]; exact List.getElem_mem this)
    have x1 := at' _ i1 i2
    have x2 := at' _ i3 i4
    have d1 : 0 ≤ rp.tdiv rb.length := Int.tdiv_nonneg h2 (by omega)
    have d2 : rp.tdiv rb.length ≤ rp := by
      rw [Int.tdiv_eq_ediv_of_nonneg h2]; exact Int.ediv_le_self _ h2
    have key : ∀ X Y D : Int, 0 ≤ X ∧ X ≤ 255 → 0 ≤ Y ∧ Y ≤ 255 → 0 ≤ D → D ≤ rp → rb.getD (rp.tmod rb.length).toNat 0 = X → rb.getD ((rp * 7 + 3).tmod rb.length).toNat 0 = Y → rp.tdiv rb.length = D →
        Ok (spec_l20Rd_pick_t A k ((), (n, ())) (rb, (rp, ()))) (PickOk N n) := by
      intro X Y D x1 x2 d1 d2 hX hY hD
      have v1 : A.wrapI .i64 X = X := a_wrap (by omega) (by omega)
      have v2 : A.wrapI .i64 Y = Y := a_wrap (by omega) (by omega)
      have v3 : A.wrapI .i64 (X * 131) = X * 131 := a_wrap (by omega) (by omega)
      have v4 : A.wrapI .i64 (Y * 1117) = Y * 1117 := a_wrap (by omega) (by omega)
      have v5 : A.wrapI .i64 (X * 131 + Y * 1117) = X * 131 + Y * 1117 := a_wrap (by omega) (by omega)
      have v6 : A.wrapI .i64 (rp * 29) = rp * 29 := a_wrap (by omega) (by omega)
      have v7 : A.wrapI .i64 (X * 131 + Y * 1117 + rp * 29) = X * 131 + Y * 1117 + rp * 29 := a_wrap (by omega) (by omega)
      have v8 : A.wrapI .i64 D = D := a_wrap (by omega) (by omega)
      have v9 : A.wrapI .i64 (D * 53) = D * 53 := a_wrap (by omega) (by omega)
      have v10 : A.wrapI .i64 (X * 131 + Y * 1117 + rp * 29 + D * 53) = X * 131 + Y * 1117 + rp * 29 + D * 53 := a_wrap (by omega) (by omega)
      have q0 : 0 ≤ (X * 131 + Y * 1117 + rp * 29 + D * 53).tdiv 64 := Int.tdiv_nonneg (by omega) (by omega)
      have q1 : (X * 131 + Y * 1117 + rp * 29 + D * 53).tdiv 64 ≤ X * 131 + Y * 1117 + rp * 29 + D * 53 := by
        rw [Int.tdiv_eq_ediv_of_nonneg (by omega)]; exact Int.ediv_le_self _ (by omega)
      have v11 : A.wrapI .i64 ((X * 131 + Y * 1117 + rp * 29 + D * 53).tdiv 64) = (X * 131 + Y * 1117 + rp * 29 + D * 53).tdiv 64 := a_wrap (by omega) (by omega)
      have hz := xor_bound (A := A) (a := X * 131 + Y * 1117 + rp * 29 + D * 53) (b := (X * 131 + Y * 1117 + rp * 29 + D * 53).tdiv 64) (by omega) (by omega) q0 (by omega)
      have h64 : ¬ (64 : Int) = 0 := by decide
      refine ⟨(((A.xorI .i64 (X * 131 + Y * 1117 + rp * 29 + D * 53) ((X * 131 + Y * 1117 + rp * 29 + D * 53).tdiv 64)).tmod n, ()), (rb, (rp + 1, ()))), ?_, hq, ?_, ?_, fun _ => ?_, fun h => by omega⟩
      · simp only [spec_l20Rd_pick_t, a_cndS, a_ltI, a_eqI, a_lenL, a_andB, a_le0, a_notB, a_atL, a_remI, a_subI, a_mulI, a_quoI, a_addI, a_obind_some, a_sumE_inl, hn, hl, hn0, hlt, h64, i1, i2, i3, i4, h2, w1, w2, w7, w8, hX, hY, hD, v1, v2, v3, v4, v5, v6, v7, v8, v9, v10, v11, decide_true, decide_false, Bool.false_eq_true, Bool.not_false, Bool.and_self, if_true, if_false]
      · exact Int.tmod_nonneg _ hz.1
      · show Int.tmod _ n ≤ 1000000000
        have := Int.tmod_lt_of_pos (A.xorI .i64 (X * 131 + Y * 1117 + rp * 29 + D * 53) ((X * 131 + Y * 1117 + rp * 29 + D * 53).tdiv 64)) (b := n) (by omega); omega
      · exact Int.tmod_lt_of_pos _ (by omega)
    exact key _ _ _ x1 x2 d1 d2 rfl rfl rfl
theorem odd_ok (k : Nat) (n N : Int) (r : Rd) (h : RdOk N r) (hp : N ≤ 1000000000) (hn : n ≤ 1000000000) : Ok (spec_l20Rd_odd_t A k ((), (n, ())) r) (fun q => RdOk (N + 1) q.2) := by
  simp only [spec_l20Rd_odd_t, ok_cndS, a_ltI, ok_obind, ok_some]
  exact ⟨fun _ => (pick_ok k n N r h hp hn).mono fun q hq => hq.1, fun _ => h.le (by omega)⟩
theorem open_ok (k : Nat) (a : List Int) (hb : ∀ x ∈ a, 0 ≤ x ∧ x ≤ 255) : Ok (spec_l20Open_t A k (a, ()) ()) (fun q => RdOk 0 q.1) := by
  by_cases h : (2000 : Int) < (a.length : Int)
  · have h2 : (2000 : Int) ≤ (a.length : Int) := by omega
    exact ⟨((a.take 2000, ((0 : Int), ())), ()), by simp [spec_l20Open_t, h, h2], fun x hx => hb x (List.mem_of_mem_take hx), by simp; omega, Int.le_refl _, Int.le_refl _⟩
  · exact ⟨((a, ((0 : Int), ())), ()), by simp [spec_l20Open_t, h], hb, by show a.length ≤ 2000; omega, Int.le_refl _, Int.le_refl _⟩
end Go.Den.T
