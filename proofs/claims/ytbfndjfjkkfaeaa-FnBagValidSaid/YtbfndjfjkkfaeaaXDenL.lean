/- The operations without memory of their own, last part. -/
import Derived.Test.YtbfndjfjkkfaeaaXDenK
set_option linter.unusedVariables false
set_option linter.unusedSimpArgs false
namespace Go.Den
section
variable {P : Program} {tab : Tab} {w0 : Base} {lim0 : Lim} {rb : Option Nat} {n : Nat}
variable {st st' : St} {a : Act} {w : World} {lim : Lim} {β : Mp} {o : Oper} {c : Comp}

theorem ok_index (hT : TabOk P tab) (h : Sim w0 lim0 rb n st a w lim β) (hd : ∀ d, o.dst = some d → d < n) {t : TypeId} {x i : Operand} (hop : o.op = .index t x i) (hc : stIndex tab o t x i st = some c) (ho : c.out st = some st') : OpOk P w0 lim0 rb n o st' a w := by
  unfold stIndex at hc
  split at hc
  · rename_i s k m hx hi
    change List UInt8 at s
    change Int at m
    cases hty : tyIs (tab t) .str with
    | false => rw [hty] at hc; cases hc
    | true =>
      rw [hty] at hc
      injection hc with hc; subst hc
      obtain ⟨hr, rfl⟩ := out_ret ho
      have hr := inRange hr
      have hm := eval_int h hi
      have hs := eval_str h hx
      have hu : P.underlying t = some .string := (hT _ _ (tyIs_some hty)).desc
      have hlt : m.toNat < s.length := by omega
      have hget : atL s m 0 = s[m.toNat] := by simp [atL, hlt]
      refine .value (v := .int .u8 (u8i (atL s m 0))) ?_ (h.plain _ _ _ hd mk_int)
      have hq : (ByteArray.mk ⟨s⟩)[m.toNat]? = some s[m.toNat] := by
        have hz : m.toNat < (ByteArray.mk ⟨s⟩).size := hlt
        rw [getElem?_pos (ByteArray.mk ⟨s⟩) m.toNat hz]; rfl
      simp [execOp, hop, hs, hm, Instr.index, asIntOf, underlying, hu, hr.1, hq, hget, u8i]
  · cases hc

theorem ok_len (hT : TabOk P tab) (h : Sim w0 lim0 rb n st a w lim β) (hd : ∀ d, o.dst = some d → d < n) {t : TypeId} {x : Operand} {cl : Call} (hop : o.op = .call cl) (hcal : cl.callee = .builtin .len) (ha : cl.args = #[x]) (hat : cl.argTypes = #[t])
    (hc : stLen tab o t x st = some c) (ho : c.out st = some st') : OpOk P w0 lim0 rb n o st' a w := by
  unfold stLen at hc
  split at hc
  · rename_i e xs hx
    change List e.val at xs
    cases hty : tyIs (tab t) (.slice e) with
    | false => rw [hty] at hc; cases hc
    | true =>
      rw [hty] at hc
      injection hc with hc; subst hc
      obtain ⟨_, rfl⟩ := out_ret ho
      obtain ⟨el, h1, h2⟩ := elemTy hT (tyIs_some hty)
      obtain ⟨b, cc, hv, hle, hs⟩ := slice_rep (hx ▸ h.ent x)
      refine .value (v := .int .i64 (lenL xs)) ?_ (h.plain _ _ _ hd mk_int)
      simp [execOp, hop, resolve, hcal, ha, hat, invoke, builtin, Builtin.len_, underlying, h1, hv, goInt, lenL]
  · rename_i s hx
    change List UInt8 at s
    cases hty : tyIs (tab t) .str with
    | false => rw [hty] at hc; cases hc
    | true =>
      rw [hty] at hc
      injection hc with hc; subst hc
      obtain ⟨_, rfl⟩ := out_ret ho
      have hu : P.underlying t = some .string := (hT _ _ (tyIs_some hty)).desc
      have hs := eval_str h hx
      refine .value (v := .int .i64 (lenL s)) ?_ (h.plain _ _ _ hd mk_int)
      simp [execOp, hop, resolve, hcal, ha, hat, invoke, builtin, Builtin.len_, underlying, hu, hs, goInt, lenL]
      rfl
  · cases hc

theorem ok_minmax (h : Sim w0 lim0 rb n st a w lim β) (hd : ∀ d, o.dst = some d → d < n) {mx : Bool} {x y : Operand} {cl : Call} (hop : o.op = .call cl) (hcal : cl.callee = .builtin (cond mx .max .min)) (ha : cl.args = #[x, y])
    (hc : stMinMax mx o x y st = some c) (ho : c.out st = some st') : OpOk P w0 lim0 rb n o st' a w := by
  unfold stMinMax at hc
  split at hc
  · rename_i k p k' q hx hy
    change Int at p
    change Int at q
    cases hk : kbeq k k' with
    | false => rw [hk] at hc; cases hc
    | true =>
      have := k_of_beq hk; subst this
      rw [hk] at hc
      injection hc with hc; subst hc
      obtain ⟨_, rfl⟩ := out_ret ho
      have h1 := eval_int h hx
      have h2 := eval_int h hy
      cases mx with
      | true =>
        refine .value (v := .int k (maxI p q)) ?_ (h.plain _ _ _ hd mk_int)
        simp [execOp, hop, resolve, hcal, ha, invoke, builtin, Builtin.max_, h1, h2, Builtin.max2, maxI]
      | false =>
        refine .value (v := .int k (minI p q)) ?_ (h.plain _ _ _ hd mk_int)
        simp [execOp, hop, resolve, hcal, ha, invoke, builtin, Builtin.min_, h1, h2, Builtin.min2, minI]
  · cases hc

theorem strOf_bytes (xs : List Int) : strOfNums xs = ⟨⟨byteList xs⟩⟩ := by
  simp [strOfNums, byteList]

theorem dep_prod {p q : Ty} {d : Nat} (h : (Ty.prod p q).dep ≤ d) : p.dep + 1 ≤ d ∧ q.dep ≤ d := by
  simp only [Ty.dep] at h
  cases hb : Nat.ble (Nat.succ p.dep) q.dep with
  | true => rw [hb] at h; have := Nat.le_of_ble_eq_true hb; simp only [cnd_true] at h; omega
  | false =>
    rw [hb] at h; simp only [cnd_false] at h
    have : ¬ (p.dep + 1 ≤ q.dep) := fun hh => by rw [Nat.ble_eq_true_of_le hh] at hb; cases hb
    omega

theorem run_eqFields (hT : TabOk P tab) (d : Nat)
    (ih : ∀ (ty : Ty) (t : TypeId) (x y : ty.val) (c1 c2 : List Value) (q : Bool), ty.dep ≤ d → TyOk P tab t ty → CRep w lim ty x c1 → CRep w lim ty y c2 → Ty.eqv ty x y = some q →
      (Op.equalIn d t (wrapV ty c1) (wrapV ty c2)).run P w = .ok q w) :
    ∀ (ty : Ty) (off : Nat) (fs : List Field) (x y : ty.val) (p1 c1 p2 c2 : List Value) (q : Bool), ty.dep ≤ d + 1 → FieldsOk tab ty off fs → CRep w lim ty x c1 → CRep w lim ty y c2 → p1.length = off → p2.length = off →
      Ty.eqv ty x y = some q → (Op.eqFields d (p1 ++ c1).toArray (p2 ++ c2).toArray fs).run P w = .ok q w := by
  intro ty
  induction ty with
  | prod p r ihp ihr =>
    intro off fs x y p1 c1 p2 c2 q hdep hf h1 h2 hl1 hl2 hq
    cases fs with
    | nil => exact hf.elim
    | cons f fs =>
      obtain ⟨k1, k2, k3, k4, k5⟩ := hf
      obtain ⟨a1, b1, rfl, ha1, hb1⟩ := h1
      obtain ⟨a2, b2, rfl, ha2, hb2⟩ := h2
      obtain ⟨hd1, hd2⟩ := dep_prod hdep
      simp only [Ty.eqv] at hq
      cases hqp : Ty.eqv p x.1 y.1 with
      | none => rw [hqp] at hq; cases hq
      | some qp =>
        cases hqr : Ty.eqv r x.2 y.2 with
        | none => rw [hqp, hqr] at hq; cases hq
        | some qr =>
          rw [hqp, hqr] at hq; injection hq with hq; subst hq
          have e1 := run_part (P := P) (hT _ _ k2) ha1 (cs := p1 ++ (a1 ++ b1)) (c1 := p1) (c3 := b1) rfl (off := f.offset) (by omega)
          have e2 := run_part (P := P) (hT _ _ k2) ha2 (cs := p2 ++ (a2 ++ b2)) (c1 := p2) (c3 := b2) rfl (off := f.offset) (by omega)
          have e3 := ih p f.type x.1 y.1 a1 a2 qp (by omega) (hT _ _ k2) ha1 ha2 hqp
          have e4 := ihr (off + p.size) fs x.2 y.2 (p1 ++ a1) b1 (p2 ++ a2) b2 qr hd2 k5 hb1 hb2 (by simp [hl1, ha1.length]) (by simp [hl2, ha2.length]) hqr
          simp only [Op.eqFields, k4, ne_eq, not_false_eq_true, if_true, Sem.run_bind, e1, e2, e3, Result.andThen_ok]
          cases qp with
          | false => simp [andB]
          | true =>
            simp only [Bool.not_true, Bool.false_eq_true, if_false, andB, Bool.true_and]
            simpa using e4
  | unit =>
    intro off fs x y p1 c1 p2 c2 q _ hf _ _ _ _ hq
    cases fs with
    | nil => simp [Ty.eqv] at hq; subst hq; simp [Op.eqFields]
    | cons f fs => exact hf.elim
  | int k => intro off fs x y p1 c1 p2 c2 q _ hf; cases fs <;> exact hf.elim
  | bool => intro off fs x y p1 c1 p2 c2 q _ hf; cases fs <;> exact hf.elim
  | str => intro off fs x y p1 c1 p2 c2 q _ hf; cases fs <;> exact hf.elim
  | slice t => intro off fs x y p1 c1 p2 c2 q _ hf; cases fs <;> exact hf.elim

theorem run_equalIn (hT : TabOk P tab) : ∀ (d : Nat) (ty : Ty) (t : TypeId) (x y : ty.val) (c1 c2 : List Value) (q : Bool), ty.dep ≤ d → TyOk P tab t ty → CRep w lim ty x c1 → CRep w lim ty y c2 → Ty.eqv ty x y = some q →
    (Op.equalIn d t (wrapV ty c1) (wrapV ty c2)).run P w = .ok q w := by
  intro d
  induction d with
  | zero =>
    intro ty t x y c1 c2 q hd
    exfalso
    cases ty <;> simp [Ty.dep] at hd
    rename_i p r
    have := (dep_prod (p := p) (q := r) (d := 0) (by simpa [Ty.dep] using hd)).1
    omega
  | succ d ih =>
    intro ty t x y c1 c2 q hdep ht h1 h2 hq
    have hdesc := ht.desc
    have strct : ∀ fs : Array Field, P.underlying t = some (.struct fs) → P.underlying t = some (.struct (P.fieldsOf t)) := fun fs hfs => by simp [Program.fieldsOf, hfs]
    cases ty with
    | int k =>
      cases h1; cases h2
      simp [Ty.eqv] at hq; subst hq
      have hu : P.underlying t = some (.int k) := hdesc
      rw [show wrapV (.int k) [Value.int k x] = .int k x from rfl, show wrapV (.int k) [Value.int k y] = .int k y from rfl, run_equalIn_int w d t k k x y hu]
      rfl
    | bool =>
      cases h1; cases h2
      simp [Ty.eqv] at hq; subst hq
      have hu : P.underlying t = some .bool := hdesc
      rw [show wrapV .bool [Value.bool x] = .bool x from rfl, show wrapV .bool [Value.bool y] = .bool y from rfl, run_equalIn_bool w d t x y hu]
      rfl
    | str =>
      cases h1; cases h2
      simp [Ty.eqv] at hq; subst hq
      have hu : P.underlying t = some .string := hdesc
      change List UInt8 at x
      change List UInt8 at y
      rw [show wrapV .str [Value.string ⟨⟨x⟩⟩] = .string ⟨⟨x⟩⟩ from rfl, show wrapV .str [Value.string ⟨⟨y⟩⟩] = .string ⟨⟨y⟩⟩ from rfl, run_equalIn_string w d t _ _ hu, toList_str, toList_str]
      have : (x == y) = eqS x y := by unfold eqS; rw [Bool.eq_iff_iff]; simp
      rw [this]
    | unit =>
      obtain ⟨fs, hfs, hf⟩ := hdesc
      have hfo : P.fieldsOf t = fs := by simp [Program.fieldsOf, hfs]
      rw [show wrapV .unit c1 = .agg c1.toArray from rfl, show wrapV .unit c2 = .agg c2.toArray from rfl, run_equalIn_struct w d t _ _ (strct fs hfs) (ht.cmp rfl).1, hfo]
      exact run_eqFields hT d (fun ty t x y c1 c2 q h1 h2 h3 h4 h5 => ih ty t x y c1 c2 q h1 h2 h3 h4 h5) .unit 0 fs.toList x y [] c1 [] c2 q hdep hf h1 h2 rfl rfl hq
    | prod p r =>
      obtain ⟨fs, hfs, hf⟩ := hdesc
      have hfo : P.fieldsOf t = fs := by simp [Program.fieldsOf, hfs]
      rw [show wrapV (.prod p r) c1 = .agg c1.toArray from rfl, show wrapV (.prod p r) c2 = .agg c2.toArray from rfl, run_equalIn_struct w d t _ _ (strct fs hfs) (ht.cmp rfl).1, hfo]
      exact run_eqFields hT d (fun ty t x y c1 c2 q h1 h2 h3 h4 h5 => ih ty t x y c1 c2 q h1 h2 h3 h4 h5) (.prod p r) 0 fs.toList x y [] c1 [] c2 q hdep hf h1 h2 rfl rfl hq
    | slice e => simp [Ty.eqv] at hq

theorem ok_bin (hT : TabOk P tab) (h : Sim w0 lim0 rb n st a w lim β) (hd : ∀ d, o.dst = some d → d < n) {op : BinOp} {xt yt : TypeId} {x y : Operand} (hop : o.op = .binOp op xt x y yt) (hc : stBin tab o op xt x y st = some c) (ho : c.out st = some st') : OpOk P w0 lim0 rb n o st' a w := by
  unfold stBin at hc
  cases hb : binAV tab op xt (st.ent x).av (st.ent y).av with
  | none => rw [hb] at hc; cases hc
  | some cv =>
    obtain ⟨chk, av⟩ := cv
    rw [hb] at hc
    injection hc with hc; subst hc
    obtain ⟨hchk, rfl⟩ := out_ret ho
    have main : ∃ v, (eqGuard op xt x y (a.eval x) (a.eval y)).run P w = .ok () w ∧ (binOp op xt (a.eval x) (a.eval y)).run P w = .ok v w ∧ ERep st w lim β rb av v := by
      unfold binAV at hb
      split at hb
      · rename_i k p k' q hx hy
        cases hk : kbeq k k' with
        | false => rw [hk] at hb; cases hb
        | true =>
          have := k_of_beq hk; subst this
          rw [hk] at hb
          rw [eval_int h hx, eval_int h hy]
          exact run_intOp hb hchk
      · rename_i p q hx hy
        rw [eval_str h hx, eval_str h hy]
        exact run_strOp hb hchk
      · rename_i t p u q hn1 hn2 hx hy
        cases hg : cnd (tyIs (tab xt) t) (Nat.ble (Ty.dep t) 1000) false with
        | false => rw [hg] at hb; cases hb
        | true =>
          rw [hg] at hb
          cases hcast : Ty.cast u t q with
          | none => rw [hcast] at hb; cases hb
          | some q' =>
            rw [hcast] at hb
            obtain ⟨e, hq'⟩ := cast_some hcast
            subst e; subst hq'
            have hty : tyIs (tab xt) u = true ∧ Ty.dep u ≤ 1000 := by
              cases ht : tyIs (tab xt) u with
              | false => rw [ht] at hg; cases hg
              | true => rw [ht] at hg; exact ⟨rfl, Nat.le_of_ble_eq_true hg⟩
            have htok := hT _ _ (tyIs_some hty.1)
            cases hq : Ty.eqv u p q' with
            | none => simp only [hq] at hb; cases hb
            | some r =>
              simp only [hq] at hb
              obtain ⟨cx, hcx, hvx⟩ := (hx ▸ h.ent x : ERep st w lim β rb (.dat u p) (a.eval x))
              obtain ⟨cy, hcy, hvy⟩ := (hy ▸ h.ent y : ERep st w lim β rb (.dat u q') (a.eval y))
              have heq : ∀ d, 1000 ≤ d → (Op.equalIn d xt (a.eval x) (a.eval y)).run P w = .ok r w := fun d hdd => by
                rw [hvx, hvy]; exact run_equalIn hT d u xt p q' cx cy r (Nat.le_trans hty.2 hdd) htok hcx hcy hq
              have fin : ∀ {op : BinOp} {b : Bool}, (eqGuard op xt x y (a.eval x) (a.eval y)).run P w = .ok () w → (binOp op xt (a.eval x) (a.eval y)).run P w = .ok (.bool b) w → some (none, AV.dat .bool b) = some (chk, av) →
                  ∃ v, (eqGuard op xt x y (a.eval x) (a.eval y)).run P w = .ok () w ∧ (binOp op xt (a.eval x) (a.eval y)).run P w = .ok v w ∧ ERep st w lim β rb av v := by
                intro op b g1 g2 g3
                injection g3 with g3; injection g3 with _ g3; subst g3
                exact ⟨_, g1, g2, mk_bool⟩
              have hcase : (∃ b1 b2, a.eval x = .bool b1 ∧ a.eval y = .bool b2) ∨ (isProd u = true ∧ ∃ c1 c2, a.eval x = .agg c1 ∧ a.eval y = .agg c2) := by
                cases u with
                | bool => cases hcx; cases hcy; exact .inl ⟨_, _, hvx, hvy⟩
                | unit => exact .inr ⟨rfl, _, _, hvx, hvy⟩
                | prod _ _ => exact .inr ⟨rfl, _, _, hvx, hvy⟩
                | int k => exact (hn1 k p k q' rfl HEq.rfl rfl HEq.rfl).elim
                | str => exact (hn2 p q' rfl HEq.rfl rfl HEq.rfl).elim
                | slice e => simp [Ty.eqv] at hq
              have e10 := heq 10000 (by omega)
              rcases hcase with ⟨b1, b2, hb1, hb2⟩ | ⟨hpr, c1, c2, hb1, hb2⟩
              · rw [hb1, hb2] at e10 fin ⊢
                have heqv : (Op.equal xt (.bool b1) (.bool b2)).run P w = .ok r w := e10
                cases op <;> first | (cases hb; done) | skip
                · exact fin (by simp [eqGuard]) (by simp [binOp, heqv]) hb
                · exact fin (by simp [eqGuard]) (by simp [binOp, heqv, notB]) hb
              · rw [hb1, hb2] at e10 fin ⊢
                have hgd := run_eqGuard_agg (P := P) (w := w) op xt x y c1 c2 (htok.cmp hpr).2
                cases op <;> first | (cases hb; done) | skip
                · exact fin hgd (by rw [run_eql_struct, e10]; rfl) hb
                · exact fin hgd (by rw [run_neq_struct, e10]; rfl) hb
      · cases hb
    obtain ⟨v, g1, g2, g3⟩ := main
    refine .value (v := v) ?_ (h.plain _ _ _ hd g3)
    simp [execOp, hop, g1, g2]
end
end Go.Den
