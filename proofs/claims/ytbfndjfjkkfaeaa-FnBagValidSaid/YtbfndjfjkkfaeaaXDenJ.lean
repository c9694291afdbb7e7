/- The operations without memory of their own, third part: numbers, strings, places. -/
import Derived.Test.YtbfndjfjkkfaeaaXDenI
set_option linter.unusedVariables false
set_option linter.unusedSimpArgs false
namespace Go.Den
section
variable {P : Program} {tab : Tab} {w0 : Base} {lim0 : Lim} {rb : Option Nat} {n : Nat}
variable {st st' : St} {a : Act} {w : World} {lim : Lim} {β : Mp} {o : Oper} {c : Comp}

theorem kbeq_eq {k l : IntKind} (h : kbeq k l = true) : k = l := k_of_beq h
theorem toList_str (x : List UInt8) : (ByteArray.mk ⟨x⟩).toList = x := by
  rw [ByteArray.toList_eq]

theorem eval_int (h : Sim w0 lim0 rb n st a w lim β) {x : Operand} {k : IntKind} {v : Int} (hx : (st.ent x).av = .dat (.int k) v) : a.eval x = .int k v := int_rep (hx ▸ h.ent x)
theorem eval_bool (h : Sim w0 lim0 rb n st a w lim β) {x : Operand} {v : Bool} (hx : (st.ent x).av = .dat .bool v) : a.eval x = .bool v := bool_rep (hx ▸ h.ent x)
theorem eval_str (h : Sim w0 lim0 rb n st a w lim β) {x : Operand} {v : List UInt8} (hx : (st.ent x).av = .dat .str v) : a.eval x = .string ⟨⟨v⟩⟩ := str_rep (hx ▸ h.ent x)

theorem ok_un (h : Sim w0 lim0 rb n st a w lim β) (hd : ∀ d, o.dst = some d → d < n) {op : UnOp} {t : TypeId} {x : Operand} (hop : o.op = .unOp op t x) (hc : stUn o op x st = some c) (ho : c.out st = some st') : OpOk P w0 lim0 rb n o st' a w := by
  unfold stUn at hc
  split at hc
  · rename_i b hx
    injection hc with hc; subst hc
    obtain ⟨_, rfl⟩ := out_ret ho
    have hev := eval_bool h hx
    exact .value (v := .bool (notB b)) (by simp [execOp, hop, hev, Op.unary, notB]) (h.plain _ _ _ hd mk_bool)
  · rename_i k m hx
    injection hc with hc; subst hc
    obtain ⟨_, rfl⟩ := out_ret ho
    have hev := eval_int h hx
    exact .value (v := .int k (wrapI k (subI 0 m))) (by simp [execOp, hop, hev, Op.unary, Op.intArith, wrapI, subI]) (h.plain _ _ _ hd mk_int)
  · cases hc

theorem run_intOp {op : BinOp} {k : IntKind} {x y : Int} {av : AV} {xt : TypeId} {ox oy : Operand} {ck : Option Bool} (hi : intOp op k x y = some (ck, av)) (hck : chkB ck = true) :
    ∃ v, ((eqGuard op xt ox oy (.int k x) (.int k y)).run P w = .ok () w) ∧ (binOp op xt (.int k x) (.int k y)).run P w = .ok v w ∧ ERep st w lim β rb av v := by
  have hg : (eqGuard op xt ox oy (.int k x) (.int k y)).run P w = .ok () w := by
    unfold eqGuard; cases op <;> simp
  cases op <;> simp only [intOp, reduceCtorEq] at hi
  all_goals
    injection hi with hi
    injection hi with h1 h2
    subst h1
  case add => subst h2; exact ⟨_, hg, by simp [binOp, Op.intArith]; rfl, mk_int⟩
  case sub => subst h2; exact ⟨_, hg, by simp [binOp, Op.intArith]; rfl, mk_int⟩
  case mul => subst h2; exact ⟨_, hg, by simp [binOp, Op.intArith]; rfl, mk_int⟩
  case quo =>
    subst h2
    have hy : y ≠ 0 := by simpa [notB, eqI] using hck
    exact ⟨_, hg, by simp [binOp, Op.intDiv, hy]; rfl, mk_int⟩
  case rem =>
    subst h2
    have hy : y ≠ 0 := by simpa [notB, eqI] using hck
    exact ⟨_, hg, by simp [binOp, Op.intDiv, hy]; rfl, mk_int⟩
  case xor => subst h2; exact ⟨.int k (xorI k x y), hg, by simp only [binOp, ne_eq, not_true_eq_false, if_false, Op.intBits, Sem.run_pure, xorI], mk_int⟩
  case eql => subst h2; exact ⟨.bool (eqI x y), hg, by simp [binOp, Op.intCmp, eqI]; rfl, mk_bool⟩
  case neq => subst h2; exact ⟨.bool (notB (eqI x y)), hg, by simp [binOp, Op.intCmp, eqI, notB]; rfl, mk_bool⟩
  case lss => subst h2; exact ⟨.bool (ltI x y), hg, by simp [binOp, Op.intCmp, ltI], mk_bool⟩
  case leq => subst h2; exact ⟨.bool (leI x y), hg, by simp [binOp, Op.intCmp, leI], mk_bool⟩
  case gtr => subst h2; exact ⟨.bool (ltI y x), hg, by simp [binOp, Op.intCmp, ltI], mk_bool⟩
  case geq => subst h2; exact ⟨.bool (leI y x), hg, by simp [binOp, Op.intCmp, leI], mk_bool⟩

theorem run_strOp {op : BinOp} {x y : List UInt8} {av : AV} {xt : TypeId} {ox oy : Operand} {ck : Option Bool} (hi : strOp op x y = some (ck, av)) (hck : chkB ck = true) :
    ∃ v, ((eqGuard op xt ox oy (.string ⟨⟨x⟩⟩) (.string ⟨⟨y⟩⟩)).run P w = .ok () w) ∧ (binOp op xt (.string ⟨⟨x⟩⟩) (.string ⟨⟨y⟩⟩)).run P w = .ok v w ∧ ERep st w lim β rb av v := by
  have hg : (eqGuard op xt ox oy (.string ⟨⟨x⟩⟩) (.string ⟨⟨y⟩⟩)).run P w = .ok () w := by
    unfold eqGuard; cases op <;> simp
  have heq : (x == y) = eqS x y := by unfold eqS; rw [Bool.eq_iff_iff]; simp
  cases op <;> simp only [strOp, reduceCtorEq] at hi
  all_goals
    injection hi with hi
    injection hi with h1 h2
    subst h1
    subst h2
  case add =>
    have hlt : ((x.length : Int) + y.length) < big := of_decide_eq_true hck
    refine ⟨.string ⟨⟨x ++ y⟩⟩, hg, ?_, mk_str⟩
    have hs : ∀ z : List UInt8, (ByteArray.mk ⟨z⟩).size = z.length := fun z => rfl
    have hn : ¬ (IntKind.i64.max < ((x.length : Int) + (y.length : Int))) := by
      have : IntKind.i64.max = 9223372036854775807 := by decide
      unfold big at hlt; omega
    simp only [binOp, Op.stringOp, hs]
    rw [if_neg (by simpa using hn)]
    have : (ByteArray.mk ⟨x⟩ ++ ByteArray.mk ⟨y⟩) = ByteArray.mk ⟨x ++ y⟩ := by
      apply ByteArray.ext
      simp
    rw [this]; rfl
  case eql => exact ⟨.bool (eqS x y), hg, by simp [binOp, Op.stringOp, heq], mk_bool⟩
  case neq => exact ⟨.bool (notB (eqS x y)), hg, by simp [binOp, Op.stringOp, heq, notB], mk_bool⟩
  case lss => exact ⟨.bool (lessS x y), hg, by simp [binOp, Op.stringOp, lessS], mk_bool⟩
  case leq => exact ⟨.bool (orB (lessS x y) (eqS x y)), hg, by simp [binOp, Op.stringOp, lessS, orB, heq], mk_bool⟩
  case gtr => exact ⟨.bool (notB (orB (lessS x y) (eqS x y))), hg, by simp [binOp, Op.stringOp, lessS, orB, heq, notB], mk_bool⟩
  case geq => exact ⟨.bool (notB (lessS x y)), hg, by simp [binOp, Op.stringOp, lessS, notB], mk_bool⟩

/-! ### places -/
theorem addr_add (b o m : Nat) : (⟨b, o, none⟩ : Addr).add m = ⟨b, o + m, none⟩ := by unfold Addr.add; split <;> simp_all

/-- a struct's field, in the tables and in the reading -/
theorem fields_at : ∀ {t : Ty} {off : Nat} {fs : List Field} {x : t.val} {i : Nat} {d : Dat}, FieldsOk tab t off fs → getF t x i = some d →
    ∃ f, fs[i]? = some f ∧ f.offset = off + offs t [i] ∧ tab f.type = some d.1 ∧ d.1.size ≠ 0 := by
  intro t
  induction t with
  | prod p q ihp ihq =>
    intro off fs x i d hf hg
    cases fs with
    | nil => exact hf.elim
    | cons f fs =>
      obtain ⟨h1, h2, h3, _, h4⟩ := hf
      cases i with
      | zero => simp [getF] at hg; subst hg; exact ⟨f, rfl, by simp [offs, h1], h2, h3⟩
      | succ i =>
        simp only [getF] at hg
        obtain ⟨f', k1, k2, k3, k4⟩ := ihq h4 hg
        exact ⟨f', by simpa using k1, by simp only [offs]; omega, k3, k4⟩
  | int k => intro off fs x i d _ hg; simp [getF] at hg
  | bool => intro off fs x i d _ hg; simp [getF] at hg
  | str => intro off fs x i d _ hg; simp [getF] at hg
  | unit => intro off fs x i d _ hg; simp [getF] at hg
  | slice t => intro off fs x i d _ hg; simp [getF] at hg
theorem struct_of (hT : TabOk P tab) {s : TypeId} {ty : Ty} {x : ty.val} {i : Nat} {d : Dat} (hs : tab s = some ty) (hg : getF ty x i = some d) :
    ∃ fs : Array Field, P.underlying s = some (.struct fs) ∧ ∃ f, fs[i]? = some f ∧ f.offset = offs ty [i] ∧ TyOk P tab f.type d.1 ∧ d.1.size ≠ 0 := by
  have hd := (hT s ty hs).desc
  cases ty with
  | prod p q =>
    obtain ⟨fs, h1, h2⟩ := hd
    obtain ⟨f, k1, k2, k3, k4⟩ := fields_at h2 hg
    exact ⟨fs, h1, f, by simpa using k1, by omega, hT _ _ k3, k4⟩
  | _ => simp [getF] at hg
theorem run_fieldAt (hT : TabOk P tab) {s : TypeId} {ty : Ty} {x : ty.val} {i : Nat} {d : Dat} (hs : tab s = some ty) (hg : getF ty x i = some d) {b oo : Nat} :
    (Instr.fieldAt s (.pointer (some ⟨b, oo, none⟩)) i).run P w = .ok (.pointer (some ⟨b, oo + offs ty [i], none⟩)) w := by
  obtain ⟨fs, h1, f, h2, h3, h4, h5⟩ := struct_of hT hs hg
  simp [Instr.fieldAt, underlying, h1, h2, Instr.sureAddr, fieldPlace, run_sizeOf h4, h5, h3, addr_add]

theorem getP_snoc : ∀ {p : List Nat} {t : Ty} {x : t.val} {y z : Dat} {i : Nat}, getP t x p = some y → getF y.1 y.2 i = some z → getP t x (p ++ [i]) = some z ∧ offs t (p ++ [i]) = offs t p + offs y.1 [i]
  | [], t, x, y, z, i, h, hf => by
    simp [getP] at h; subst h
    exact ⟨by simp [getP, hf], by simp [offs]⟩
  | j :: p, t, x, y, z, i, h, hf => by
    simp only [getP] at h
    cases hg : getF t x j with
    | none => rw [hg] at h; cases h
    | some d =>
      rw [hg] at h
      obtain ⟨h1, h2⟩ := getP_snoc h hf
      refine ⟨by simp only [List.cons_append, getP, hg]; exact h1, ?_⟩
      simp only [List.cons_append]
      rw [(getF_typeAt (p ++ [i]) hg).2, (getF_typeAt p hg).2, h2]; omega

theorem ok_fieldAddr (hT : TabOk P tab) (h : Sim w0 lim0 rb n st a w lim β) (hd : ∀ d, o.dst = some d → d < n) {s : TypeId} {x : Operand} {f : Nat} (hop : o.op = .fieldAddr s x f) (hc : stFieldAddr tab o s x f st = some c) (ho : c.out st = some st') : OpOk P w0 lim0 rb n o st' a w := by
  unfold stFieldAddr at hc
  have hx := h.ent x
  cases hx' : (st.ent x).av with
  | cel b p =>
    rw [hx'] at hc hx
    obtain ⟨d, h1, h2⟩ := hx
    simp only [h1] at hc
    cases hp : getP d.1 d.2 p with
    | none => rw [hp] at hc; cases hc
    | some y =>
      rw [hp] at hc; simp only [] at hc
      cases hty : tyIs (tab s) y.1 with
      | false => rw [hty] at hc; cases hc
      | true =>
        cases hf : getF y.1 y.2 f with
        | none => rw [hty, hf] at hc; cases hc
        | some z =>
          rw [hty, hf] at hc
          injection hc with hc; subst hc
          obtain ⟨_, rfl⟩ := out_ret ho
          refine .value (by simp [execOp, hop, h2, run_fieldAt hT (tyIs_some hty) hf] <;> rfl) (h.plain _ _ _ hd ⟨d, h1, ?_⟩)
          rw [(getP_snoc hp hf).2]
  | ref u y =>
    rw [hx'] at hc hx
    simp only [] at hc
    obtain ⟨b, oo, cs, h1, h2, h3, h4, h5⟩ := hx
    cases hty : tyIs (tab s) u with
    | false => rw [hty] at hc; cases hc
    | true =>
      cases hf : getF u y f with
      | none => rw [hty, hf] at hc; cases hc
      | some z =>
        rw [hty, hf] at hc
        injection hc with hc; subst hc
        obtain ⟨_, rfl⟩ := out_ret ho
        obtain ⟨c1, c2, c3, k1, k2, k3, _⟩ := h3.field hf
        refine .value (by simp [execOp, hop, h1, run_fieldAt hT (tyIs_some hty) hf] <;> rfl) (h.plain _ _ _ hd ⟨b, oo + offs u [f], c2, rfl, h2, k3, under_le h4 ?_, fun j v hj => ?_⟩)
        · have := h3.length
          rw [k1] at this; simp at this
          have := k3.length
          omega
        · rw [Nat.add_assoc]
          refine h5 _ _ ?_
          rw [k1, List.getElem?_append_right (by omega)]
          rw [show offs u [f] + j - c1.length = j by omega, List.getElem?_append_left (List.getElem?_eq_some_iff.1 hj).1]; exact hj
  | rdr p =>
    rw [hx'] at hc hx
    obtain ⟨d, b, h1, h2, h3⟩ := hx
    simp only [h1] at hc
    cases hp : getP d.1 d.2 p with
    | none => rw [hp] at hc; cases hc
    | some y =>
      rw [hp] at hc; simp only [] at hc
      cases hty : tyIs (tab s) y.1 with
      | false => rw [hty] at hc; cases hc
      | true =>
        cases hf : getF y.1 y.2 f with
        | none => rw [hty, hf] at hc; cases hc
        | some z =>
          rw [hty, hf] at hc
          injection hc with hc; subst hc
          obtain ⟨_, rfl⟩ := out_ret ho
          refine .value (by simp [execOp, hop, h3, run_fieldAt hT (tyIs_some hty) hf] <;> rfl) (h.plain _ _ _ hd ⟨d, b, h1, h2, ?_⟩)
          rw [(getP_snoc hp hf).2]
  | _ => rw [hx'] at hc; cases hc
end
end Go.Den
