/- Functions that write the arrays of their first argument. -/
import Derived.Below
import Derived.ChangeOld
import Derived.OpenShut
import Derived.ProofKit
import Derived.SizedLaws
import Derived.Test.YtojleoiiijlhaaaGreatXDm3
set_option linter.unusedVariables false
set_option linter.unusedSimpArgs false
namespace Go.Den
section
variable {P : Program} {tab : Tab} {G : Gam}

def startK (w : World) (rdty : Ty) (cs : List Value) : Nat → List Nat → Value := match rdty, (cs[0]? : Option Value) with
  | Ty.slice e, some (Value.slice (some a) _ _) => fun n q => (w.cell? ⟨a.block, n * e.size + offs e q, none⟩).getD undef
  | _, _ => fun _ _ => undef
theorem startK_ok {w : World} {e : Ty} {rd : (Ty.slice e).val} {cs : List Value} {B : Nat → Prop} (hX : XRep w (.slice e) rd cs B) {q : List Nat} {e' : Ty} {g m c n : Nat} (hq : typeAt e q = some (.slice e'))
    (hV : cs[0]? = some (.slice (some ⟨g, 0, none⟩) m c)) (hn : n < m) : w.cell? ⟨g, n * e.size + offs e q, none⟩ = some (startK w (.slice e) cs n q) := by
  have hk : startK w (.slice e) cs n q = (w.cell? ⟨g, n * e.size + offs e q, none⟩).getD undef := by simp only [startK, hV]
  rw [hk]
  rcases hX with ⟨h1, _⟩ | ⟨g', c', arr, el, fr, Bs, h1, h2, h3, h4, hf, h5, h6, h7, h8⟩
  · rw [h1] at hV; cases hV
  · rw [h1] at hV
    injection hV with hV
    injection hV with k1 k2 k3
    injection k1 with k1
    injection k1 with k1
    subst k1
    obtain ⟨ds, m1, m2⟩ := h8 n ((show List e.val from rd)[n]'(by rw [k2]; exact hn)) (List.getElem?_eq_getElem _)
    have hl := typeAt_lt hq
    have hs : (Ty.slice e').size = 1 := rfl
    have hdl := m1.length
    have := m2 (offs e q) _ (List.getElem?_eq_getElem (by omega))
    have hc : w.cell? ⟨g', n * e.size + offs e q, none⟩ = arr[n * e.size + offs e q]? := by simp [World.cell?, h4]
    rw [hc, this]; rfl
theorem start_mut {b rdty : Ty} {w : World} {lim : Lim} {x : b.val} {rd : rdty.val} {vs : List Value} {cs : List Value} {B : Nat → Prop} (m : Nat) (hX : XRep w rdty rd cs B) (hB : ∀ g, B g → lim g = some 0) (hargs : ArgsRep w lim none b x vs) :
    Sim { w with X := B, mu := true, V0 := wrapV rdty cs } lim none ((wrapV rdty cs :: vs).toArray ++ Array.replicate (m - (wrapV rdty cs :: vs).toArray.size) undef).size (startMut b rdty x rd)
      { tmps := (wrapV rdty cs :: vs).toArray ++ Array.replicate (m - (wrapV rdty cs :: vs).toArray.size) undef, defers := [] } w lim ⟨fun _ => 0, fun _ => 0, fun _ => wrapV rdty cs, fun _ => B, startK w rdty cs⟩ := by
  obtain ⟨q1, q2, q3, q4⟩ := putArgs_rest (t := b) (x := x) (i := 1)
  obtain ⟨t1, t2⟩ := putArgs_trees (t := b) (x := x) (i := 1)
  have henv := putArgs_env (i := 1) hargs
  have hcr : CRep w (fun _ => none) rdty rd cs := hX.crep (fun _ _ => rfl)
  have hfl : flatV (wrapV rdty cs) = cs := flat_wrap hcr
  have he : ∀ t, (startMut b rdty x rd).env t = cnd (Nat.beq t 0) ⟨.xf 0 [], none⟩ ((putArgs b x 1).env t) := fun _ => rfl
  have hio : ∀ r d, (startMut b rdty x rd).io r = some d → r = 0 ∧ d = ⟨rdty, rd⟩ := by
    intro r d hr
    have hr : cnd (Nat.beq r 0) (some (⟨rdty, rd⟩ : Dat)) none = some d := hr
    cases hq : Nat.beq r 0 with
    | true => rw [hq] at hr; injection hr with hr; exact ⟨nbeq hq, hr.symm⟩
    | false => rw [hq] at hr; cases hr
  have hxb : ∀ k, (startMut b rdty x rd).xb k = none := fun k => t2 k
  have hbx : ∀ k, (startMut b rdty x rd).box k = none := fun k => q2 k
  have hown : ∀ l, (startMut b rdty x rd).own l = false := by
    intro l
    cases l with
    | box c p => exact q3 _
    | tmp u p =>
      have : (startMut b rdty x rd).own (.tmp u p) = cnd (Nat.beq u 0) (inPaths p []) ((putArgs b x 1).own (.tmp u p)) := rfl
      rw [this]
      cases Nat.beq u 0 with
      | true => rfl
      | false => exact q3 _
  refine ⟨rfl, rfl, ⟨rfl, rfl, rfl, Nat.le_refl _, fun _ _ _ _ => rfl⟩, fun _ _ => rfl, fun t => ?_, fun k d hk => (by rw [hbx] at hk; cases hk), fun k c d d' hk => (by rw [hbx] at hk; cases hk), fun l hl => (by rw [hown] at hl; cases hl),
    fun l g hl => (by rw [hown] at hl; cases hl), fun l l' g hl => (by rw [hown] at hl; cases hl), fun t l hl => ?_, fun d hd => ?_, ?_⟩
  · rw [he]
    cases hq : Nat.beq t 0 with
    | true =>
      have := nbeq hq; subst this
      refine ⟨⟨rdty, rd⟩, rfl, .inr ⟨rdty, by cases rdty <;> rfl, ?_⟩⟩
      simp only [offs_nil, List.drop_zero, hfl]
      rw [← hX.length, List.take_length]
      simp only [tmpOf]
      rw [Array.getD_eq_getD_getElem?, Array.getElem?_append_left (by simp)]
      simp
    | false =>
      simp only [cnd_false]
      rcases henv t with h1 | ⟨k, v, h1, h2, h3⟩
      · rw [h1]; trivial
      · rcases h3 with ⟨c, y, h3, h4⟩ | ⟨_, g, h4, _⟩
        · have hv : tmpOf { tmps := (wrapV rdty cs :: vs).toArray ++ Array.replicate (m - (wrapV rdty cs :: vs).toArray.size) undef, defers := [] } t = v := by
            have hk := (List.getElem?_eq_some_iff.1 h2).1
            subst h1
            simp only [tmpOf]
            rw [Array.getD_eq_getD_getElem?, Array.getElem?_append_left (by simp; omega)]
            simp [Nat.add_comm 1 k, h2]
          rw [hv, h3]; exact h4
        · cases h4
  · rw [he] at hl
    cases hq : Nat.beq t 0 with
    | true => rw [hq] at hl; cases hl
    | false => rw [hq] at hl; simp only [cnd_false, q1] at hl; cases hl
  · have hd : (putArgs b x 1).rd = some d := hd
    rw [q4] at hd; cases hd
  · refine ⟨fun r d hr => ?_, fun r d g hr hg => ?_, fun r d g hr hg c d' hc => (by rw [hbx] at hc; cases hc), fun r d g hr hg l hl => (by rw [hown] at hl; cases hl), fun r d r' d' g hr hr' hg hg' => ?_, fun k t o hk => (by rw [hxb] at hk; cases hk), fun k t o hk => (by rw [hxb] at hk; cases hk),
      fun k c t o t' o' hk => (by rw [hxb] at hk; cases hk), fun d hd _ => ⟨rfl, rfl⟩, fun d hd e q e' g m c k he1 hq hV hk => ?_⟩
    · obtain ⟨e1, e2⟩ := hio r d hr
      subst e2
      simp only [hfl]; exact hX
    · exact ⟨.inr hg, by simp, hB g hg⟩
    · rw [(hio r d hr).1, (hio r' d' hr').1]
    · have hdd := (hio 0 d hd).2
      subst hdd
      simp only at he1
      subst he1
      simp only [hfl] at hV
      exact startK_ok hX hq hV hk

theorem mut_ok (hT : TabOk P tab) (hG : GamOk P G) (hm : P.follows .mixedOrders = true) {f : FuncId} {fn : Func} {c : Code} (hf : P.funcs[f]? = some fn) (hname : (fn.name == "runtime.NumGoroutine") = false) (hb : fn.body = some c)
    (b rdty rty : Ty) (one : Bool) (g : (Ty.prod .unit b).val → rdty.val → Option (rty.val × rdty.val)) (hone : Nat.beq fn.results.toList.length 1 = one) {ann : Ann} {fuel : Nat}
    (hfn : ∀ x rd r, g ((), x) rd = some r → evalMut tab G ann fuel fn b rdty rty x rd = some r) :
    FnOk P f { aty := .prod .unit b, rdty := rdty, usesRd := true, rty := rty, one := one, own := [], opens := false, muts := true, fn := g } := by
  refine ⟨fun args w => ?_, fun _ _ h => (by cases h), fun g hg => (by cases hg), fun _ h => (by cases h), fun _ _ x rd r hr w lim vals B hargs hB => ?_⟩
  · have h1 : fn.name ≠ "runtime.NumGoroutine" := by simpa using hname
    simp [callFunc, hf, h1, hb]
  · obtain ⟨⟨⟩, x⟩ := x
    have he := hfn x rd r hr
    cases vals with
    | nil => exact hargs.elim
    | cons v0 vs =>
    obtain ⟨⟨cs, hv0, hX⟩, hrest⟩ := hargs
    subst hv0
    unfold evalMut at he
    rw [hb] at he
    simp only [] at he
    cases hdst : dstsOk fn.ntmps c with
    | false => rw [hdst] at he; cases he
    | true =>
    rw [hdst] at he
    simp only [cnd_true] at he
    refine calls_of_wp hf hb ?_
    have hsim := start_mut fn.ntmps hX hB hrest
    have hcr : CRep w (fun _ => none) rdty rd cs := hX.crep (fun _ _ => rfl)
    have hfl : flatV (wrapV rdty cs) = cs := flat_wrap hcr
    have hend : ∀ st', finMut tab fn.results.toList rdty rty st' = some r → ∀ a' w' lim' β', Sim { w with X := B, mu := true, V0 := wrapV rdty cs } lim none ((wrapV rdty cs :: vs).toArray ++ Array.replicate (fn.ntmps - (wrapV rdty cs :: vs).toArray.size) undef).size st' a' w' lim' β' →
        a'.defers = [] ∧ ∃ v, (results fn a'.tmps).run P w' = .ok v w' ∧ MutOk w { aty := .prod .unit b, rdty := rdty, usesRd := true, rty := rty, one := one, own := [], opens := false, muts := true, fn := g } r B (wrapV rdty cs :: vs) (.returned v) w' := by
      intro st' hfin a' w' lim' β' hs
      refine ⟨hs.defers, ?_⟩
      unfold finMut at hfin
      cases h1 : resVals tab st' rty fn.results.toList with
      | none => rw [h1] at hfin; cases hfin
      | some y =>
        cases h2 : st'.io 0 with
        | none => rw [h1, h2] at hfin; cases hfin
        | some d =>
          rw [h1, h2] at hfin; simp only [] at hfin
          cases h3 : Ty.cast d.1 rdty d.2 with
          | none => rw [h3] at hfin; cases hfin
          | some z =>
            rw [h3] at hfin; injection hfin with hfin; subst hfin
            obtain ⟨vals', m1, m2, m3, _⟩ := resVals_ok hT hs h1
            have hrun : (results fn a'.tmps).run P w' = .ok (if h : vals'.toArray.size = 1 then vals'.toArray[0] else .tuple vals'.toArray) w' := by
              unfold results
              rw [show fn.results = fn.results.toList.toArray by simp, List.mapM_toArray]
              simp only [Sem.run_bind, Sem.run_map]
              rw [m1]
              · simp
              · intro u; rfl
              · intro c t; rfl
            obtain ⟨e1, e2⟩ := cast_some h3
            obtain ⟨dt, dv⟩ := d
            simp only at e1 e2
            subst e1
            obtain ⟨k1, k2⟩ := hs.xs.fix _ h2 rfl
            have hXe := hs.xs.io 0 _ h2
            rw [k1, k2] at hXe
            have hXe : XRep w' dt dv (flatV (wrapV dt cs)) B := hXe
            rw [hfl] at hXe
            refine ⟨_, hrun, _, rfl, hs.grow.os, hs.grow.tape, hs.grow.output, hs.grow.size, fun k hk hn => hs.grow.block k hk (by simp) hn, ?_, cs, rfl, by show XRep w' dt z cs B; rw [e2]; exact hXe⟩
            have hext : Ext w' lim' w' (fun _ => none) := ⟨Nat.le_refl _, fun _ _ _ _ _ h => h, fun _ _ _ _ k hk => by cases hk⟩
            cases one with
            | true =>
              have hl := nbeq hone
              obtain ⟨v, rfl⟩ := List.length_eq_one_iff.1 (m3.trans hl)
              have : ERep st00 w' (fun _ => none) mp0 none (resAV rty true y) v := one_rep (m2.mono hext)
              simpa using this
            | false =>
              have hl : fn.results.toList.length ≠ 1 := fun e => by rw [e] at hone; cases hone
              rw [dif_neg (by simp only [List.size_toArray]; rw [m3]; exact hl)]
              have : resAV rty false y = .tup rty y := by unfold resAV; split <;> simp_all
              show ERep st00 w' (fun _ => none) mp0 none (resAV rty false y) _
              rw [this]
              exact ⟨vals', rfl, m2.mono hext⟩
    refine eval_sound (m := fn.ntmps) hT hG hm (fun k hk => by cases hk) (by simp; omega) c _ _ _ _ _ r hdst he _ _ _ _ _ hsim (fun st' hk a' w' lim' β' hs => hend st' hk a' w' lim' β' hs) (fun st' hk a' w' lim' β' hs => hend st' hk a' w' lim' β' hs) (fun i st' hk => by cases hk)
end
end Go.Den

namespace Go.Den
structure Atoms where
  cndS : {α : Type} → (c : Bool) → (x y : α) → α
  obind : {α β : Type} → (x : Option α) → (f : α → Option β) → Option β
  sumE : {α β γ : Type} → (e : α ⊕ β) → (f : α → γ) → (g : β → γ) → γ
  iter : {σ ρ : Type} → Nat → (σ → Option (σ ⊕ ρ)) → σ → Option ρ
  le0 : (n : Int) → Bool
  leI : (a b : Int) → Bool
  ltI : (a b : Int) → Bool
  lenL : {α : Type} → (xs : List α) → Int
  takeL : {α : Type} → (xs : List α) → (n : Int) → List α
  dropL : {α : Type} → (xs : List α) → (n : Int) → List α
  atL : {α : Type} → (xs : List α) → (n : Int) → (d : α) → α
  appL : {α : Type} → (xs ys : List α) → List α
  repL : {α : Type} → (n : Int) → (d : α) → List α
  u8i : (b : UInt8) → Int
  eqI : (a b : Int) → Bool
  eqB : (a b : Bool) → Bool
  eqS : (a b : List UInt8) → Bool
  lessS : (a b : List UInt8) → Bool
  notB : (b : Bool) → Bool
  andB : (a b : Bool) → Bool
  orB : (a b : Bool) → Bool
  wrapI : (k : IntKind) → (n : Int) → Int
  addI : (a b : Int) → Int
  subI : (a b : Int) → Int
  mulI : (a b : Int) → Int
  quoI : (a b : Int) → Int
  remI : (a b : Int) → Int
  minI : (a b : Int) → Int
  maxI : (a b : Int) → Int
  xorI : (k : IntKind) → (a b : Int) → Int
  shrI : (a b : Int) → Int
  setL : {α : Type} → (xs : List α) → (n : Int) → (x : α) → List α
  byteList : (xs : List Int) → List UInt8
  intList : (s : List UInt8) → List Int
  big : Int
def real : Atoms := { cndS := @cndS, obind := @obind, sumE := @sumE, iter := @iter, le0 := le0, leI := leI, ltI := ltI, lenL := @lenL, takeL := @takeL, dropL := @dropL, atL := @atL, appL := @appL, repL := @repL, u8i := u8i, eqI := eqI, eqB := eqB, eqS := eqS, lessS := lessS, notB := notB, andB := andB, orB := orB, wrapI := wrapI, addI := addI, subI := subI, mulI := mulI, quoI := quoI, remI := remI, minI := minI, maxI := maxI, xorI := xorI, shrI := shrI, setL := @setL, byteList := byteList, intList := intList, big := big }
def stPickP (A : Atoms) (o : Oper) (c x y : Operand) (st : St) : Option Comp :=
  match (st.ent c).av with
  | .dat .bool b => match (st.ent x).av, (st.ent y).av with
    | .dat t v, .dat u w => match Ty.cast u t w with
      | some w' => some (.ret none (upd0 o.dst (.dat t (A.cndS b v w')) none))
      | none => none
    | v, w => some (.ret none (upd0 o.dst (cnd b v w) none))
  | _ => none
def stMakeSliceP (A : Atoms) (tab : Tab) (o : Oper) (t : TypeId) (l c : Operand) (st : St) : Option Comp :=
  match tab t, (st.ent l).av, (st.ent c).av with
  | some (.slice e), .dat (.int _) n, .dat (.int _) m =>
    some (.ret (some (A.andB (A.le0 n) (A.andB (A.leI n m) (A.ltI m A.big)))) { upd0 o.dst (.dat (.slice e) (A.repL n e.zero)) none with own := [[]] })
  | _, _, _ => none
def Ty.eqvP (A : Atoms) : (t : Ty) → t.val → t.val → Option Bool
  | .int _, x, y => some (A.eqI x y)
  | .bool, x, y => some (A.eqB x y)
  | .str, x, y => some (A.eqS x y)
  | .unit, _, _ => some true
  | .prod a b, x, y => match Ty.eqvP A a x.1 y.1, Ty.eqvP A b x.2 y.2 with
    | some p, some q => some (A.andB p q)
    | _, _ => none
  | .slice _, _, _ => none
def intOpP (A : Atoms) (op : BinOp) (k : IntKind) (a b : Int) : Option (Option Bool × AV) :=
  match op with
  | .add => some (none, .dat (.int k) (A.wrapI k (A.addI a b)))
  | .sub => some (none, .dat (.int k) (A.wrapI k (A.subI a b)))
  | .mul => some (none, .dat (.int k) (A.wrapI k (A.mulI a b)))
  | .quo => some (some (A.notB (A.eqI b 0)), .dat (.int k) (A.wrapI k (A.quoI a b)))
  | .rem => some (some (A.notB (A.eqI b 0)), .dat (.int k) (A.remI a b))
  | .xor => some (none, .dat (.int k) (A.xorI k a b))
  | .shr => some (some (A.andB (A.le0 b) (A.leI b 8)), .dat (.int k) (A.shrI a b))
  | .eql => some (none, .dat .bool (A.eqI a b))
  | .neq => some (none, .dat .bool (A.notB (A.eqI a b)))
  | .lss => some (none, .dat .bool (A.ltI a b))
  | .leq => some (none, .dat .bool (A.leI a b))
  | .gtr => some (none, .dat .bool (A.ltI b a))
  | .geq => some (none, .dat .bool (A.leI b a))
  | _ => none
def strOpP (A : Atoms) (op : BinOp) (a b : List UInt8) : Option (Option Bool × AV) :=
  match op with
  | .add => some (some (A.ltI (A.addI (A.lenL a) (A.lenL b)) A.big), .dat .str (A.appL a b))
  | .eql => some (none, .dat .bool (A.eqS a b))
  | .neq => some (none, .dat .bool (A.notB (A.eqS a b)))
  | .lss => some (none, .dat .bool (A.lessS a b))
  | .leq => some (none, .dat .bool (A.orB (A.lessS a b) (A.eqS a b)))
  | .gtr => some (none, .dat .bool (A.notB (A.orB (A.lessS a b) (A.eqS a b))))
  | .geq => some (none, .dat .bool (A.notB (A.lessS a b)))
  | _ => none
def binAVP (A : Atoms) (tab : Tab) (op : BinOp) (xt : TypeId) (x y : AV) : Option (Option Bool × AV) :=
  match x, y with
  | .dat (.int k) a, .dat (.int k') b => cnd (kbeq k k') (intOpP A op k a b) none
  | .dat .str a, .dat .str b => strOpP A op a b
  | .dat t a, .dat u b => match cnd (tyIs (tab xt) t) (Nat.ble (Ty.dep t) 1000) false, Ty.cast u t b with
    | true, some b' => match Ty.eqvP A t a b', op with
      | some q, .eql => some (none, .dat .bool q)
      | some q, .neq => some (none, .dat .bool (A.notB q))
      | _, _ => none
    | _, _ => none
  | _, _ => none
def stBinP (A : Atoms) (tab : Tab) (o : Oper) (op : BinOp) (xt : TypeId) (x y : Operand) (st : St) : Option Comp :=
  match binAVP A tab op xt (st.ent x).av (st.ent y).av with
  | some (c, v) => some (.ret c (upd0 o.dst v none))
  | none => none
def stUnP (A : Atoms) (o : Oper) (op : UnOp) (x : Operand) (st : St) : Option Comp :=
  match op, (st.ent x).av with
  | .not, .dat .bool b => some (.ret none (upd0 o.dst (.dat .bool (A.notB b)) none))
  | .neg, .dat (.int k) n => some (.ret none (upd0 o.dst (.dat (.int k) (A.wrapI k (A.subI 0 n))) none))
  | _, _ => none
def stConvP (A : Atoms) (tab : Tab) (o : Oper) (src dst : TypeId) (x : Operand) (st : St) : Option Comp :=
  match tab src, tab dst, (st.ent x).av with
  | some (.int _), some (.int k), .dat (.int _) n => some (.ret none (upd0 o.dst (.dat (.int k) (A.wrapI k n)) none))
  | some (.slice (.int .u8)), some .str, .dat (.slice (.int .u8)) xs => some (.ret none (upd0 o.dst (.dat .str (A.byteList xs)) none))
  | some .str, some (.slice (.int .u8)), .dat .str s => some (.ret (some (A.ltI (A.lenL (α := UInt8) s) A.big)) { upd0 o.dst (.dat (.slice (.int .u8)) (A.intList s)) none with own := [[]] })
  | some .str, some .str, .dat .str s => some (.ret none (upd0 o.dst (.dat .str s) none))
  | _, _, _ => none
def cutLP (A : Atoms) {α : Type} (xs : List α) : Option AV → Option AV → Option (Bool × List α)
  | some (.dat (.int _) l), some (.dat (.int _) h) => some (A.andB (A.le0 l) (A.andB (A.leI l h) (A.leI h (A.lenL xs))), A.dropL (A.takeL xs h) l)
  | some (.dat (.int _) l), none => some (A.andB (A.le0 l) (A.leI l (A.lenL xs)), A.dropL xs l)
  | none, some (.dat (.int _) h) => some (A.andB (A.le0 h) (A.leI h (A.lenL xs)), A.takeL xs h)
  | _, _ => none
def stSliceP (A : Atoms) (tab : Tab) (o : Oper) (t : TypeId) (x : Operand) (lo hi max : Option Operand) (st : St) : Option Comp :=
  match max, (st.ent x).av with
  | none, .dat (.slice e) xs => match tyIs (tab t) (.slice e), cutLP A (α := e.val) xs (avOpt st lo) (avOpt st hi) with
    | true, some (c, ys) => some (.ret (some c) (upd0 o.dst (.dat (.slice e) ys) none))
    | _, _ => none
  | none, .dat .str xs => match tyIs (tab t) .str, cutLP A (α := UInt8) xs (avOpt st lo) (avOpt st hi) with
    | true, some (c, ys) => some (.ret (some c) (upd0 o.dst (.dat .str ys) none))
    | _, _ => none
  | _, _ => none
def stIndexAddrP (A : Atoms) (tab : Tab) (o : Oper) (t : TypeId) (x i : Operand) (st : St) : Option Comp :=
  match (st.ent x).av, (st.ent i).av with
  | .dat (.slice e) xs, .dat (.int _) n => cnd (tyIs (tab t) (.slice e))
    (some (.ret (some (A.andB (A.le0 n) (A.ltI n (A.lenL (α := e.val) xs)))) (upd0 o.dst (.ref e (A.atL (α := e.val) xs n e.zero)) none))) none
  | _, _ => none
def stIndexP (A : Atoms) (tab : Tab) (o : Oper) (t : TypeId) (x i : Operand) (st : St) : Option Comp :=
  match (st.ent x).av, (st.ent i).av with
  | .dat .str s, .dat (.int _) n => cnd (tyIs (tab t) .str)
    (some (.ret (some (A.andB (A.le0 n) (A.ltI n (A.lenL (α := UInt8) s)))) (upd0 o.dst (.dat (.int .u8) (A.u8i (A.atL (α := UInt8) s n 0))) none))) none
  | _, _ => none
def stLenP (A : Atoms) (tab : Tab) (o : Oper) (t : TypeId) (x : Operand) (st : St) : Option Comp :=
  match (st.ent x).av with
  | .dat (.slice e) xs => cnd (tyIs (tab t) (.slice e)) (some (.ret none (upd0 o.dst (.dat (.int .i64) (A.lenL (α := e.val) xs)) none))) none
  | .dat .str s => cnd (tyIs (tab t) .str) (some (.ret none (upd0 o.dst (.dat (.int .i64) (A.lenL (α := UInt8) s)) none))) none
  | _ => none
def stAppendP (A : Atoms) (tab : Tab) (o : Oper) (t : TypeId) (x y : Operand) (st : St) : Option Comp :=
  match tab t with
  | some (.slice e) => match AV.as (.slice e) (st.ent x).av, AV.as (.slice e) (st.ent y).av, st.owner x with
    | some xs, some ys, some l => match starApp st e l y with
      | some tk => some (.ret (some (A.ltI (A.addI (A.lenL (α := e.val) xs) (A.lenL (α := e.val) ys)) A.big))
        { upd0 o.dst (.dat (.slice e) (A.appL (α := e.val) xs ys)) none with own := [[], [0]], takes := tk })
      | none => some (.ret (some (A.ltI (A.addI (A.lenL (α := e.val) xs) (A.lenL (α := e.val) ys)) A.big))
        { upd0 o.dst (.dat (.slice e) (A.appL (α := e.val) xs ys)) none with own := [[]], takes := l.toList })
    | _, _, _ => none
  | _ => none
def stMinMaxP (A : Atoms) (mx : Bool) (o : Oper) (x y : Operand) (st : St) : Option Comp :=
  match (st.ent x).av, (st.ent y).av with
  | .dat (.int k) a, .dat (.int k') b => match kbeq k k' with
    | true => some (.ret none (upd0 o.dst (.dat (.int k) (cnd mx (A.maxI a b) (A.minI a b))) none))
    | false => none
  | _, _ => none
def stMakeXP (A : Atoms) (tab : Tab) (o : Oper) (t : TypeId) (l c : Operand) (st : St) : Option Comp :=
  match tab t, (st.ent l).av, (st.ent c).av, freeD st o.dst with
  | some (.slice e), .dat (.int _) n, .dat (.int _) m, some d =>
    some (.ret (some (A.andB (A.le0 n) (A.andB (A.leI n m) (A.ltI m A.big)))) { upd0 (some d) (.xf d []) none with xw := some (d, ⟨.slice e, A.repL n e.zero⟩) })
  | _, _, _, _ => none
def stLoadPP (A : Atoms) (tab : Tab) (o : Oper) (t : TypeId) (r : Tmp) (p : List Nat) (n : Int) (q : List Nat) (st : St) : Option Comp :=
  match Nat.beq r 0, p, st.io r with
  | true, [], some ⟨.slice e, xs⟩ => match getP e (A.atL (α := e.val) xs n e.zero) q with
    | some y => match tyIs (tab t) y.1, isSlT y.1 with
      | true, true => some (.ret (some (A.andB (A.le0 n) (A.ltI n (A.lenL (α := e.val) xs)))) (upd0 o.dst (.xe n q) none))
      | _, _ => none
    | none => none
  | _, _, _ => none
def stStoreXP (A : Atoms) (tab : Tab) (o : Oper) (t : TypeId) (r : Tmp) (p : List Nat) (n : Int) (q : List Nat) (v : Operand) (st : St) : Option Comp :=
  match st.io r, st.atX r p with
  | some d, some ⟨.slice e, xs⟩ => match getP e (A.atL (α := e.val) xs n e.zero) q with
    | some y => match tyIs (tab t) y.1, noSl y.1, AV.as y.1 (st.ent v).av with
      | true, true, some z => match setP e (A.atL (α := e.val) xs n e.zero) q ⟨y.1, z⟩ with
        | some x' => match setP d.1 d.2 p ⟨.slice e, A.setL (α := e.val) xs n x'⟩ with
          | some d' => some (.ret (some (A.andB (A.le0 n) (A.ltI n (A.lenL (α := e.val) xs)))) { upd0 o.dst .skp none with xw := some (r, ⟨d.1, d'⟩) })
          | none => none
        | none => none
      | _, _, _ => none
    | none => none
  | _, _ => none
def stGraftXP (A : Atoms) (tab : Tab) (o : Oper) (t : TypeId) (r : Tmp) (p : List Nat) (n : Int) (q : List Nat) (r2 : Tmp) (st : St) : Option Comp :=
  match st.io r, st.atX r p, st.atX r2 [] with
  | some d, some ⟨.slice e, xs⟩, some z => match getP e (A.atL (α := e.val) xs n e.zero) q with
    | some y => match tyIs (tab t) y.1, cnd (Nat.beq r 0) true (cnd (Nat.beq r2 0) true (Nat.beq r r2)), Ty.cast z.1 y.1 z.2 with
      | true, false, some z' => match setP e (A.atL (α := e.val) xs n e.zero) q ⟨y.1, z'⟩ with
        | some x' => match setP d.1 d.2 p ⟨.slice e, A.setL (α := e.val) xs n x'⟩ with
          | some d' => some (.ret (some (A.andB (A.le0 n) (A.ltI n (A.lenL (α := e.val) xs)))) { upd0 o.dst .skp none with xw := some (r, ⟨d.1, d'⟩), xk := some r2 })
          | none => none
        | none => none
      | _, _, _ => none
    | none => none
  | _, _, _ => none
def stFieldAddrXP (A : Atoms) (tab : Tab) (o : Oper) (s : TypeId) (r : Tmp) (p : List Nat) (n : Int) (q : List Nat) (f : Nat) (st : St) : Option Comp :=
  match st.atX r p with
  | some ⟨.slice e, xs⟩ => match getP e (A.atL (α := e.val) xs n e.zero) q with
    | some y => match tyIs (tab s) y.1, getF y.1 y.2 f with
      | true, some _ => some (.ret none (upd0 o.dst (.xp r p n (q ++ [f])) none))
      | _, _ => none
    | none => none
  | _ => none
def stIndexAddrXP (A : Atoms) (tab : Tab) (o : Oper) (t : TypeId) (r : Tmp) (p : List Nat) (i : Operand) (st : St) : Option Comp :=
  match st.atX r p, (st.ent i).av with
  | some ⟨.slice e, xs⟩, .dat (.int _) n => cnd (tyIs (tab t) (.slice e))
    (some (.ret (some (A.andB (A.le0 n) (A.ltI n (A.lenL (α := e.val) xs)))) (upd0 o.dst (.xp r p n []) none))) none
  | _, _ => none
def stLenXP (A : Atoms) (tab : Tab) (o : Oper) (t : TypeId) (r : Tmp) (p : List Nat) (st : St) : Option Comp :=
  match st.atX r p with
  | some ⟨.slice e, xs⟩ => cnd (tyIs (tab t) (.slice e)) (some (.ret none (upd0 o.dst (.dat (.int .i64) (A.lenL (α := e.val) xs)) none))) none
  | _ => none
def stConvXP (A : Atoms) (tab : Tab) (o : Oper) (src dst : TypeId) (r : Tmp) (p : List Nat) (st : St) : Option Comp :=
  match tab src, tab dst, st.atX r p with
  | some (.slice (.int .u8)), some .str, some ⟨.slice (.int .u8), xs⟩ => some (.ret none (upd0 o.dst (.dat .str (A.byteList xs)) none))
  | _, _, _ => none
def stAppendXP (A : Atoms) (tab : Tab) (o : Oper) (t : TypeId) (x y : Operand) (st : St) : Option Comp :=
  match tab t with
  | some (.slice e) => match AV.as (.slice e) (st.ent x).av, AV.as (.slice e) (argX st (st.ent y).av), st.owner x with
    | some xs, some ys, some l => match freeD st o.dst, noSl e with
      | some d, true => some (.ret (some (A.andB (A.eqI (A.lenL (α := e.val) xs) 0) (A.ltI (A.lenL (α := e.val) ys) A.big)))
        { upd0 (some d) (.xf d []) none with takes := l.toList, xw := some (d, ⟨.slice e, ys⟩) })
      | _, _ => none
    | _, _, _ => none
  | _ => none
def stSliceXP (A : Atoms) (tab : Tab) (o : Oper) (t : TypeId) (x : Operand) (lo hi max : Option Operand) (st : St) : Option Comp :=
  match max, lo, (st.ent x).av with
  | none, none, .xf r [] => match st.io r, avOpt st hi, freeD st o.dst with
    | some ⟨.slice e, xs⟩, some (.dat (.int _) h), some d => match Nat.beq r 0, tyIs (tab t) (.slice e), noSl e with
      | false, true, true => some (.ret (some (A.andB (A.le0 h) (A.leI h (A.lenL (α := e.val) xs)))) { upd0 (some d) (.xf d []) none with xw := some (d, ⟨.slice e, A.takeL (α := e.val) xs h⟩), xk := some r })
      | _, _, _ => none
    | _, _, _ => none
  | _, _, _ => none
def stAppendTP (A : Atoms) (tab : Tab) (o : Oper) (t : TypeId) (x y : Operand) (st : St) : Option Comp :=
  match (st.ent x).av with
  | .xf r [] => match st.io r with
    | some ⟨.slice e, xs⟩ => match AV.as (.slice e) (argX st (st.ent y).av), freeD st o.dst with
      | some ys, some d => match Nat.beq r 0, tyIs (tab t) (.slice e), noSl e with
        | false, true, true => some (.ret (some (A.ltI (A.addI (A.lenL (α := e.val) xs) (A.lenL (α := e.val) ys)) A.big)) { upd0 (some d) (.xf d []) none with xw := some (d, ⟨.slice e, A.appL (α := e.val) xs ys⟩), xk := some r })
        | _, _, _ => none
      | _, _ => none
    | _ => none
  | _ => none
def stCallXP (A : Atoms) (G : Gam) (o : Oper) (f : FuncId) (args : List Operand) (st : St) : Option Comp :=
  match G f with
  | some s => cnd (isF s.fv) none (match s.usesRd, s.opens, s.muts with
    | false, false, false => match packArgs none s.aty (args.map fun x => argX st (st.ent x).av), Ty.cast .unit s.rdty (), closedS s with
      | some x, some rd, true => cnd (mkD st o.dst)
        (match freeD st o.dst with
          | some d => some (.call s.rty s.rdty (s.fn x rd) fun r => { upd0 (some d) (rootAV s.one s.rty d) none with xw := some (d, rootOf s.one s.rty r.1) })
          | none => none)
        (some (.call s.rty s.rdty (s.fn x rd) fun r => { upd0 o.dst (resAV s.rty s.one r.1) none with own := resOwn s.one s.own }))
      | _, _, _ => none
    | true, false, true => match args with
      | x0 :: xs => match (st.ent x0).av with
        | .xf r p => match st.io r, st.atX r p with
          | some d, some y => match Ty.cast y.1 s.rdty y.2, s.aty, s.fn with
            | some rd, .prod .unit b, fn => match packArgs none b (xs.map fun x => (st.ent x).av), noSl s.rty, cnd (Nat.beq r 0) (isSlT d.1) false with
              | some x, true, false => some (.call s.rty s.rdty (fn ((), x) rd) fun z => { upd0 o.dst (resAV s.rty s.one z.1) none with xw := some (r, setDat d p ⟨s.rdty, z.2⟩) })
              | _, _, _ => none
            | _, _, _ => none
          | _, _ => none
        | .xe k q => match st.io 0 with
          | some ⟨.slice e, ys⟩ => match getP e (A.atL (α := e.val) ys k e.zero) q with
            | some y => match Ty.cast y.1 s.rdty y.2, s.aty, s.fn, isSlT y.1 with
              | some rd, .prod .unit b, fn, true => match packArgs none b (xs.map fun x => (st.ent x).av), noSl s.rty with
                | some x, true => some (.call s.rty s.rdty (fn ((), x) rd) fun z => { upd0 o.dst (resAV s.rty s.one z.1) none with xw := some (0, ⟨.slice e, A.setL (α := e.val) ys k (setE e (A.atL (α := e.val) ys k e.zero) q ⟨s.rdty, z.2⟩)⟩) })
                | _, _ => none
              | _, _, _, _ => none
            | none => none
          | _ => none
        | _ => none
      | [] => none
    | _, _, _ => none)
  | none => none
def stepCP (A : Atoms) (tab : Tab) (G : Gam) (o : Oper) (st : St) : Option Comp :=
  match o.op with
  | .move x => some (cnd (mkD st o.dst) (stAssignM o x st (stMove tab o x st)) (stMove tab o x st))
  | .assign x => some (cnd (mkD st o.dst) (stAssignM o x st (stAssign tab o x st)) (stAssign tab o x st))
  | .pick c a b => stPickP A o c a b st
  | .alloc e => cnd (mkD st o.dst) (stAllocX tab o e st) (stAlloc tab o e st)
  | .box e x => match (st.ent x).av with
    | .xf r p => stBoxX tab o e r p st
    | _ => stBox tab o e x st
  | .build t ps => stBuild tab o t ps.toList st
  | .buildSlice t n ps => stBuildSlice tab o t n ps.toList st
  | .load t x => match (st.ent x).av with
    | .cx b p => stLoadX tab o t b p st
    | .xp r p n q => stLoadPP A tab o t r p n q st
    | _ => stLoad tab o t x st
  | .store t x v => match (st.ent x).av, (st.ent v).av with
    | .xp r p n q, .xf r2 [] => stGraftXP A tab o t r p n q r2 st
    | .xp r p n q, _ => stStoreXP A tab o t r p n q v st
    | .cx b [], .xf r q => stPutX tab o t b r q st
    | _, _ => stStore tab o t x v st
  | .nilCheck x => match (st.ent x).av with
    | .cel b p => some (.ret none (upd0 o.dst (.cel b p) none))
    | .rdr p => some (.ret none (upd0 o.dst (.rdr p) none))
    | _ => none
  | .binOp op xt x y _ => stBinP A tab o op xt x y st
  | .unOp op _ x => stUnP A o op x st
  | .convert s d x => match (st.ent x).av with
    | .xf r p => stConvXP A tab o s d r p st
    | _ => stConvP A tab o s d x st
  | .makeSlice t l c => cnd (mkD st o.dst) (stMakeXP A tab o t l c st) (stMakeSliceP A tab o t l c st)
  | .slice t x lo hi mx => match (st.ent x).av with
    | .xf _ _ => stSliceXP A tab o t x lo hi mx st
    | _ => stSliceP A tab o t x lo hi mx st
  | .fieldAddr s x f => match (st.ent x).av with
    | .xp r p n q => stFieldAddrXP A tab o s r p n q f st
    | .cx b p => stFieldAddrC tab o s b p f st
    | _ => stFieldAddr tab o s x f st
  | .field s x f => stField tab o s x f st
  | .indexAddr t x i => match (st.ent x).av with
    | .xf r p => stIndexAddrXP A tab o t r p i st
    | _ => stIndexAddrP A tab o t x i st
  | .index t x i => stIndexP A tab o t x i st
  | .extract x i => match (st.ent x).av with
    | .xt r => stExtractX o r i st
    | _ => stExtract o x i st
  | .call c => match c.callee with
    | .value (.func f) => cnd (hasF G f) (stCallF G o f c.args.toList st) (cnd (cnd (anyX st c.args.toList) true (cnd (mkD st o.dst) true (isMut G f))) (stCallXP A G o f c.args.toList st) (stCall G o f c.args.toList st))
    | .value (.tmp t) => match (st.env t).av with
      | .fn f => stCall G o f c.args.toList st
      | _ => none
    | .builtin .len => match c.args.toList, c.argTypes.toList with
      | [x], [t] => match (st.ent x).av with
        | .xf r p => stLenXP A tab o t r p st
        | _ => stLenP A tab o t x st
      | _, _ => none
    | .builtin .append => match c.args.toList, c.argTypes.toList with
      | [x, y], [t, t'] => cnd (Nat.beq t t') (match (st.ent x).av with
        | .xf _ _ => stAppendTP A tab o t x y st
        | _ => cnd (mkD st o.dst) (stAppendXP A tab o t x y st) (stAppendP A tab o t x y st)) none
      | _, _ => none
    | .builtin .min => match c.args.toList with
      | [x, y] => stMinMaxP A false o x y st
      | _ => none
    | .builtin .max => match c.args.toList with
      | [x, y] => stMinMaxP A true o x y st
      | _ => none
    | _ => none
  | _ => none
def Comp.runKP (A : Atoms) {R : Type} (st : St) (k : St → Option R) : Comp → Option R
  | .ret none u => k (apply st u)
  | .ret (some c) u => A.cndS c (k (apply st u)) none
  | .call _ _ F u => A.obind F fun r => k (apply st (u r))
def Comp.runTP (A : Atoms) {R : Type} (st : St) (rs : List Res) (k : St → FP → Option R) : Comp → Option R
  | .ret none u => k (apply st u) ⟨tagRes u ++ rs, u.writes⟩
  | .ret (some c) u => A.cndS c (k (apply st u) ⟨tagRes u ++ rs, u.writes⟩) none
  | .call _ _ F u => A.obind F fun r => k (apply st (u r)) ⟨tagRes (u r) ++ rs, (u r).writes⟩
def opsKP (A : Atoms) {R : Type} (tab : Tab) (G : Gam) (ops : List Oper) : List Oper → Nat → St → (St → Option R) → Option R
  | [], _, st, k => k st
  | o :: rest, i, st, k => match o.guard with
    | none => match stepCP A tab G o st with
      | some c => c.runKP A st fun st' => opsKP A tab G ops rest (Nat.succ i) (setKn st' o.dst (knOf o st)) k
      | none => none
    | some (g, want) => match guardT ops g with
      | none => none
      | some t => match (st.env t).av with
        | .dat .bool b =>
          let go (st : St) := match stepCP A tab G o st with
            | some c => c.runKP A st fun st' => opsKP A tab G ops rest (Nat.succ i) (setKn st' o.dst (knOf o st)) k
            | none => none
          let by' (st : St) := opsKP A tab G ops rest (Nat.succ i) (setKn (apply st (skipU o)) o.dst false) k
          cnd (st.kn t) (cnd b (cnd want (go st) (by' st)) (cnd want (by' st) (go st)))
            (A.cndS b (cnd want (go (setKn (setAV st t (.dat .bool true)) (some t) true)) (by' (setKn (setAV st t (.dat .bool true)) (some t) true)))
                    (cnd want (by' (setKn (setAV st t (.dat .bool false)) (some t) true)) (go (setKn (setAV st t (.dat .bool false)) (some t) true))))
        | .skp => opsKP A tab G ops rest (Nat.succ i) (setKn (apply st (skipU o)) o.dst false) k
        | _ => none
def drawKP (A : Atoms) {R : Type} (tab : Tab) (G : Gam) (ops : List Oper) : List Oper → Nat → St → List FP → (St → List FP → Option R) → Option R
  | [], _, st, acc, k => k st acc
  | o :: rest, i, st, acc, k => match o.guard with
    | none => match stepCP A tab G o st with
      | some c => c.runTP A st (reads st o) fun st' f => drawKP A tab G ops rest (Nat.succ i) (setKn st' o.dst (knOf o st)) (acc ++ [f]) k
      | none => none
    | some (g, want) => match guardT ops g with
      | none => none
      | some t => match (st.env t).av with
        | .dat .bool b =>
          let go (st : St) := match stepCP A tab G o st with
            | some c => c.runTP A st (.tmp t :: reads st o) fun st' f => drawKP A tab G ops rest (Nat.succ i) (setKn st' o.dst (knOf o st)) (acc ++ [f]) k
            | none => none
          let by' (st : St) := drawKP A tab G ops rest (Nat.succ i) (setKn (apply st (skipU o)) o.dst false) (acc ++ [⟨[.tmp t], (skipU o).writes⟩]) k
          cnd (st.kn t) (cnd b (cnd want (go st) (by' st)) (cnd want (by' st) (go st)))
            (A.cndS b (cnd want (go (setKn (setAV st t (.dat .bool true)) (some t) true)) (by' (setKn (setAV st t (.dat .bool true)) (some t) true)))
                    (cnd want (by' (setKn (setAV st t (.dat .bool false)) (some t) true)) (go (setKn (setAV st t (.dat .bool false)) (some t) true))))
        | .skp => drawKP A tab G ops rest (Nat.succ i) (setKn (apply st (skipU o)) o.dst false) (acc ++ [⟨[.tmp t], (skipU o).writes⟩]) k
        | _ => none
def evalKP (A : Atoms) (tab : Tab) (G : Gam) (ann : Ann) (fuel : Nat) : Code → (R : Type) → St → (St → Option R) → (St → Option R) → (Nat → St → Option R) → Option R
  | .skip, _, st, kn, _, _ => kn st
  | .region _ ops draw, _, st0, kn, _, _ =>
    let st : St := { st0 with mkt := ann.mkt }
    cnd draw (drawKP A tab G ops.toList ops.toList 0 st [] fun st' fs => cnd (cnd (edgesOk ops.toList 0) (pairsOk (masks ops.toList []) [] fs 0) false) (kn st') none)
      (opsKP A tab G ops.toList ops.toList 0 st kn)
  | .seq x y, R, st, kn, kr, ke => match cutOf ann y with
    | none => evalKP A tab G ann fuel x R st (fun st' => evalKP A tab G ann fuel y R st' kn kr ke) kr ke
    | some (S, true) => A.obind (evalKP A tab G ann fuel x S.ty.val st (fun st' => pack S st') (fun _ => none) (fun _ _ => none))
        fun s => evalKP A tab G ann fuel y R (unpack S s) kn kr ke
    | some (S, false) => A.obind (evalKP A tab G ann fuel x (S.ty.val ⊕ R) st (fun st' => (pack S st').map .inl) (fun st' => (kr st').map .inr) (fun i st' => (ke i st').map .inr))
        fun e => A.sumE e (fun s => evalKP A tab G ann fuel y R (unpack S s) kn kr ke) (fun r => some r)
  | .cond c x y, R, st, kn, kr, ke => match (st.ent c).av with
    | .dat .bool b => cnd (st.knX c) (cnd b (evalKP A tab G ann fuel x R st kn kr ke) (evalKP A tab G ann fuel y R st kn kr ke)) (A.cndS b (evalKP A tab G ann fuel x R st kn kr ke) (evalKP A tab G ann fuel y R st kn kr ke))
    | _ => none
  | .block id (.loop b), R, st, kn, kr, ke => match ann.loop id with
    | some (S, T, true) => match pack S st with
      | none => none
      | some s0 =>
        A.obind (A.iter fuel (fun s => evalKP A tab G ann fuel b (S.ty.val ⊕ T.ty.val) (unpack S s) (fun st' => (pack S st').map .inl) (fun _ => none)
          (fun i st' => cnd (Nat.beq i id) ((pack T st').map .inr) none)) s0) fun t => kn (unpack T t)
    | some (S, T, false) => match pack S st with
      | none => none
      | some s0 =>
        A.obind (A.iter fuel (fun s => evalKP A tab G ann fuel b (S.ty.val ⊕ (T.ty.val ⊕ R)) (unpack S s) (fun st' => (pack S st').map .inl) (fun st' => (kr st').map fun r => .inr (.inr r))
          (fun i st' => cnd (Nat.beq i id) ((pack T st').map fun t => .inr (.inl t)) ((ke i st').map fun r => .inr (.inr r)))) s0) fun e => A.sumE e (fun t => kn (unpack T t)) (fun r => some r)
    | none => none
  | .block id c, R, st, kn, kr, ke => evalKP A tab G ann fuel c R st kn kr (fun i st' => cnd (Nat.beq i id) (kn st') (ke i st'))
  | .exit id, _, st, _, _, ke => ke id st
  | .ret, _, st, _, kr, _ => kr st
  | _, _, _, _, _, _ => none
def evalFnP (A : Atoms) (tab : Tab) (G : Gam) (ann : Ann) (fuel : Nat) (fn : Func) (aty rdty : Ty) (usesRd : Bool) (rty : Ty) (own : List (List Nat)) (x : aty.val) (rd : rdty.val) : Option (rty.val × rdty.val) :=
  match fn.body with
  | none => none
  | some c => cnd (dstsOk fn.ntmps c) (evalKP A tab G ann fuel c (rty.val × rdty.val) (startOf aty rdty usesRd x rd) (finOf tab fn.results.toList rdty usesRd rty own) (finOf tab fn.results.toList rdty usesRd rty own) (fun _ _ => none)) none
def evalFnFP (A : Atoms) (tab : Tab) (G : Gam) (ann : Ann) (fuel : Nat) (fn : Func) (g : FuncId) (aty rty : Ty) (own : List (List Nat)) (x : aty.val) : Option (rty.val × Ty.unit.val) :=
  match fn.body with
  | none => none
  | some c => cnd (dstsOk fn.ntmps c) (evalKP A tab G ann fuel c (rty.val × Ty.unit.val) (startF aty x g) (finOf tab fn.results.toList .unit false rty own) (finOf tab fn.results.toList .unit false rty own) (fun _ _ => none)) none
def evalMutP (A : Atoms) (tab : Tab) (G : Gam) (ann : Ann) (fuel : Nat) (fn : Func) (b rdty rty : Ty) (x : b.val) (rd : rdty.val) : Option (rty.val × rdty.val) :=
  match fn.body with
  | none => none
  | some c => cnd (dstsOk fn.ntmps c) (evalKP A tab G ann fuel c (rty.val × rdty.val) (startMut b rdty x rd) (finMut tab fn.results.toList rdty rty) (finMut tab fn.results.toList rdty rty) (fun _ _ => none)) none
theorem eqv_real : ∀ (t : Ty) (x y : t.val), Ty.eqvP real t x y = Ty.eqv t x y
  | .int _, _, _ => rfl
  | .bool, _, _ => rfl
  | .str, _, _ => rfl
  | .unit, _, _ => rfl
  | .slice _, _, _ => rfl
  | .prod a b, x, y => by simp only [Ty.eqvP, Ty.eqv, eqv_real a, eqv_real b]; rfl
theorem intOp_real (op : BinOp) (k : IntKind) (a b : Int) : intOpP real op k a b = intOp op k a b := by kernel_rfl
theorem strOp_real (op : BinOp) (a b : List UInt8) : strOpP real op a b = strOp op a b := by kernel_rfl
theorem binAV_real (tab : Tab) (op : BinOp) (xt : TypeId) (x y : AV) : binAVP real tab op xt x y = binAV tab op xt x y := by
  unfold binAVP binAV
  simp only [eqv_real, intOp_real, strOp_real]
  kernel_rfl
theorem stepC_real (tab : Tab) (G : Gam) (o : Oper) (st : St) : stepCP real tab G o st = stepC tab G o st := by
  unfold stepCP stepC
  cases o.op with
  | binOp op xt x y yt => simp only [stBinP, stBin, binAV_real]; kernel_rfl
  | _ => kernel_rfl
theorem runK_real {R : Type} (st : St) (k : St → Option R) (c : Comp) : c.runKP real st k = c.runK st k := by cases c <;> rfl
theorem runT_real {R : Type} (st : St) (rs : List Res) (k : St → FP → Option R) (c : Comp) : c.runTP real st rs k = c.runT st rs k := by cases c <;> rfl
theorem opsK_real {R : Type} (tab : Tab) (G : Gam) (ops : List Oper) : ∀ (rest : List Oper) (i : Nat) (st : St) (k : St → Option R), opsKP real tab G ops rest i st k = opsK tab G ops rest i st k := by
  intro rest
  induction rest with
  | nil => intros; rfl
  | cons o rest ih => intro i st k; simp only [opsKP, opsK, stepC_real, runK_real, ih]; kernel_rfl
theorem drawK_real {R : Type} (tab : Tab) (G : Gam) (ops : List Oper) : ∀ (rest : List Oper) (i : Nat) (st : St) (acc : List FP) (k : St → List FP → Option R), drawKP real tab G ops rest i st acc k = drawK tab G ops rest i st acc k := by
  intro rest
  induction rest with
  | nil => intros; rfl
  | cons o rest ih => intro i st acc k; simp only [drawKP, drawK, stepC_real, runT_real, ih]; kernel_rfl
theorem evalK_real (tab : Tab) (G : Gam) (ann : Ann) (fuel : Nat) (c : Code) : (∀ (R : Type) (st : St) (kn kr : St → Option R) (ke : Nat → St → Option R), evalKP real tab G ann fuel c R st kn kr ke = evalK tab G ann fuel c R st kn kr ke) ∧
    ∀ b, c = .loop b → ∀ (R : Type) (st : St) (kn kr : St → Option R) (ke : Nat → St → Option R), evalKP real tab G ann fuel b R st kn kr ke = evalK tab G ann fuel b R st kn kr ke := by
  induction c with
  | skip => exact ⟨fun _ _ _ _ _ => rfl, fun b hb => by cases hb⟩
  | region id ops draw =>
    refine ⟨fun R st kn kr ke => ?_, fun b hb => by cases hb⟩
    simp only [evalKP, evalK, opsK_real, drawK_real]
  | seq x y ihx ihy =>
    refine ⟨fun R st kn kr ke => ?_, fun b hb => by cases hb⟩
    simp only [evalKP, evalK, ihx.1, ihy.1]; kernel_rfl
  | cond c x y ihx ihy =>
    refine ⟨fun R st kn kr ke => ?_, fun b hb => by cases hb⟩
    simp only [evalKP, evalK, ihx.1, ihy.1]; kernel_rfl
  | block id c ih =>
    refine ⟨fun R st kn kr ke => ?_, fun b hb => by cases hb⟩
    cases c with
    | loop b => simp only [evalKP, evalK, ih.2 b rfl]; kernel_rfl
    | _ => exact ih.1 R st kn kr (fun i st' => cnd (Nat.beq i id) (kn st') (ke i st'))
  | loop c ih => exact ⟨fun _ _ _ _ _ => rfl, fun b hb => by injection hb with hb; subst hb; exact ih.1⟩
  | _ => exact ⟨fun _ _ _ _ _ => rfl, fun b hb => by cases hb⟩
theorem evalFn_real (tab : Tab) (G : Gam) (ann : Ann) (fuel : Nat) (fn : Func) (aty rdty : Ty) (usesRd : Bool) (rty : Ty) (own : List (List Nat)) (x : aty.val) (rd : rdty.val) :
    evalFnP real tab G ann fuel fn aty rdty usesRd rty own x rd = evalFn tab G ann fuel fn aty rdty usesRd rty own x rd := by
  unfold evalFnP evalFn
  cases fn.body with
  | none => rfl
  | some c => simp only [(evalK_real tab G ann fuel c).1]
theorem evalFnF_real (tab : Tab) (G : Gam) (ann : Ann) (fuel : Nat) (fn : Func) (g : FuncId) (aty rty : Ty) (own : List (List Nat)) (x : aty.val) :
    evalFnFP real tab G ann fuel fn g aty rty own x = evalFnF tab G ann fuel fn g aty rty own x := by
  unfold evalFnFP evalFnF
  cases fn.body with
  | none => rfl
  | some c => simp only [(evalK_real tab G ann fuel c).1]
theorem evalMut_real (tab : Tab) (G : Gam) (ann : Ann) (fuel : Nat) (fn : Func) (b rdty rty : Ty) (x : b.val) (rd : rdty.val) :
    evalMutP real tab G ann fuel fn b rdty rty x rd = evalMut tab G ann fuel fn b rdty rty x rd := by
  unfold evalMutP evalMut
  cases fn.body with
  | none => rfl
  | some c => simp only [(evalK_real tab G ann fuel c).1]

end Go.Den

namespace Go.Den

def lookT : List (Nat × Ty) → Nat → Option Ty
  | [], _ => none
  | (i, t) :: l, j => cnd (Nat.beq j i) (some t) (lookT l j)
theorem lookT_mem : ∀ {l : List (Nat × Ty)} {j : Nat} {t : Ty}, lookT l j = some t → (j, t) ∈ l
  | [], _, _, h => by cases h
  | (i, u) :: l, j, t, h => by
    simp only [lookT] at h
    cases hq : Nat.beq j i with
    | true => rw [hq] at h; injection h with h; subst h; rw [nbeq hq]; exact List.mem_cons_self
    | false => rw [hq] at h; exact List.mem_cons_of_mem _ (lookT_mem h)

def stripZ : Ty → List Value → Option (List Value)
  | .int k, .int k' n :: cs => cnd (kbeq k k') (cnd (decide (n = 0)) (some cs) none) none
  | .bool, .bool b :: cs => cnd b none (some cs)
  | .str, .string s :: cs => cnd (Nat.beq s.data.size 0) (some cs) none
  | .unit, cs => some cs
  | .prod a b, cs => (stripZ a cs).bind (stripZ b)
  | .slice _, .slice none 0 0 :: cs => some cs
  | _, _ => none
theorem stripZ_spec : ∀ {t : Ty} {cs rest : List Value}, stripZ t cs = some rest → cs = zeroCells t ++ rest := by
  intro t
  induction t with
  | int k =>
    intro cs rest h
    unfold stripZ at h
    split at h <;> try cases h
    · rename_i k' k2 n cs' he
      injection he with he; subst he
      cases h1 : kbeq k k2 with
      | false => rw [h1] at h; cases h
      | true =>
        cases h2 : decide (n = 0) with
        | false => rw [h1, h2] at h; cases h
        | true =>
          rw [h1, h2] at h; injection h with h; subst h
          rw [← k_of_beq h1, of_decide_eq_true h2]; rfl
    all_goals rename_i he; cases he
  | bool =>
    intro cs rest h
    unfold stripZ at h
    split at h <;> rename_i he <;> try cases he
    · rename_i b cs'
      cases b with
      | true => cases h
      | false => injection h with h; subst h; rfl
    · cases h
  | str =>
    intro cs rest h
    unfold stripZ at h
    split at h <;> rename_i he <;> try cases he
    · rename_i s cs'
      cases h1 : Nat.beq s.data.size 0 with
      | false => rw [h1] at h; cases h
      | true =>
        rw [h1] at h; injection h with h; subst h
        have : s = ⟨#[]⟩ := by
          cases s with
          | mk d =>
            have hd : d.size = 0 := nbeq h1
            rw [Array.eq_empty_of_size_eq_zero hd]
        rw [this]; rfl
    · cases h
  | unit =>
    intro cs rest h
    have h : some cs = some rest := by cases cs <;> exact h
    injection h with h
  | prod a b iha ihb =>
    intro cs rest h
    have h : (stripZ a cs).bind (stripZ b) = some rest := by cases cs <;> exact h
    obtain ⟨m, h1, h2⟩ := Option.bind_eq_some_iff.1 h
    rw [iha h1, ihb h2]; simp [zeroCells]
  | slice e _ =>
    intro cs rest h
    unfold stripZ at h
    split at h <;> rename_i he <;> try cases he
    · injection h with h; subst h; rfl
    · cases h
def zeroB (t : Ty) (v : Value) : Bool := match v with
  | .agg xs => match isProd t, stripZ t xs.toList with
    | true, some [] => true
    | _, _ => false
  | v => match isProd t, stripZ t [v] with
    | false, some [] => true
    | _, _ => false
theorem zeroB_spec {t : Ty} {v : Value} (h : zeroB t v = true) : v = wrapV t (zeroCells t) := by
  unfold zeroB at h
  split at h
  · rename_i xs
    split at h
    · rename_i h1 h2
      have := stripZ_spec h2
      rw [List.append_nil] at this
      have e : xs = (zeroCells t).toArray := by apply Array.ext'; simpa using this
      rw [e]
      cases t <;> first | rfl | cases h1
    · cases h
  · split at h
    · rename_i h1 h2
      have := stripZ_spec h2
      rw [List.append_nil] at this
      cases t <;> first | (cases h1; done) | (rw [← this]; rfl)
    · cases h

def fieldsB (tab : Tab) : Ty → Nat → List Field → Bool
  | .unit, _, [] => true
  | .prod a b, o, f :: fs => cnd (Nat.beq f.offset o) (cnd (tyIs (tab f.type) a) (cnd (Nat.beq a.size 0) false (cnd (f.name == "_") false (fieldsB tab b (Nat.add o a.size) fs))) false) false
  | _, _, _ => false
theorem fieldsB_spec {tab : Tab} : ∀ {t : Ty} {o : Nat} {fs : List Field}, fieldsB tab t o fs = true → FieldsOk tab t o fs := by
  intro t
  induction t with
  | prod a b _ ihb =>
    intro o fs h
    cases fs with
    | nil => cases h
    | cons f fs =>
      simp only [fieldsB] at h
      cases h1 : Nat.beq f.offset o with
      | false => rw [h1] at h; cases h
      | true =>
        cases h2 : tyIs (tab f.type) a with
        | false => rw [h1, h2] at h; cases h
        | true =>
          cases h3 : Nat.beq a.size 0 with
          | true => rw [h1, h2, h3] at h; cases h
          | false =>
            cases h4 : f.name == "_" with
            | true => rw [h1, h2, h3, h4] at h; cases h
            | false =>
              rw [h1, h2, h3, h4] at h
              exact ⟨nbeq h1, tyIs_some h2, fun e => (by rw [e] at h3; cases h3), fun e => (by rw [e] at h4; simp at h4), ihb h⟩
  | unit => intro o fs h; cases fs with
    | nil => trivial
    | cons _ _ => cases h
  | _ => intro o fs h; cases fs <;> cases h
def descB (P : Program) (tab : Tab) (t : TypeId) (ty : Ty) : Bool := match P.underlying t, ty with
  | some (.int k), .int k' => kbeq k k'
  | some .bool, .bool => true
  | some .string, .str => true
  | some (.slice el), .slice e => tyIs (tab el) e
  | some (.struct fs), .prod a b => fieldsB tab (.prod a b) 0 fs.toList
  | some (.struct fs), .unit => fieldsB tab .unit 0 fs.toList
  | _, _ => false
theorem descB_spec {P : Program} {tab : Tab} {t : TypeId} {ty : Ty} (h : descB P tab t ty = true) : DescOk P tab t ty := by
  unfold descB at h
  split at h
  · rename_i h1; rw [k_of_beq h] at h1; exact h1
  · rename_i h1; exact h1
  · rename_i h1; exact h1
  · rename_i h1; exact ⟨_, h1, tyIs_some h⟩
  · rename_i h1; exact ⟨_, h1, fieldsB_spec h⟩
  · rename_i h1; exact ⟨_, h1, fieldsB_spec h⟩
  · cases h
def infoB (P : Program) (t : TypeId) (ty : Ty) : Bool := match P.info? t with
  | some i => match i.zero with
    | some z => cnd (Nat.beq i.size ty.size) (cnd (Nat.ble i.bytes 4096) (zeroB ty z) false) false
    | none => false
  | none => false
theorem infoB_spec {P : Program} {t : TypeId} {ty : Ty} (h : infoB P t ty = true) : ∃ i, P.info? t = some i ∧ i.size = ty.size ∧ i.zero = some (wrapV ty (zeroCells ty)) ∧ i.bytes ≤ 4096 := by
  unfold infoB at h
  split at h
  · rename_i i h1
    split at h
    · rename_i z h2
      cases h3 : Nat.beq i.size ty.size with
      | false => rw [h3] at h; cases h
      | true =>
        cases h4 : Nat.ble i.bytes 4096 with
        | false => rw [h3, h4] at h; cases h
        | true =>
          rw [h3, h4] at h
          exact ⟨i, h1, nbeq h3, by rw [h2, zeroB_spec h], Nat.le_of_ble_eq_true h4⟩
    · cases h
  · cases h
def cmpB (P : Program) (t : TypeId) (ty : Ty) : Bool := cnd (isProd ty) (cnd (P.stoodInHeld t) false (cnd (P.eqGuardType P.depth t) false true)) true
theorem cmpB_spec {P : Program} {t : TypeId} {ty : Ty} (h : cmpB P t ty = true) : isProd ty = true → P.stoodInHeld t = false ∧ P.eqGuardType P.depth t = false := by
  intro hp
  unfold cmpB at h
  rw [hp] at h
  cases h1 : P.stoodInHeld t with
  | true => rw [h1] at h; cases h
  | false =>
    cases h2 : P.eqGuardType P.depth t with
    | true => rw [h1, h2] at h; cases h
    | false => exact ⟨rfl, rfl⟩
def tabB (P : Program) (tab : Tab) : List (Nat × Ty) → Bool
  | [] => true
  | (t, ty) :: l => cnd (infoB P t ty) (cnd (descB P tab t ty) (cnd (cmpB P t ty) (tabB P tab l) false) false) false
theorem tabB_mem {P : Program} {tab : Tab} : ∀ {l : List (Nat × Ty)}, tabB P tab l = true → ∀ t ty, (t, ty) ∈ l → TyOk P tab t ty
  | [], _, _, _, h => by cases h
  | (u, uy) :: l, h, t, ty, hm => by
    simp only [tabB] at h
    cases h1 : infoB P u uy with
    | false => rw [h1] at h; cases h
    | true =>
      cases h2 : descB P tab u uy with
      | false => rw [h1, h2] at h; cases h
      | true =>
        cases h3 : cmpB P u uy with
        | false => rw [h1, h2, h3] at h; cases h
        | true =>
          rw [h1, h2, h3] at h
          rcases List.mem_cons.1 hm with he | hm
          · injection he with e1 e2; subst e1; subst e2
            exact ⟨infoB_spec h1, descB_spec h2, cmpB_spec h3⟩
          · exact tabB_mem h t ty hm
theorem tabOk_of {P : Program} {l : List (Nat × Ty)} (h : tabB P (lookT l) l = true) : TabOk P (lookT l) := fun t ty ht => tabB_mem h t ty (lookT_mem ht)

/-! ### functions that are called -/
theorem gam_nil {P : Program} : GamOk P (fun _ => none) := fun f s h => by cases h
theorem gam_cons {P : Program} {G : Gam} {f : FuncId} {s : Sig} (h : FnOk P f s) (hG : GamOk P G) : GamOk P (fun g => cnd (Nat.beq g f) (some s) (G g)) := by
  intro g t hg
  have hg : cnd (Nat.beq g f) (some s) (G g) = some t := hg
  cases hq : Nat.beq g f with
  | true => rw [hq] at hg; injection hg with hg; subst hg; rw [nbeq hq]; exact h
  | false => rw [hq] at hg; exact hG g t hg

theorem fn_okP {P : Program} {tab : Tab} {G : Gam} (hT : TabOk P tab) (hG : GamOk P G) (hm : P.follows .mixedOrders = true) {f : FuncId} {fn : Func} {c : Code} (hf : P.funcs[f]? = some fn) (hname : (fn.name == "runtime.NumGoroutine") = false) (hb : fn.body = some c)
    (s : Sig) (hop : s.opens = false) (hmu : s.muts = false) (hone : Nat.beq fn.results.toList.length 1 = s.one) {ann : Ann} {fuel : Nat} (hfn : ∀ x rd, evalFnP real tab G ann fuel fn s.aty s.rdty s.usesRd s.rty s.own x rd = s.fn x rd) (hfv : s.fv = none := by rfl) : FnOk P f s :=
  fn_ok hT hG hm hf hname hb s hop hmu hone (ann := ann) (fuel := fuel) (fun x rd r h => by rw [← evalFn_real, hfn]; exact h) hfv
theorem mut_okP {P : Program} {tab : Tab} {G : Gam} (hT : TabOk P tab) (hG : GamOk P G) (hm : P.follows .mixedOrders = true) {f : FuncId} {fn : Func} {c : Code} (hf : P.funcs[f]? = some fn) (hname : (fn.name == "runtime.NumGoroutine") = false) (hb : fn.body = some c)
    (b rdty rty : Ty) (one : Bool) (g : (Ty.prod .unit b).val → rdty.val → Option (rty.val × rdty.val)) (hone : Nat.beq fn.results.toList.length 1 = one) {ann : Ann} {fuel : Nat} (hfn : ∀ x rd, evalMutP real tab G ann fuel fn b rdty rty x rd = g ((), x) rd) :
    FnOk P f { aty := .prod .unit b, rdty := rdty, usesRd := true, rty := rty, one := one, own := [], opens := false, muts := true, fn := g } :=
  mut_ok hT hG hm hf hname hb b rdty rty one g hone (ann := ann) (fuel := fuel) fun x rd r h => by rw [← evalMut_real, hfn]; exact h
theorem fnF_okP {P : Program} {tab : Tab} {G : Gam} (hT : TabOk P tab) (hG : GamOk P G) (hm : P.follows .mixedOrders = true) {f : FuncId} {fn : Func} {c : Code} (hf : P.funcs[f]? = some fn) (hname : (fn.name == "runtime.NumGoroutine") = false) (hb : fn.body = some c)
    (aty rty : Ty) (one : Bool) (own : List (List Nat)) (g : FuncId) (q : aty.val → Ty.unit.val → Option (rty.val × Ty.unit.val)) (hone : Nat.beq fn.results.toList.length 1 = one) {ann : Ann} {fuel : Nat} (hfn : ∀ x rd, evalFnFP real tab G ann fuel fn g aty rty own x = q x rd) :
    FnOk P f { aty := aty, rdty := .unit, usesRd := false, rty := rty, one := one, own := own, opens := false, fv := some g, fn := q } :=
  fnF_ok hT hG hm hf hname hb aty rty one own g q hone (ann := ann) (fuel := fuel) fun x rd r h => by rw [← evalFnF_real, hfn x rd]; exact h
theorem fn_none {P : Program} {f : FuncId} {fn : Func} {c : Code} (hf : P.funcs[f]? = some fn) (hname : (fn.name == "runtime.NumGoroutine") = false) (hb : fn.body = some c) (s : Sig) (h : ∀ x rd, s.fn x rd = none) : FnOk P f s := by
  refine ⟨fun args w => ?_, fun _ _ _ x rd r hr => (by rw [h] at hr; cases hr), fun _ _ _ _ _ x rd r hr => (by rw [h] at hr; cases hr), fun _ _ x rd r hr => (by rw [h] at hr; cases hr), fun _ _ x rd r hr => (by rw [h] at hr; cases hr)⟩
  have h1 : fn.name ≠ "runtime.NumGoroutine" := by simpa using hname
  simp [callFunc, hf, h1, hb]

/-! ### arguments -/
def InR : (t : Ty) → t.val → Prop
  | .int k, x => (Lit.int k x).wf = true
  | .prod a b, x => InR a x.1 ∧ InR b x.2
  | .slice t, xs => List.length (α := t.val) xs ≤ maxLen ∧ ∀ x, x ∈ (show List t.val from xs) → InR t x
  | .str, xs => List.length (α := UInt8) xs ≤ maxLen
  | _, _ => True
def Ty.rank : Ty → Nat
  | .prod a b => a.rank + b.rank + 1
  | .slice t => t.rank + 1
  | _ => 1
def posB : Ty → Bool
  | .prod a b => cnd (posB a) (posB b) false
  | .slice t => cnd (Nat.beq t.size 0) false (posB t)
  | _ => true

section
variable {P : Program} {tab : Tab} {H : Type} {enc : TypeId × Value → H} {w : World} {base : Nat} {spare : Nat → Bool} {held : Bool}
theorem cellsOf_ok {t : TypeId} {ty : Ty} (h : TyOk P tab t ty) : P.cellsOf t = ty.size := by
  obtain ⟨i, h1, h2, _⟩ := h.info
  simp [Program.cellsOf, h1, h2]
theorem trod_rep (hT : TabOk P tab) : ∀ {ty : Ty} {t : TypeId} {n : Nat} {cs : List Value} {x : DataW H × List MemPlace}, DescOk P tab t ty → P.cellsOf t = ty.size → posB ty = true → DataW.trod enc P w base spare held n t cs = some x → ∃ y : ty.val, CRep w (fun _ => none) ty y cs ∧ InR ty y := by
  intro ty
  have fields : ∀ {ty : Ty} {o : Nat} {fs : List Field} {n : Nat} {cs : List Value} {xs : List (DataW H × List MemPlace)} (_ : ∀ {u : Ty} {v : TypeId} {m : Nat} {ds : List Value} {z : DataW H × List MemPlace}, u.rank < ty.rank → DescOk P tab v u → P.cellsOf v = u.size → posB u = true → DataW.trod enc P w base spare held m v ds = some z → ∃ y : u.val, CRep w (fun _ => none) u y ds ∧ InR u y),
      FieldsOk tab ty o fs → posB ty = true → cs.length = o + ty.size → (∀ (i : Nat) (f : Field), fs[i]? = some f → DataW.trod enc P w base spare held n f.type ((cs.drop f.offset).take (P.cellsOf f.type)) = xs[i]?) → xs.length = fs.length →
      ∃ y : ty.val, CRep w (fun _ => none) ty y (cs.drop o) ∧ InR ty y := by
    intro ty
    induction ty with
    | prod a b _ ihb =>
      intro o fs n cs xs ih hf hp hl hx hxl
      cases fs with
      | nil => exact hf.elim
      | cons f fs =>
        obtain ⟨h1, h2, h3, h4, h5⟩ := hf
        have hp' : posB a = true ∧ posB b = true := by
          simp only [posB] at hp
          cases hq : posB a with
          | false => rw [hq] at hp; cases hp
          | true => rw [hq] at hp; exact ⟨rfl, hp⟩
        have hta := hT _ _ h2
        cases xs with
        | nil => simp at hxl
        | cons x0 xs =>
          have h0 := hx 0 f rfl
          rw [h1, cellsOf_ok hta] at h0
          obtain ⟨y1, c1, r1⟩ := ih (u := a) (by simp only [Ty.rank]; omega) hta.desc (cellsOf_ok hta) hp'.1 (h0.trans rfl)
          have hsz : cs.length = (o + a.size) + b.size := by rw [hl]; simp [Ty.size]; omega
          obtain ⟨y2, c2, r2⟩ := ihb (o := o + a.size) (fs := fs) (n := n) (cs := cs) (xs := xs) (fun hlt => ih (by simp only [Ty.rank]; omega)) h5 hp'.2 hsz (fun i g hg => by have := hx (i + 1) g (by simpa using hg); simpa using this) (by simpa using hxl)
          refine ⟨(y1, y2), ⟨_, _, ?_, c1, c2⟩, r1, r2⟩
          rw [← List.drop_drop]
          exact (List.take_append_drop _ _).symm
    | unit =>
      intro o fs n cs xs ih hf hp hl hx hxl
      refine ⟨(), ?_, trivial⟩
      simp only [CRep]
      rw [List.drop_eq_nil_iff]; simp [Ty.size] at hl; omega
    | _ => intro o fs n cs xs ih hf; cases fs <;> exact hf.elim
  -- by the type's size
  have main : ∀ (k : Nat) (ty : Ty), ty.rank < k → ∀ {t : TypeId} {n : Nat} {cs : List Value} {x : DataW H × List MemPlace}, DescOk P tab t ty → P.cellsOf t = ty.size → posB ty = true → DataW.trod enc P w base spare held n t cs = some x → ∃ y : ty.val, CRep w (fun _ => none) ty y cs ∧ InR ty y := by
    intro k
    induction k with
    | zero => intro ty h; omega
    | succ k ih =>
      intro ty hk t n cs x hd hc hp h
      have str : ∀ {ty : Ty} (_ : ty.rank < k + 1) (_ : P.cellsOf t = ty.size) (_ : posB ty = true), (∃ fs, P.underlying t = some (.struct fs) ∧ FieldsOk tab ty 0 fs.toList) → ∃ y : ty.val, CRep w (fun _ => none) ty y cs ∧ InR ty y := by
        intro ty hk hc hp ⟨fs, h1, h2⟩
        obtain ⟨xs, m, _, _, hl, hxl, hf⟩ := DataW.trod_struct h1 h
        have := fields (ty := ty) (o := 0) (fs := fs.toList) (n := m) (cs := cs) (xs := xs) (fun hlt => ih _ (by omega)) h2 hp (by rw [hl, hc]; omega) (fun i f hi => hf i f (by simpa using hi)) (by simpa using hxl)
        simpa using this
      cases ty with
      | int kd =>
        obtain ⟨m, h1, _, h2⟩ := DataW.trod_int hd h
        subst h1
        exact ⟨m, rfl, h2⟩
      | bool =>
        obtain ⟨b, h1, _⟩ := DataW.trod_bool hd h
        subst h1
        exact ⟨b, rfl, trivial⟩
      | str =>
        obtain ⟨s, h1, _, h2⟩ := DataW.trod_string hd h
        subst h1
        exact ⟨s.data.toList, rfl, (by show s.data.toList.length ≤ _; rw [Array.length_toList]; exact h2)⟩
      | unit => exact str hk hc hp hd
      | prod a b => exact str hk hc hp hd
      | slice e =>
        obtain ⟨el, h1, h2⟩ := hd
        have hte := hT _ _ h2
        have hce := cellsOf_ok hte
        have hp' : e.size ≠ 0 ∧ posB e = true := by
          simp only [posB] at hp
          cases hq : Nat.beq e.size 0 with
          | true => rw [hq] at hp; cases hp
          | false => rw [hq] at hp; exact ⟨fun e => (by rw [e] at hq; cases hq), hp⟩
        rcases DataW.trod_slice h1 h with ⟨rfl, _⟩ | ⟨a, len, cap, elems, rest, m, _, rfl, _, hb, hl, hm, hlen, hel, _, _⟩
        · exact ⟨([] : List e.val), ⟨none, 0, rfl, Nat.le_refl _, .inl rfl⟩, Nat.zero_le _, fun x hx => by cases hx⟩
        · have each : ∀ i, i < len → ∃ (y : e.val) (ds : List Value), CRep w (fun _ => none) e y ds ∧ InR e y ∧ w.cells? base (a.add (i * e.size)) e.size = some ds := by
            intro i hi
            have := hel i hi
            rw [hce] at this
            cases hq : w.cells? base (a.add (i * e.size)) e.size with
            | none => rw [hq] at this; simp at this; omega
            | some ds =>
              rw [hq] at this
              simp only [Option.bind_some] at this
              have hi' : i < elems.length := by omega
              rw [List.getElem?_eq_getElem hi'] at this
              obtain ⟨y, k1, k2⟩ := ih e (by simp only [Ty.rank] at hk; omega) hte.desc hce hp'.2 this
              exact ⟨y, ds, k1, k2, rfl⟩
          obtain ⟨ys, hyl, hys⟩ : ∃ ys : List e.val, ys.length = len ∧ ∀ i y, ys[i]? = some y → ∃ ds : List Value, CRep w (fun _ => none) e y ds ∧ InR e y ∧ w.cells? base (a.add (i * e.size)) e.size = some ds := by
            have : ∀ j, j ≤ len → ∃ ys : List e.val, ys.length = j ∧ ∀ i y, ys[i]? = some y → ∃ ds : List Value, CRep w (fun _ => none) e y ds ∧ InR e y ∧ w.cells? base (a.add (i * e.size)) e.size = some ds := by
              intro j
              induction j with
              | zero => intro _; exact ⟨[], rfl, fun i y hi => by simp at hi⟩
              | succ j ihj =>
                intro hj
                obtain ⟨ys, k1, k2⟩ := ihj (by omega)
                obtain ⟨y, ds, k3, k4, k5⟩ := each j (by omega)
                refine ⟨ys ++ [y], by simp [k1], fun i z hi => ?_⟩
                by_cases hij : i < ys.length
                · rw [List.getElem?_append_left hij] at hi; exact k2 i z hi
                · have hi2 : i = j := by
                    have := (List.getElem?_eq_some_iff.1 hi).1
                    simp at this; omega
                  subst hi2
                  rw [List.getElem?_append_right (by omega)] at hi
                  simp [k1] at hi
                  subst hi
                  exact ⟨ds, k3, k4, k5⟩
            exact this len (Nat.le_refl _)
          refine ⟨ys, ⟨some a, cap, by rw [hyl], by rw [hyl]; exact hl, ?_⟩, by show List.length (α := e.val) ys ≤ maxLen; omega, fun y hy => ?_⟩
          · by_cases hnil : ys = []
            · exact .inl hnil
            · -- the first element's first cell
              have hlen0 : 0 < len := by rw [← hyl]; exact List.length_pos_iff.2 hnil
              have cellAt : ∀ i, i < len → ∀ j, j < e.size → ∃ v, w.cell? ((a.add (i * e.size)).add j) = some v := by
                intro i hi j hj
                obtain ⟨y, ds, k1, _, k3⟩ := each i hi
                obtain ⟨_, m2, m3⟩ := World.cells?_some k3
                have : j < ds.length := by omega
                exact ⟨ds[j], (m3 j hj).trans (List.getElem?_eq_getElem this)⟩
              obtain ⟨v0, hv0⟩ := cellAt 0 hlen0 0 (Nat.pos_of_ne_zero hp'.1)
              have ha0 : (a.add (0 * e.size)).add 0 = a := by simp [Addr.add]
              rw [ha0] at hv0
              have hspot : a.spot = none := by
                unfold World.cell? at hv0
                split at hv0
                · split at hv0
                  · cases hv0
                  · rename_i hq; cases hs : a.spot with
                    | none => rfl
                    | some _ => rw [hs] at hq; simp at hq
                · cases hv0
              have hblk : a.block < w.heap.size := by
                unfold World.cell? at hv0
                split at hv0
                · rename_i hq; exact (Array.getElem?_eq_some_iff.1 hq).1
                · cases hv0
              obtain ⟨ab, ao, asp⟩ := a
              simp only at hspot hblk
              subst hspot
              refine .inr ⟨ab, ao, rfl, hblk, fun m hm => (by cases hm), fun i y hi => ?_⟩
              obtain ⟨ds, k1, k2, k3⟩ := hys i y hi
              refine ⟨ds, k1, fun j v hj => ?_⟩
              obtain ⟨_, m2, m3⟩ := World.cells?_some k3
              have hjl := (List.getElem?_eq_some_iff.1 hj).1
              have := (m3 j (by omega)).trans hj
              have hadd : ((⟨ab, ao, none⟩ : Addr).add (i * e.size)).add j = ⟨ab, ao + i * e.size + j, none⟩ := by
                unfold Addr.add
                split <;> split <;> simp_all <;> omega
              rw [hadd] at this
              exact this
          · obtain ⟨i, hi⟩ := List.getElem?_of_mem hy
            obtain ⟨ds, _, k2, _⟩ := hys i y hi
            exact k2
  intro t n cs x
  exact main (ty.rank + 1) ty (Nat.lt_succ_self _)

theorem arg_rep (hT : TabOk P tab) {base2 : Nat} {t : TypeId} {ty : Ty} (ht : tab t = some ty) (hp : posB ty = true) {v : Value} {d : DataW H} {ps : List MemPlace} (hok : Value.okWide P w .any base2 t v) (h : DataW.Trod enc P w base spare held t v d ps) :
    ∃ x : ty.val, TRep w (fun _ => none) ty x v ∧ InR ty x := by
  obtain ⟨n, hn⟩ := h
  have hty := hT _ _ ht
  obtain ⟨y, h1, h2⟩ := trod_rep hT hty.desc (cellsOf_ok hty) hp hn
  refine ⟨y, ⟨_, h1, ?_⟩, h2⟩
  have hd := hty.desc
  cases ty with
  | int k => obtain ⟨m, rfl⟩ := WideShapes.okWide_int hd hok; rfl
  | bool => obtain ⟨m, rfl⟩ := WideShapes.okWide_bool hd hok; rfl
  | str => obtain ⟨m, rfl⟩ := WideShapes.okWide_string hd hok; rfl
  | slice e => obtain ⟨el, hd, _⟩ := hd; obtain ⟨a, l, c, rfl⟩ := WideShapes.okWide_slice hd hok; rfl
  | unit => obtain ⟨fs, hd, _⟩ := hd; obtain ⟨cs, rfl, _⟩ := WideShapes.okWide_struct hd hok; simp [wrapV, Value.cells]
  | prod a b => obtain ⟨fs, hd, _⟩ := hd; obtain ⟨cs, rfl, _⟩ := WideShapes.okWide_struct hd hok; simp [wrapV, Value.cells]

theorem law_calls {f : FuncId} {aty : Ty} {fn : aty.val → Ty.unit.val → Option ((Ty.prod .bool .unit).val × Ty.unit.val)} (hF : FnOk P f { aty := aty, rdty := .unit, usesRd := false, rty := .prod .bool .unit, one := true, own := [], opens := false, fn := fn })
    {x : aty.val} (hx : fn x () = some ((true, ()), ())) {vals : List Value} {W : World} (ha : ArgsRep W (fun _ => none) none aty x vals) :
    Calls P f vals.toArray W (fun e W' => e = .returned (.bool true) ∧ Go.RowKit.Below W.heap.size W W') := by
  refine (hF.calls rfl rfl rfl x () _ hx W (fun _ => none) none vals ha ⟨fun h => (by cases h), fun _ => rfl⟩).mono fun e W' h => ?_
  obtain ⟨v, lim', rfl, h1, _, h2, _⟩ := h
  have : v = .bool true := bool_rep (st := st00) h2
  subst this
  exact ⟨rfl, (Go.RowKit.Below.refl _ _).grown h1 (Nat.le_refl _) (fun k hk => by cases hk)⟩
end
end Go.Den
