/- The table of types decided, arguments read, gammas, laws that answer true. -/
import Derived.Test.YtbfndjfjkkfaeaaXDenX
import Derived.Test.YtbfndjfjkkfaeaaXDenAP
import Derived.ProofKit
import Derived.OpenShut
import Derived.ChangeOld
import Derived.Below
import Derived.SizedLaws
set_option linter.unusedVariables false
set_option linter.unusedSimpArgs false
namespace Go.Den

def lookT : List (Nat × Ty) → Nat → Option Ty
  | [], _ => none
  | (i, t) :: l, j => cnd (Nat.beq j i) (some t) (lookT l j)
theorem lookT_mem : ∀ {l : List (Nat × Ty)} {j : Nat} {t : Ty}, lookT l j = some t → (j, t) ∈ l
  | [], _, _, h => by cases h
  | (i, u) :: l, j, t, h => by
    simp only [lookT] at h
    cases hq : Nat.beq j i with
    | true => rw [hq] at h; injection h with h; subst h; rw [nbeq hq]; exact List.mem_cons_self
    | false => rw [hq] at h; exact List.mem_cons_of_mem _ (lookT_mem h)

/-- the zero cells of a type taken off -/
def stripZ : Ty → List Value → Option (List Value)
  | .int k, .int k' n :: cs => cnd (kbeq k k') (cnd (decide (n = 0)) (some cs) none) none
  | .bool, .bool b :: cs => cnd b none (some cs)
  | .str, .string s :: cs => cnd (Nat.beq s.data.size 0) (some cs) none
  | .unit, cs => some cs
  | .prod a b, cs => (stripZ a cs).bind (stripZ b)
  | .slice _, .slice none 0 0 :: cs => some cs
  | _, _ => none
theorem stripZ_spec : ∀ {t : Ty} {cs rest : List Value}, stripZ t cs = some rest → cs = zeroCells t ++ rest := by
  intro t
  induction t with
  | int k =>
    intro cs rest h
    unfold stripZ at h
    split at h <;> try cases h
    · rename_i k' k2 n cs' he
      injection he with he; subst he
      cases h1 : kbeq k k2 with
      | false => rw [h1] at h; cases h
      | true =>
        cases h2 : decide (n = 0) with
        | false => rw [h1, h2] at h; cases h
        | true =>
          rw [h1, h2] at h; injection h with h; subst h
          rw [← k_of_beq h1, of_decide_eq_true h2]; rfl
    all_goals rename_i he; cases he
  | bool =>
    intro cs rest h
    unfold stripZ at h
    split at h <;> rename_i he <;> try cases he
    · rename_i b cs'
      cases b with
      | true => cases h
      | false => injection h with h; subst h; rfl
    · cases h
  | str =>
    intro cs rest h
    unfold stripZ at h
    split at h <;> rename_i he <;> try cases he
    · rename_i s cs'
      cases h1 : Nat.beq s.data.size 0 with
      | false => rw [h1] at h; cases h
      | true =>
        rw [h1] at h; injection h with h; subst h
        have : s = ⟨#[]⟩ := by
          cases s with
          | mk d =>
            have hd : d.size = 0 := nbeq h1
            rw [Array.eq_empty_of_size_eq_zero hd]
        rw [this]; rfl
    · cases h
  | unit =>
    intro cs rest h
    have h : some cs = some rest := by cases cs <;> exact h
    injection h with h
  | prod a b iha ihb =>
    intro cs rest h
    have h : (stripZ a cs).bind (stripZ b) = some rest := by cases cs <;> exact h
    obtain ⟨m, h1, h2⟩ := Option.bind_eq_some_iff.1 h
    rw [iha h1, ihb h2]; simp [zeroCells]
  | slice e _ =>
    intro cs rest h
    unfold stripZ at h
    split at h <;> rename_i he <;> try cases he
    · injection h with h; subst h; rfl
    · cases h
def zeroB (t : Ty) (v : Value) : Bool := match v with
  | .agg xs => match isProd t, stripZ t xs.toList with
    | true, some [] => true
    | _, _ => false
  | v => match isProd t, stripZ t [v] with
    | false, some [] => true
    | _, _ => false
theorem zeroB_spec {t : Ty} {v : Value} (h : zeroB t v = true) : v = wrapV t (zeroCells t) := by
  unfold zeroB at h
  split at h
  · rename_i xs
    split at h
    · rename_i h1 h2
      have := stripZ_spec h2
      rw [List.append_nil] at this
      have e : xs = (zeroCells t).toArray := by apply Array.ext'; simpa using this
      rw [e]
      cases t <;> first | rfl | cases h1
    · cases h
  · split at h
    · rename_i h1 h2
      have := stripZ_spec h2
      rw [List.append_nil] at this
      cases t <;> first | (cases h1; done) | (rw [← this]; rfl)
    · cases h

def fieldsB (tab : Tab) : Ty → Nat → List Field → Bool
  | .unit, _, [] => true
  | .prod a b, o, f :: fs => cnd (Nat.beq f.offset o) (cnd (tyIs (tab f.type) a) (cnd (Nat.beq a.size 0) false (cnd (f.name == "_") false (fieldsB tab b (Nat.add o a.size) fs))) false) false
  | _, _, _ => false
theorem fieldsB_spec {tab : Tab} : ∀ {t : Ty} {o : Nat} {fs : List Field}, fieldsB tab t o fs = true → FieldsOk tab t o fs := by
  intro t
  induction t with
  | prod a b _ ihb =>
    intro o fs h
    cases fs with
    | nil => cases h
    | cons f fs =>
      simp only [fieldsB] at h
      cases h1 : Nat.beq f.offset o with
      | false => rw [h1] at h; cases h
      | true =>
        cases h2 : tyIs (tab f.type) a with
        | false => rw [h1, h2] at h; cases h
        | true =>
          cases h3 : Nat.beq a.size 0 with
          | true => rw [h1, h2, h3] at h; cases h
          | false =>
            cases h4 : f.name == "_" with
            | true => rw [h1, h2, h3, h4] at h; cases h
            | false =>
              rw [h1, h2, h3, h4] at h
              exact ⟨nbeq h1, tyIs_some h2, fun e => (by rw [e] at h3; cases h3), fun e => (by rw [e] at h4; simp at h4), ihb h⟩
  | unit => intro o fs h; cases fs with
    | nil => trivial
    | cons _ _ => cases h
  | _ => intro o fs h; cases fs <;> cases h
def descB (P : Program) (tab : Tab) (t : TypeId) (ty : Ty) : Bool := match P.underlying t, ty with
  | some (.int k), .int k' => kbeq k k'
  | some .bool, .bool => true
  | some .string, .str => true
  | some (.slice el), .slice e => tyIs (tab el) e
  | some (.struct fs), .prod a b => fieldsB tab (.prod a b) 0 fs.toList
  | some (.struct fs), .unit => fieldsB tab .unit 0 fs.toList
  | _, _ => false
theorem descB_spec {P : Program} {tab : Tab} {t : TypeId} {ty : Ty} (h : descB P tab t ty = true) : DescOk P tab t ty := by
  unfold descB at h
  split at h
  · rename_i h1; rw [k_of_beq h] at h1; exact h1
  · rename_i h1; exact h1
  · rename_i h1; exact h1
  · rename_i h1; exact ⟨_, h1, tyIs_some h⟩
  · rename_i h1; exact ⟨_, h1, fieldsB_spec h⟩
  · rename_i h1; exact ⟨_, h1, fieldsB_spec h⟩
  · cases h
def infoB (P : Program) (t : TypeId) (ty : Ty) : Bool := match P.info? t with
  | some i => match i.zero with
    | some z => cnd (Nat.beq i.size ty.size) (cnd (Nat.ble i.bytes 4096) (zeroB ty z) false) false
    | none => false
  | none => false
theorem infoB_spec {P : Program} {t : TypeId} {ty : Ty} (h : infoB P t ty = true) : ∃ i, P.info? t = some i ∧ i.size = ty.size ∧ i.zero = some (wrapV ty (zeroCells ty)) ∧ i.bytes ≤ 4096 := by
  unfold infoB at h
  split at h
  · rename_i i h1
    split at h
    · rename_i z h2
      cases h3 : Nat.beq i.size ty.size with
      | false => rw [h3] at h; cases h
      | true =>
        cases h4 : Nat.ble i.bytes 4096 with
        | false => rw [h3, h4] at h; cases h
        | true =>
          rw [h3, h4] at h
          exact ⟨i, h1, nbeq h3, by rw [h2, zeroB_spec h], Nat.le_of_ble_eq_true h4⟩
    · cases h
  · cases h
def cmpB (P : Program) (t : TypeId) (ty : Ty) : Bool := cnd (isProd ty) (cnd (P.stoodInHeld t) false (cnd (P.eqGuardType P.depth t) false true)) true
theorem cmpB_spec {P : Program} {t : TypeId} {ty : Ty} (h : cmpB P t ty = true) : isProd ty = true → P.stoodInHeld t = false ∧ P.eqGuardType P.depth t = false := by
  intro hp
  unfold cmpB at h
  rw [hp] at h
  cases h1 : P.stoodInHeld t with
  | true => rw [h1] at h; cases h
  | false =>
    cases h2 : P.eqGuardType P.depth t with
    | true => rw [h1, h2] at h; cases h
    | false => exact ⟨rfl, rfl⟩
def tabB (P : Program) (tab : Tab) : List (Nat × Ty) → Bool
  | [] => true
  | (t, ty) :: l => cnd (infoB P t ty) (cnd (descB P tab t ty) (cnd (cmpB P t ty) (tabB P tab l) false) false) false
theorem tabB_mem {P : Program} {tab : Tab} : ∀ {l : List (Nat × Ty)}, tabB P tab l = true → ∀ t ty, (t, ty) ∈ l → TyOk P tab t ty
  | [], _, _, _, h => by cases h
  | (u, uy) :: l, h, t, ty, hm => by
    simp only [tabB] at h
    cases h1 : infoB P u uy with
    | false => rw [h1] at h; cases h
    | true =>
      cases h2 : descB P tab u uy with
      | false => rw [h1, h2] at h; cases h
      | true =>
        cases h3 : cmpB P u uy with
        | false => rw [h1, h2, h3] at h; cases h
        | true =>
          rw [h1, h2, h3] at h
          rcases List.mem_cons.1 hm with he | hm
          · injection he with e1 e2; subst e1; subst e2
            exact ⟨infoB_spec h1, descB_spec h2, cmpB_spec h3⟩
          · exact tabB_mem h t ty hm
theorem tabOk_of {P : Program} {l : List (Nat × Ty)} (h : tabB P (lookT l) l = true) : TabOk P (lookT l) := fun t ty ht => tabB_mem h t ty (lookT_mem ht)

/-! ### functions that are called -/
theorem gam_nil {P : Program} : GamOk P (fun _ => none) := fun f s h => by cases h
theorem gam_cons {P : Program} {G : Gam} {f : FuncId} {s : Sig} (h : FnOk P f s) (hG : GamOk P G) : GamOk P (fun g => cnd (Nat.beq g f) (some s) (G g)) := by
  intro g t hg
  have hg : cnd (Nat.beq g f) (some s) (G g) = some t := hg
  cases hq : Nat.beq g f with
  | true => rw [hq] at hg; injection hg with hg; subst hg; rw [nbeq hq]; exact h
  | false => rw [hq] at hg; exact hG g t hg

theorem fn_okP {P : Program} {tab : Tab} {G : Gam} (hT : TabOk P tab) (hG : GamOk P G) (hm : P.follows .mixedOrders = true) {f : FuncId} {fn : Func} {c : Code} (hf : P.funcs[f]? = some fn) (hname : (fn.name == "runtime.NumGoroutine") = false) (hb : fn.body = some c)
    (s : Sig) (hop : s.opens = false) (hmu : s.muts = false) (hone : Nat.beq fn.results.toList.length 1 = s.one) {ann : Ann} {fuel : Nat} (hfn : ∀ x rd, evalFnP real tab G ann fuel fn s.aty s.rdty s.usesRd s.rty s.own x rd = s.fn x rd) : FnOk P f s :=
  fn_ok hT hG hm hf hname hb s hop hmu hone (ann := ann) (fuel := fuel) fun x rd r h => by rw [← evalFn_real, hfn]; exact h
theorem open_okP {P : Program} {tab : Tab} {G : Gam} (hT : TabOk P tab) (hG : GamOk P G) (hm : P.follows .mixedOrders = true) {f : FuncId} {fn : Func} {c : Code} (hf : P.funcs[f]? = some fn) (hname : (fn.name == "runtime.NumGoroutine") = false) (hb : fn.body = some c)
    (s : Sig) (hop : s.opens = true) (hmu : s.muts = false) (hus : s.usesRd = false) {ann : Ann} {fuel : Nat} (hfn : ∀ x rd, (evalOpenP real tab G ann fuel fn s.aty s.rty x).map (·.1) = (s.fn x rd).map (·.1)) : FnOk P f s :=
  open_ok hT hG hm hf hname hb s hop hmu hus (ann := ann) (fuel := fuel) fun x rd r h => by
    have h1 := hfn x rd
    rw [evalOpen_real, h] at h1
    cases hq : evalOpen tab G ann fuel fn s.aty s.rty x with
    | none => rw [hq] at h1; cases h1
    | some r' => rw [hq] at h1; injection h1 with h1; exact ⟨r', rfl, h1⟩
theorem mut_okP {P : Program} {tab : Tab} {G : Gam} (hT : TabOk P tab) (hG : GamOk P G) (hm : P.follows .mixedOrders = true) {f : FuncId} {fn : Func} {c : Code} (hf : P.funcs[f]? = some fn) (hname : (fn.name == "runtime.NumGoroutine") = false) (hb : fn.body = some c)
    (b rdty rty : Ty) (one : Bool) (g : (Ty.prod .unit b).val → rdty.val → Option (rty.val × rdty.val)) (hone : Nat.beq fn.results.toList.length 1 = one) {ann : Ann} {fuel : Nat} (hfn : ∀ x rd, evalMutP real tab G ann fuel fn b rdty rty x rd = g ((), x) rd) :
    FnOk P f { aty := .prod .unit b, rdty := rdty, usesRd := true, rty := rty, one := one, own := [], opens := false, muts := true, fn := g } :=
  mut_ok hT hG hm hf hname hb b rdty rty one g hone (ann := ann) (fuel := fuel) fun x rd r h => by rw [← evalMut_real, hfn]; exact h
theorem fn_none {P : Program} {f : FuncId} {fn : Func} {c : Code} (hf : P.funcs[f]? = some fn) (hname : (fn.name == "runtime.NumGoroutine") = false) (hb : fn.body = some c) (s : Sig) (h : ∀ x rd, s.fn x rd = none) : FnOk P f s := by
  refine ⟨fun args w => ?_, fun _ _ x rd r hr => (by rw [h] at hr; cases hr), fun _ x rd r hr => (by rw [h] at hr; cases hr), fun _ x rd r hr => (by rw [h] at hr; cases hr)⟩
  have h1 : fn.name ≠ "runtime.NumGoroutine" := by simpa using hname
  simp [callFunc, hf, h1, hb]

/-! ### arguments -/
def InR : (t : Ty) → t.val → Prop
  | .int k, x => (Lit.int k x).wf = true
  | .prod a b, x => InR a x.1 ∧ InR b x.2
  | .slice t, xs => List.length (α := t.val) xs ≤ maxLen ∧ ∀ x, x ∈ (show List t.val from xs) → InR t x
  | .str, xs => List.length (α := UInt8) xs ≤ maxLen
  | _, _ => True
def Ty.rank : Ty → Nat
  | .prod a b => a.rank + b.rank + 1
  | .slice t => t.rank + 1
  | _ => 1
/-- no list of nothings -/
def posB : Ty → Bool
  | .prod a b => cnd (posB a) (posB b) false
  | .slice t => cnd (Nat.beq t.size 0) false (posB t)
  | _ => true

section
variable {P : Program} {tab : Tab} {H : Type} {enc : TypeId × Value → H} {w : World} {base : Nat} {spare : Nat → Bool} {held : Bool}
theorem cellsOf_ok {t : TypeId} {ty : Ty} (h : TyOk P tab t ty) : P.cellsOf t = ty.size := by
  obtain ⟨i, h1, h2, _⟩ := h.info
  simp [Program.cellsOf, h1, h2]
theorem trod_rep (hT : TabOk P tab) : ∀ {ty : Ty} {t : TypeId} {n : Nat} {cs : List Value} {x : DataW H × List MemPlace}, DescOk P tab t ty → P.cellsOf t = ty.size → posB ty = true → DataW.trod enc P w base spare held n t cs = some x → ∃ y : ty.val, CRep w (fun _ => none) ty y cs ∧ InR ty y := by
  intro ty
  have fields : ∀ {ty : Ty} {o : Nat} {fs : List Field} {n : Nat} {cs : List Value} {xs : List (DataW H × List MemPlace)} (_ : ∀ {u : Ty} {v : TypeId} {m : Nat} {ds : List Value} {z : DataW H × List MemPlace}, u.rank < ty.rank → DescOk P tab v u → P.cellsOf v = u.size → posB u = true → DataW.trod enc P w base spare held m v ds = some z → ∃ y : u.val, CRep w (fun _ => none) u y ds ∧ InR u y),
      FieldsOk tab ty o fs → posB ty = true → cs.length = o + ty.size → (∀ (i : Nat) (f : Field), fs[i]? = some f → DataW.trod enc P w base spare held n f.type ((cs.drop f.offset).take (P.cellsOf f.type)) = xs[i]?) → xs.length = fs.length →
      ∃ y : ty.val, CRep w (fun _ => none) ty y (cs.drop o) ∧ InR ty y := by
    intro ty
    induction ty with
    | prod a b _ ihb =>
      intro o fs n cs xs ih hf hp hl hx hxl
      cases fs with
      | nil => exact hf.elim
      | cons f fs =>
        obtain ⟨h1, h2, h3, h4, h5⟩ := hf
        have hp' : posB a = true ∧ posB b = true := by
          simp only [posB] at hp
          cases hq : posB a with
          | false => rw [hq] at hp; cases hp
          | true => rw [hq] at hp; exact ⟨rfl, hp⟩
        have hta := hT _ _ h2
        cases xs with
        | nil => simp at hxl
        | cons x0 xs =>
          have h0 := hx 0 f rfl
          rw [h1, cellsOf_ok hta] at h0
          obtain ⟨y1, c1, r1⟩ := ih (u := a) (by simp only [Ty.rank]; omega) hta.desc (cellsOf_ok hta) hp'.1 (h0.trans rfl)
          have hsz : cs.length = (o + a.size) + b.size := by rw [hl]; simp [Ty.size]; omega
          obtain ⟨y2, c2, r2⟩ := ihb (o := o + a.size) (fs := fs) (n := n) (cs := cs) (xs := xs) (fun hlt => ih (by simp only [Ty.rank]; omega)) h5 hp'.2 hsz (fun i g hg => by have := hx (i + 1) g (by simpa using hg); simpa using this) (by simpa using hxl)
          refine ⟨(y1, y2), ⟨_, _, ?_, c1, c2⟩, r1, r2⟩
          rw [← List.drop_drop]
          exact (List.take_append_drop _ _).symm
    | unit =>
      intro o fs n cs xs ih hf hp hl hx hxl
      refine ⟨(), ?_, trivial⟩
      simp only [CRep]
      rw [List.drop_eq_nil_iff]; simp [Ty.size] at hl; omega
    | _ => intro o fs n cs xs ih hf; cases fs <;> exact hf.elim
  -- by the type's size
  have main : ∀ (k : Nat) (ty : Ty), ty.rank < k → ∀ {t : TypeId} {n : Nat} {cs : List Value} {x : DataW H × List MemPlace}, DescOk P tab t ty → P.cellsOf t = ty.size → posB ty = true → DataW.trod enc P w base spare held n t cs = some x → ∃ y : ty.val, CRep w (fun _ => none) ty y cs ∧ InR ty y := by
    intro k
    induction k with
    | zero => intro ty h; omega
    | succ k ih =>
      intro ty hk t n cs x hd hc hp h
      have str : ∀ {ty : Ty} (_ : ty.rank < k + 1) (_ : P.cellsOf t = ty.size) (_ : posB ty = true), (∃ fs, P.underlying t = some (.struct fs) ∧ FieldsOk tab ty 0 fs.toList) → ∃ y : ty.val, CRep w (fun _ => none) ty y cs ∧ InR ty y := by
        intro ty hk hc hp ⟨fs, h1, h2⟩
        obtain ⟨xs, m, _, _, hl, hxl, hf⟩ := DataW.trod_struct h1 h
        have := fields (ty := ty) (o := 0) (fs := fs.toList) (n := m) (cs := cs) (xs := xs) (fun hlt => ih _ (by omega)) h2 hp (by rw [hl, hc]; omega) (fun i f hi => hf i f (by simpa using hi)) (by simpa using hxl)
        simpa using this
      cases ty with
      | int kd =>
        obtain ⟨m, h1, _, h2⟩ := DataW.trod_int hd h
        subst h1
        exact ⟨m, rfl, h2⟩
      | bool =>
        obtain ⟨b, h1, _⟩ := DataW.trod_bool hd h
        subst h1
        exact ⟨b, rfl, trivial⟩
      | str =>
        obtain ⟨s, h1, _, h2⟩ := DataW.trod_string hd h
        subst h1
        exact ⟨s.data.toList, rfl, (by show s.data.toList.length ≤ _; rw [Array.length_toList]; exact h2)⟩
      | unit => exact str hk hc hp hd
      | prod a b => exact str hk hc hp hd
      | slice e =>
        obtain ⟨el, h1, h2⟩ := hd
        have hte := hT _ _ h2
        have hce := cellsOf_ok hte
        have hp' : e.size ≠ 0 ∧ posB e = true := by
          simp only [posB] at hp
          cases hq : Nat.beq e.size 0 with
          | true => rw [hq] at hp; cases hp
          | false => rw [hq] at hp; exact ⟨fun e => (by rw [e] at hq; cases hq), hp⟩
        rcases DataW.trod_slice h1 h with ⟨rfl, _⟩ | ⟨a, len, cap, elems, rest, m, _, rfl, _, hb, hl, hm, hlen, hel, _, _⟩
        · exact ⟨([] : List e.val), ⟨none, 0, rfl, Nat.le_refl _, .inl rfl⟩, Nat.zero_le _, fun x hx => by cases hx⟩
        · have each : ∀ i, i < len → ∃ (y : e.val) (ds : List Value), CRep w (fun _ => none) e y ds ∧ InR e y ∧ w.cells? base (a.add (i * e.size)) e.size = some ds := by
            intro i hi
            have := hel i hi
            rw [hce] at this
            cases hq : w.cells? base (a.add (i * e.size)) e.size with
            | none => rw [hq] at this; simp at this; omega
            | some ds =>
              rw [hq] at this
              simp only [Option.bind_some] at this
              have hi' : i < elems.length := by omega
              rw [List.getElem?_eq_getElem hi'] at this
              obtain ⟨y, k1, k2⟩ := ih e (by simp only [Ty.rank] at hk; omega) hte.desc hce hp'.2 this
              exact ⟨y, ds, k1, k2, rfl⟩
          obtain ⟨ys, hyl, hys⟩ : ∃ ys : List e.val, ys.length = len ∧ ∀ i y, ys[i]? = some y → ∃ ds : List Value, CRep w (fun _ => none) e y ds ∧ InR e y ∧ w.cells? base (a.add (i * e.size)) e.size = some ds := by
            have : ∀ j, j ≤ len → ∃ ys : List e.val, ys.length = j ∧ ∀ i y, ys[i]? = some y → ∃ ds : List Value, CRep w (fun _ => none) e y ds ∧ InR e y ∧ w.cells? base (a.add (i * e.size)) e.size = some ds := by
              intro j
              induction j with
              | zero => intro _; exact ⟨[], rfl, fun i y hi => by simp at hi⟩
              | succ j ihj =>
                intro hj
                obtain ⟨ys, k1, k2⟩ := ihj (by omega)
                obtain ⟨y, ds, k3, k4, k5⟩ := each j (by omega)
                refine ⟨ys ++ [y], by simp [k1], fun i z hi => ?_⟩
                by_cases hij : i < ys.length
                · rw [List.getElem?_append_left hij] at hi; exact k2 i z hi
                · have hi2 : i = j := by
                    have := (List.getElem?_eq_some_iff.1 hi).1
                    simp at this; omega
                  subst hi2
                  rw [List.getElem?_append_right (by omega)] at hi
                  simp [k1] at hi
                  subst hi
                  exact ⟨ds, k3, k4, k5⟩
            exact this len (Nat.le_refl _)
          refine ⟨ys, ⟨some a, cap, by rw [hyl], by rw [hyl]; exact hl, ?_⟩, by show List.length (α := e.val) ys ≤ maxLen; omega, fun y hy => ?_⟩
          · by_cases hnil : ys = []
            · exact .inl hnil
            · -- the first element's first cell
              have hlen0 : 0 < len := by rw [← hyl]; exact List.length_pos_iff.2 hnil
              have cellAt : ∀ i, i < len → ∀ j, j < e.size → ∃ v, w.cell? ((a.add (i * e.size)).add j) = some v := by
                intro i hi j hj
                obtain ⟨y, ds, k1, _, k3⟩ := each i hi
                obtain ⟨_, m2, m3⟩ := World.cells?_some k3
                have : j < ds.length := by omega
                exact ⟨ds[j], (m3 j hj).trans (List.getElem?_eq_getElem this)⟩
              obtain ⟨v0, hv0⟩ := cellAt 0 hlen0 0 (Nat.pos_of_ne_zero hp'.1)
              have ha0 : (a.add (0 * e.size)).add 0 = a := by simp [Addr.add]
              rw [ha0] at hv0
              have hspot : a.spot = none := by
                unfold World.cell? at hv0
                split at hv0
                · split at hv0
                  · cases hv0
                  · rename_i hq; cases hs : a.spot with
                    | none => rfl
                    | some _ => rw [hs] at hq; simp at hq
                · cases hv0
              have hblk : a.block < w.heap.size := by
                unfold World.cell? at hv0
                split at hv0
                · rename_i hq; exact (Array.getElem?_eq_some_iff.1 hq).1
                · cases hv0
              obtain ⟨ab, ao, asp⟩ := a
              simp only at hspot hblk
              subst hspot
              refine .inr ⟨ab, ao, rfl, hblk, fun m hm => (by cases hm), fun i y hi => ?_⟩
              obtain ⟨ds, k1, k2, k3⟩ := hys i y hi
              refine ⟨ds, k1, fun j v hj => ?_⟩
              obtain ⟨_, m2, m3⟩ := World.cells?_some k3
              have hjl := (List.getElem?_eq_some_iff.1 hj).1
              have := (m3 j (by omega)).trans hj
              have hadd : ((⟨ab, ao, none⟩ : Addr).add (i * e.size)).add j = ⟨ab, ao + i * e.size + j, none⟩ := by
                unfold Addr.add
                split <;> split <;> simp_all <;> omega
              rw [hadd] at this
              exact this
          · obtain ⟨i, hi⟩ := List.getElem?_of_mem hy
            obtain ⟨ds, _, k2, _⟩ := hys i y hi
            exact k2
  intro t n cs x
  exact main (ty.rank + 1) ty (Nat.lt_succ_self _)

/-- an argument, read -/
theorem arg_rep (hT : TabOk P tab) {base2 : Nat} {t : TypeId} {ty : Ty} (ht : tab t = some ty) (hp : posB ty = true) {v : Value} {d : DataW H} {ps : List MemPlace} (hok : Value.okWide P w .any base2 t v) (h : DataW.Trod enc P w base spare held t v d ps) :
    ∃ x : ty.val, TRep w (fun _ => none) ty x v ∧ InR ty x := by
  obtain ⟨n, hn⟩ := h
  have hty := hT _ _ ht
  obtain ⟨y, h1, h2⟩ := trod_rep hT hty.desc (cellsOf_ok hty) hp hn
  refine ⟨y, ⟨_, h1, ?_⟩, h2⟩
  have hd := hty.desc
  cases ty with
  | int k => obtain ⟨m, rfl⟩ := WideShapes.okWide_int hd hok; rfl
  | bool => obtain ⟨m, rfl⟩ := WideShapes.okWide_bool hd hok; rfl
  | str => obtain ⟨m, rfl⟩ := WideShapes.okWide_string hd hok; rfl
  | slice e => obtain ⟨el, hd, _⟩ := hd; obtain ⟨a, l, c, rfl⟩ := WideShapes.okWide_slice hd hok; rfl
  | unit => obtain ⟨fs, hd, _⟩ := hd; obtain ⟨cs, rfl, _⟩ := WideShapes.okWide_struct hd hok; simp [wrapV, Value.cells]
  | prod a b => obtain ⟨fs, hd, _⟩ := hd; obtain ⟨cs, rfl, _⟩ := WideShapes.okWide_struct hd hok; simp [wrapV, Value.cells]

/-- A LAW THAT ANSWERS TRUE: its call. -/
theorem law_calls {f : FuncId} {aty : Ty} {fn : aty.val → Ty.unit.val → Option ((Ty.prod .bool .unit).val × Ty.unit.val)} (hF : FnOk P f { aty := aty, rdty := .unit, usesRd := false, rty := .prod .bool .unit, one := true, own := [], opens := false, fn := fn })
    {x : aty.val} (hx : fn x () = some ((true, ()), ())) {vals : List Value} {W : World} (ha : ArgsRep W (fun _ => none) none aty x vals) :
    Calls P f vals.toArray W (fun e W' => e = .returned (.bool true) ∧ Go.RowKit.Below W.heap.size W W') := by
  refine (hF.calls rfl rfl x () _ hx W (fun _ => none) none vals ha ⟨fun h => (by cases h), fun _ => rfl⟩).mono fun e W' h => ?_
  obtain ⟨v, lim', rfl, h1, _, h2, _⟩ := h
  have : v = .bool true := bool_rep (st := st00) h2
  subst this
  exact ⟨rfl, (Go.RowKit.Below.refl _ _).grown h1 (Nat.le_refl _) (fun k hk => by cases hk)⟩
end
end Go.Den
