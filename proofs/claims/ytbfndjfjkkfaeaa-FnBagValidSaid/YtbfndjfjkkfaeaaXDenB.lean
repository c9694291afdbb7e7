/- What the typed reading says of memory: which cells bear which data, and the relation of a read state to a machine's state. -/
import Derived.Test.YtbfndjfjkkfaeaaXDenA
set_option linter.unusedVariables false
set_option linter.unusedSimpArgs false
namespace Go.Den

abbrev Lim := Nat → Option Nat
def under (lim : Lim) (b n : Nat) : Prop := ∀ m, lim b = some m → n ≤ m

/-- a list's elements in memory, from a place on -/
def SRep {α : Type} (w : World) (lim : Lim) (R : α → List Value → Prop) (size : Nat) (xs : List α) (a : Option Addr) : Prop :=
  xs = [] ∨ ∃ b o, a = some ⟨b, o, none⟩ ∧ b < w.heap.size ∧ under lim b (o + xs.length * size) ∧
    ∀ i x, xs[i]? = some x → ∃ cs, R x cs ∧ ∀ j v, cs[j]? = some v → w.cell? ⟨b, o + i * size + j, none⟩ = some v

/-- the cells that bear a value -/
def CRep (w : World) (lim : Lim) : (t : Ty) → t.val → List Value → Prop
  | .int k, x, cs => cs = [.int k x]
  | .bool, x, cs => cs = [.bool x]
  | .str, x, cs => cs = [.string ⟨⟨x⟩⟩]
  | .unit, _, cs => cs = []
  | .prod a b, x, cs => ∃ c1 c2, cs = c1 ++ c2 ∧ CRep w lim a x.1 c1 ∧ CRep w lim b x.2 c2
  | .slice t, xs, cs => ∃ a c, cs = [.slice a (List.length (α := t.val) xs) c] ∧ List.length (α := t.val) xs ≤ c ∧ SRep (α := t.val) w lim (CRep w lim t) t.size xs a

theorem CRep.length {w : World} {lim : Lim} : ∀ {t : Ty} {x : t.val} {cs : List Value}, CRep w lim t x cs → cs.length = t.size
  | .int _, _, _, h => by cases h; rfl
  | .bool, _, _, h => by cases h; rfl
  | .str, _, _, h => by cases h; rfl
  | .unit, _, _, h => by cases h; rfl
  | .prod a b, _, _, h => by
    obtain ⟨c1, c2, rfl, h1, h2⟩ := h
    simp [Ty.size, CRep.length h1, CRep.length h2]
  | .slice t, _, _, h => by obtain ⟨a, c, rfl, _⟩ := h; rfl

/-- nothing that can be seen from (w, lim) has changed -/
structure Ext (w : World) (lim : Lim) (w' : World) (lim' : Lim) : Prop where
  size : w.heap.size ≤ w'.heap.size
  cell : ∀ b o v, b < w.heap.size → under lim b (o + 1) → w.cell? ⟨b, o, none⟩ = some v → w'.cell? ⟨b, o, none⟩ = some v
  lim : ∀ b n, b < w.heap.size → under lim b n → under lim' b n

theorem Ext.refl (w : World) (lim : Lim) : Ext w lim w lim := ⟨Nat.le_refl _, fun _ _ _ _ _ h => h, fun _ _ _ h => h⟩
theorem Ext.trans {w w' w'' : World} {l l' l'' : Lim} (h : Ext w l w' l') (k : Ext w' l' w'' l'') : Ext w l w'' l'' :=
  ⟨Nat.le_trans h.size k.size, fun b o v hb hu hc => k.cell b o v (Nat.lt_of_lt_of_le hb h.size) (h.lim b _ hb hu) (h.cell b o v hb hu hc),
   fun b n hb hu => k.lim b n (Nat.lt_of_lt_of_le hb h.size) (h.lim b n hb hu)⟩
theorem under_le {lim : Lim} {b n m : Nat} (h : under lim b n) (hm : m ≤ n) : under lim b m := fun k hk => Nat.le_trans hm (h k hk)

theorem SRep.mono {α : Type} {w w' : World} {lim lim' : Lim} (he : Ext w lim w' lim') {R R' : α → List Value → Prop} {size : Nat}
    (hs : ∀ x cs, R x cs → cs.length = size) (hR : ∀ x cs, R x cs → R' x cs) {xs : List α} {a : Option Addr} (h : SRep w lim R size xs a) : SRep w' lim' R' size xs a := by
  rcases h with h | ⟨b, o, rfl, hb, hu, hc⟩
  · exact .inl h
  · refine .inr ⟨b, o, rfl, Nat.lt_of_lt_of_le hb he.size, he.lim _ _ hb hu, fun i x hx => ?_⟩
    obtain ⟨cs, hr, hcs⟩ := hc i x hx
    refine ⟨cs, hR _ _ hr, fun j v hv => he.cell _ _ _ hb (under_le hu ?_) (hcs j v hv)⟩
    have hi : i < xs.length := (List.getElem?_eq_some_iff.1 hx).1
    have hj : j < cs.length := (List.getElem?_eq_some_iff.1 hv).1
    rw [hs _ _ hr] at hj
    have : (i + 1) * size ≤ xs.length * size := Nat.mul_le_mul_right _ hi
    rw [Nat.succ_mul] at this
    omega
theorem CRep.mono {w w' : World} {lim lim' : Lim} (he : Ext w lim w' lim') : ∀ {t : Ty} {x : t.val} {cs : List Value}, CRep w lim t x cs → CRep w' lim' t x cs
  | .int _, _, _, h => h
  | .bool, _, _, h => h
  | .str, _, _, h => h
  | .unit, _, _, h => h
  | .prod a b, _, _, h => by
    obtain ⟨c1, c2, rfl, h1, h2⟩ := h
    exact ⟨c1, c2, rfl, CRep.mono he h1, CRep.mono he h2⟩
  | .slice t, _, _, h => by
    obtain ⟨a, c, rfl, hl, hs⟩ := h
    exact ⟨a, c, rfl, hl, hs.mono he (fun _ _ h => CRep.length h) fun _ _ h => CRep.mono he h⟩

/-- a value, of one temporary, that bears these cells -/
def wrapV : Ty → List Value → Value
  | .prod _ _, cs => .agg cs.toArray
  | .unit, cs => .agg cs.toArray
  | _, cs => cs.headD undef
def TRep (w : World) (lim : Lim) (t : Ty) (x : t.val) (v : Value) : Prop := ∃ cs, CRep w lim t x cs ∧ v = wrapV t cs
theorem TRep.mono {w w' : World} {lim lim' : Lim} (he : Ext w lim w' lim') {t : Ty} {x : t.val} {v : Value} (h : TRep w lim t x v) : TRep w' lim' t x v := by
  obtain ⟨cs, h, e⟩ := h; exact ⟨cs, h.mono he, e⟩

def notAgg : Value → Prop
  | .agg _ => False
  | .tuple _ => False
  | _ => True
theorem CRep.cells {w : World} {lim : Lim} : ∀ {t : Ty} {x : t.val} {cs : List Value}, CRep w lim t x cs → ∀ v ∈ cs, notAgg v
  | .int _, _, _, h => by cases h; simp [notAgg]
  | .bool, _, _, h => by cases h; simp [notAgg]
  | .str, _, _, h => by cases h; simp [notAgg]
  | .unit, _, _, h => by cases h; simp
  | .prod a b, _, _, h => by
    obtain ⟨c1, c2, rfl, h1, h2⟩ := h
    intro v hv
    rcases List.mem_append.1 hv with hv | hv
    · exact CRep.cells h1 v hv
    · exact CRep.cells h2 v hv
  | .slice t, _, _, h => by obtain ⟨a, c, rfl, _⟩ := h; simp [notAgg]
theorem cells_notAgg {v : Value} (h : notAgg v) : v.cells = #[v] := by cases v <;> first | rfl | exact h.elim
theorem wrapV_cells {w : World} {lim : Lim} {t : Ty} {x : t.val} {cs : List Value} (h : CRep w lim t x cs) : (wrapV t cs).cells = cs.toArray := by
  cases t <;> try rfl
  all_goals
    obtain ⟨v, rfl⟩ : ∃ v, cs = [v] := by have := h.length; exact List.length_eq_one_iff.1 this
    exact cells_notAgg (h.cells v (by simp))
theorem TRep.cells {w : World} {lim : Lim} {t : Ty} {x : t.val} {v : Value} (h : TRep w lim t x v) : CRep w lim t x v.cells.toList := by
  obtain ⟨cs, h, rfl⟩ := h; rw [wrapV_cells h]; exact h

def TupRep (w : World) (lim : Lim) : (t : Ty) → t.val → List Value → Prop
  | .unit, _, vs => vs = []
  | .prod a b, x, vs => ∃ v vs', vs = v :: vs' ∧ TRep w lim a x.1 v ∧ TupRep w lim b x.2 vs'
  | _, _, _ => False
theorem TupRep.mono {w w' : World} {lim lim' : Lim} (he : Ext w lim w' lim') : ∀ {t : Ty} {x : t.val} {vs : List Value}, TupRep w lim t x vs → TupRep w' lim' t x vs
  | .unit, _, _, h => h
  | .prod a b, _, _, h => by
    obtain ⟨v, vs', rfl, h1, h2⟩ := h
    exact ⟨v, vs', rfl, h1.mono he, TupRep.mono he h2⟩
  | .int _, _, _, h => h
  | .bool, _, _, h => h
  | .str, _, _, h => h
  | .slice _, _, _, h => h

/-- where in a value's cells a part begins -/
def offs : Ty → List Nat → Nat
  | .prod a _, 0 :: p => offs a p
  | .prod a b, (i + 1) :: p => a.size + offs b (i :: p)
  | _, _ => 0
def typeAt : Ty → List Nat → Option Ty
  | t, [] => some t
  | .prod a _, 0 :: p => typeAt a p
  | .prod _ b, (i + 1) :: p => typeAt b (i :: p)
  | _, _ :: _ => none

/-- all cells of a value; of a tuple, those of its parts -/
def flatV : Value → List Value
  | .tuple vs => vs.toList.flatMap fun v => v.cells.toList
  | v => v.cells.toList

def blockOf : Value → Option Nat
  | .slice (some a) _ _ => some a.block
  | _ => none
/-- a slice that may grow where it lies: nothing that is seen lies behind it in its block -/
def Tip (w : World) (lim : Lim) (base sz : Nat) (v : Value) : Prop :=
  v = .slice none 0 0 ∨ ∃ b n c arr e fr, v = .slice (some ⟨b, 0, none⟩) n c ∧ base ≤ b ∧ w.heap[b]? = some (.cells arr e fr) ∧
    (∀ o, o < arr.size → ¬ (fr.1 ≤ o ∧ o < fr.2)) ∧ n ≤ c ∧ c * sz ≤ arr.size ∧ lim b = some (n * sz)

def locTy (st : St) : Loc → Option Ty
  | .tmp t p => match (st.env t).av with
    | .dat ty _ => typeAt ty p
    | .tup ty _ => typeAt ty p
    | _ => none
  | .box b p => match st.box b with
    | some d => typeAt d.1 p
    | none => none
def tmpOf (a : Act) (t : Tmp) : Value := a.tmps.getD t undef
/-- where the machine keeps what the reading names: boxes, trees' values, trees' arrays -/
structure Mp where
  b : Tmp → Nat
  c : Tmp → Nat
  V : Tmp → Value
  B : Tmp → Nat → Prop
instance : CoeFun Mp (fun _ => Tmp → Nat) := ⟨Mp.b⟩
def mp0 : Mp := ⟨fun _ => 0, fun _ => 0, fun _ => undef, fun _ _ => False⟩

def locV (st : St) (a : Act) (w : World) (β : Mp) : Loc → Option Value
  | .tmp t p => match (st.env t).av with
    | .dat ty _ => (flatV (tmpOf a t))[offs ty p]?
    | .tup ty _ => (flatV (tmpOf a t))[offs ty p]?
    | _ => none
  | .box b p => match st.box b with
    | some d => w.cell? ⟨β b, offs d.1 p, none⟩
    | none => none

/-- the world in which a function began, and the arrays that it was given to write -/
structure Base extends World where
  X : Nat → Prop
  mu : Bool
  V0 : Value
structure Base.grownBy (w0 : Base) (w : World) (row : Option Nat) : Prop where
  os : w.os = w0.os
  tape : w.tape = w0.tape
  output : w.output = w0.output
  size : w0.heap.size ≤ w.heap.size
  block : ∀ i, i < w0.heap.size → some i ≠ row → ¬ w0.X i → w.heap[i]? = w0.heap[i]?

/-- the cells of a value without slices -/
def cellsV : (t : Ty) → t.val → List Value
  | .int k, x => [.int k x]
  | .bool, x => [.bool x]
  | .str, x => [.string ⟨⟨x⟩⟩]
  | .unit, _ => []
  | .prod a b, x => cellsV a x.1 ++ cellsV b x.2
  | .slice _, _ => []
/-- a tree of one's own: its cells, and the arrays behind them, each in a block of its own -/
def XRep (w : World) : (t : Ty) → t.val → List Value → (Nat → Prop) → Prop
  | .int k, x, cs, B => cs = [.int k x] ∧ ∀ g, ¬ B g
  | .bool, x, cs, B => cs = [.bool x] ∧ ∀ g, ¬ B g
  | .str, x, cs, B => cs = [.string ⟨⟨x⟩⟩] ∧ ∀ g, ¬ B g
  | .unit, _, cs, B => cs = [] ∧ ∀ g, ¬ B g
  | .prod a b, x, cs, B => ∃ c1 c2 B1 B2, cs = c1 ++ c2 ∧ (∀ g, B g ↔ B1 g ∨ B2 g) ∧ (∀ g, B1 g → ¬ B2 g) ∧ XRep w a x.1 c1 B1 ∧ XRep w b x.2 c2 B2
  | .slice t, xs, cs, B => (cs = [.slice none 0 0] ∧ List.length (α := t.val) xs = 0 ∧ ∀ g, ¬ B g) ∨
    ∃ g c arr e fr, cs = [.slice (some ⟨g, 0, none⟩) (List.length (α := t.val) xs) c] ∧ List.length (α := t.val) xs ≤ c ∧ c * t.size ≤ arr.size ∧ w.heap[g]? = some (.cells arr e fr) ∧ (∀ o, o < arr.size → ¬ (fr.1 ≤ o ∧ o < fr.2)) ∧ (∀ h, B h ↔ h = g) ∧
      ∀ (i : Nat) (x : t.val), (show List t.val from xs)[i]? = some x → ∀ j v, (cellsV t x)[j]? = some v → arr[i * t.size + j]? = some v

/-- how a call's several results stand in a tuple -/
def TupSh : Ty → List Value → Prop
  | .unit, vs => vs = []
  | .prod a b, vs => ∃ v vs' cs, vs = v :: vs' ∧ cs.length = a.size ∧ v = wrapV a cs ∧ v.cells.toList = cs ∧ TupSh b vs'
  | _, _ => False
def ERep (st : St) (w : World) (lim : Lim) (β : Mp) (rb : Option Nat) : AV → Value → Prop
  | .any, _ => True
  | .skp, v => v = undef
  | .nil, v => v = .slice none 0 0
  | .dat t x, v => TRep w lim t x v
  | .cel b p, v => ∃ d, st.box b = some d ∧ v = .pointer (some ⟨β b, offs d.1 p, none⟩)
  | .ref t x, v => ∃ b o cs, v = .pointer (some ⟨b, o, none⟩) ∧ b < w.heap.size ∧ CRep w lim t x cs ∧ under lim b (o + t.size) ∧ ∀ j u, cs[j]? = some u → w.cell? ⟨b, o + j, none⟩ = some u
  | .tup t x, v => ∃ vs, v = .tuple vs.toArray ∧ TupRep w lim t x vs
  | .rdr p, v => ∃ d b, st.rd = some d ∧ rb = some b ∧ v = .pointer (some ⟨b, offs d.1 p, none⟩)
  | .xf r p, v => ∃ d u, st.io r = some d ∧ typeAt d.1 p = some u ∧ v = wrapV u (((flatV (β.V r)).drop (offs d.1 p)).take u.size)
  | .xp r p n q, v => ∃ d e g m c, st.io r = some d ∧ typeAt d.1 p = some (.slice e) ∧ 0 ≤ n ∧ (flatV (β.V r))[offs d.1 p]? = some (.slice (some ⟨g, 0, none⟩) m c) ∧
      v = .pointer (some ⟨g, n.toNat * e.size + offs e q, none⟩)
  | .xt r, v => v = β.V r ∧ ∃ d vs, st.io r = some d ∧ v = .tuple vs.toArray ∧ TupSh d.1 vs
  | .cx b p, v => ∃ t o, st.xb b = some (t, o) ∧ v = .pointer (some ⟨β.c b, offs t p, none⟩)

/-- trees of one's own, and the boxes that hold their values -/
structure Own (w0 : Base) (rb : Option Nat) (st : St) (a : Act) (w : World) (lim : Lim) (β : Mp) : Prop where
  io : ∀ r d, st.io r = some d → flatT d.1 = true ∧ XRep w d.1 d.2 (flatV (β.V r)) (β.B r)
  base : ∀ r d g, st.io r = some d → β.B r g → (w0.heap.size ≤ g ∨ w0.X g) ∧ some g ≠ rb ∧ lim g = some 0
  box : ∀ r d g, st.io r = some d → β.B r g → ∀ b d', st.box b = some d' → β b ≠ g
  own : ∀ r d g, st.io r = some d → β.B r g → ∀ l v, st.own l = true → locV st a w β l = some v → blockOf v ≠ some g
  dis : ∀ r d r' d' g, st.io r = some d → st.io r' = some d' → β.B r g → β.B r' g → r = r'
  xb : ∀ b t o, st.xb b = some (t, o) → ∃ cells e, w.heap[β.c b]? = some (.cells cells e (0, 0)) ∧ cells.size = t.size ∧ w0.heap.size ≤ β.c b ∧ lim (β.c b) = some 0 ∧
    (∀ r q, o = some (r, q) → ∃ d, st.io r = some d ∧ typeAt d.1 q = some t ∧ cells.toList = ((flatV (β.V r)).drop (offs d.1 q)).take t.size)
  xbox : ∀ b t o, st.xb b = some (t, o) → (∀ c d, st.box c = some d → β c ≠ β.c b) ∧ (∀ l v, st.own l = true → locV st a w β l = some v → blockOf v ≠ some (β.c b)) ∧ (∀ r d, st.io r = some d → ¬ β.B r (β.c b))
  xinj : ∀ b c t o t' o', st.xb b = some (t, o) → st.xb c = some (t', o') → β.c b = β.c c → b = c
  fix : ∀ d, st.io 0 = some d → w0.mu = true → β.V 0 = w0.V0 ∧ β.B 0 = w0.X

structure Sim (w0 : Base) (lim0 : Lim) (rb : Option Nat) (n : Nat) (st : St) (a : Act) (w : World) (lim : Lim) (β : Mp) : Prop where
  size : a.tmps.size = n
  defers : a.defers = []
  grow : w0.grownBy w rb
  limOld : ∀ b, b < w0.heap.size → lim b = lim0 b
  env : ∀ t, ERep st w lim β rb (st.env t).av (tmpOf a t)
  box : ∀ b d, st.box b = some d → ∃ cells e, w.heap[β b]? = some (.cells cells e (0, 0)) ∧ CRep w lim d.1 d.2 cells.toList ∧ w0.heap.size ≤ β b ∧ lim (β b) = some 0
  inj : ∀ b c d d', st.box b = some d → st.box c = some d' → β b = β c → b = c
  own : ∀ l, st.own l = true → ∃ e v, locTy st l = some (.slice e) ∧ locV st a w β l = some v ∧ Tip w lim w0.heap.size e.size v ∧
    ∀ g, blockOf v = some g → ∀ b d, st.box b = some d → β b ≠ g
  sep : ∀ l l' v v' g, st.own l = true → st.own l' = true → locV st a w β l = some v → locV st a w β l' = some v' → blockOf v = some g → blockOf v' = some g → l = l'
  tag : ∀ t l, (st.env t).tag = some (true, l) → st.own l = true → locV st a w β l = some (tmpOf a t) ∧ ∃ e x, (st.env t).av = .dat (.slice e) x ∧ locTy st l = some (.slice e)
  rd : ∀ d, st.rd = some d → ∃ b cells e, rb = some b ∧ b < w0.heap.size ∧ w.heap[b]? = some (.cells cells e (0, 0)) ∧ CRep w lim d.1 d.2 cells.toList ∧ lim b = some 0
  xs : Own w0 rb st a w lim β
end Go.Den
