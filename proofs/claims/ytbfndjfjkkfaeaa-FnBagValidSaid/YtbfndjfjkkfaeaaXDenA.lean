/- A typed reading of the machine's code: values without memory, and what a piece of code makes of them. -/
import Derived.WalkKit
set_option linter.unusedVariables false
set_option linter.unusedSimpArgs false
namespace Go.Den

inductive Ty where
  | int (k : IntKind) | bool | str | unit
  | prod (a b : Ty)
  | slice (t : Ty)
  deriving Inhabited

def kbeq : IntKind → IntKind → Bool
  | .i8, .i8 => true | .i16, .i16 => true | .i32, .i32 => true | .i64, .i64 => true
  | .u8, .u8 => true | .u16, .u16 => true | .u32, .u32 => true | .u64, .u64 => true
  | _, _ => false
theorem k_of_beq : ∀ {a b : IntKind}, kbeq a b = true → a = b := by intro a b h; cases a <;> cases b <;> first | rfl | cases h

/-- a choice that is always decided while the code is read ('cond' stands where data decide) -/
def cnd {α : Type _} : Bool → α → α → α
  | true, x, _ => x
  | false, _, y => y

@[simp] theorem cnd_true {α : Type _} (x y : α) : cnd true x y = x := rfl
@[simp] theorem cnd_false {α : Type _} (x y : α) : cnd false x y = y := rfl

def Ty.beq : Ty → Ty → Bool
  | .int k, .int k' => kbeq k k'
  | .bool, .bool => true
  | .str, .str => true
  | .unit, .unit => true
  | .prod a b, .prod c d => cnd (Ty.beq a c) (Ty.beq b d) false
  | .slice t, .slice u => Ty.beq t u
  | _, _ => false
theorem Ty.of_beq : ∀ {a b : Ty}, Ty.beq a b = true → a = b := by
  intro a
  induction a with
  | int k => intro b h; cases b <;> simp [Ty.beq] at h; rw [k_of_beq h]
  | bool => intro b h; cases b <;> simp [Ty.beq] at h; rfl
  | str => intro b h; cases b <;> simp [Ty.beq] at h; rfl
  | unit => intro b h; cases b <;> simp [Ty.beq] at h; rfl
  | prod x y ihx ihy =>
    intro b h
    cases b <;> simp [Ty.beq] at h
    rename_i c d
    cases hx : Ty.beq x c with
    | false => simp [hx] at h
    | true => simp [hx] at h; rw [ihx hx, ihy h]
  | slice t ih => intro b h; cases b <;> simp [Ty.beq] at h; rw [ih h]

def Ty.val : Ty → Type
  | .int _ => Int
  | .bool => Bool
  | .str => List UInt8
  | .unit => Unit
  | .prod a b => a.val × b.val
  | .slice t => List t.val

def Ty.zero : (t : Ty) → t.val
  | .int _ => (0 : Int)
  | .bool => false
  | .str => ([] : List UInt8)
  | .unit => ()
  | .prod a b => (a.zero, b.zero)
  | .slice t => ([] : List t.val)

/-- how many cells a value takes -/
def Ty.size : Ty → Nat
  | .unit => 0
  | .prod a b => a.size + b.size
  | _ => 1

def Ty.cast (a b : Ty) (x : a.val) : Option b.val :=
  match h : Ty.beq a b with
  | true => some ((Ty.of_beq h) ▸ x)
  | false => none
theorem Ty.beq_refl : ∀ a : Ty, Ty.beq a a = true
  | .int k => by cases k <;> rfl
  | .bool => rfl
  | .str => rfl
  | .unit => rfl
  | .prod a b => by simp [Ty.beq, Ty.beq_refl a, Ty.beq_refl b]
  | .slice t => by simp [Ty.beq, Ty.beq_refl t]

abbrev Dat := (t : Ty) × t.val

def getF : (t : Ty) → t.val → Nat → Option Dat
  | .prod a _, x, 0 => some ⟨a, x.1⟩
  | .prod _ b, x, i + 1 => getF b x.2 i
  | _, _, _ => none
def setF : (t : Ty) → t.val → Nat → Dat → Option t.val
  | .prod a _, x, 0, y => (Ty.cast y.1 a y.2).map fun z => (z, x.2)
  | .prod _ b, x, i + 1, y => (setF b x.2 i y).map fun z => (x.1, z)
  | _, _, _, _ => none
def getP (t : Ty) (x : t.val) : List Nat → Option Dat
  | [] => some ⟨t, x⟩
  | i :: p => match getF t x i with
    | some d => getP d.1 d.2 p
    | none => none
def setP (t : Ty) (x : t.val) : List Nat → Dat → Option t.val
  | [], y => Ty.cast y.1 t y.2
  | i :: p, y => match getF t x i with
    | some d => match setP d.1 d.2 p y with
      | some z => setF t x i ⟨d.1, z⟩
      | none => none
    | none => none

/-- a type without slices -/
def noSl : Ty → Bool
  | .slice _ => false
  | .prod a b => cnd (noSl a) (noSl b) false
  | _ => true
/-- a type whose slices bear no slices -/
def flatT : Ty → Bool
  | .slice e => noSl e
  | .prod a b => cnd (flatT a) (match b with
    | .prod _ _ => flatT b
    | .unit => true
    | _ => false) false
  | _ => true

def bump : List Nat → List Nat
  | i :: p => Nat.succ i :: p
  | [] => []
/-- where in a value its slices stand -/
def slicePaths : Ty → List (List Nat)
  | .slice _ => [[]]
  | .prod a b => (slicePaths a).map (0 :: ·) ++ (match b with
    | .prod _ _ => (slicePaths b).map bump
    | _ => [])
  | _ => []

inductive Loc where
  | tmp (t : Tmp) (p : List Nat)
  | box (b : Tmp) (p : List Nat)

def pbeq : List Nat → List Nat → Bool
  | [], [] => true
  | i :: p, j :: q => cnd (Nat.beq i j) (pbeq p q) false
  | _, _ => false
/-- one of two paths begins the other -/
def pcomp : List Nat → List Nat → Bool
  | [], _ => true
  | _, [] => true
  | i :: p, j :: q => cnd (Nat.beq i j) (pcomp p q) false
def Loc.beq : Loc → Loc → Bool
  | .tmp t p, .tmp u q => cnd (Nat.beq t u) (pbeq p q) false
  | .box t p, .box u q => cnd (Nat.beq t u) (pbeq p q) false
  | _, _ => false

inductive AV where
  | any | skp | nil
  | dat (t : Ty) (x : t.val)
  | cel (b : Tmp) (path : List Nat)
  | ref (t : Ty) (x : t.val)
  | tup (t : Ty) (x : t.val)
  | rdr (path : List Nat)
  /-- the value at a place of a tree of one's own -/
  | xf (r : Tmp) (p : List Nat)
  /-- a pointer into an element of a slice of a tree of one's own -/
  | xp (r : Tmp) (p : List Nat) (n : Int) (q : List Nat)
  /-- the tuple that a tree of one's own is -/
  | xt (r : Tmp)
  /-- a pointer to a box that holds a tree's value -/
  | cx (b : Tmp) (p : List Nat)

/-- a value, and of a slice, where the very same stands (and whether that has not been written since) -/
structure Ent where
  av : AV
  tag : Option (Bool × Loc)

structure St where
  env : Tmp → Ent
  box : Tmp → Option Dat
  own : Loc → Bool
  rd : Option Dat
  /-- booleans that are known while the code is read (of no weight to what is said of the machine) -/
  kn : Tmp → Bool
  /-- trees of one's own: nobody else sees their arrays -/
  io : Tmp → Option Dat
  /-- boxes that hold the value at a place of such a tree (or nothing yet) -/
  xb : Tmp → Option (Ty × Option (Tmp × List Nat))
  /-- where such trees are to be made (of no weight) -/
  mkt : Tmp → Bool

def AV.as (t : Ty) : AV → Option t.val
  | .dat u x => Ty.cast u t x
  | .nil => match t with
    | .slice _ => some []
    | _ => none
  | _ => none

def constAV : Value → AV
  | .bool b => .dat .bool b
  | .int k n => .dat (.int k) n
  | .string s => .dat .str s.data.toList
  | .slice none 0 0 => .nil
  | _ => .any

def St.ent (st : St) : Operand → Ent
  | .tmp t => st.env t
  | .const v => ⟨constAV v, none⟩
  | _ => ⟨.any, none⟩

def inLocs (l : Loc) : List Loc → Bool
  | [] => false
  | m :: ms => cnd (Loc.beq l m) true (inLocs l ms)
def inPaths (p : List Nat) : List (List Nat) → Bool
  | [] => false
  | q :: qs => cnd (pbeq p q) true (inPaths p qs)

/-- what one operation changes -/
structure Upd where
  dst : Option Tmp
  ent : Ent
  own : List (List Nat)
  takes : List Loc
  bw : Option (Tmp × Dat × List (List Nat) × List Nat)
  rd : Option Dat
  xw : Option (Tmp × Dat)
  xbw : Option (Tmp × Ty × Option (Tmp × List Nat))

def isT (t : Tmp) : Option Tmp → Bool
  | some d => Nat.beq t d
  | none => false

/-- a tag at a place that is written anew counts no more -/
def keepTag (u : Upd) : Option (Bool × Loc) → Option (Bool × Loc)
  | none => none
  | some (k, .tmp t p) => some (cnd (isT t u.dst) false k, .tmp t p)
  | some (k, .box b p) => some (match u.bw with
    | some (c, _, _, _) => cnd (Nat.beq b c) false k
    | none => k, .box b p)
def apply (st : St) (u : Upd) : St where
  env := fun t => cnd (isT t u.dst) u.ent ⟨(st.env t).av, keepTag u (st.env t).tag⟩
  box := fun b => match u.bw with
    | some (c, d, _, _) => cnd (Nat.beq b c) (some d) (st.box b)
    | none => st.box b
  own := fun l => match l with
    | .tmp t p => cnd (isT t u.dst) (inPaths p u.own) (cnd (inLocs l u.takes) false (st.own l))
    | .box b p => match u.bw with
      | some (c, _, o, q) => cnd (Nat.beq b c)
          (cnd (inPaths p o) true (cnd (pcomp p q) false (cnd (inLocs l u.takes) false (st.own l))))
          (cnd (inLocs l u.takes) false (st.own l))
      | none => cnd (inLocs l u.takes) false (st.own l)
  rd := match u.rd with
    | some d => some d
    | none => st.rd
  kn := st.kn
  io := fun r => match u.xw with
    | some (c, d) => cnd (Nat.beq r c) (some d) (st.io r)
    | none => st.io r
  xb := fun b => match u.xbw with
    | some (c, x) => cnd (Nat.beq b c) (some x) (st.xb b)
    | none => st.xb b
  mkt := st.mkt

abbrev chkB : Option Bool → Bool
  | none => true
  | some c => c
inductive Comp where
  | ret (chk : Option Bool) (u : Upd)
  | call (rt rdt : Ty) (F : Option (rt.val × rdt.val)) (u : rt.val × rdt.val → Upd)

/-- what is known of a function that is called -/
structure Sig where
  aty : Ty
  rdty : Ty
  usesRd : Bool
  rty : Ty
  one : Bool
  own : List (List Nat)
  /-- the result is a pointer to a new box; 'rty' is then its content's type -/
  opens : Bool
  /-- the first argument's arrays are written: 'rd' is then that argument -/
  muts : Bool := false
  fn : aty.val → rdty.val → Option (rty.val × rdty.val)

abbrev Tab := TypeId → Option Ty
abbrev Gam := FuncId → Option Sig

def tyIs (a : Option Ty) (b : Ty) : Bool := match a with
  | some t => Ty.beq t b
  | none => false

/-- an argument; 'rv' is the reader's pointer where the callee takes one -/
def asArg (rv : Option AV) : (t : Ty) → AV → Option t.val
  | .unit, .rdr [] => match rv with
    | some (.rdr []) => some ()
    | _ => none
  | .unit, .cel b [] => match rv with
    | some (.cel c []) => cnd (Nat.beq b c) (some ()) none
    | _ => none
  | .unit, _ => none
  | t, v => AV.as t v
def packArgs (rv : Option AV) : (t : Ty) → List AV → Option t.val
  | .unit, [] => some ()
  | .prod a b, v :: vs => match asArg rv a v with
    | some x => match packArgs rv b vs with
      | some y => some (x, y)
      | none => none
    | none => none
  | _, _ => none
def resAV (rty : Ty) (one : Bool) (x : rty.val) : AV :=
  match one, rty, x with
  | true, .prod a .unit, x => .dat a x.1
  | _, _, _ => .tup rty x
def resOwn (one : Bool) (ps : List (List Nat)) : List (List Nat) :=
  match one with
  | true => ps.map fun p => p.drop 1
  | false => ps


/-! ### plain words, so that data of a type are seen as numbers and lists -/
def cndS {α : Type} (c : Bool) (x y : α) : α := cond c x y
def obind {α β : Type} (x : Option α) (f : α → Option β) : Option β := Option.bind x f
def sumE {α β γ : Type} (e : α ⊕ β) (f : α → γ) (g : β → γ) : γ := match e with
  | .inl a => f a
  | .inr b => g b
def iter {σ ρ : Type} : Nat → (σ → Option (σ ⊕ ρ)) → σ → Option ρ
  | 0, _, _ => none
  | n + 1, f, s => match f s with
    | some (.inl s') => iter n f s'
    | some (.inr r) => some r
    | none => none
def le0 (n : Int) : Bool := decide (0 ≤ n)
def leI (a b : Int) : Bool := decide (a ≤ b)
def ltI (a b : Int) : Bool := decide (a < b)
def lenL {α : Type} (xs : List α) : Int := (xs.length : Int)
def takeL {α : Type} (xs : List α) (n : Int) : List α := xs.take n.toNat
def dropL {α : Type} (xs : List α) (n : Int) : List α := xs.drop n.toNat
def atL {α : Type} (xs : List α) (n : Int) (d : α) : α := xs.getD n.toNat d
def appL {α : Type} (xs ys : List α) : List α := xs ++ ys
def repL {α : Type} (n : Int) (d : α) : List α := List.replicate n.toNat d
def u8i (b : UInt8) : Int := (b.toNat : Int)
def eqI (a b : Int) : Bool := decide (a = b)
def eqB (a b : Bool) : Bool := a == b
def eqS (a b : List UInt8) : Bool := decide (a = b)
def lessS (a b : List UInt8) : Bool := Op.bytesLess a b
def notB (b : Bool) : Bool := !b
def andB (a b : Bool) : Bool := a && b
def orB (a b : Bool) : Bool := a || b
def wrapI (k : IntKind) (n : Int) : Int := k.wrap n
def addI (a b : Int) : Int := a + b
def subI (a b : Int) : Int := a - b
def mulI (a b : Int) : Int := a * b
def quoI (a b : Int) : Int := a.tdiv b
def remI (a b : Int) : Int := a.tmod b
def minI (a b : Int) : Int := if b < a then b else a
def maxI (a b : Int) : Int := if a < b then b else a
def xorI (k : IntKind) (a b : Int) : Int := k.wrap (BitVec.ofInt k.bits a ^^^ BitVec.ofInt k.bits b).toNat
def setL {α : Type} (xs : List α) (n : Int) (x : α) : List α := xs.set n.toNat x
def byteList (xs : List Int) : List UInt8 := xs.map fun n => UInt8.ofNat n.toNat
def intList (s : List UInt8) : List Int := s.map fun b => (b.toNat : Int)
/-- lists are kept below this length -/
def big : Int := 4294967296

/-! ### one operation -/
def upd0 (dst : Option Tmp) (av : AV) (tag : Option (Bool × Loc)) : Upd := { dst, ent := ⟨av, tag⟩, own := [], takes := [], bw := none, rd := none, xw := none, xbw := none }

def St.ownOp (st : St) : Operand → List Nat → Bool
  | .tmp t, p => st.own (.tmp t p)
  | .const _, _ => true
  | _, _ => false
/-- of a value's slices, those that the operand owns -/
def St.owned (st : St) (x : Operand) : List (List Nat) → List (List Nat)
  | [] => []
  | p :: ps => cnd (st.ownOp x p) (p :: st.owned x ps) (st.owned x ps)
def takesOf : Operand → List (List Nat) → List Loc
  | .tmp t, ps => ps.map (.tmp t ·)
  | _, _ => []

/-- a bare nil takes the type that is asked -/
def coerce (t : Option Ty) : AV → AV
  | .nil => match t with
    | some (.slice e) => .dat (.slice e) []
    | _ => .any
  | v => v

def stMove (tab : Tab) (o : Oper) (x : Operand) (st : St) : Comp :=
  let e := st.ent x
  match x with
  | .tmp t => .ret none (upd0 o.dst e.av (cnd (st.own (.tmp t [])) (some (true, .tmp t [])) e.tag))
  | _ => match coerce (tab o.type) e.av with
    | .dat t x => .ret none { upd0 o.dst (.dat t x) none with own := slicePaths t }
    | v => .ret none (upd0 o.dst v none)

def stAssign (tab : Tab) (o : Oper) (x : Operand) (st : St) : Comp :=
  match coerce (tab o.type) (st.ent x).av with
  | .dat t v => let ps := st.owned x (slicePaths t)
    .ret none { upd0 o.dst (.dat t v) none with own := ps, takes := takesOf x ps }
  | v => .ret none (upd0 o.dst v none)

def stPick (o : Oper) (c x y : Operand) (st : St) : Option Comp :=
  match (st.ent c).av with
  | .dat .bool b => match (st.ent x).av, (st.ent y).av with
    | .dat t v, .dat u w => match Ty.cast u t w with
      | some w' => some (.ret none (upd0 o.dst (.dat t (cndS b v w')) none))
      | none => none
    | v, w => some (.ret none (upd0 o.dst (cnd b v w) none))
  | _ => none

def stAlloc (tab : Tab) (o : Oper) (elem : TypeId) (st : St) : Option Comp :=
  match tab elem, o.dst with
  | some ty, some d => match st.box d with
    | none => some (.ret none { upd0 (some d) (.cel d []) none with bw := some (d, ⟨ty, ty.zero⟩, slicePaths ty, []) })
    | some _ => none
  | _, _ => none

def stBox (tab : Tab) (o : Oper) (elem : TypeId) (x : Operand) (st : St) : Option Comp :=
  match tab elem, o.dst with
  | some ty, some d => match st.box d, AV.as ty (st.ent x).av with
    | none, some v => let ps := st.owned x (slicePaths ty)
      some (.ret none { upd0 (some d) (.cel d []) none with takes := takesOf x ps, bw := some (d, ⟨ty, v⟩, ps, []) })
    | _, _ => none
  | _, _ => none

def mkD (st : St) : Option Tmp → Bool
  | some d => st.mkt d
  | none => false
/-- of a box's slices, those that it owns -/
def St.ownedB (st : St) (b : Tmp) (p : List Nat) : List (List Nat) → List (List Nat)
  | [] => []
  | q :: qs => cnd (st.own (.box b (p ++ q))) (q :: st.ownedB b p qs) (st.ownedB b p qs)
/-- a marked load takes what the box owns with it -/
def stLoad (tab : Tab) (o : Oper) (t : TypeId) (x : Operand) (st : St) : Option Comp :=
  match (st.ent x).av with
  | .cel b p => match st.box b with
    | some d => match getP d.1 d.2 p with
      | some y => cnd (tyIs (tab t) y.1) (cnd (mkD st o.dst)
          (some (.ret none { upd0 o.dst (.dat y.1 y.2) none with own := st.ownedB b p (slicePaths y.1), takes := (st.ownedB b p (slicePaths y.1)).map fun q => .box b (p ++ q) }))
          (some (.ret none (upd0 o.dst (.dat y.1 y.2) (cnd (st.own (.box b p)) (some (true, .box b p)) none))))) none
      | none => none
    | none => none
  | .ref u y => cnd (tyIs (tab t) u) (some (.ret none (upd0 o.dst (.dat u y) none))) none
  | .rdr p => match st.rd with
    | some d => match getP d.1 d.2 p with
      | some y => cnd (tyIs (tab t) y.1) (some (.ret none (upd0 o.dst (.dat y.1 y.2) none))) none
      | none => none
    | none => none
  | _ => none

def stStore (tab : Tab) (o : Oper) (t : TypeId) (x v : Operand) (st : St) : Option Comp :=
  match (st.ent x).av with
  | .cel b p => match st.box b with
    | some d => match getP d.1 d.2 p with
      | some y => match tyIs (tab t) y.1, AV.as y.1 (st.ent v).av with
        | true, some z => match setP d.1 d.2 p ⟨y.1, z⟩ with
          | some d' => let ps := st.owned v (slicePaths y.1)
            some (.ret none { upd0 o.dst .skp none with takes := takesOf v ps, bw := some (b, ⟨d.1, d'⟩, ps.map (p ++ ·), p) })
          | none => none
        | _, _ => none
      | none => none
    | none => none
  | .rdr p => match st.rd with
    | some d => match getP d.1 d.2 p with
      | some y => match tyIs (tab t) y.1, AV.as y.1 (st.ent v).av with
        | true, some z => match setP d.1 d.2 p ⟨y.1, z⟩ with
          | some d' => some (.ret none { upd0 o.dst .skp none with rd := some ⟨d.1, d'⟩ })
          | none => none
        | _, _ => none
      | none => none
    | none => none
  | _ => none

def fillP (st : St) (t : Ty) : t.val → List (Nat × Operand) → Option t.val
  | z, [] => some z
  | z, (i, x) :: ps => match getF t z i with
    | some d => match AV.as d.1 (st.ent x).av with
      | some v => match setF t z i ⟨d.1, v⟩ with
        | some z' => fillP st t z' ps
        | none => none
      | none => none
    | none => none
def partOf (i : Nat) : List (Nat × Operand) → Option Operand
  | [] => none
  | (j, x) :: ps => cnd (Nat.beq i j) (some x) (partOf i ps)
/-- of a built struct's slices, those that it owns -/
def St.builtOwn (st : St) (parts : List (Nat × Operand)) : List (List Nat) → List (List Nat)
  | [] => []
  | (i :: p) :: ps => match partOf i parts with
    | some x => cnd (st.ownOp x p) ((i :: p) :: st.builtOwn parts ps) (st.builtOwn parts ps)
    | none => (i :: p) :: st.builtOwn parts ps
  | [] :: ps => st.builtOwn parts ps
def builtTakes (parts : List (Nat × Operand)) : List (List Nat) → List Loc
  | [] => []
  | (i :: p) :: ps => match partOf i parts with
    | some (.tmp t) => .tmp t p :: builtTakes parts ps
    | _ => builtTakes parts ps
  | [] :: ps => builtTakes parts ps
def noDup : List (Nat × Operand) → Bool
  | [] => true
  | (i, _) :: ps => match partOf i ps with
    | some _ => false
    | none => noDup ps

def hasT (t : Tmp) : List (Nat × Operand) → Bool
  | [] => false
  | (_, .tmp u) :: ps => cnd (Nat.beq t u) true (hasT t ps)
  | _ :: ps => hasT t ps
/-- no temporary stands twice among the parts -/
def noDupT : List (Nat × Operand) → Bool
  | [] => true
  | (_, .tmp t) :: ps => cnd (hasT t ps) false (noDupT ps)
  | _ :: ps => noDupT ps
def isProd : Ty → Bool
  | .prod _ _ => true
  | .unit => true
  | _ => false
def stBuild (tab : Tab) (o : Oper) (t : TypeId) (parts : List (Nat × Operand)) (st : St) : Option Comp :=
  match tab t with
  | some ty => match isProd ty, cnd (noDup parts) (noDupT parts) false, fillP st ty ty.zero parts with
    | true, true, some v => let ps := st.builtOwn parts (slicePaths ty)
      some (.ret none { upd0 o.dst (.dat ty v) none with own := ps, takes := builtTakes parts ps })
    | _, _, _ => none
  | none => none

def fillS (st : St) (e : Ty) : List e.val → List (Nat × Operand) → Option (List e.val)
  | z, [] => some z
  | z, (i, x) :: ps => match AV.as e (st.ent x).av with
    | some v => fillS st e (z.set i v) ps
    | none => none
def partsBelow (n : Nat) : List (Nat × Operand) → Bool
  | [] => true
  | (i, _) :: ps => cnd (Nat.blt i n) (partsBelow n ps) false
def stBuildSlice (tab : Tab) (o : Oper) (t : TypeId) (len : Nat) (parts : List (Nat × Operand)) (st : St) : Option Comp :=
  match tab t with
  | some (.slice e) => match Nat.ble (Nat.mul len e.size) 65536, partsBelow len parts, fillS st e (List.replicate len e.zero) parts with
    | true, true, some v => some (.ret none { upd0 o.dst (.dat (.slice e) v) none with own := [[]] })
    | _, _, _ => none
  | _ => none

def stMakeSlice (tab : Tab) (o : Oper) (t : TypeId) (l c : Operand) (st : St) : Option Comp :=
  match tab t, (st.ent l).av, (st.ent c).av with
  | some (.slice e), .dat (.int _) n, .dat (.int _) m =>
    some (.ret (some (andB (le0 n) (andB (leI n m) (ltI m big)))) { upd0 o.dst (.dat (.slice e) (repL n e.zero)) none with own := [[]] })
  | _, _, _ => none

/-- how deep a struct's structs lie -/
def Ty.dep : Ty → Nat
  | .prod a b => cnd (Nat.ble (Nat.succ (Ty.dep a)) (Ty.dep b)) (Ty.dep b) (Nat.succ (Ty.dep a))
  | _ => 1
/-- what of data can be compared by == -/
def Ty.eqv : (t : Ty) → t.val → t.val → Option Bool
  | .int _, x, y => some (eqI x y)
  | .bool, x, y => some (eqB x y)
  | .str, x, y => some (eqS x y)
  | .unit, _, _ => some true
  | .prod a b, x, y => match Ty.eqv a x.1 y.1, Ty.eqv b x.2 y.2 with
    | some p, some q => some (andB p q)
    | _, _ => none
  | .slice _, _, _ => none

def intOp (op : BinOp) (k : IntKind) (a b : Int) : Option (Option Bool × AV) :=
  match op with
  | .add => some (none, .dat (.int k) (wrapI k (addI a b)))
  | .sub => some (none, .dat (.int k) (wrapI k (subI a b)))
  | .mul => some (none, .dat (.int k) (wrapI k (mulI a b)))
  | .quo => some (some (notB (eqI b 0)), .dat (.int k) (wrapI k (quoI a b)))
  | .rem => some (some (notB (eqI b 0)), .dat (.int k) (remI a b))
  | .xor => some (none, .dat (.int k) (xorI k a b))
  | .eql => some (none, .dat .bool (eqI a b))
  | .neq => some (none, .dat .bool (notB (eqI a b)))
  | .lss => some (none, .dat .bool (ltI a b))
  | .leq => some (none, .dat .bool (leI a b))
  | .gtr => some (none, .dat .bool (ltI b a))
  | .geq => some (none, .dat .bool (leI b a))
  | _ => none
def strOp (op : BinOp) (a b : List UInt8) : Option (Option Bool × AV) :=
  match op with
  | .add => some (some (ltI (addI (lenL a) (lenL b)) big), .dat .str (appL a b))
  | .eql => some (none, .dat .bool (eqS a b))
  | .neq => some (none, .dat .bool (notB (eqS a b)))
  | .lss => some (none, .dat .bool (lessS a b))
  | .leq => some (none, .dat .bool (orB (lessS a b) (eqS a b)))
  | .gtr => some (none, .dat .bool (notB (orB (lessS a b) (eqS a b))))
  | .geq => some (none, .dat .bool (notB (lessS a b)))
  | _ => none
def binAV (tab : Tab) (op : BinOp) (xt : TypeId) (x y : AV) : Option (Option Bool × AV) :=
  match x, y with
  | .dat (.int k) a, .dat (.int k') b => cnd (kbeq k k') (intOp op k a b) none
  | .dat .str a, .dat .str b => strOp op a b
  | .dat t a, .dat u b => match cnd (tyIs (tab xt) t) (Nat.ble (Ty.dep t) 1000) false, Ty.cast u t b with
    | true, some b' => match Ty.eqv t a b', op with
      | some q, .eql => some (none, .dat .bool q)
      | some q, .neq => some (none, .dat .bool (notB q))
      | _, _ => none
    | _, _ => none
  | _, _ => none
def stBin (tab : Tab) (o : Oper) (op : BinOp) (xt : TypeId) (x y : Operand) (st : St) : Option Comp :=
  match binAV tab op xt (st.ent x).av (st.ent y).av with
  | some (c, v) => some (.ret c (upd0 o.dst v none))
  | none => none

def stUn (o : Oper) (op : UnOp) (x : Operand) (st : St) : Option Comp :=
  match op, (st.ent x).av with
  | .not, .dat .bool b => some (.ret none (upd0 o.dst (.dat .bool (notB b)) none))
  | .neg, .dat (.int k) n => some (.ret none (upd0 o.dst (.dat (.int k) (wrapI k (subI 0 n))) none))
  | _, _ => none

def stConv (tab : Tab) (o : Oper) (src dst : TypeId) (x : Operand) (st : St) : Option Comp :=
  match tab src, tab dst, (st.ent x).av with
  | some (.int _), some (.int k), .dat (.int _) n => some (.ret none (upd0 o.dst (.dat (.int k) (wrapI k n)) none))
  | some (.slice (.int .u8)), some .str, .dat (.slice (.int .u8)) xs => some (.ret none (upd0 o.dst (.dat .str (byteList xs)) none))
  | some .str, some (.slice (.int .u8)), .dat .str s => some (.ret (some (ltI (lenL (α := UInt8) s) big)) { upd0 o.dst (.dat (.slice (.int .u8)) (intList s)) none with own := [[]] })
  | some .str, some .str, .dat .str s => some (.ret none (upd0 o.dst (.dat .str s) none))
  | _, _, _ => none

/-- a cut of a list: what must hold, and the list -/
def cutL {α : Type} (xs : List α) : Option AV → Option AV → Option (Bool × List α)
  | some (.dat (.int _) l), some (.dat (.int _) h) => some (andB (le0 l) (andB (leI l h) (leI h (lenL xs))), dropL (takeL xs h) l)
  | some (.dat (.int _) l), none => some (andB (le0 l) (leI l (lenL xs)), dropL xs l)
  | none, some (.dat (.int _) h) => some (andB (le0 h) (leI h (lenL xs)), takeL xs h)
  | _, _ => none
def avOpt (st : St) : Option Operand → Option AV
  | some x => some (st.ent x).av
  | none => none
def stSlice (tab : Tab) (o : Oper) (t : TypeId) (x : Operand) (lo hi max : Option Operand) (st : St) : Option Comp :=
  match max, (st.ent x).av with
  | none, .dat (.slice e) xs => match tyIs (tab t) (.slice e), cutL (α := e.val) xs (avOpt st lo) (avOpt st hi) with
    | true, some (c, ys) => some (.ret (some c) (upd0 o.dst (.dat (.slice e) ys) none))
    | _, _ => none
  | none, .dat .str xs => match tyIs (tab t) .str, cutL (α := UInt8) xs (avOpt st lo) (avOpt st hi) with
    | true, some (c, ys) => some (.ret (some c) (upd0 o.dst (.dat .str ys) none))
    | _, _ => none
  | _, _ => none

def stFieldAddr (tab : Tab) (o : Oper) (s : TypeId) (x : Operand) (f : Nat) (st : St) : Option Comp :=
  match (st.ent x).av with
  | .cel b p => match st.box b with
    | some d => match getP d.1 d.2 p with
      | some y => match tyIs (tab s) y.1, getF y.1 y.2 f with
        | true, some _ => some (.ret none (upd0 o.dst (.cel b (p ++ [f])) none))
        | _, _ => none
      | none => none
    | none => none
  | .ref u y => match tyIs (tab s) u, getF u y f with
    | true, some z => some (.ret none (upd0 o.dst (.ref z.1 z.2) none))
    | _, _ => none
  | .rdr p => match st.rd with
    | some d => match getP d.1 d.2 p with
      | some y => match tyIs (tab s) y.1, getF y.1 y.2 f with
        | true, some _ => some (.ret none (upd0 o.dst (.rdr (p ++ [f])) none))
        | _, _ => none
      | none => none
    | none => none
  | _ => none

def stField (tab : Tab) (o : Oper) (s : TypeId) (x : Operand) (f : Nat) (st : St) : Option Comp :=
  match (st.ent x).av with
  | .dat u y => match tyIs (tab s) u, getF u y f with
    | true, some z => some (.ret none (upd0 o.dst (.dat z.1 z.2) none))
    | _, _ => none
  | _ => none

def stIndexAddr (tab : Tab) (o : Oper) (t : TypeId) (x i : Operand) (st : St) : Option Comp :=
  match (st.ent x).av, (st.ent i).av with
  | .dat (.slice e) xs, .dat (.int _) n => cnd (tyIs (tab t) (.slice e))
    (some (.ret (some (andB (le0 n) (ltI n (lenL (α := e.val) xs)))) (upd0 o.dst (.ref e (atL (α := e.val) xs n e.zero)) none))) none
  | _, _ => none

def stIndex (tab : Tab) (o : Oper) (t : TypeId) (x i : Operand) (st : St) : Option Comp :=
  match (st.ent x).av, (st.ent i).av with
  | .dat .str s, .dat (.int _) n => cnd (tyIs (tab t) .str)
    (some (.ret (some (andB (le0 n) (ltI n (lenL (α := UInt8) s)))) (upd0 o.dst (.dat (.int .u8) (u8i (atL (α := UInt8) s n 0))) none))) none
  | _, _ => none

def stExtract (o : Oper) (x : Operand) (i : Nat) (st : St) : Option Comp :=
  match (st.ent x).av with
  | .tup t v => match getF t v i with
    | some d => let ps := st.owned x ((slicePaths d.1).map (i :: ·))
      some (.ret none { upd0 o.dst (.dat d.1 d.2) none with own := ps.map (·.drop 1), takes := takesOf x ps })
    | none => none
  | _ => none

def stLen (tab : Tab) (o : Oper) (t : TypeId) (x : Operand) (st : St) : Option Comp :=
  match (st.ent x).av with
  | .dat (.slice e) xs => cnd (tyIs (tab t) (.slice e)) (some (.ret none (upd0 o.dst (.dat (.int .i64) (lenL (α := e.val) xs)) none))) none
  | .dat .str s => cnd (tyIs (tab t) .str) (some (.ret none (upd0 o.dst (.dat (.int .i64) (lenL (α := UInt8) s)) none))) none
  | _ => none

/-- who owns the slice that an operand holds: 'some l': this place; 'none': nobody must be asked (a bare nil) -/
def St.owner (st : St) : Operand → Option (Option Loc)
  | .const _ => some none
  | .tmp t => cnd (st.own (.tmp t [])) (some (some (.tmp t []))) (match (st.env t).tag with
      | some (true, l) => cnd (st.own l) (some (some l)) none
      | _ => none)
  | _ => none
/-- a marked assignment takes the slice from the place that owns it -/
def stAssignM (o : Oper) (x : Operand) (st : St) (c : Comp) : Comp :=
  match (st.ent x).av, st.owner x with
  | .dat (.slice e) v, some (some l) => .ret none { upd0 o.dst (.dat (.slice e) v) none with own := [[]], takes := [l] }
  | .tup t v, _ => .ret none { upd0 o.dst (.tup t v) none with own := st.owned x (slicePaths t), takes := takesOf x (st.owned x (slicePaths t)) }
  | _, _ => c
def stAppend (tab : Tab) (o : Oper) (t : TypeId) (x y : Operand) (st : St) : Option Comp :=
  match tab t with
  | some (.slice e) => match AV.as (.slice e) (st.ent x).av, AV.as (.slice e) (st.ent y).av, st.owner x with
    | some xs, some ys, some l => some (.ret (some (ltI (addI (lenL (α := e.val) xs) (lenL (α := e.val) ys)) big))
        { upd0 o.dst (.dat (.slice e) (appL (α := e.val) xs ys)) none with own := [[]], takes := l.toList })
    | _, _, _ => none
  | _ => none

def stMinMax (mx : Bool) (o : Oper) (x y : Operand) (st : St) : Option Comp :=
  match (st.ent x).av, (st.ent y).av with
  | .dat (.int k) a, .dat (.int k') b => match kbeq k k' with
    | true => some (.ret none (upd0 o.dst (.dat (.int k) (cnd mx (maxI a b) (minI a b))) none))
    | false => none
  | _, _ => none

/-- the reader that a call hands on -/
def rdrOf : List AV → Option AV
  | [] => none
  | .rdr p :: _ => some (.rdr p)
  | .cel b p :: _ => some (.cel b p)
  | _ :: vs => rdrOf vs
def stCall (G : Gam) (o : Oper) (f : FuncId) (args : List Operand) (st : St) : Option Comp :=
  match G f with
  | some s => cnd s.muts none (match s.usesRd, s.opens with
    | true, false => match rdrOf (args.map fun x => (st.ent x).av) with
      | some (.rdr []) => match packArgs (some (.rdr [])) s.aty (args.map fun x => (st.ent x).av), st.rd with
        | some x, some d => match Ty.cast d.1 s.rdty d.2 with
          | some rd => some (.call s.rty s.rdty (s.fn x rd) fun r => { upd0 o.dst (resAV s.rty s.one r.1) none with own := resOwn s.one s.own, rd := some ⟨s.rdty, r.2⟩ })
          | none => none
        | _, _ => none
      | some (.cel b []) => match packArgs (some (.cel b [])) s.aty (args.map fun x => (st.ent x).av), st.box b with
        | some x, some d => match Ty.cast d.1 s.rdty d.2 with
          | some rd => some (.call s.rty s.rdty (s.fn x rd) fun r => { upd0 o.dst (resAV s.rty s.one r.1) none with bw := some (b, ⟨s.rdty, r.2⟩, [], []) })
          | none => none
        | _, _ => none
      | _ => none
    | false, false => match packArgs none s.aty (args.map fun x => (st.ent x).av), Ty.cast .unit s.rdty () with
      | some x, some rd => some (.call s.rty s.rdty (s.fn x rd) fun r => { upd0 o.dst (resAV s.rty s.one r.1) none with own := resOwn s.one s.own })
      | _, _ => none
    | false, true => match packArgs none s.aty (args.map fun x => (st.ent x).av), Ty.cast .unit s.rdty (), o.dst with
      | some x, some rd, some d => match st.box d with
        | none => some (.call s.rty s.rdty (s.fn x rd) fun r => { upd0 (some d) (.cel d []) none with bw := some (d, ⟨s.rty, r.1⟩, [], []) })
        | some _ => none
      | _, _, _ => none
    | true, true => none)
  | none => none

/-! ### trees of one's own -/
def St.atX (st : St) (r : Tmp) (p : List Nat) : Option Dat := match st.io r with
  | some d => getP d.1 d.2 p
  | none => none
def freeD (st : St) : Option Tmp → Option Tmp
  | some d => match st.io d, st.box d, st.xb d, Nat.beq d 0 with
    | none, none, none, false => some d
    | _, _, _, _ => none
  | none => none
/-- a value as others read it -/
def argX (st : St) : AV → AV
  | .xf r p => match st.atX r p with
    | some y => .dat y.1 y.2
    | none => .any
  | v => v
def isX : AV → Bool
  | .xf _ _ => true
  | _ => false
def anyX (st : St) : List Operand → Bool
  | [] => false
  | x :: xs => cnd (isX (st.ent x).av) true (anyX st xs)

def stMakeX (tab : Tab) (o : Oper) (t : TypeId) (l c : Operand) (st : St) : Option Comp :=
  match tab t, (st.ent l).av, (st.ent c).av, freeD st o.dst with
  | some (.slice e), .dat (.int _) n, .dat (.int _) m, some d => match noSl e with
    | true => some (.ret (some (andB (le0 n) (andB (leI n m) (ltI m big)))) { upd0 (some d) (.xf d []) none with xw := some (d, ⟨.slice e, repL n e.zero⟩) })
    | false => none
  | _, _, _, _ => none
def stAllocX (tab : Tab) (o : Oper) (elem : TypeId) (st : St) : Option Comp :=
  match tab elem, freeD st o.dst with
  | some ty, some d => some (.ret none { upd0 (some d) (.cx d []) none with xbw := some (d, ty, none) })
  | _, _ => none
def stBoxX (tab : Tab) (o : Oper) (elem : TypeId) (r : Tmp) (p : List Nat) (st : St) : Option Comp :=
  match tab elem, freeD st o.dst, st.atX r p with
  | some ty, some d, some y => match Ty.beq y.1 ty with
    | true => some (.ret none { upd0 (some d) (.cx d []) none with xbw := some (d, ty, some (r, p)) })
    | false => none
  | _, _, _ => none
def stLoadX (tab : Tab) (o : Oper) (t : TypeId) (b : Tmp) (p : List Nat) (st : St) : Option Comp :=
  match st.xb b with
  | some (ty, some (r, q)) => match st.atX r q with
    | some z => match Ty.beq z.1 ty, getP z.1 z.2 p with
      | true, some y => cnd (tyIs (tab t) y.1) (cnd (noSl y.1) (some (.ret none (upd0 o.dst (.dat y.1 y.2) none))) (some (.ret none (upd0 o.dst (.xf r (q ++ p)) none)))) none
      | _, _ => none
    | none => none
  | _ => none
def stStoreX (tab : Tab) (o : Oper) (t : TypeId) (r : Tmp) (p : List Nat) (n : Int) (q : List Nat) (v : Operand) (st : St) : Option Comp :=
  match st.io r, st.atX r p with
  | some d, some ⟨.slice e, xs⟩ => match getP e (atL (α := e.val) xs n e.zero) q with
    | some y => match tyIs (tab t) y.1, noSl e, AV.as y.1 (st.ent v).av with
      | true, true, some z => match setP e (atL (α := e.val) xs n e.zero) q ⟨y.1, z⟩ with
        | some x' => match setP d.1 d.2 p ⟨.slice e, setL (α := e.val) xs n x'⟩ with
          | some d' => some (.ret (some (andB (le0 n) (ltI n (lenL (α := e.val) xs)))) { upd0 o.dst .skp none with xw := some (r, ⟨d.1, d'⟩) })
          | none => none
        | none => none
      | _, _, _ => none
    | none => none
  | _, _ => none
/-- a tree's value is put into a box that was made for it -/
def stPutX (tab : Tab) (o : Oper) (t : TypeId) (b : Tmp) (r : Tmp) (q : List Nat) (st : St) : Option Comp :=
  match st.xb b, st.atX r q with
  | some (ty, none), some y => match tyIs (tab t) ty, Ty.beq y.1 ty with
    | true, true => some (.ret none { upd0 o.dst .skp none with xbw := some (b, ty, some (r, q)) })
    | _, _ => none
  | _, _ => none
def stFieldAddrX (tab : Tab) (o : Oper) (s : TypeId) (r : Tmp) (p : List Nat) (n : Int) (q : List Nat) (f : Nat) (st : St) : Option Comp :=
  match st.atX r p with
  | some ⟨.slice e, xs⟩ => match getP e (atL (α := e.val) xs n e.zero) q with
    | some y => match tyIs (tab s) y.1, getF y.1 y.2 f with
      | true, some _ => some (.ret none (upd0 o.dst (.xp r p n (q ++ [f])) none))
      | _, _ => none
    | none => none
  | _ => none
def stFieldAddrC (tab : Tab) (o : Oper) (s : TypeId) (b : Tmp) (p : List Nat) (f : Nat) (st : St) : Option Comp :=
  match st.xb b with
  | some (ty, some (r, q)) => match st.atX r q with
    | some z => match Ty.beq z.1 ty, getP z.1 z.2 p with
      | true, some y => match tyIs (tab s) y.1, getF y.1 y.2 f with
        | true, some _ => some (.ret none (upd0 o.dst (.cx b (p ++ [f])) none))
        | _, _ => none
      | _, _ => none
    | none => none
  | _ => none
def stIndexAddrX (tab : Tab) (o : Oper) (t : TypeId) (r : Tmp) (p : List Nat) (i : Operand) (st : St) : Option Comp :=
  match st.atX r p, (st.ent i).av with
  | some ⟨.slice e, xs⟩, .dat (.int _) n => cnd (tyIs (tab t) (.slice e))
    (some (.ret (some (andB (le0 n) (ltI n (lenL (α := e.val) xs)))) (upd0 o.dst (.xp r p n []) none))) none
  | _, _ => none
def stLenX (tab : Tab) (o : Oper) (t : TypeId) (r : Tmp) (p : List Nat) (st : St) : Option Comp :=
  match st.atX r p with
  | some ⟨.slice e, xs⟩ => cnd (tyIs (tab t) (.slice e)) (some (.ret none (upd0 o.dst (.dat (.int .i64) (lenL (α := e.val) xs)) none))) none
  | _ => none
def stExtractX (o : Oper) (r : Tmp) (i : Nat) (st : St) : Option Comp :=
  match st.io r with
  | some d => match getF d.1 d.2 i with
    | some y => cnd (noSl y.1) (some (.ret none (upd0 o.dst (.dat y.1 y.2) none))) (some (.ret none (upd0 o.dst (.xf r [i]) none)))
    | none => none
  | none => none
def allIn (ps qs : List (List Nat)) : Bool := match ps with
  | [] => true
  | p :: ps => cnd (inPaths p qs) (allIn ps qs) false
/-- nothing of the result is seen by others -/
def oneOk (one : Bool) (t : Ty) : Bool := match one, t with
  | true, .prod _ .unit => true
  | true, _ => false
  | false, _ => true
def closedS (s : Sig) : Bool := cnd (flatT s.rty) (cnd (allIn (slicePaths s.rty) s.own) (oneOk s.one s.rty) false) false
def rootOf (one : Bool) (t : Ty) (x : t.val) : Dat := match one, t, x with
  | true, .prod a .unit, x => ⟨a, x.1⟩
  | _, t, x => ⟨t, x⟩
def rootAV (one : Bool) (t : Ty) (d : Tmp) : AV := match one, t with
  | true, .prod _ .unit => .xf d []
  | _, _ => .xt d
def setDat (d : Dat) (p : List Nat) (y : Dat) : Dat := match setP d.1 d.2 p y with
  | some z => ⟨d.1, z⟩
  | none => d
def stCallX (G : Gam) (o : Oper) (f : FuncId) (args : List Operand) (st : St) : Option Comp :=
  match G f with
  | some s => match s.usesRd, s.opens, s.muts with
    | false, false, false => match packArgs none s.aty (args.map fun x => argX st (st.ent x).av), Ty.cast .unit s.rdty (), closedS s with
      | some x, some rd, true => cnd (mkD st o.dst)
        (match freeD st o.dst with
          | some d => some (.call s.rty s.rdty (s.fn x rd) fun r => { upd0 (some d) (rootAV s.one s.rty d) none with xw := some (d, rootOf s.one s.rty r.1) })
          | none => none)
        (some (.call s.rty s.rdty (s.fn x rd) fun r => { upd0 o.dst (resAV s.rty s.one r.1) none with own := resOwn s.one s.own }))
      | _, _, _ => none
    | true, false, true => match args with
      | x0 :: xs => match (st.ent x0).av with
        | .xf r p => match st.io r, st.atX r p with
          | some d, some y => match Ty.cast y.1 s.rdty y.2, s.aty, s.fn with
            | some rd, .prod .unit b, fn => match packArgs none b (xs.map fun x => (st.ent x).av), noSl s.rty with
              | some x, true => some (.call s.rty s.rdty (fn ((), x) rd) fun z => { upd0 o.dst (resAV s.rty s.one z.1) none with xw := some (r, setDat d p ⟨s.rdty, z.2⟩) })
              | _, _ => none
            | _, _, _ => none
          | _, _ => none
        | _ => none
      | [] => none
    | _, _, _ => none
  | none => none
def isMut (G : Gam) (f : FuncId) : Bool := match G f with
  | some s => s.muts
  | none => false

def stepC (tab : Tab) (G : Gam) (o : Oper) (st : St) : Option Comp :=
  match o.op with
  | .move x => some (cnd (mkD st o.dst) (stAssignM o x st (stMove tab o x st)) (stMove tab o x st))
  | .assign x => some (cnd (mkD st o.dst) (stAssignM o x st (stAssign tab o x st)) (stAssign tab o x st))
  | .pick c a b => stPick o c a b st
  | .alloc e => cnd (mkD st o.dst) (stAllocX tab o e st) (stAlloc tab o e st)
  | .box e x => match (st.ent x).av with
    | .xf r p => stBoxX tab o e r p st
    | _ => stBox tab o e x st
  | .build t ps => stBuild tab o t ps.toList st
  | .buildSlice t n ps => stBuildSlice tab o t n ps.toList st
  | .load t x => match (st.ent x).av with
    | .cx b p => stLoadX tab o t b p st
    | _ => stLoad tab o t x st
  | .store t x v => match (st.ent x).av, (st.ent v).av with
    | .xp r p n q, _ => stStoreX tab o t r p n q v st
    | .cx b [], .xf r q => stPutX tab o t b r q st
    | _, _ => stStore tab o t x v st
  | .nilCheck x => match (st.ent x).av with
    | .cel b p => some (.ret none (upd0 o.dst (.cel b p) none))
    | .rdr p => some (.ret none (upd0 o.dst (.rdr p) none))
    | _ => none
  | .binOp op xt x y _ => stBin tab o op xt x y st
  | .unOp op _ x => stUn o op x st
  | .convert s d x => stConv tab o s d x st
  | .makeSlice t l c => cnd (mkD st o.dst) (stMakeX tab o t l c st) (stMakeSlice tab o t l c st)
  | .slice t x lo hi mx => stSlice tab o t x lo hi mx st
  | .fieldAddr s x f => match (st.ent x).av with
    | .xp r p n q => stFieldAddrX tab o s r p n q f st
    | .cx b p => stFieldAddrC tab o s b p f st
    | _ => stFieldAddr tab o s x f st
  | .field s x f => stField tab o s x f st
  | .indexAddr t x i => match (st.ent x).av with
    | .xf r p => stIndexAddrX tab o t r p i st
    | _ => stIndexAddr tab o t x i st
  | .index t x i => stIndex tab o t x i st
  | .extract x i => match (st.ent x).av with
    | .xt r => stExtractX o r i st
    | _ => stExtract o x i st
  | .call c => match c.callee with
    | .value (.func f) => cnd (cnd (anyX st c.args.toList) true (cnd (mkD st o.dst) true (isMut G f))) (stCallX G o f c.args.toList st) (stCall G o f c.args.toList st)
    | .builtin .len => match c.args.toList, c.argTypes.toList with
      | [x], [t] => match (st.ent x).av with
        | .xf r p => stLenX tab o t r p st
        | _ => stLen tab o t x st
      | _, _ => none
    | .builtin .append => match c.args.toList, c.argTypes.toList with
      | [x, y], [t, t'] => cnd (Nat.beq t t') (stAppend tab o t x y st) none
      | _, _ => none
    | .builtin .min => match c.args.toList with
      | [x, y] => stMinMax false o x y st
      | _ => none
    | .builtin .max => match c.args.toList with
      | [x, y] => stMinMax true o x y st
      | _ => none
    | _ => none
  | _ => none

def Comp.runK {R : Type} (st : St) (k : St → Option R) : Comp → Option R
  | .ret none u => k (apply st u)
  | .ret (some c) u => cndS c (k (apply st u)) none
  | .call _ _ F u => obind F fun r => k (apply st (u r))

/-! ### a region's operations -/
inductive Res where
  | tmp (t : Tmp) | own (t : Tmp) | box (b : Tmp) | rd
def Res.beq : Res → Res → Bool
  | .tmp t, .tmp u => Nat.beq t u
  | .own t, .own u => Nat.beq t u
  | .box t, .box u => Nat.beq t u
  | .rd, .rd => true
  | _, _ => false
def Loc.res : Loc → Res
  | .tmp t _ => .own t
  | .box b _ => .box b
structure FP where
  reads : List Res
  writes : List Res

def avRes : AV → List Res
  | .cel b _ => [.box b]
  | .rdr _ => [.rd]
  | .xf r _ => [.box r]
  | .xp r _ _ _ => [.box r]
  | .xt r => [.box r]
  | .cx b _ => [.box b]
  | _ => []
/-- what stands behind a box that holds a tree's value -/
def xbRes (st : St) : AV → List Res
  | .cx b _ => match st.xb b with
    | some (_, some (r, _)) => [.box r]
    | _ => []
  | _ => []
/-- what an operation looks at -/
def readsX (st : St) : Operand → List Res
  | .tmp t => .tmp t :: .own t :: (avRes (st.env t).av ++ xbRes st (st.env t).av ++ (match (st.env t).tag with
    | some (_, l) => [l.res]
    | none => []))
  | _ => []
def readsL (st : St) : List Operand → List Res
  | [] => []
  | x :: xs => readsX st x ++ readsL st xs
def dstRes : Option Tmp → List Res
  | some d => [.tmp d, .own d, .box d]
  | none => []
/-- a part without slices is taken out of a tuple: who owns what is not looked at -/
def exNo (st : St) : Op → Option Tmp
  | .extract (.tmp t) i => match (st.env t).av with
    | .tup ty v => match getF ty v i with
      | some d => match slicePaths d.1 with
        | [] => some t
        | _ :: _ => none
      | none => none
    | _ => none
  | _ => none
/-- the reader's pointer is copied: the reader is not looked at -/
def mvNo (st : St) : Op → Option Tmp
  | .move (.tmp t) => match (st.env t).av with
    | .rdr _ => some t
    | _ => none
  | _ => none
def readsM (st : St) (t : Tmp) : List Res := .tmp t :: .own t :: (match (st.env t).tag with
  | some (_, l) => [l.res]
  | none => [])
def reads (st : St) (o : Oper) : List Res := dstRes o.dst ++ (match exNo st o.op with
  | some t => [.tmp t]
  | none => match mvNo st o.op with
    | some t => readsM st t
    | none => readsL st o.op.operands.toList)
def Upd.writes (u : Upd) : List Res :=
  dstRes u.dst ++ (u.takes.map Loc.res ++ ((match u.bw with
    | some (b, _, _, _) => [.box b]
    | none => []) ++ (match u.rd with
    | some _ => [.rd]
    | none => []) ++ ((match u.xw with
    | some (r, _) => [.box r]
    | none => []) ++ (match u.xbw with
    | some (b, _, _) => [.box b]
    | none => []))))
/-- where the new value's tag points -/
def tagRes (u : Upd) : List Res := match u.ent.tag with
  | some (_, l) => [l.res]
  | none => []
def Comp.runT {R : Type} (st : St) (rs : List Res) (k : St → FP → Option R) : Comp → Option R
  | .ret none u => k (apply st u) ⟨tagRes u ++ rs, u.writes⟩
  | .ret (some c) u => cndS c (k (apply st u) ⟨tagRes u ++ rs, u.writes⟩) none
  | .call _ _ F u => obind F fun r => k (apply st (u r)) ⟨tagRes (u r) ++ rs, (u r).writes⟩

def hit (r : Res) : List Res → Bool
  | [] => false
  | s :: ss => cnd (Res.beq r s) true (hit r ss)
def hits : List Res → List Res → Bool
  | [], _ => false
  | r :: rs, ss => cnd (hit r ss) true (hits rs ss)
def indep (a b : FP) : Bool := cnd (hits a.writes b.reads) false (cnd (hits a.writes b.writes) false (cnd (hits b.writes a.reads) false true))

def skipU (o : Oper) : Upd := upd0 o.dst .skp none
def setAV (st : St) (t : Tmp) (v : AV) : St := { st with env := fun u => cnd (Nat.beq u t) ⟨v, (st.env u).tag⟩ (st.env u) }
def setKn (st : St) (t : Option Tmp) (b : Bool) : St := { st with kn := fun u => cnd (isT u t) b (st.kn u) }
def St.knX (st : St) : Operand → Bool
  | .tmp t => st.kn t
  | .const (.bool _) => true
  | _ => false
/-- is the operation's value a known boolean? -/
def knOf (o : Oper) (st : St) : Bool := match o.op with
  | .move x => st.knX x
  | .assign x => st.knX x
  | .pick c x y => match st.knX c, (st.ent c).av, (st.ent x).av, (st.ent y).av with
    | true, .dat .bool _, .dat _ _, .dat _ _ => false
    | true, .dat .bool b, _, _ => cnd b (st.knX x) (st.knX y)
    | _, _, _, _ => false
  | _ => false

def guardT (ops : List Oper) (g : Nat) : Option Tmp := match ops[g]? with
  | some o => o.dst
  | none => none

/-- the operations one after the other -/
def opsK {R : Type} (tab : Tab) (G : Gam) (ops : List Oper) : List Oper → Nat → St → (St → Option R) → Option R
  | [], _, st, k => k st
  | o :: rest, i, st, k => match o.guard with
    | none => match stepC tab G o st with
      | some c => c.runK st fun st' => opsK tab G ops rest (Nat.succ i) (setKn st' o.dst (knOf o st)) k
      | none => none
    | some (g, want) => match guardT ops g with
      | none => none
      | some t => match (st.env t).av with
        | .dat .bool b =>
          let go (st : St) := match stepC tab G o st with
            | some c => c.runK st fun st' => opsK tab G ops rest (Nat.succ i) (setKn st' o.dst (knOf o st)) k
            | none => none
          let by' (st : St) := opsK tab G ops rest (Nat.succ i) (setKn (apply st (skipU o)) o.dst false) k
          cnd (st.kn t) (cnd b (cnd want (go st) (by' st)) (cnd want (by' st) (go st)))
            (cndS b (cnd want (go (setKn (setAV st t (.dat .bool true)) (some t) true)) (by' (setKn (setAV st t (.dat .bool true)) (some t) true)))
                    (cnd want (by' (setKn (setAV st t (.dat .bool false)) (some t) true)) (go (setKn (setAV st t (.dat .bool false)) (some t) true))))
        | .skp => opsK tab G ops rest (Nat.succ i) (setKn (apply st (skipU o)) o.dst false) k
        | _ => none

def drawK {R : Type} (tab : Tab) (G : Gam) (ops : List Oper) : List Oper → Nat → St → List FP → (St → List FP → Option R) → Option R
  | [], _, st, acc, k => k st acc
  | o :: rest, i, st, acc, k => match o.guard with
    | none => match stepC tab G o st with
      | some c => c.runT st (reads st o) fun st' f => drawK tab G ops rest (Nat.succ i) (setKn st' o.dst (knOf o st)) (acc ++ [f]) k
      | none => none
    | some (g, want) => match guardT ops g with
      | none => none
      | some t => match (st.env t).av with
        | .dat .bool b =>
          let go (st : St) := match stepC tab G o st with
            | some c => c.runT st (.tmp t :: reads st o) fun st' f => drawK tab G ops rest (Nat.succ i) (setKn st' o.dst (knOf o st)) (acc ++ [f]) k
            | none => none
          let by' (st : St) := drawK tab G ops rest (Nat.succ i) (setKn (apply st (skipU o)) o.dst false) (acc ++ [⟨[.tmp t], (skipU o).writes⟩]) k
          cnd (st.kn t) (cnd b (cnd want (go st) (by' st)) (cnd want (by' st) (go st)))
            (cndS b (cnd want (go (setKn (setAV st t (.dat .bool true)) (some t) true)) (by' (setKn (setAV st t (.dat .bool true)) (some t) true)))
                    (cnd want (by' (setKn (setAV st t (.dat .bool false)) (some t) true)) (go (setKn (setAV st t (.dat .bool false)) (some t) true))))
        | .skp => drawK tab G ops rest (Nat.succ i) (setKn (apply st (skipU o)) o.dst false) (acc ++ [⟨[.tmp t], (skipU o).writes⟩]) k
        | _ => none

def bor : List Bool → List Bool → List Bool
  | [], ys => ys
  | xs, [] => xs
  | x :: xs, y :: ys => cnd x true y :: bor xs ys
def bset : Nat → List Bool → List Bool
  | 0, [] => [true]
  | 0, _ :: xs => true :: xs
  | n + 1, [] => false :: bset n []
  | n + 1, x :: xs => x :: bset n xs
def bget : Nat → List Bool → Bool
  | _, [] => false
  | 0, x :: _ => x
  | n + 1, _ :: xs => bget n xs
def nthM : Nat → List (List Bool) → List Bool
  | _, [] => []
  | 0, m :: _ => m
  | n + 1, _ :: ms => nthM n ms
def bindsAny (e : Edge) : Bool := match e.ground with
  | .textOnly _ => false
  | .gcOnly _ => false
  | _ => true
def maskOf (acc : List (List Bool)) : List Edge → List Bool
  | [] => []
  | e :: es => cnd (bindsAny e) (bor (bset e.on (nthM e.on acc)) (maskOf acc es)) (maskOf acc es)
/-- of each operation those that come before it in every order -/
def masks : List Oper → List (List Bool) → List (List Bool)
  | [], acc => acc
  | o :: rest, acc => masks rest (acc ++ [maskOf acc o.after.toList])
/-- the edges lead back -/
def edgesBack (i : Nat) : List Edge → Bool
  | [] => true
  | e :: es => cnd (cnd (bindsAny e) (Nat.blt e.on i) true) (edgesBack i es) false
def edgesOk : List Oper → Nat → Bool
  | [], _ => true
  | o :: os, i => cnd (edgesBack i o.after.toList) (edgesOk os (Nat.succ i)) false
def pairOk (m : List Bool) (f : FP) : List FP → Nat → Bool
  | [], _ => true
  | g :: gs, j => cnd (cnd (bget j m) true (indep g f)) (pairOk m f gs (Nat.succ j)) false
/-- each pair that no order holds is independent -/
def pairsOk (ms : List (List Bool)) : List FP → List FP → Nat → Bool
  | _, [], _ => true
  | seen, f :: fs, j => cnd (pairOk (nthM j ms) f seen 0) (pairsOk ms (seen ++ [f]) fs (Nat.succ j)) false

/-! ### code -/
inductive ShE where
  | dat (t : Ty) (own : List (List Nat))
  | cel (b : Tmp) (p : List Nat)
  | rdr
  | xf (r : Tmp) (p : List Nat)
  | cx (b : Tmp) (p : List Nat)
structure Shp where
  env : List (Tmp × ShE)
  box : List (Tmp × Ty × List (List Nat))
  rd : Option Ty
  io : List (Tmp × Ty) := []
  xb : List (Tmp × Ty × Tmp × List Nat) := []

def envTy : List (Tmp × ShE) → Ty → Ty
  | [], r => r
  | (_, .dat t _) :: es, r => .prod t (envTy es r)
  | _ :: es, r => envTy es r
def boxTy : List (Tmp × Ty × List (List Nat)) → Ty → Ty
  | [], r => r
  | (_, t, _) :: bs, r => .prod t (boxTy bs r)
def rdTy : Option Ty → Ty
  | some t => t
  | none => .unit
def ioTy : List (Tmp × Ty) → Ty → Ty
  | [], r => r
  | (_, t) :: is, r => .prod t (ioTy is r)
/-- what stands below the boxes: trees, and the reader -/
def Shp.low (S : Shp) : Ty := ioTy S.io (rdTy S.rd)
def Shp.ty (S : Shp) : Ty := envTy S.env (boxTy S.box S.low)

def allOwn (own : Loc → Bool) (f : List Nat → Loc) : List (List Nat) → Bool
  | [] => true
  | p :: ps => cnd (own (f p)) (allOwn own f ps) false
def boxIn (b : Tmp) : List (Tmp × Ty × List (List Nat)) → Bool
  | [] => false
  | (c, _, _) :: bs => cnd (Nat.beq b c) true (boxIn b bs)
def isSomeTy : Option Ty → Bool
  | some _ => true
  | none => false
def packRd (st : St) : (r : Option Ty) → Option (rdTy r).val
  | none => some ()
  | some t => match st.rd with
    | some d => Ty.cast d.1 t d.2
    | none => none
def packIo (st : St) (r : Option Ty) : (is : List (Tmp × Ty)) → Option (ioTy is (rdTy r)).val
  | [] => packRd st r
  | (c, t) :: is => match st.io c with
    | some d => match Ty.cast d.1 t d.2, packIo st r is with
      | some x, some y => some (x, y)
      | _, _ => none
    | none => none
def ioIn (b : Tmp) : List (Tmp × Ty) → Bool
  | [] => false
  | (c, _) :: bs => cnd (Nat.beq b c) true (ioIn b bs)
def xbIn (b : Tmp) : List (Tmp × Ty × Tmp × List Nat) → Bool
  | [] => false
  | (c, _) :: bs => cnd (Nat.beq b c) true (xbIn b bs)
/-- the boxes that hold trees' values are as told -/
def xbAll (st : St) (is : List (Tmp × Ty)) : List (Tmp × Ty × Tmp × List Nat) → Bool
  | [] => true
  | (b, t, r, q) :: bs => match st.xb b with
    | some (u, some (r', q')) => cnd (cnd (Ty.beq u t) (cnd (Nat.beq r' r) (cnd (pbeq q' q) (ioIn r is) false) false) false) (xbAll st is bs) false
    | _ => false
def packBox (st : St) (S : Shp) : (bs : List (Tmp × Ty × List (List Nat))) → Option (boxTy bs S.low).val
  | [] => cnd (xbAll st S.io S.xb) (packIo st S.rd S.io) none
  | (b, t, ps) :: bs => match st.box b with
    | some d => match Ty.cast d.1 t d.2, allOwn st.own (.box b ·) ps, packBox st S bs with
      | some x, true, some y => some (x, y)
      | _, _, _ => none
    | none => none
def packEnv (st : St) (S : Shp) : (es : List (Tmp × ShE)) → Option (envTy es (boxTy S.box S.low)).val
  | [] => packBox st S S.box
  | (t, .dat ty ps) :: es => match AV.as ty (st.env t).av, allOwn st.own (.tmp t ·) ps, packEnv st S es with
    | some x, true, some y => some (x, y)
    | _, _, _ => none
  | (t, .cel b p) :: es => match (st.env t).av with
    | .cel c q => cnd (cnd (Nat.beq b c) (cnd (pbeq p q) (boxIn b S.box) false) false) (packEnv st S es) none
    | _ => none
  | (t, .rdr) :: es => match (st.env t).av with
    | .rdr [] => cnd (isSomeTy S.rd) (packEnv st S es) none
    | _ => none
  | (t, .xf r p) :: es => match (st.env t).av with
    | .xf c q => cnd (cnd (Nat.beq r c) (cnd (pbeq p q) (ioIn r S.io) false) false) (packEnv st S es) none
    | _ => none
  | (t, .cx b p) :: es => match (st.env t).av with
    | .cx c q => cnd (cnd (Nat.beq b c) (cnd (pbeq p q) (xbIn b S.xb) false) false) (packEnv st S es) none
    | _ => none
def pack (S : Shp) (st : St) : Option S.ty.val := packEnv st S S.env

def st00 : St := { env := fun _ => ⟨.any, none⟩, box := fun _ => none, own := fun _ => false, rd := none, kn := fun _ => false, io := fun _ => none, xb := fun _ => none, mkt := fun _ => false }
def putE (st : St) (t : Tmp) (v : AV) (ps : List (List Nat)) : St :=
  { st with env := fun u => cnd (Nat.beq u t) ⟨v, none⟩ (st.env u), own := fun l => match l with
    | .tmp u p => cnd (Nat.beq u t) (inPaths p ps) (st.own l)
    | _ => st.own l }
def putB (st : St) (b : Tmp) (d : Dat) (ps : List (List Nat)) : St :=
  { st with box := fun c => cnd (Nat.beq c b) (some d) (st.box c), own := fun l => match l with
    | .box c p => cnd (Nat.beq c b) (inPaths p ps) (st.own l)
    | _ => st.own l }
def unpackRd (st : St) : (r : Option Ty) → (rdTy r).val → St
  | none, _ => st
  | some t, x => { st with rd := some ⟨t, x⟩ }
def unpackIo (st : St) (r : Option Ty) : (is : List (Tmp × Ty)) → (ioTy is (rdTy r)).val → St
  | [], x => unpackRd st r x
  | (c, t) :: is, x => let s := unpackIo st r is x.2
    { s with io := fun k => cnd (Nat.beq k c) (some ⟨t, x.1⟩) (s.io k) }
def unpackXb : List (Tmp × Ty × Tmp × List Nat) → Tmp → Option (Ty × Option (Tmp × List Nat))
  | [], _ => none
  | (b, t, r, q) :: bs, c => cnd (Nat.beq c b) (some (t, some (r, q))) (unpackXb bs c)
def unpackBox (st : St) (S : Shp) : (bs : List (Tmp × Ty × List (List Nat))) → (boxTy bs S.low).val → St
  | [], x => { unpackIo st S.rd S.io x with xb := unpackXb S.xb }
  | (b, t, ps) :: bs, x => putB (unpackBox st S bs x.2) b ⟨t, x.1⟩ ps
def unpackEnv (st : St) (S : Shp) : (es : List (Tmp × ShE)) → (envTy es (boxTy S.box S.low)).val → St
  | [], x => unpackBox st S S.box x
  | (t, .dat ty ps) :: es, x => putE (unpackEnv st S es x.2) t (.dat ty x.1) ps
  | (t, .cel b p) :: es, x => putE (unpackEnv st S es x) t (.cel b p) []
  | (t, .rdr) :: es, x => putE (unpackEnv st S es x) t (.rdr []) []
  | (t, .xf r p) :: es, x => putE (unpackEnv st S es x) t (.xf r p) []
  | (t, .cx b p) :: es, x => putE (unpackEnv st S es x) t (.cx b p) []
def unpack (S : Shp) (x : S.ty.val) : St := unpackEnv st00 S S.env x

structure Ann where
  cut : Nat → Option (Shp × Bool)
  loop : Nat → Option (Shp × Shp × Bool)
  mkt : Tmp → Bool := fun _ => false

def firstRegion : Code → Option Nat
  | .region id _ _ => some id
  | .seq x y => match firstRegion x with
    | some i => some i
    | none => firstRegion y
  | .block _ c => firstRegion c
  | .loop c => firstRegion c
  | _ => none

def cutOf (ann : Ann) (y : Code) : Option (Shp × Bool) := match firstRegion y with
  | some i => ann.cut i
  | none => none

def evalK (tab : Tab) (G : Gam) (ann : Ann) (fuel : Nat) : Code → (R : Type) → St → (St → Option R) → (St → Option R) → (Nat → St → Option R) → Option R
  | .skip, _, st, kn, _, _ => kn st
  | .region _ ops draw, _, st0, kn, _, _ =>
    let st : St := { st0 with mkt := ann.mkt }
    cnd draw (drawK tab G ops.toList ops.toList 0 st [] fun st' fs => cnd (cnd (edgesOk ops.toList 0) (pairsOk (masks ops.toList []) [] fs 0) false) (kn st') none)
      (opsK tab G ops.toList ops.toList 0 st kn)
  | .seq x y, R, st, kn, kr, ke => match cutOf ann y with
    | none => evalK tab G ann fuel x R st (fun st' => evalK tab G ann fuel y R st' kn kr ke) kr ke
    | some (S, true) => obind (evalK tab G ann fuel x S.ty.val st (fun st' => pack S st') (fun _ => none) (fun _ _ => none))
        fun s => evalK tab G ann fuel y R (unpack S s) kn kr ke
    | some (S, false) => obind (evalK tab G ann fuel x (S.ty.val ⊕ R) st (fun st' => (pack S st').map .inl) (fun st' => (kr st').map .inr) (fun i st' => (ke i st').map .inr))
        fun e => sumE e (fun s => evalK tab G ann fuel y R (unpack S s) kn kr ke) (fun r => some r)
  | .cond c x y, R, st, kn, kr, ke => match (st.ent c).av with
    | .dat .bool b => cnd (st.knX c) (cnd b (evalK tab G ann fuel x R st kn kr ke) (evalK tab G ann fuel y R st kn kr ke)) (cndS b (evalK tab G ann fuel x R st kn kr ke) (evalK tab G ann fuel y R st kn kr ke))
    | _ => none
  | .block id (.loop b), R, st, kn, kr, ke => match ann.loop id with
    | some (S, T, true) => match pack S st with
      | none => none
      | some s0 =>
        obind (iter fuel (fun s => evalK tab G ann fuel b (S.ty.val ⊕ T.ty.val) (unpack S s) (fun st' => (pack S st').map .inl) (fun _ => none)
          (fun i st' => cnd (Nat.beq i id) ((pack T st').map .inr) none)) s0) fun t => kn (unpack T t)
    | some (S, T, false) => match pack S st with
      | none => none
      | some s0 =>
        obind (iter fuel (fun s => evalK tab G ann fuel b (S.ty.val ⊕ (T.ty.val ⊕ R)) (unpack S s) (fun st' => (pack S st').map .inl) (fun st' => (kr st').map fun r => .inr (.inr r))
          (fun i st' => cnd (Nat.beq i id) ((pack T st').map fun t => .inr (.inl t)) ((ke i st').map fun r => .inr (.inr r)))) s0) fun e => sumE e (fun t => kn (unpack T t)) (fun r => some r)
    | none => none
  | .block id c, R, st, kn, kr, ke => evalK tab G ann fuel c R st kn kr (fun i st' => cnd (Nat.beq i id) (kn st') (ke i st'))
  | .exit id, _, st, _, _, ke => ke id st
  | .ret, _, st, _, kr, _ => kr st
  | _, _, _, _, _, _ => none

def opsDst (n : Nat) : List Oper → Bool
  | [] => true
  | o :: os => match o.dst with
    | some d => cnd (Nat.blt d n) (opsDst n os) false
    | none => opsDst n os
/-- every temporary that is written is one of the frame's -/
def dstsOk (n : Nat) : Code → Bool
  | .region _ ops _ => opsDst n ops.toList
  | .seq x y => cnd (dstsOk n x) (dstsOk n y) false
  | .cond _ x y => cnd (dstsOk n x) (dstsOk n y) false
  | .block _ c => dstsOk n c
  | .loop c => dstsOk n c
  | _ => true
def resVal (tab : Tab) (st : St) (ty : Ty) : ResultVar → Option ty.val
  | .tmp t => AV.as ty (st.env t).av
  | .cell t u => match (st.env t).av with
    | .cel b [] => match st.box b with
      | some d => cnd (tyIs (tab u) d.1) (Ty.cast d.1 ty d.2) none
      | none => none
    | _ => none
def resLoc (st : St) (p : List Nat) : ResultVar → Option Loc
  | .tmp t => some (.tmp t p)
  | .cell t _ => match (st.env t).av with
    | .cel b [] => some (.box b p)
    | _ => none
def resVals (tab : Tab) (st : St) : (t : Ty) → List ResultVar → Option t.val
  | .unit, [] => some ()
  | .prod a b, r :: rs => match resVal tab st a r with
    | some x => match resVals tab st b rs with
      | some y => some (x, y)
      | none => none
    | none => none
  | _, _ => none
def nthR : List ResultVar → Nat → Option ResultVar
  | [], _ => none
  | r :: _, 0 => some r
  | _ :: rs, i + 1 => nthR rs i
/-- where the slices stand that are handed out as the caller's own: no two at one place -/
def resLocs (st : St) (rs : List ResultVar) : List (List Nat) → Option (List Loc)
  | [] => some []
  | (i :: p) :: ps => match nthR rs i with
    | some r => match resLoc st p r with
      | some l => match resLocs st rs ps with
        | some ls => cnd (st.own l) (cnd (inLocs l ls) none (some (l :: ls))) none
        | none => none
      | none => none
    | none => none
  | [] :: _ => none

def argAV (a : Ty) (x : a.val) : AV := match a, x with
  | .unit, _ => .rdr []
  | a, x => .dat a x
def putArgs : (t : Ty) → t.val → Nat → St
  | .prod a b, x, i => putE (putArgs b x.2 (Nat.succ i)) i (argAV a x.1) []
  | _, _, _ => st00
/-- does a tree's value stand in just one of the results? -/
def rootIn (st : St) (r : Tmp) : List ResultVar → Bool
  | [] => false
  | .tmp t :: rs => match (st.env t).av with
    | .xf c _ => cnd (Nat.beq c r) true (rootIn st r rs)
    | _ => rootIn st r rs
  | _ :: rs => rootIn st r rs
def soleIn (st : St) (r t : Tmp) : List ResultVar → Bool
  | [] => false
  | .tmp u :: rs => cnd (Nat.beq u t) (cnd (rootIn st r rs) false true) (match (st.env u).av with
    | .xf c _ => cnd (Nat.beq c r) false (soleIn st r t rs)
    | _ => soleIn st r t rs)
  | _ :: rs => soleIn st r t rs
/-- the trees are given up: what stood in them is seen by all -/
def frzAV (st : St) : AV → AV
  | .xf r p => match st.atX r p with
    | some y => .dat y.1 y.2
    | none => .any
  | .xp _ _ _ _ => .any
  | .xt _ => .any
  | .cx _ _ => .any
  | v => v
def frz (rs : List ResultVar) (st : St) : St where
  env := fun t => ⟨frzAV st (st.env t).av, none⟩
  box := st.box
  own := fun l => match l with
    | .tmp t p => match (st.env t).av with
      | .xf r q => match st.atX r q with
        | some y => cnd (soleIn st r t rs) (inPaths p (slicePaths y.1)) false
        | none => false
      | _ => st.own l
    | .box _ _ => st.own l
  rd := st.rd
  kn := st.kn
  io := fun _ => none
  xb := fun _ => none
  mkt := st.mkt
def finOf (tab : Tab) (rs : List ResultVar) (rdty : Ty) (usesRd : Bool) (rty : Ty) (own : List (List Nat)) (st0 : St) : Option (rty.val × rdty.val) :=
  let st := frz rs st0
  match resVals tab st rty rs, resLocs st rs own with
  | some r, some _ => cnd usesRd (match st.rd with
      | some d => match Ty.cast d.1 rdty d.2 with
        | some z => some (r, z)
        | none => none
      | none => none) (some (r, rdty.zero))
  | _, _ => none
/-- the end of a function that hands out a pointer to a new box -/
def finOpen (rs : List ResultVar) (rty : Ty) (st : St) : Option (rty.val × Ty.unit.val) :=
  match rs with
  | [.tmp t] => match (st.env t).av with
    | .cel b [] => match st.box b with
      | some d => match Ty.cast d.1 rty d.2 with
        | some z => some (z, ())
        | none => none
      | none => none
    | _ => none
  | _ => none
def startOf (aty rdty : Ty) (usesRd : Bool) (x : aty.val) (rd : rdty.val) : St := cnd usesRd { putArgs aty x 0 with rd := some ⟨rdty, rd⟩ } (putArgs aty x 0)
def evalFn (tab : Tab) (G : Gam) (ann : Ann) (fuel : Nat) (fn : Func) (aty rdty : Ty) (usesRd : Bool) (rty : Ty) (own : List (List Nat)) (x : aty.val) (rd : rdty.val) : Option (rty.val × rdty.val) :=
  match fn.body with
  | none => none
  | some c => cnd (dstsOk fn.ntmps c) (evalK tab G ann fuel c (rty.val × rdty.val) (startOf aty rdty usesRd x rd) (finOf tab fn.results.toList rdty usesRd rty own) (finOf tab fn.results.toList rdty usesRd rty own) (fun _ _ => none)) none
/-- a function that writes the arrays of its first argument -/
def startMut (b rdty : Ty) (x : b.val) (rd : rdty.val) : St :=
  { putE (putArgs b x 1) 0 (.xf 0 []) [] with io := fun r => cnd (Nat.beq r 0) (some ⟨rdty, rd⟩) none }
def finMut (tab : Tab) (rs : List ResultVar) (rdty rty : Ty) (st : St) : Option (rty.val × rdty.val) :=
  match resVals tab st rty rs, st.io 0 with
  | some r, some d => match Ty.cast d.1 rdty d.2 with
    | some z => some (r, z)
    | none => none
  | _, _ => none
def evalMut (tab : Tab) (G : Gam) (ann : Ann) (fuel : Nat) (fn : Func) (b rdty rty : Ty) (x : b.val) (rd : rdty.val) : Option (rty.val × rdty.val) :=
  match fn.body with
  | none => none
  | some c => cnd (dstsOk fn.ntmps c) (evalK tab G ann fuel c (rty.val × rdty.val) (startMut b rdty x rd) (finMut tab fn.results.toList rdty rty) (finMut tab fn.results.toList rdty rty) (fun _ _ => none)) none
def evalOpen (tab : Tab) (G : Gam) (ann : Ann) (fuel : Nat) (fn : Func) (aty rty : Ty) (x : aty.val) : Option (rty.val × Ty.unit.val) :=
  match fn.body with
  | none => none
  | some c => cnd (dstsOk fn.ntmps c) (evalK tab G ann fuel c (rty.val × Ty.unit.val) (startOf aty .unit false x ()) (finOpen fn.results.toList rty) (finOpen fn.results.toList rty) (fun _ _ => none)) none
end Go.Den
