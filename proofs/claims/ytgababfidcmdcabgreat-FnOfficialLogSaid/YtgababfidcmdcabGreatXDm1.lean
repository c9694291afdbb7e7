/- A typed reading of the machine's code: values without memory, and what a piece of code makes of them. -/
import Derived.WalkKit
set_option linter.unusedVariables false
set_option linter.unusedSimpArgs false
namespace Go.Den
inductive Ty where
 | int (k:IntKind)|bool|str|unit
 | prod (a b:Ty)
 | slice (t:Ty)
 deriving Inhabited
def kbeq:IntKind→IntKind→Bool
 | .i8,.i8=>true | .i16,.i16=>true | .i32,.i32=>true | .i64,.i64=>true
 | .u8,.u8=>true | .u16,.u16=>true | .u32,.u32=>true | .u64,.u64=>true
 | _,_=>false
theorem k_of_beq : ∀ {a b:IntKind},kbeq a b=true→a=b:=by intro a b h;cases a<;>cases b<;>first|rfl|cases h
def cnd {α:Type _} : Bool→α→α→α
 | true,x,_=>x
 | false,_,y=>y
@[simp] theorem cnd_true {α:Type _} (x y:α):cnd true x y=x:=rfl
@[simp] theorem cnd_false {α:Type _} (x y:α):cnd false x y=y:=rfl
def Ty.beq:Ty→Ty→Bool
 | .int k,.int k'=>kbeq k k'
 | .bool,.bool=>true
 | .str,.str=>true
 | .unit,.unit=>true
 | .prod a b,.prod c d=>cnd (Ty.beq a c) (Ty.beq b d) false
 | .slice t,.slice u=>Ty.beq t u
 | _,_=>false
theorem Ty.of_beq : ∀ {a b:Ty},Ty.beq a b=true→a=b:=by
 intro a
 induction a with
 | int k=>intro b h;cases b<;>simp [Ty.beq] at h;rw [k_of_beq h]
 | bool=>intro b h;cases b<;>simp [Ty.beq] at h;rfl
 | str=>intro b h;cases b<;>simp [Ty.beq] at h;rfl
 | unit=>intro b h;cases b<;>simp [Ty.beq] at h;rfl
 | prod x y ihx ihy=>
   intro b h
   cases b<;>simp [Ty.beq] at h
   rename_i c d
   cases hx:Ty.beq x c with
   | false=>simp [hx] at h
   | true=>simp [hx] at h;rw [ihx hx,ihy h]
 | slice t ih=>intro b h;cases b<;>simp [Ty.beq] at h;rw [ih h]
def Ty.val:Ty→Type
 | .int _=>Int
 | .bool=>Bool
 | .str=>List UInt8
 | .unit=>Unit
 | .prod a b=>a.val×b.val
 | .slice t=>List t.val
def Ty.zero:(t:Ty)→t.val
 | .int _=>(0:Int)
 | .bool=>false
 | .str=>([]:List UInt8)
 | .unit=>()
 | .prod a b=>(a.zero,b.zero)
 | .slice t=>([]:List t.val)
def Ty.size:Ty→Nat
 | .unit=>0
 | .prod a b=>a.size+b.size
 | _=>1
def Ty.cast (a b:Ty) (x:a.val):Option b.val:=
 match h:Ty.beq a b with
 | true=>some ((Ty.of_beq h)▸x)
 | false=>none
theorem Ty.beq_refl : ∀a:Ty,Ty.beq a a=true
 | .int k=>by cases k<;>rfl
 | .bool=>rfl
 | .str=>rfl
 | .unit=>rfl
 | .prod a b=>by simp [Ty.beq,Ty.beq_refl a,Ty.beq_refl b]
 | .slice t=>by simp [Ty.beq,Ty.beq_refl t]
abbrev Dat:=(t:Ty)×t.val
def getF:(t:Ty)→t.val→Nat→Option Dat
 | .prod a _,x,0=>some ⟨a,x.1⟩
 | .prod _ b,x,i+1=>getF b x.2 i
 | _,_,_=>none
def setF:(t:Ty)→t.val→Nat→Dat→Option t.val
 | .prod a _,x,0,y=>(Ty.cast y.1 a y.2).map fun z=>(z,x.2)
 | .prod _ b,x,i+1,y=>(setF b x.2 i y).map fun z=>(x.1,z)
 | _,_,_,_=>none
def getP (t:Ty) (x:t.val):List Nat→Option Dat
 | []=>some ⟨t,x⟩
 | i::p=>match getF t x i with
   | some d=>getP d.1 d.2 p
   | none=>none
def setP (t:Ty) (x:t.val):List Nat→Dat→Option t.val
 | [],y=>Ty.cast y.1 t y.2
 | i::p,y=>match getF t x i with
   | some d=>match setP d.1 d.2 p y with
     | some z=>setF t x i ⟨d.1,z⟩
     | none=>none
   | none=>none
def noSl:Ty→Bool
 | .slice _=>false
 | .prod a b=>cnd (noSl a) (noSl b) false
 | _=>true
def flatT:Ty→Bool
 | .slice e=>noSl e
 | .prod a b=>cnd (flatT a) (match b with
   | .prod _ _=>flatT b
   | .unit=>true
   | _=>false) false
 | _=>true
def nestT:Ty→Bool
 | .slice e=>cnd (noSl e) true (flatT e)
 | .prod a b=>cnd (nestT a) (match b with
   | .prod _ _=>nestT b
   | .unit=>true
   | _=>false) false
 | _=>true
def bump:List Nat→List Nat
 | i::p=>Nat.succ i::p
 | []=>[]
def slicePaths:Ty→List (List Nat)
 | .slice e=>cnd (noSl e) [[]] (cnd (flatT e) [[],[0]] [[]])
 | .prod a b=>(slicePaths a).map (0 :: ·)++(match b with
   | .prod _ _=>(slicePaths b).map bump
   | _=>[])
 | _=>[]
inductive Loc where
 | tmp (t:Tmp) (p:List Nat)
 | box (b:Tmp) (p:List Nat)
def pbeq:List Nat→List Nat→Bool
 | [],[]=>true
 | i::p,j::q=>cnd (Nat.beq i j) (pbeq p q) false
 | _,_=>false
def pcomp:List Nat→List Nat→Bool
 | [],_=>true
 | _,[]=>true
 | i::p,j::q=>cnd (Nat.beq i j) (pcomp p q) false
def Loc.beq:Loc→Loc→Bool
 | .tmp t p,.tmp u q=>cnd (Nat.beq t u) (pbeq p q) false
 | .box t p,.box u q=>cnd (Nat.beq t u) (pbeq p q) false
 | _,_=>false
inductive AV where
 | any|skp|nil
 | dat (t:Ty) (x:t.val)
 | cel (b:Tmp) (path:List Nat)
 | ref (t:Ty) (x:t.val)
 | tup (t:Ty) (x:t.val)
 | rdr (path:List Nat)
  /-- the value at a place of a tree of one's own -/
 | xf (r:Tmp) (p:List Nat)
  /-- a pointer into an element of a slice of a tree of one's own -/
 | xp (r:Tmp) (p:List Nat) (n:Int) (q:List Nat)
  /-- the tuple that a tree of one's own is -/
 | xt (r:Tmp)
  /-- a pointer to a box that holds a tree's value -/
 | cx (b:Tmp) (p:List Nat)
  /-- a function -/
 | fn (f:FuncId)
  /-- the slice at a place of an element of the given tree -/
 | xe (n:Int) (q:List Nat)
  /-- a struct of which some parts are parts of trees -/
 | mx (t:Ty) (x:t.val) (ps:List (List Nat×Tmp×List Nat))
structure Ent where
 av:AV
 tag:Option (Bool×Loc)
structure St where
 env:Tmp→Ent
 box:Tmp→Option Dat
 own:Loc→Bool
 rd:Option Dat
  /-- booleans that are known while the code is read (of no weight to what is said of the machine) -/
 kn:Tmp→Bool
  /-- trees of one's own: nobody else sees their arrays -/
 io:Tmp→Option Dat
  /-- boxes that hold the value at a place of such a tree (or nothing yet) -/
 xb:Tmp→Option (Ty×Option (Tmp×List Nat))
  /-- where such trees are to be made (of no weight) -/
 mkt:Tmp→Bool
  /-- records: boxes that hold a struct of which some parts are parts of trees -/
 rb:Tmp→Option (Dat×List (List Nat×Tmp×List Nat)):=fun _=>none
def AV.as (t:Ty):AV→Option t.val
 | .dat u x=>Ty.cast u t x
 | .nil=>match t with
   | .slice _=>some []
   | _=>none
 | _=>none
def constAV:Value→AV
 | .bool b=>.dat .bool b
 | .int k n=>.dat (.int k) n
 | .string s=>.dat .str s.data.toList
 | .slice none 0 0=>.nil
 | _=>.any
def St.ent (st:St):Operand→Ent
 | .tmp t=>st.env t
 | .const v=>⟨constAV v,none⟩
 | .func f=>⟨.fn f,none⟩
 | _=>⟨.any,none⟩
def inLocs (l:Loc):List Loc→Bool
 | []=>false
 | m::ms=>cnd (Loc.beq l m) true (inLocs l ms)
def inPaths (p:List Nat):List (List Nat)→Bool
 | []=>false
 | q::qs=>cnd (pbeq p q) true (inPaths p qs)
structure Upd where
 dst:Option Tmp
 ent:Ent
 own:List (List Nat)
 takes:List Loc
 bw:Option (Tmp×Dat×List (List Nat)×List Nat)
 rd:Option Dat
 xw:Option (Tmp×Dat)
 xbw:Option (Tmp×Ty×Option (Tmp×List Nat))
  /-- a tree that is given away -/
 xk:Option Tmp:=none
  /-- a record that is written -/
 rw:Option (Tmp×Dat×List (List Nat×Tmp×List Nat)):=none
def isT (t:Tmp):Option Tmp→Bool
 | some d=>Nat.beq t d
 | none=>false
def keepTag (u:Upd):Option (Bool×Loc)→Option (Bool×Loc)
 | none=>none
 | some (k,.tmp t p)=>some (cnd (isT t u.dst) false k,.tmp t p)
 | some (k,.box b p)=>some (match u.bw with
   | some (c,_,_,_)=>cnd (Nat.beq b c) false k
   | none=>k,.box b p)
def apply (st:St) (u:Upd):St where
 env:=fun t=>cnd (isT t u.dst) u.ent ⟨(st.env t).av,keepTag u (st.env t).tag⟩
 box:=fun b=>match u.bw with
  | some (c,d,_,_)=>cnd (Nat.beq b c) (some d) (st.box b)
  | none=>st.box b
 own:=fun l=>match l with
  | .tmp t p=>cnd (isT t u.dst) (inPaths p u.own) (cnd (inLocs l u.takes) false (st.own l))
  | .box b p=>match u.bw with
    | some (c,_,o,q)=>cnd (Nat.beq b c)
        (cnd (inPaths p o) true (cnd (pcomp p q) false (cnd (inLocs l u.takes) false (st.own l))))
        (cnd (inLocs l u.takes) false (st.own l))
    | none=>cnd (inLocs l u.takes) false (st.own l)
 rd:=match u.rd with
  | some d=>some d
  | none=>st.rd
 kn:=st.kn
 io:=fun r=>match u.xw,u.xk with
  | some (c,d),none=>cnd (Nat.beq r c) (some d) (st.io r)
  | none,none=>st.io r
  | some (c,d),some k=>cnd (Nat.beq r c) (some d) (cnd (Nat.beq r k) (some ⟨.unit,()⟩) (st.io r))
  | none,some k=>cnd (Nat.beq r k) (some ⟨.unit,()⟩) (st.io r)
 xb:=fun b=>match u.xbw with
  | some (c,x)=>cnd (Nat.beq b c) (some x) (st.xb b)
  | none=>st.xb b
 mkt:=st.mkt
 rb:=match u.rw with
  | some (c,x)=>fun b=>cnd (Nat.beq b c) (some x) (st.rb b)
  | none=>st.rb
abbrev chkB:Option Bool→Bool
 | none=>true
 | some c=>c
inductive Comp where
 | ret (chk:Option Bool) (u:Upd)
 | call (rt rdt:Ty) (F:Option (rt.val×rdt.val)) (u:rt.val×rdt.val→Upd)
structure Sig where
 aty:Ty
 rdty:Ty
 usesRd:Bool
 rty:Ty
 one:Bool
 own:List (List Nat)
  /-- the result is a pointer to a new box; 'rty' is then its content's type -/
 opens:Bool
  /-- the first argument's arrays are written: 'rd' is then that argument -/
 muts:Bool:=false
  /-- a function that is handed over behind the other arguments -/
 fv:Option FuncId:=none
 fn:aty.val→rdty.val→Option (rty.val×rdty.val)
abbrev Tab:=TypeId→Option Ty
abbrev Gam:=FuncId→Option Sig
def tyIs (a:Option Ty) (b:Ty):Bool:=match a with
 | some t=>Ty.beq t b
 | none=>false
def asArg (rv:Option AV):(t:Ty)→AV→Option t.val
 | .unit,.rdr []=>match rv with
   | some (.rdr [])=>some ()
   | _=>none
 | .unit,.cel b []=>match rv with
   | some (.cel c [])=>cnd (Nat.beq b c) (some ()) none
   | _=>none
 | .unit,_=>none
 | t,v=>AV.as t v
def packArgs (rv:Option AV):(t:Ty)→List AV→Option t.val
 | .unit,[]=>some ()
 | .prod a b,v::vs=>match asArg rv a v with
   | some x=>match packArgs rv b vs with
     | some y=>some (x,y)
     | none=>none
   | none=>none
 | _,_=>none
def resAV (rty:Ty) (one:Bool) (x:rty.val):AV:=
 match one,rty,x with
 | true,.prod a .unit,x=>.dat a x.1
 | _,_,_=>.tup rty x
def resOwn (one:Bool) (ps:List (List Nat)):List (List Nat):=
 match one with
 | true=>ps.map fun p=>p.drop 1
 | false=>ps
/-! ### plain words, so that data of a type are seen as numbers and lists -/
def cndS {α:Type} (c:Bool) (x y:α):α:=cond c x y
def obind {α β:Type} (x:Option α) (f:α→Option β):Option β:=Option.bind x f
def sumE {α β γ:Type} (e:α ⊕ β) (f:α→γ) (g:β→γ):γ:=match e with
 | .inl a=>f a
 | .inr b=>g b
def iter {σ ρ:Type} : Nat→(σ→Option (σ ⊕ ρ))→σ→Option ρ
 | 0,_,_=>none
 | n+1,f,s=>match f s with
   | some (.inl s')=>iter n f s'
   | some (.inr r)=>some r
   | none=>none
def le0 (n:Int):Bool:=decide (0≤n)
def leI (a b:Int):Bool:=decide (a≤b)
def ltI (a b:Int):Bool:=decide (a<b)
def lenL {α:Type} (xs:List α):Int:=(xs.length:Int)
def takeL {α:Type} (xs:List α) (n:Int):List α:=xs.take n.toNat
def dropL {α:Type} (xs:List α) (n:Int):List α:=xs.drop n.toNat
def atL {α:Type} (xs:List α) (n:Int) (d:α):α:=xs.getD n.toNat d
def appL {α:Type} (xs ys:List α):List α:=xs++ys
def repL {α:Type} (n:Int) (d:α):List α:=List.replicate n.toNat d
def u8i (b:UInt8):Int:=(b.toNat:Int)
def eqI (a b:Int):Bool:=decide (a=b)
def eqB (a b:Bool):Bool:=a == b
def eqS (a b:List UInt8):Bool:=decide (a=b)
def lessS (a b:List UInt8):Bool:=Op.bytesLess a b
def notB (b:Bool):Bool:=!b
def andB (a b:Bool):Bool:=a&&b
def orB (a b:Bool):Bool:=a||b
def wrapI (k:IntKind) (n:Int):Int:=k.wrap n
def addI (a b:Int):Int:=a+b
def subI (a b:Int):Int:=a-b
def mulI (a b:Int):Int:=a*b
def quoI (a b:Int):Int:=a.tdiv b
def remI (a b:Int):Int:=a.tmod b
def minI (a b:Int):Int:=if b<a then b else a
def maxI (a b:Int):Int:=if a<b then b else a
def xorI (k:IntKind) (a b:Int):Int:=k.wrap (BitVec.ofInt k.bits a ^^^ BitVec.ofInt k.bits b).toNat
def shrI (a b:Int):Int:=a.fdiv (2 ^ b.toNat)
def setL {α:Type} (xs:List α) (n:Int) (x:α):List α:=xs.set n.toNat x
def byteList (xs:List Int):List UInt8:=xs.map fun n=>UInt8.ofNat n.toNat
def intList (s:List UInt8):List Int:=s.map fun b=>(b.toNat:Int)
def big:Int:=4294967296
/-! ### one operation -/
def upd0 (dst:Option Tmp) (av:AV) (tag:Option (Bool×Loc)):Upd:={dst,ent:=⟨av,tag⟩,own:=[],takes:=[],bw:=none,rd:=none,xw:=none,xbw:=none}
def St.ownOp (st:St):Operand→List Nat→Bool
 | .tmp t,p=>st.own (.tmp t p)
 | .const _,_=>true
 | _,_=>false
def St.owned (st:St) (x:Operand):List (List Nat)→List (List Nat)
 | []=>[]
 | p::ps=>cnd (st.ownOp x p) (p::st.owned x ps) (st.owned x ps)
def takesOf:Operand→List (List Nat)→List Loc
 | .tmp t,ps=>ps.map (.tmp t ·)
 | _,_=>[]
def coerce (t:Option Ty):AV→AV
 | .nil=>match t with
   | some (.slice e)=>.dat (.slice e) []
   | _=>.any
 | v=>v
def isSlT:Ty→Bool
 | .slice _=>true
 | _=>false
def isSlV:AV→Bool
 | .dat t _=>isSlT t
 | _=>false
def stMove (tab:Tab) (o:Oper) (x:Operand) (st:St):Comp:=
 let e:=st.ent x
 match x with
 | .tmp t=>.ret none (upd0 o.dst e.av (cnd (isSlV e.av) (cnd (st.own (.tmp t [])) (some (true,.tmp t [])) e.tag) e.tag))
 | _=>match coerce (tab o.type) e.av with
   | .dat t x=>.ret none {upd0 o.dst (.dat t x) none with own:=slicePaths t}
   | v=>.ret none (upd0 o.dst v none)
def stAssign (tab:Tab) (o:Oper) (x:Operand) (st:St):Comp:=
 match coerce (tab o.type) (st.ent x).av with
 | .dat t v=>let ps:=st.owned x (slicePaths t)
   .ret none {upd0 o.dst (.dat t v) none with own:=ps,takes:=takesOf x ps}
 | v=>.ret none (upd0 o.dst v none)
def stPick (o:Oper) (c x y:Operand) (st:St):Option Comp:=
 match (st.ent c).av with
 | .dat .bool b=>match (st.ent x).av,(st.ent y).av with
   | .dat t v,.dat u w=>match Ty.cast u t w with
     | some w'=>some (.ret none (upd0 o.dst (.dat t (cndS b v w')) none))
     | none=>none
   | v,w=>some (.ret none (upd0 o.dst (cnd b v w) none))
 | _=>none
def stAlloc (tab:Tab) (o:Oper) (elem:TypeId) (st:St):Option Comp:=
 match tab elem,o.dst with
 | some ty,some d=>match st.box d with
   | none=>some (.ret none {upd0 (some d) (.cel d []) none with bw:=some (d,⟨ty,ty.zero⟩,slicePaths ty,[])})
   | some _=>none
 | _,_=>none
def stBox (tab:Tab) (o:Oper) (elem:TypeId) (x:Operand) (st:St):Option Comp:=
 match tab elem,o.dst with
 | some ty,some d=>match st.box d,AV.as ty (st.ent x).av with
   | none,some v=>let ps:=st.owned x (slicePaths ty)
     some (.ret none {upd0 (some d) (.cel d []) none with takes:=takesOf x ps,bw:=some (d,⟨ty,v⟩,ps,[])})
   | _,_=>none
 | _,_=>none
def mkD (st:St):Option Tmp→Bool
 | some d=>st.mkt d
 | none=>false
def St.ownedB (st:St) (b:Tmp) (p:List Nat):List (List Nat)→List (List Nat)
 | []=>[]
 | q::qs=>cnd (st.own (.box b (p++q))) (q::st.ownedB b p qs) (st.ownedB b p qs)
def starOf (st:St) (o:Oper) (x:Operand) (u:Ty):Option Loc:=
 cnd (mkD st o.dst) (cnd (flatT u) (match (st.ent x).tag with
  | some (true,l)=>cnd (st.own l) (some l) none
  | _=>none) none) none
def stLoad (tab:Tab) (o:Oper) (t:TypeId) (x:Operand) (st:St):Option Comp:=
 match (st.ent x).av with
 | .cel b p=>match st.box b with
   | some d=>match getP d.1 d.2 p with
     | some y=>cnd (tyIs (tab t) y.1) (cnd (mkD st o.dst)
         (some (.ret none {upd0 o.dst (.dat y.1 y.2) none with own:=st.ownedB b p (slicePaths y.1),takes:=(st.ownedB b p (slicePaths y.1)).map fun q=>.box b (p++q)}))
         (some (.ret none (upd0 o.dst (.dat y.1 y.2) (cnd (isSlT y.1) (cnd (st.own (.box b p)) (some (true,.box b p)) none) none))))) none
     | none=>none
   | none=>none
 | .ref u y=>cnd (tyIs (tab t) u) (match starOf st o x u with
   | some l=>some (.ret none {upd0 o.dst (.dat u y) none with own:=slicePaths u,takes:=[l]})
   | none=>some (.ret none (upd0 o.dst (.dat u y) none))) none
 | .rdr p=>match st.rd with
   | some d=>match getP d.1 d.2 p with
     | some y=>cnd (tyIs (tab t) y.1) (some (.ret none (upd0 o.dst (.dat y.1 y.2) none))) none
     | none=>none
   | none=>none
 | _=>none
def farSl:List (List Nat)→List Nat→Bool
 | [],_=>true
 | q::qs,p=>cnd (pcomp q p) false (farSl qs p)
def stStore (tab:Tab) (o:Oper) (t:TypeId) (x v:Operand) (st:St):Option Comp:=
 match (st.ent x).av with
 | .cel b p=>match st.box b with
   | some d=>match getP d.1 d.2 p with
     | some y=>match tyIs (tab t) y.1,AV.as y.1 (st.ent v).av with
       | true,some z=>match setP d.1 d.2 p ⟨y.1,z⟩ with
         | some d'=>let ps:=st.owned v (slicePaths y.1)
           some (.ret none {upd0 o.dst .skp none with takes:=takesOf v ps,bw:=some (b,⟨d.1,d'⟩,ps.map (p ++ ·),p)})
         | none=>none
       | _,_=>none
     | none=>none
   | none=>none
 | .rdr p=>match st.rd with
   | some d=>match getP d.1 d.2 p with
     | some y=>match cnd (cnd (flatT d.1) (farSl (slicePaths d.1) p) false) (tyIs (tab t) y.1) false,AV.as y.1 (st.ent v).av with
       | true,some z=>match setP d.1 d.2 p ⟨y.1,z⟩ with
         | some d'=>some (.ret none {upd0 o.dst .skp none with rd:=some ⟨d.1,d'⟩})
         | none=>none
       | _,_=>none
     | none=>none
   | none=>none
 | _=>none
def fillP (st:St) (t:Ty):t.val→List (Nat×Operand)→Option t.val
 | z,[]=>some z
 | z,(i,x)::ps=>match getF t z i with
   | some d=>match AV.as d.1 (st.ent x).av with
     | some v=>match setF t z i ⟨d.1,v⟩ with
       | some z'=>fillP st t z' ps
       | none=>none
     | none=>none
   | none=>none
def partOf (i:Nat):List (Nat×Operand)→Option Operand
 | []=>none
 | (j,x)::ps=>cnd (Nat.beq i j) (some x) (partOf i ps)
def St.builtOwn (st:St) (parts:List (Nat×Operand)):List (List Nat)→List (List Nat)
 | []=>[]
 | (i::p)::ps=>match partOf i parts with
   | some x=>cnd (st.ownOp x p) ((i::p)::st.builtOwn parts ps) (st.builtOwn parts ps)
   | none=>(i::p)::st.builtOwn parts ps
 | []::ps=>st.builtOwn parts ps
def builtTakes (parts:List (Nat×Operand)):List (List Nat)→List Loc
 | []=>[]
 | (i::p)::ps=>match partOf i parts with
   | some (.tmp t)=>.tmp t p::builtTakes parts ps
   | _=>builtTakes parts ps
 | []::ps=>builtTakes parts ps
def noDup:List (Nat×Operand)→Bool
 | []=>true
 | (i,_)::ps=>match partOf i ps with
   | some _=>false
   | none=>noDup ps
def hasT (t:Tmp):List (Nat×Operand)→Bool
 | []=>false
 | (_,.tmp u)::ps=>cnd (Nat.beq t u) true (hasT t ps)
 | _::ps=>hasT t ps
def noDupT:List (Nat×Operand)→Bool
 | []=>true
 | (_,.tmp t)::ps=>cnd (hasT t ps) false (noDupT ps)
 | _::ps=>noDupT ps
def isProd:Ty→Bool
 | .prod _ _=>true
 | .unit=>true
 | _=>false
def stBuild (tab:Tab) (o:Oper) (t:TypeId) (parts:List (Nat×Operand)) (st:St):Option Comp:=
 match tab t with
 | some ty=>match isProd ty,cnd (noDup parts) (noDupT parts) false,fillP st ty ty.zero parts with
   | true,true,some v=>let ps:=st.builtOwn parts (slicePaths ty)
     some (.ret none {upd0 o.dst (.dat ty v) none with own:=ps,takes:=builtTakes parts ps})
   | _,_,_=>none
 | none=>none
def fillS (st:St) (e:Ty):List e.val→List (Nat×Operand)→Option (List e.val)
 | z,[]=>some z
 | z,(i,x)::ps=>match AV.as e (st.ent x).av with
   | some v=>fillS st e (z.set i v) ps
   | none=>none
def partsBelow (n:Nat):List (Nat×Operand)→Bool
 | []=>true
 | (i,_)::ps=>cnd (Nat.blt i n) (partsBelow n ps) false
def starL:Loc→Loc
 | .tmp t p=>.tmp t (p++[0])
 | .box b p=>.box b (p++[0])
def allOwn (own:Loc→Bool) (f:List Nat→Loc):List (List Nat)→Bool
 | []=>true
 | p::ps=>cnd (own (f p)) (allOwn own f ps) false
def inT (t:Tmp):List Tmp→Bool
 | []=>false
 | s::l=>cnd (Nat.beq t s) true (inT t l)
def starPart (st:St) (e:Ty):List (Nat×Operand)→List Tmp→Option (List Loc)
 | [],_=>some []
 | (_,.tmp s)::ps,seen=>cnd (inT s seen) none (cnd (allOwn st.own (.tmp s ·) (slicePaths e)) (match starPart st e ps (s::seen) with
   | some l=>some ((slicePaths e).map (.tmp s ·)++l)
   | none=>none) none)
 | _,_=>none
def starParts (st:St) (e:Ty) (ps:List (Nat×Operand)):Option (List Loc):=cnd (noSl e) none (cnd (flatT e) (starPart st e ps []) none)
def stBuildSlice (tab:Tab) (o:Oper) (t:TypeId) (len:Nat) (parts:List (Nat×Operand)) (st:St):Option Comp:=
 match tab t with
 | some (.slice e)=>match Nat.ble (Nat.mul len e.size) 65536,partsBelow len parts,fillS st e (List.replicate len e.zero) parts with
   | true,true,some v=>match starParts st e parts with
     | some l=>some (.ret none {upd0 o.dst (.dat (.slice e) v) none with own:=[[],[0]],takes:=l})
     | none=>some (.ret none {upd0 o.dst (.dat (.slice e) v) none with own:=[[]]})
   | _,_,_=>none
 | _=>none
def stMakeSlice (tab:Tab) (o:Oper) (t:TypeId) (l c:Operand) (st:St):Option Comp:=
 match tab t,(st.ent l).av,(st.ent c).av with
 | some (.slice e),.dat (.int _) n,.dat (.int _) m=>
   some (.ret (some (andB (le0 n) (andB (leI n m) (ltI m big)))) {upd0 o.dst (.dat (.slice e) (repL n e.zero)) none with own:=[[]]})
 | _,_,_=>none
def Ty.dep:Ty→Nat
 | .prod a b=>cnd (Nat.ble (Nat.succ (Ty.dep a)) (Ty.dep b)) (Ty.dep b) (Nat.succ (Ty.dep a))
 | _=>1
def Ty.eqv:(t:Ty)→t.val→t.val→Option Bool
 | .int _,x,y=>some (eqI x y)
 | .bool,x,y=>some (eqB x y)
 | .str,x,y=>some (eqS x y)
 | .unit,_,_=>some true
 | .prod a b,x,y=>match Ty.eqv a x.1 y.1,Ty.eqv b x.2 y.2 with
   | some p,some q=>some (andB p q)
   | _,_=>none
 | .slice _,_,_=>none
def intOp (op:BinOp) (k:IntKind) (a b:Int):Option (Option Bool×AV):=
 match op with
 | .add=>some (none,.dat (.int k) (wrapI k (addI a b)))
 | .sub=>some (none,.dat (.int k) (wrapI k (subI a b)))
 | .mul=>some (none,.dat (.int k) (wrapI k (mulI a b)))
 | .quo=>some (some (notB (eqI b 0)),.dat (.int k) (wrapI k (quoI a b)))
 | .rem=>some (some (notB (eqI b 0)),.dat (.int k) (remI a b))
 | .xor=>some (none,.dat (.int k) (xorI k a b))
 | .shr=>some (some (andB (le0 b) (leI b 8)),.dat (.int k) (shrI a b))
 | .eql=>some (none,.dat .bool (eqI a b))
 | .neq=>some (none,.dat .bool (notB (eqI a b)))
 | .lss=>some (none,.dat .bool (ltI a b))
 | .leq=>some (none,.dat .bool (leI a b))
 | .gtr=>some (none,.dat .bool (ltI b a))
 | .geq=>some (none,.dat .bool (leI b a))
 | _=>none
def strOp (op:BinOp) (a b:List UInt8):Option (Option Bool×AV):=
 match op with
 | .add=>some (some (ltI (addI (lenL a) (lenL b)) big),.dat .str (appL a b))
 | .eql=>some (none,.dat .bool (eqS a b))
 | .neq=>some (none,.dat .bool (notB (eqS a b)))
 | .lss=>some (none,.dat .bool (lessS a b))
 | .leq=>some (none,.dat .bool (orB (lessS a b) (eqS a b)))
 | .gtr=>some (none,.dat .bool (notB (orB (lessS a b) (eqS a b))))
 | .geq=>some (none,.dat .bool (notB (lessS a b)))
 | _=>none
def binAV (tab:Tab) (op:BinOp) (xt:TypeId) (x y:AV):Option (Option Bool×AV):=
 match x,y with
 | .dat (.int k) a,.dat (.int k') b=>cnd (kbeq k k') (intOp op k a b) none
 | .dat .str a,.dat .str b=>strOp op a b
 | .dat t a,.dat u b=>match cnd (tyIs (tab xt) t) (Nat.ble (Ty.dep t) 1000) false,Ty.cast u t b with
   | true,some b'=>match Ty.eqv t a b',op with
     | some q,.eql=>some (none,.dat .bool q)
     | some q,.neq=>some (none,.dat .bool (notB q))
     | _,_=>none
   | _,_=>none
 | _,_=>none
def stBin (tab:Tab) (o:Oper) (op:BinOp) (xt:TypeId) (x y:Operand) (st:St):Option Comp:=
 match binAV tab op xt (st.ent x).av (st.ent y).av with
 | some (c,v)=>some (.ret c (upd0 o.dst v none))
 | none=>none
def stUn (o:Oper) (op:UnOp) (x:Operand) (st:St):Option Comp:=
 match op,(st.ent x).av with
 | .not,.dat .bool b=>some (.ret none (upd0 o.dst (.dat .bool (notB b)) none))
 | .neg,.dat (.int k) n=>some (.ret none (upd0 o.dst (.dat (.int k) (wrapI k (subI 0 n))) none))
 | _,_=>none
def stConv (tab:Tab) (o:Oper) (src dst:TypeId) (x:Operand) (st:St):Option Comp:=
 match tab src,tab dst,(st.ent x).av with
 | some (.int _),some (.int k),.dat (.int _) n=>some (.ret none (upd0 o.dst (.dat (.int k) (wrapI k n)) none))
 | some (.slice (.int .u8)),some .str,.dat (.slice (.int .u8)) xs=>some (.ret none (upd0 o.dst (.dat .str (byteList xs)) none))
 | some .str,some (.slice (.int .u8)),.dat .str s=>some (.ret (some (ltI (lenL (α:=UInt8) s) big)) {upd0 o.dst (.dat (.slice (.int .u8)) (intList s)) none with own:=[[]]})
 | some .str,some .str,.dat .str s=>some (.ret none (upd0 o.dst (.dat .str s) none))
 | _,_,_=>none
def cutL {α:Type} (xs:List α):Option AV→Option AV→Option (Bool×List α)
 | some (.dat (.int _) l),some (.dat (.int _) h)=>some (andB (le0 l) (andB (leI l h) (leI h (lenL xs))),dropL (takeL xs h) l)
 | some (.dat (.int _) l),none=>some (andB (le0 l) (leI l (lenL xs)),dropL xs l)
 | none,some (.dat (.int _) h)=>some (andB (le0 h) (leI h (lenL xs)),takeL xs h)
 | _,_=>none
def avOpt (st:St):Option Operand→Option AV
 | some x=>some (st.ent x).av
 | none=>none
def stSlice (tab:Tab) (o:Oper) (t:TypeId) (x:Operand) (lo hi max:Option Operand) (st:St):Option Comp:=
 match max,(st.ent x).av with
 | none,.dat (.slice e) xs=>match tyIs (tab t) (.slice e),cutL (α:=e.val) xs (avOpt st lo) (avOpt st hi) with
   | true,some (c,ys)=>some (.ret (some c) (upd0 o.dst (.dat (.slice e) ys) none))
   | _,_=>none
 | none,.dat .str xs=>match tyIs (tab t) .str,cutL (α:=UInt8) xs (avOpt st lo) (avOpt st hi) with
   | true,some (c,ys)=>some (.ret (some c) (upd0 o.dst (.dat .str ys) none))
   | _,_=>none
 | _,_=>none
def stFieldAddr (tab:Tab) (o:Oper) (s:TypeId) (x:Operand) (f:Nat) (st:St):Option Comp:=
 match (st.ent x).av with
 | .cel b p=>match st.box b with
   | some d=>match getP d.1 d.2 p with
     | some y=>match tyIs (tab s) y.1,getF y.1 y.2 f with
       | true,some _=>some (.ret none (upd0 o.dst (.cel b (p++[f])) none))
       | _,_=>none
     | none=>none
   | none=>none
 | .ref u y=>match tyIs (tab s) u,getF u y f with
   | true,some z=>some (.ret none (upd0 o.dst (.ref z.1 z.2) none))
   | _,_=>none
 | .rdr p=>match st.rd with
   | some d=>match getP d.1 d.2 p with
     | some y=>match tyIs (tab s) y.1,getF y.1 y.2 f with
       | true,some _=>some (.ret none (upd0 o.dst (.rdr (p++[f])) none))
       | _,_=>none
     | none=>none
   | none=>none
 | _=>none
def stField (tab:Tab) (o:Oper) (s:TypeId) (x:Operand) (f:Nat) (st:St):Option Comp:=
 match (st.ent x).av with
 | .dat u y=>match tyIs (tab s) u,getF u y f with
   | true,some z=>some (.ret none (upd0 o.dst (.dat z.1 z.2) none))
   | _,_=>none
 | _=>none
def starTag (st:St) (o:Oper) (x:Operand) (e:Ty):Option (Bool×Loc):=
 cnd (mkD st o.dst) (cnd (noSl e) none (cnd (st.ownOp x [0]) (match x with
  | .tmp t=>some (true,.tmp t [0])
  | _=>none) none)) none
def stIndexAddr (tab:Tab) (o:Oper) (t:TypeId) (x i:Operand) (st:St):Option Comp:=
 match (st.ent x).av,(st.ent i).av with
 | .dat (.slice e) xs,.dat (.int _) n=>cnd (tyIs (tab t) (.slice e))
   (some (.ret (some (andB (le0 n) (ltI n (lenL (α:=e.val) xs)))) (upd0 o.dst (.ref e (atL (α:=e.val) xs n e.zero)) (starTag st o x e)))) none
 | _,_=>none
def stIndex (tab:Tab) (o:Oper) (t:TypeId) (x i:Operand) (st:St):Option Comp:=
 match (st.ent x).av,(st.ent i).av with
 | .dat .str s,.dat (.int _) n=>cnd (tyIs (tab t) .str)
   (some (.ret (some (andB (le0 n) (ltI n (lenL (α:=UInt8) s)))) (upd0 o.dst (.dat (.int .u8) (u8i (atL (α:=UInt8) s n 0))) none))) none
 | _,_=>none
def stExtract (o:Oper) (x:Operand) (i:Nat) (st:St):Option Comp:=
 match (st.ent x).av with
 | .tup t v=>match getF t v i with
   | some d=>cnd (mkD st o.dst) (some (.ret none (upd0 o.dst (.dat d.1 d.2) none))) (let ps:=st.owned x ((slicePaths d.1).map (i :: ·))
     some (.ret none {upd0 o.dst (.dat d.1 d.2) none with own:=ps.map (·.drop 1),takes:=takesOf x ps}))
   | none=>none
 | _=>none
def stLen (tab:Tab) (o:Oper) (t:TypeId) (x:Operand) (st:St):Option Comp:=
 match (st.ent x).av with
 | .dat (.slice e) xs=>cnd (tyIs (tab t) (.slice e)) (some (.ret none (upd0 o.dst (.dat (.int .i64) (lenL (α:=e.val) xs)) none))) none
 | .dat .str s=>cnd (tyIs (tab t) .str) (some (.ret none (upd0 o.dst (.dat (.int .i64) (lenL (α:=UInt8) s)) none))) none
 | _=>none
def St.owner (st:St):Operand→Option (Option Loc)
 | .const _=>some none
 | .tmp t=>cnd (st.own (.tmp t [])) (some (some (.tmp t []))) (match (st.env t).tag with
     | some (true,l)=>cnd (st.own l) (some (some l)) none
     | _=>none)
 | _=>none
def stAssignM (o:Oper) (x:Operand) (st:St) (c:Comp):Comp:=
 match (st.ent x).av,st.owner x with
 | .dat (.slice e) v,some (some l)=>cnd (st.own (starL l)) (.ret none {upd0 o.dst (.dat (.slice e) v) none with own:=[[],[0]],takes:=[l,starL l]}) (.ret none {upd0 o.dst (.dat (.slice e) v) none with own:=[[]],takes:=[l]})
 | .tup t v,_=>.ret none {upd0 o.dst (.tup t v) none with own:=st.owned x (slicePaths t),takes:=takesOf x (st.owned x (slicePaths t))}
 | _,_=>c
def starApp (st:St) (e:Ty) (ol:Option Loc) (y:Operand):Option (List Loc):=
 cnd (noSl e) none (cnd (flatT e) (match y with
  | .tmp t=>cnd (st.own (.tmp t [0])) (match ol with
    | some l=>cnd (Loc.beq (starL l) (.tmp t [0])) none (cnd (st.own (starL l)) (some [l,starL l,.tmp t [0]]) none)
    | none=>some [.tmp t [0]]) none
  | _=>none) none)
def stAppend (tab:Tab) (o:Oper) (t:TypeId) (x y:Operand) (st:St):Option Comp:=
 match tab t with
 | some (.slice e)=>match AV.as (.slice e) (st.ent x).av,AV.as (.slice e) (st.ent y).av,st.owner x with
   | some xs,some ys,some l=>match starApp st e l y with
     | some tk=>some (.ret (some (ltI (addI (lenL (α:=e.val) xs) (lenL (α:=e.val) ys)) big))
       {upd0 o.dst (.dat (.slice e) (appL (α:=e.val) xs ys)) none with own:=[[],[0]],takes:=tk})
     | none=>some (.ret (some (ltI (addI (lenL (α:=e.val) xs) (lenL (α:=e.val) ys)) big))
       {upd0 o.dst (.dat (.slice e) (appL (α:=e.val) xs ys)) none with own:=[[]],takes:=l.toList})
   | _,_,_=>none
 | _=>none
def stMinMax (mx:Bool) (o:Oper) (x y:Operand) (st:St):Option Comp:=
 match (st.ent x).av,(st.ent y).av with
 | .dat (.int k) a,.dat (.int k') b=>match kbeq k k' with
   | true=>some (.ret none (upd0 o.dst (.dat (.int k) (cnd mx (maxI a b) (minI a b))) none))
   | false=>none
 | _,_=>none
def rdrOf:List AV→Option AV
 | []=>none
 | .rdr p::_=>some (.rdr p)
 | .cel b p::_=>some (.cel b p)
 | _::vs=>rdrOf vs
def isF:Option FuncId→Bool
 | some _=>true
 | none=>false
def stCall (G:Gam) (o:Oper) (f:FuncId) (args:List Operand) (st:St):Option Comp:=
 match G f with
 | some s=>cnd (cnd s.muts true (isF s.fv)) none (match s.usesRd,s.opens with
   | true,false=>match rdrOf (args.map fun x=>(st.ent x).av) with
     | some (.rdr [])=>match packArgs (some (.rdr [])) s.aty (args.map fun x=>(st.ent x).av),st.rd with
       | some x,some d=>match Ty.cast d.1 s.rdty d.2 with
         | some rd=>some (.call s.rty s.rdty (s.fn x rd) fun r=>{upd0 o.dst (resAV s.rty s.one r.1) none with own:=resOwn s.one s.own,rd:=some ⟨s.rdty,r.2⟩})
         | none=>none
       | _,_=>none
     | some (.cel b [])=>match packArgs (some (.cel b [])) s.aty (args.map fun x=>(st.ent x).av),st.box b with
       | some x,some d=>match Ty.cast d.1 s.rdty d.2 with
         | some rd=>some (.call s.rty s.rdty (s.fn x rd) fun r=>{upd0 o.dst (resAV s.rty s.one r.1) none with own:=resOwn s.one s.own,bw:=some (b,⟨s.rdty,r.2⟩,[],[])})
         | none=>none
       | _,_=>none
     | _=>none
   | false,false=>match packArgs none s.aty (args.map fun x=>(st.ent x).av),Ty.cast .unit s.rdty () with
     | some x,some rd=>some (.call s.rty s.rdty (s.fn x rd) fun r=>{upd0 o.dst (resAV s.rty s.one r.1) none with own:=resOwn s.one s.own})
     | _,_=>none
   | false,true=>match packArgs none s.aty (args.map fun x=>(st.ent x).av),Ty.cast .unit s.rdty (),o.dst with
     | some x,some rd,some d=>match st.box d with
       | none=>some (.call s.rty s.rdty (s.fn x rd) fun r=>{upd0 (some d) (.cel d []) none with bw:=some (d,⟨s.rty,r.1⟩,[],[])})
       | some _=>none
     | _,_,_=>none
   | true,true=>none)
 | none=>none
def stCallF (G:Gam) (o:Oper) (f:FuncId) (args:List Operand) (st:St):Option Comp:=none
def hasF (G:Gam) (f:FuncId):Bool:=match G f with
 | some s=>isF s.fv
 | none=>false
/-! ### trees of one's own -/
def isU:Ty→Bool
 | .unit=>true
 | _=>false
def St.atX (st:St) (r:Tmp) (p:List Nat):Option Dat:=match st.io r with
 | some d=>cnd (isU d.1) none (getP d.1 d.2 p)
 | none=>none
def freeD (st:St):Option Tmp→Option Tmp
 | some d=>match st.io d,st.box d,st.xb d,Nat.beq d 0 with
   | none,none,none,false=>some d
   | _,_,_,_=>none
 | none=>none
def argX (st:St):AV→AV
 | .xf r p=>match st.atX r p with
   | some y=>.dat y.1 y.2
   | none=>.any
 | v=>v
def isX:AV→Bool
 | .xf _ _=>true
 | _=>false
def anyX (st:St):List Operand→Bool
 | []=>false
 | x::xs=>cnd (isX (st.ent x).av) true (anyX st xs)
def stMakeX (tab:Tab) (o:Oper) (t:TypeId) (l c:Operand) (st:St):Option Comp:=none
def stAllocX (tab:Tab) (o:Oper) (elem:TypeId) (st:St):Option Comp:=
 match tab elem,freeD st o.dst with
 | some ty,some d=>some (.ret none {upd0 (some d) (.cx d []) none with xbw:=some (d,ty,none)})
 | _,_=>none
def stBoxX (tab:Tab) (o:Oper) (elem:TypeId) (r:Tmp) (p:List Nat) (st:St):Option Comp:=
 match tab elem,freeD st o.dst,st.atX r p with
 | some ty,some d,some y=>match Ty.beq y.1 ty with
   | true=>some (.ret none {upd0 (some d) (.cx d []) none with xbw:=some (d,ty,some (r,p))})
   | false=>none
 | _,_,_=>none
def partAtX (p:List Nat):List (List Nat×Tmp×List Nat)→Option (Tmp×List Nat)
 | []=>none
 | (p',r,q)::ps=>cnd (pbeq p p') (some (r,q)) (partAtX p ps)
def farPs (p:List Nat):List (List Nat×Tmp×List Nat)→Bool
 | []=>true
 | (p',_,_)::ps=>cnd (pcomp p p') false (farPs p ps)
def stLoadR (tab:Tab) (o:Oper) (t:TypeId) (b:Tmp) (p:List Nat) (st:St):Option Comp:=
 match st.rb b with
 | some (d,ps)=>match partAtX p ps with
   | some (r,q)=>match st.atX r q with
     | some y=>cnd (tyIs (tab t) y.1) (some (.ret none (upd0 o.dst (.xf r q) none))) none
     | none=>none
   | none=>cnd (farPs p ps) (match getP d.1 d.2 p with
     | some y=>cnd (tyIs (tab t) y.1) (cnd (noSl y.1) (some (.ret none (upd0 o.dst (.dat y.1 y.2) none))) (cnd (isSlT y.1) (some (.ret none (upd0 o.dst .nil none))) none)) none
     | none=>none) none
 | none=>none
def stLoadX (tab:Tab) (o:Oper) (t:TypeId) (b:Tmp) (p:List Nat) (st:St):Option Comp:=
 match st.xb b with
 | some (ty,some (r,q))=>match st.atX r q with
   | some z=>match Ty.beq z.1 ty,getP z.1 z.2 p with
     | true,some y=>cnd (tyIs (tab t) y.1) (cnd (noSl y.1) (some (.ret none (upd0 o.dst (.dat y.1 y.2) none))) (some (.ret none (upd0 o.dst (.xf r (q++p)) none)))) none
     | _,_=>none
   | none=>none
 | some (_,none)=>stLoadR tab o t b p st
 | _=>none
def stLoadP (tab:Tab) (o:Oper) (t:TypeId) (r:Tmp) (p:List Nat) (n:Int) (q:List Nat) (st:St):Option Comp:=
 match Nat.beq r 0,p,st.io r with
 | true,[],some ⟨.slice e,xs⟩=>match getP e (atL (α:=e.val) xs n e.zero) q with
   | some y=>match tyIs (tab t) y.1,isSlT y.1 with
     | true,true=>some (.ret (some (andB (le0 n) (ltI n (lenL (α:=e.val) xs)))) (upd0 o.dst (.xe n q) none))
     | _,_=>none
   | none=>none
 | _,_,_=>none
def stStoreX (tab:Tab) (o:Oper) (t:TypeId) (r:Tmp) (p:List Nat) (n:Int) (q:List Nat) (v:Operand) (st:St):Option Comp:=
 match st.io r,st.atX r p with
 | some d,some ⟨.slice e,xs⟩=>match getP e (atL (α:=e.val) xs n e.zero) q with
   | some y=>match tyIs (tab t) y.1,noSl y.1,AV.as y.1 (st.ent v).av with
     | true,true,some z=>match setP e (atL (α:=e.val) xs n e.zero) q ⟨y.1,z⟩ with
       | some x'=>match setP d.1 d.2 p ⟨.slice e,setL (α:=e.val) xs n x'⟩ with
         | some d'=>some (.ret (some (andB (le0 n) (ltI n (lenL (α:=e.val) xs)))) {upd0 o.dst .skp none with xw:=some (r,⟨d.1,d'⟩)})
         | none=>none
       | none=>none
     | _,_,_=>none
   | none=>none
 | _,_=>none
def stGraftX (tab:Tab) (o:Oper) (t:TypeId) (r:Tmp) (p:List Nat) (n:Int) (q:List Nat) (r2:Tmp) (st:St):Option Comp:=
 match st.io r,st.atX r p,st.atX r2 [] with
 | some d,some ⟨.slice e,xs⟩,some z=>match getP e (atL (α:=e.val) xs n e.zero) q with
   | some y=>match tyIs (tab t) y.1,cnd (Nat.beq r 0) true (cnd (Nat.beq r2 0) true (Nat.beq r r2)),Ty.cast z.1 y.1 z.2 with
     | true,false,some z'=>match setP e (atL (α:=e.val) xs n e.zero) q ⟨y.1,z'⟩ with
       | some x'=>match setP d.1 d.2 p ⟨.slice e,setL (α:=e.val) xs n x'⟩ with
         | some d'=>some (.ret (some (andB (le0 n) (ltI n (lenL (α:=e.val) xs)))) {upd0 o.dst .skp none with xw:=some (r,⟨d.1,d'⟩),xk:=some r2})
         | none=>none
       | none=>none
     | _,_,_=>none
   | none=>none
 | _,_,_=>none
def stPutX (tab:Tab) (o:Oper) (t:TypeId) (b:Tmp) (r:Tmp) (q:List Nat) (st:St):Option Comp:=
 match st.xb b,st.atX r q,st.rb b with
 | some (ty,none),some y,none=>match tyIs (tab t) ty,Ty.beq y.1 ty with
   | true,true=>some (.ret none {upd0 o.dst .skp none with xbw:=some (b,ty,some (r,q))})
   | _,_=>none
 | _,_,_=>none
def stPutR (tab:Tab) (o:Oper) (t:TypeId) (b:Tmp) (d:Dat) (ps:List (List Nat×Tmp×List Nat)) (st:St):Option Comp:=none
def stFieldAddrX (tab:Tab) (o:Oper) (s:TypeId) (r:Tmp) (p:List Nat) (n:Int) (q:List Nat) (f:Nat) (st:St):Option Comp:=
 match st.atX r p with
 | some ⟨.slice e,xs⟩=>match getP e (atL (α:=e.val) xs n e.zero) q with
   | some y=>match tyIs (tab s) y.1,getF y.1 y.2 f with
     | true,some _=>some (.ret none (upd0 o.dst (.xp r p n (q++[f])) none))
     | _,_=>none
   | none=>none
 | _=>none
def stPartR (tab:Tab) (o:Oper) (t:TypeId) (b:Tmp) (p:List Nat) (r:Tmp) (q:List Nat) (st:St):Option Comp:=none
def isStr:Ty→Bool
 | .unit=>true
 | .prod _ b=>isStr b
 | _=>false
def fillX (st:St) (t:Ty):t.val→List (Nat×Operand)→Option Tmp→Option (t.val×Option Tmp)
 | z,[],k=>some (z,k)
 | z,(i,x)::ps,k=>match getF t z i with
   | some d=>match (st.ent x).av with
     | .xf r []=>match k,st.atX r [],Nat.beq r 0 with
       | none,some y,false=>match Ty.cast y.1 d.1 y.2 with
         | some v=>match setF t z i ⟨d.1,v⟩ with
           | some z'=>fillX st t z' ps (some r)
           | none=>none
         | none=>none
       | _,_,_=>none
     | .xf _ (_::_)=>none
     | v=>match noSl d.1,AV.as d.1 v with
       | true,some u=>match setF t z i ⟨d.1,u⟩ with
         | some z'=>fillX st t z' ps k
         | none=>none
       | _,_=>none
   | none=>none
def stBuildX (tab:Tab) (o:Oper) (t:TypeId) (parts:List (Nat×Operand)) (st:St):Option Comp:=none
def fillR (st:St) (t:Ty):t.val→List (Nat×Operand)→List (List Nat×Tmp×List Nat)→Option (t.val×List (List Nat×Tmp×List Nat))
 | z,[],qs=>some (z,qs)
 | z,(i,x)::ps,qs=>match getF t z i with
   | some d=>match (st.ent x).av with
     | .xf r q=>match st.atX r q with
       | some y=>cnd (Ty.beq y.1 d.1) (fillR st t z ps (([i],r,q)::qs)) none
       | none=>none
     | v=>match noSl d.1,AV.as d.1 v with
       | true,some u=>match setF t z i ⟨d.1,u⟩ with
         | some z'=>fillR st t z' ps qs
         | none=>none
       | _,_=>none
   | none=>none
def stBuildR (tab:Tab) (o:Oper) (t:TypeId) (parts:List (Nat×Operand)) (st:St):Option Comp:=none
def stFieldAddrR (tab:Tab) (o:Oper) (s:TypeId) (b:Tmp) (p:List Nat) (f:Nat) (st:St):Option Comp:=
 match st.rb b with
 | some (d,_)=>match getP d.1 d.2 p with
   | some y=>match tyIs (tab s) y.1,getF y.1 y.2 f with
     | true,some _=>some (.ret none (upd0 o.dst (.cx b (p++[f])) none))
     | _,_=>none
   | none=>none
 | none=>none
def stFieldAddrC (tab:Tab) (o:Oper) (s:TypeId) (b:Tmp) (p:List Nat) (f:Nat) (st:St):Option Comp:=
 match st.xb b with
 | some (ty,some (r,q))=>match st.atX r q with
   | some z=>match Ty.beq z.1 ty,getP z.1 z.2 p with
     | true,some y=>match tyIs (tab s) y.1,getF y.1 y.2 f with
       | true,some _=>some (.ret none (upd0 o.dst (.cx b (p++[f])) none))
       | _,_=>none
     | _,_=>none
   | none=>none
 | some (_,none)=>stFieldAddrR tab o s b p f st
 | _=>none
def stIndexAddrX (tab:Tab) (o:Oper) (t:TypeId) (r:Tmp) (p:List Nat) (i:Operand) (st:St):Option Comp:=
 match st.atX r p,(st.ent i).av with
 | some ⟨.slice e,xs⟩,.dat (.int _) n=>cnd (tyIs (tab t) (.slice e))
   (some (.ret (some (andB (le0 n) (ltI n (lenL (α:=e.val) xs)))) (upd0 o.dst (.xp r p n []) none))) none
 | _,_=>none
def stLenX (tab:Tab) (o:Oper) (t:TypeId) (r:Tmp) (p:List Nat) (st:St):Option Comp:=
 match st.atX r p with
 | some ⟨.slice e,xs⟩=>cnd (tyIs (tab t) (.slice e)) (some (.ret none (upd0 o.dst (.dat (.int .i64) (lenL (α:=e.val) xs)) none))) none
 | _=>none
def stConvX (tab:Tab) (o:Oper) (src dst:TypeId) (r:Tmp) (p:List Nat) (st:St):Option Comp:=none
def stAppendX (tab:Tab) (o:Oper) (t:TypeId) (x y:Operand) (st:St):Option Comp:=
 match tab t with
 | some (.slice e)=>match AV.as (.slice e) (st.ent x).av,AV.as (.slice e) (argX st (st.ent y).av),st.owner x with
   | some xs,some ys,some l=>match freeD st o.dst,noSl e with
     | some d,true=>some (.ret (some (andB (eqI (lenL (α:=e.val) xs) 0) (ltI (lenL (α:=e.val) ys) big)))
       {upd0 (some d) (.xf d []) none with takes:=l.toList,xw:=some (d,⟨.slice e,ys⟩)})
     | _,_=>none
   | _,_,_=>none
 | _=>none
def stSliceX (tab:Tab) (o:Oper) (t:TypeId) (x:Operand) (lo hi max:Option Operand) (st:St):Option Comp:=none
def stAppendT (tab:Tab) (o:Oper) (t:TypeId) (x y:Operand) (st:St):Option Comp:=none
def stExtractX (o:Oper) (r:Tmp) (i:Nat) (st:St):Option Comp:=
 match st.io r with
 | some d=>match getF d.1 d.2 i with
   | some y=>cnd (noSl y.1) (some (.ret none (upd0 o.dst (.dat y.1 y.2) none))) (some (.ret none (upd0 o.dst (.xf r [i]) none)))
   | none=>none
 | none=>none
def allIn (ps qs:List (List Nat)):Bool:=match ps with
 | []=>true
 | p::ps=>cnd (inPaths p qs) (allIn ps qs) false
def oneOk (one:Bool) (t:Ty):Bool:=match one,t with
 | true,.prod _ .unit=>true
 | true,_=>false
 | false,_=>true
def closedS (s:Sig):Bool:=cnd (nestT s.rty) (cnd (allIn (slicePaths s.rty) s.own) (oneOk s.one s.rty) false) false
def rootOf (one:Bool) (t:Ty) (x:t.val):Dat:=match one,t,x with
 | true,.prod a .unit,x=>⟨a,x.1⟩
 | _,t,x=>⟨t,x⟩
def rootAV (one:Bool) (t:Ty) (d:Tmp):AV:=match one,t with
 | true,.prod _ .unit=>.xf d []
 | _,_=>.xt d
def setDat (d:Dat) (p:List Nat) (y:Dat):Dat:=match setP d.1 d.2 p y with
 | some z=>⟨d.1,z⟩
 | none=>d
def setE (e:Ty) (x:e.val) (q:List Nat) (y:Dat):e.val:=match setP e x q y with
 | some z=>z
 | none=>x
def stCallX (G:Gam) (o:Oper) (f:FuncId) (args:List Operand) (st:St):Option Comp:=
 match G f with
 | some s=>cnd (isF s.fv) none (match s.usesRd,s.opens,s.muts with
   | false,false,false=>match packArgs none s.aty (args.map fun x=>argX st (st.ent x).av),Ty.cast .unit s.rdty (),closedS s with
     | some x,some rd,true=>cnd (mkD st o.dst)
       (match freeD st o.dst with
         | some d=>some (.call s.rty s.rdty (s.fn x rd) fun r=>{upd0 (some d) (rootAV s.one s.rty d) none with xw:=some (d,rootOf s.one s.rty r.1)})
         | none=>none)
       (some (.call s.rty s.rdty (s.fn x rd) fun r=>{upd0 o.dst (resAV s.rty s.one r.1) none with own:=resOwn s.one s.own}))
     | _,_,_=>none
   | true,false,true=>match args with
     | x0::xs=>match (st.ent x0).av with
       | .xf r p=>match st.io r,st.atX r p with
         | some d,some y=>match Ty.cast y.1 s.rdty y.2,s.aty,s.fn with
           | some rd,.prod .unit b,fn=>match packArgs none b (xs.map fun x=>(st.ent x).av),noSl s.rty,cnd (Nat.beq r 0) (isSlT d.1) false with
             | some x,true,false=>some (.call s.rty s.rdty (fn ((),x) rd) fun z=>{upd0 o.dst (resAV s.rty s.one z.1) none with xw:=some (r,setDat d p ⟨s.rdty,z.2⟩)})
             | _,_,_=>none
           | _,_,_=>none
         | _,_=>none
       | .xe k q=>match st.io 0 with
         | some ⟨.slice e,ys⟩=>match getP e (atL (α:=e.val) ys k e.zero) q with
           | some y=>match Ty.cast y.1 s.rdty y.2,s.aty,s.fn,isSlT y.1 with
             | some rd,.prod .unit b,fn,true=>match packArgs none b (xs.map fun x=>(st.ent x).av),noSl s.rty with
               | some x,true=>some (.call s.rty s.rdty (fn ((),x) rd) fun z=>{upd0 o.dst (resAV s.rty s.one z.1) none with xw:=some (0,⟨.slice e,setL (α:=e.val) ys k (setE e (atL (α:=e.val) ys k e.zero) q ⟨s.rdty,z.2⟩)⟩)})
               | _,_=>none
             | _,_,_,_=>none
           | none=>none
         | _=>none
       | _=>none
     | []=>none
   | _,_,_=>none)
 | none=>none
def stCallXR (G:Gam) (o:Oper) (f:FuncId) (args:List Operand) (st:St):Option Comp:=
 match G f with
 | some s=>cnd (isF s.fv) none (match s.usesRd,s.opens,s.muts,rdrOf (args.map fun x=>(st.ent x).av) with
   | true,false,false,some (.rdr [])=>match packArgs (some (.rdr [])) s.aty (args.map fun x=>(st.ent x).av),st.rd,cnd (flatT s.rdty) (closedS s) false,freeD st o.dst with
     | some x,some d,true,some dst=>match Ty.cast d.1 s.rdty d.2 with
       | some rd=>some (.call s.rty s.rdty (s.fn x rd) fun r=>{upd0 (some dst) (rootAV s.one s.rty dst) none with xw:=some (dst,rootOf s.one s.rty r.1),rd:=some ⟨s.rdty,r.2⟩})
       | none=>none
     | _,_,_,_=>none
   | _,_,_,_=>none)
 | none=>none
def stCallC (G:Gam) (o:Oper) (f:FuncId) (args:List Operand) (st:St):Option Comp:=
 match G f with
 | some s=>cnd (isF s.fv) none (match args,s.opens with
   | x0::xs,false=>match (st.ent x0).av with
     | .xf r []=>match st.atX r [],s.aty,s.fn with
       | some y,.prod a b,fn=>match Ty.cast y.1 a y.2,packArgs none b (xs.map fun x=>(st.ent x).av),Ty.cast .unit s.rdty (),Nat.beq r 0 with
         | some x0',some x,some rd,false=>some (.call s.rty s.rdty (fn (x0',x) rd) fun z=>{upd0 o.dst (resAV s.rty s.one z.1) none with own:=resOwn s.one s.own,xk:=some r})
         | _,_,_,_=>none
       | _,_,_=>none
     | _=>none
   | _,_=>none)
 | none=>none
def isRdM (G:Gam) (f:FuncId):Bool:=match G f with
 | some s=>cnd s.usesRd (cnd s.muts false true) false
 | none=>false
def isCons (G:Gam) (f:FuncId):Bool:=match G f with
 | some s=>cnd s.muts (cnd s.usesRd false true) false
 | none=>false
def isMut (G:Gam) (f:FuncId):Bool:=match G f with
 | some s=>s.muts
 | none=>false
def stepC (tab:Tab) (G:Gam) (o:Oper) (st:St):Option Comp:=
 match o.op with
 | .move x=>some (cnd (mkD st o.dst) (stAssignM o x st (stMove tab o x st)) (stMove tab o x st))
 | .assign x=>some (cnd (mkD st o.dst) (stAssignM o x st (stAssign tab o x st)) (stAssign tab o x st))
 | .pick c a b=>stPick o c a b st
 | .alloc e=>cnd (mkD st o.dst) (stAllocX tab o e st) (stAlloc tab o e st)
 | .box e x=>match (st.ent x).av with
   | .xf r p=>stBoxX tab o e r p st
   | _=>stBox tab o e x st
 | .build t ps=>cnd (anyX st (ps.toList.map fun p=>p.2)) (cnd (mkD st o.dst) (stBuildX tab o t ps.toList st) (stBuildR tab o t ps.toList st)) (stBuild tab o t ps.toList st)
 | .buildSlice t n ps=>stBuildSlice tab o t n ps.toList st
 | .load t x=>match (st.ent x).av with
   | .cx b p=>stLoadX tab o t b p st
   | .xp r p n q=>stLoadP tab o t r p n q st
   | _=>stLoad tab o t x st
 | .store t x v=>match (st.ent x).av,(st.ent v).av with
   | .xp r p n q,.xf r2 []=>stGraftX tab o t r p n q r2 st
   | .xp r p n q,_=>stStoreX tab o t r p n q v st
   | .cx b [],.xf r q=>stPutX tab o t b r q st
   | .cx b [],.mx ty x ps=>stPutR tab o t b ⟨ty,x⟩ ps st
   | .cx b p,.xf r q=>stPartR tab o t b p r q st
   | _,_=>stStore tab o t x v st
 | .nilCheck x=>match (st.ent x).av with
   | .cel b p=>some (.ret none (upd0 o.dst (.cel b p) none))
   | .rdr p=>some (.ret none (upd0 o.dst (.rdr p) none))
   | _=>none
 | .binOp op xt x y _=>stBin tab o op xt x y st
 | .unOp op _ x=>stUn o op x st
 | .convert s d x=>match (st.ent x).av with
   | .xf r p=>stConvX tab o s d r p st
   | _=>stConv tab o s d x st
 | .makeSlice t l c=>cnd (mkD st o.dst) (stMakeX tab o t l c st) (stMakeSlice tab o t l c st)
 | .slice t x lo hi mx=>match (st.ent x).av with
   | .xf _ _=>stSliceX tab o t x lo hi mx st
   | _=>stSlice tab o t x lo hi mx st
 | .fieldAddr s x f=>match (st.ent x).av with
   | .xp r p n q=>stFieldAddrX tab o s r p n q f st
   | .cx b p=>stFieldAddrC tab o s b p f st
   | _=>stFieldAddr tab o s x f st
 | .field s x f=>stField tab o s x f st
 | .indexAddr t x i=>match (st.ent x).av with
   | .xf r p=>stIndexAddrX tab o t r p i st
   | _=>stIndexAddr tab o t x i st
 | .index t x i=>stIndex tab o t x i st
 | .extract x i=>match (st.ent x).av with
   | .xt r=>stExtractX o r i st
   | _=>stExtract o x i st
 | .call c=>match c.callee with
   | .value (.func f)=>cnd (hasF G f) (stCallF G o f c.args.toList st) (cnd (isCons G f) (stCallC G o f c.args.toList st) (cnd (cnd (mkD st o.dst) (isRdM G f) false) (stCallXR G o f c.args.toList st) (cnd (cnd (anyX st c.args.toList) true (cnd (mkD st o.dst) true (isMut G f))) (stCallX G o f c.args.toList st) (stCall G o f c.args.toList st))))
   | .value (.tmp t)=>match (st.env t).av with
     | .fn f=>stCall G o f c.args.toList st
     | _=>none
   | .builtin .len=>match c.args.toList,c.argTypes.toList with
     | [x],[t]=>match (st.ent x).av with
       | .xf r p=>stLenX tab o t r p st
       | _=>stLen tab o t x st
     | _,_=>none
   | .builtin .append=>match c.args.toList,c.argTypes.toList with
     | [x,y],[t,t']=>cnd (Nat.beq t t') (match (st.ent x).av with
       | .xf _ _=>stAppendT tab o t x y st
       | _=>cnd (mkD st o.dst) (stAppendX tab o t x y st) (stAppend tab o t x y st)) none
     | _,_=>none
   | .builtin .min=>match c.args.toList with
     | [x,y]=>stMinMax false o x y st
     | _=>none
   | .builtin .max=>match c.args.toList with
     | [x,y]=>stMinMax true o x y st
     | _=>none
   | _=>none
 | _=>none
def Comp.runK {R:Type} (st:St) (k:St→Option R):Comp→Option R
 | .ret none u=>k (apply st u)
 | .ret (some c) u=>cndS c (k (apply st u)) none
 | .call _ _ F u=>obind F fun r=>k (apply st (u r))
/-! ### a region's operations -/
inductive Res where
 | tmp (t:Tmp)|own (t:Tmp)|box (b:Tmp)|rd
def Res.beq:Res→Res→Bool
 | .tmp t,.tmp u=>Nat.beq t u
 | .own t,.own u=>Nat.beq t u
 | .box t,.box u=>Nat.beq t u
 | .rd,.rd=>true
 | _,_=>false
def Loc.res:Loc→Res
 | .tmp t _=>.own t
 | .box b _=>.box b
structure FP where
 reads:List Res
 writes:List Res
def mxRes:List (List Nat×Tmp×List Nat)→List Res
 | []=>[]
 | (_,r,_)::ps=>.box r::mxRes ps
def avRes:AV→List Res
 | .cel b _=>[.box b]
 | .rdr _=>[.rd]
 | .xf r _=>[.box r]
 | .xp r _ _ _=>[.box r]
 | .xt r=>[.box r]
 | .cx b _=>[.box b]
 | .xe _ _=>[.box 0]
 | .mx _ _ ps=>mxRes ps
 | _=>[]
def xbRes (st:St):AV→List Res
 | .cx b _=>(match st.xb b with
   | some (_,some (r,_))=>[.box r]
   | _=>[])++(match st.rb b with
   | some (_,ps)=>mxRes ps
   | none=>[])
 | _=>[]
def readsX (st:St):Operand→List Res
 | .tmp t=>.tmp t :: .own t::(avRes (st.env t).av++xbRes st (st.env t).av++(match (st.env t).tag with
   | some (_,l)=>[l.res]
   | none=>[]))
 | _=>[]
def readsL (st:St):List Operand→List Res
 | []=>[]
 | x::xs=>readsX st x++readsL st xs
def dstRes:Option Tmp→List Res
 | some d=>[.tmp d,.own d,.box d]
 | none=>[]
def exNo (st:St) (dst:Option Tmp):Op→Option Tmp
 | .extract (.tmp t) i=>match (st.env t).av with
   | .tup ty v=>match getF ty v i with
     | some d=>cnd (mkD st dst) (some t) (match slicePaths d.1 with
       | []=>some t
       | _::_=>none)
     | none=>none
   | _=>none
 | _=>none
def mvNo (st:St):Op→Option Tmp
 | .move (.tmp t)=>match (st.env t).av with
   | .rdr _=>some t
   | .cel _ _=>some t
   | _=>none
 | _=>none
def readsM (st:St) (t:Tmp):List Res:=.tmp t :: .own t::(match (st.env t).tag with
 | some (_,l)=>[l.res]
 | none=>[])
def reads (st:St) (o:Oper):List Res:=dstRes o.dst++(match exNo st o.dst o.op with
 | some t=>[.tmp t]
 | none=>match mvNo st o.op with
   | some t=>readsM st t
   | none=>readsL st o.op.operands.toList)
def Upd.writes (u:Upd):List Res:=
 dstRes u.dst++(u.takes.map Loc.res++((match u.bw with
  | some (b,_,_,_)=>[.box b]
  | none=>[])++(match u.rd with
  | some _=>[.rd]
  | none=>[])++((match u.xw with
  | some (r,_)=>[.box r]
  | none=>[])++(match u.xbw with
  | some (b,_,_)=>[.box b]
  | none=>[]))++(match u.xk with
  | some k=>[.box k]
  | none=>[])++(match u.rw with
  | some (b,_,_)=>[.box b]
  | none=>[])))
def tagRes (u:Upd):List Res:=match u.ent.tag with
 | some (_,l)=>[l.res]
 | none=>[]
def Comp.runT {R:Type} (st:St) (rs:List Res) (k:St→FP→Option R):Comp→Option R
 | .ret none u=>k (apply st u) ⟨tagRes u++rs,u.writes⟩
 | .ret (some c) u=>cndS c (k (apply st u) ⟨tagRes u++rs,u.writes⟩) none
 | .call _ _ F u=>obind F fun r=>k (apply st (u r)) ⟨tagRes (u r)++rs,(u r).writes⟩
def hit (r:Res):List Res→Bool
 | []=>false
 | s::ss=>cnd (Res.beq r s) true (hit r ss)
def hits:List Res→List Res→Bool
 | [],_=>false
 | r::rs,ss=>cnd (hit r ss) true (hits rs ss)
def indep (a b:FP):Bool:=cnd (hits a.writes b.reads) false (cnd (hits a.writes b.writes) false (cnd (hits b.writes a.reads) false true))
def skipU (o:Oper):Upd:=upd0 o.dst .skp none
def setAV (st:St) (t:Tmp) (v:AV):St:={st with env:=fun u=>cnd (Nat.beq u t) ⟨v,(st.env u).tag⟩ (st.env u)}
def setKn (st:St) (t:Option Tmp) (b:Bool):St:={st with kn:=fun u=>cnd (isT u t) b (st.kn u)}
def St.knX (st:St):Operand→Bool
 | .tmp t=>st.kn t
 | .const (.bool _)=>true
 | _=>false
def knOf (o:Oper) (st:St):Bool:=match o.op with
 | .move x=>st.knX x
 | .assign x=>st.knX x
 | .pick c x y=>match st.knX c,(st.ent c).av,(st.ent x).av,(st.ent y).av with
   | true,.dat .bool _,.dat _ _,.dat _ _=>false
   | true,.dat .bool b,_,_=>cnd b (st.knX x) (st.knX y)
   | _,_,_,_=>false
 | _=>false
def guardT (ops:List Oper) (g:Nat):Option Tmp:=match ops[g]? with
 | some o=>o.dst
 | none=>none
def opsK {R:Type} (tab:Tab) (G:Gam) (ops:List Oper):List Oper→Nat→St→(St→Option R)→Option R
 | [],_,st,k=>k st
 | o::rest,i,st,k=>match o.guard with
   | none=>match stepC tab G o st with
     | some c=>c.runK st fun st'=>opsK tab G ops rest (Nat.succ i) (setKn st' o.dst (knOf o st)) k
     | none=>none
   | some (g,want)=>match guardT ops g with
     | none=>none
     | some t=>match (st.env t).av with
       | .dat .bool b=>
         let go (st:St):=match stepC tab G o st with
          | some c=>c.runK st fun st'=>opsK tab G ops rest (Nat.succ i) (setKn st' o.dst (knOf o st)) k
          | none=>none
         let by' (st:St):=opsK tab G ops rest (Nat.succ i) (setKn (apply st (skipU o)) o.dst false) k
         cnd (st.kn t) (cnd b (cnd want (go st) (by' st)) (cnd want (by' st) (go st)))
          (cndS b (cnd want (go (setKn (setAV st t (.dat .bool true)) (some t) true)) (by' (setKn (setAV st t (.dat .bool true)) (some t) true)))
                  (cnd want (by' (setKn (setAV st t (.dat .bool false)) (some t) true)) (go (setKn (setAV st t (.dat .bool false)) (some t) true))))
       | .skp=>opsK tab G ops rest (Nat.succ i) (setKn (apply st (skipU o)) o.dst false) k
       | _=>none
def drawK {R:Type} (tab:Tab) (G:Gam) (ops:List Oper):List Oper→Nat→St→List FP→(St→List FP→Option R)→Option R
 | [],_,st,acc,k=>k st acc
 | o::rest,i,st,acc,k=>match o.guard with
   | none=>match stepC tab G o st with
     | some c=>c.runT st (reads st o) fun st' f=>drawK tab G ops rest (Nat.succ i) (setKn st' o.dst (knOf o st)) (acc++[f]) k
     | none=>none
   | some (g,want)=>match guardT ops g with
     | none=>none
     | some t=>match (st.env t).av with
       | .dat .bool b=>
         let go (st:St):=match stepC tab G o st with
          | some c=>c.runT st (.tmp t::reads st o) fun st' f=>drawK tab G ops rest (Nat.succ i) (setKn st' o.dst (knOf o st)) (acc++[f]) k
          | none=>none
         let by' (st:St):=drawK tab G ops rest (Nat.succ i) (setKn (apply st (skipU o)) o.dst false) (acc++[⟨[.tmp t],(skipU o).writes⟩]) k
         cnd (st.kn t) (cnd b (cnd want (go st) (by' st)) (cnd want (by' st) (go st)))
          (cndS b (cnd want (go (setKn (setAV st t (.dat .bool true)) (some t) true)) (by' (setKn (setAV st t (.dat .bool true)) (some t) true)))
                  (cnd want (by' (setKn (setAV st t (.dat .bool false)) (some t) true)) (go (setKn (setAV st t (.dat .bool false)) (some t) true))))
       | .skp=>drawK tab G ops rest (Nat.succ i) (setKn (apply st (skipU o)) o.dst false) (acc++[⟨[.tmp t],(skipU o).writes⟩]) k
       | _=>none
def bor:List Bool→List Bool→List Bool
 | [],ys=>ys
 | xs,[]=>xs
 | x::xs,y::ys=>cnd x true y::bor xs ys
def bset:Nat→List Bool→List Bool
 | 0,[]=>[true]
 | 0,_::xs=>true::xs
 | n+1,[]=>false::bset n []
 | n+1,x::xs=>x::bset n xs
def bget:Nat→List Bool→Bool
 | _,[]=>false
 | 0,x::_=>x
 | n+1,_::xs=>bget n xs
def nthM:Nat→List (List Bool)→List Bool
 | _,[]=>[]
 | 0,m::_=>m
 | n+1,_::ms=>nthM n ms
def bindsAny (e:Edge):Bool:=match e.ground with
 | .textOnly _=>false
 | .gcOnly _=>false
 | _=>true
def maskOf (acc:List (List Bool)):List Edge→List Bool
 | []=>[]
 | e::es=>cnd (bindsAny e) (bor (bset e.on (nthM e.on acc)) (maskOf acc es)) (maskOf acc es)
def masks:List Oper→List (List Bool)→List (List Bool)
 | [],acc=>acc
 | o::rest,acc=>masks rest (acc++[maskOf acc o.after.toList])
def edgesBack (i:Nat):List Edge→Bool
 | []=>true
 | e::es=>cnd (cnd (bindsAny e) (Nat.blt e.on i) true) (edgesBack i es) false
def edgesOk:List Oper→Nat→Bool
 | [],_=>true
 | o::os,i=>cnd (edgesBack i o.after.toList) (edgesOk os (Nat.succ i)) false
def pairOk (m:List Bool) (f:FP):List FP→Nat→Bool
 | [],_=>true
 | g::gs,j=>cnd (cnd (bget j m) true (indep g f)) (pairOk m f gs (Nat.succ j)) false
def pairsOk (ms:List (List Bool)):List FP→List FP→Nat→Bool
 | _,[],_=>true
 | seen,f::fs,j=>cnd (pairOk (nthM j ms) f seen 0) (pairsOk ms (seen++[f]) fs (Nat.succ j)) false
/-! ### code -/
inductive ShE where
 | dat (t:Ty) (own:List (List Nat))
 | cel (b:Tmp) (p:List Nat)
 | rdr
 | xf (r:Tmp) (p:List Nat)
 | cx (b:Tmp) (p:List Nat)
 | fn (f:FuncId)
structure Shp where
 env:List (Tmp×ShE)
 box:List (Tmp×Ty×List (List Nat))
 rd:Option Ty
 io:List (Tmp×Ty):=[]
 xb:List (Tmp×Ty×Tmp×List Nat):=[]
def envTy:List (Tmp×ShE)→Ty→Ty
 | [],r=>r
 | (_,.dat t _)::es,r=>.prod t (envTy es r)
 | _::es,r=>envTy es r
def boxTy:List (Tmp×Ty×List (List Nat))→Ty→Ty
 | [],r=>r
 | (_,t,_)::bs,r=>.prod t (boxTy bs r)
def rdTy:Option Ty→Ty
 | some t=>t
 | none=>.unit
def ioTy:List (Tmp×Ty)→Ty→Ty
 | [],r=>r
 | (_,t)::is,r=>.prod t (ioTy is r)
def Shp.low (S:Shp):Ty:=ioTy S.io (rdTy S.rd)
def Shp.ty (S:Shp):Ty:=envTy S.env (boxTy S.box S.low)
def boxIn (b:Tmp):List (Tmp×Ty×List (List Nat))→Bool
 | []=>false
 | (c,_,_)::bs=>cnd (Nat.beq b c) true (boxIn b bs)
def isSomeTy:Option Ty→Bool
 | some _=>true
 | none=>false
def packRd (st:St):(r:Option Ty)→Option (rdTy r).val
 | none=>some ()
 | some t=>match st.rd with
   | some d=>Ty.cast d.1 t d.2
   | none=>none
def packIo (st:St) (r:Option Ty):(is:List (Tmp×Ty))→Option (ioTy is (rdTy r)).val
 | []=>packRd st r
 | (c,t)::is=>match st.io c with
   | some d=>match Ty.cast d.1 t d.2,packIo st r is with
     | some x,some y=>some (x,y)
     | _,_=>none
   | none=>none
def ioIn (b:Tmp):List (Tmp×Ty)→Bool
 | []=>false
 | (c,_)::bs=>cnd (Nat.beq b c) true (ioIn b bs)
def xbIn (b:Tmp):List (Tmp×Ty×Tmp×List Nat)→Bool
 | []=>false
 | (c,_)::bs=>cnd (Nat.beq b c) true (xbIn b bs)
def xbAll (st:St) (is:List (Tmp×Ty)):List (Tmp×Ty×Tmp×List Nat)→Bool
 | []=>true
 | (b,t,r,q)::bs=>match st.xb b with
   | some (u,some (r',q'))=>cnd (cnd (Ty.beq u t) (cnd (Nat.beq r' r) (cnd (pbeq q' q) (ioIn r is) false) false) false) (xbAll st is bs) false
   | _=>false
def packBox (st:St) (S:Shp):(bs:List (Tmp×Ty×List (List Nat)))→Option (boxTy bs S.low).val
 | []=>cnd (xbAll st S.io S.xb) (packIo st S.rd S.io) none
 | (b,t,ps)::bs=>match st.box b with
   | some d=>match Ty.cast d.1 t d.2,allOwn st.own (.box b ·) ps,packBox st S bs with
     | some x,true,some y=>some (x,y)
     | _,_,_=>none
   | none=>none
def packEnv (st:St) (S:Shp):(es:List (Tmp×ShE))→Option (envTy es (boxTy S.box S.low)).val
 | []=>packBox st S S.box
 | (t,.dat ty ps)::es=>match AV.as ty (st.env t).av,allOwn st.own (.tmp t ·) ps,packEnv st S es with
   | some x,true,some y=>some (x,y)
   | _,_,_=>none
 | (t,.cel b p)::es=>match (st.env t).av with
   | .cel c q=>cnd (cnd (Nat.beq b c) (cnd (pbeq p q) (boxIn b S.box) false) false) (packEnv st S es) none
   | _=>none
 | (t,.rdr)::es=>match (st.env t).av with
   | .rdr []=>cnd (isSomeTy S.rd) (packEnv st S es) none
   | _=>none
 | (t,.xf r p)::es=>match (st.env t).av with
   | .xf c q=>cnd (cnd (Nat.beq r c) (cnd (pbeq p q) (ioIn r S.io) false) false) (packEnv st S es) none
   | _=>none
 | (t,.cx b p)::es=>match (st.env t).av with
   | .cx c q=>cnd (cnd (Nat.beq b c) (cnd (pbeq p q) (xbIn b S.xb) false) false) (packEnv st S es) none
   | _=>none
 | (t,.fn f)::es=>match (st.env t).av with
   | .fn g=>cnd (Nat.beq f g) (packEnv st S es) none
   | _=>none
def swT (r c k:Tmp):Tmp:=cnd (Nat.beq k r) c (cnd (Nat.beq k c) r k)
def swPs (r c:Tmp):List (List Nat×Tmp×List Nat)→List (List Nat×Tmp×List Nat)
 | []=>[]
 | (p,k,q)::ps=>(p,swT r c k,q)::swPs r c ps
def swAV (r c:Tmp):AV→AV
 | .xf k p=>.xf (swT r c k) p
 | .xp k p n q=>.xp (swT r c k) p n q
 | .xt k=>.xt (swT r c k)
 | .mx t x ps=>.mx t x (swPs r c ps)
 | v=>v
def swXb (r c:Tmp):Option (Ty×Option (Tmp×List Nat))→Option (Ty×Option (Tmp×List Nat))
 | some (t,some (k,q))=>some (t,some (swT r c k,q))
 | some (t,none)=>some (t,none)
 | none=>none
def swSt (r c:Tmp) (st:St):St:={st with env:=fun t=>⟨swAV r c (st.env t).av,(st.env t).tag⟩,io:=fun k=>st.io (swT r c k),xb:=fun b=>swXb r c (st.xb b),rb:=fun b=>match st.rb b with
    | some (d,ps)=>some (d,swPs r c ps)
    | none=>none}
def renS (st:St):List (Tmp×ShE)→St
 | []=>st
 | (t,.xf r _)::es=>match (st.env t).av with
   | .xf c _=>renS (cnd (Nat.beq r c) st (cnd (Nat.beq r 0) st (cnd (Nat.beq c 0) st (swSt r c st)))) es
   | _=>renS st es
 | _::es=>renS st es
def pack (S:Shp) (st:St):Option S.ty.val:=packEnv (renS st S.env) S S.env
def st00:St:={env:=fun _=>⟨.any,none⟩,box:=fun _=>none,own:=fun _=>false,rd:=none,kn:=fun _=>false,io:=fun _=>none,xb:=fun _=>none,mkt:=fun _=>false}
def putE (st:St) (t:Tmp) (v:AV) (ps:List (List Nat)):St:=
 {st with env:=fun u=>cnd (Nat.beq u t) ⟨v,none⟩ (st.env u),own:=fun l=>match l with
  | .tmp u p=>cnd (Nat.beq u t) (inPaths p ps) (st.own l)
  | _=>st.own l}
def putB (st:St) (b:Tmp) (d:Dat) (ps:List (List Nat)):St:=
 {st with box:=fun c=>cnd (Nat.beq c b) (some d) (st.box c),own:=fun l=>match l with
  | .box c p=>cnd (Nat.beq c b) (inPaths p ps) (st.own l)
  | _=>st.own l}
def unpackRd (st:St):(r:Option Ty)→(rdTy r).val→St
 | none,_=>st
 | some t,x=>{st with rd:=some ⟨t,x⟩}
def unpackIo (st:St) (r:Option Ty):(is:List (Tmp×Ty))→(ioTy is (rdTy r)).val→St
 | [],x=>unpackRd st r x
 | (c,t)::is,x=>let s:=unpackIo st r is x.2
   {s with io:=fun k=>cnd (Nat.beq k c) (some ⟨t,x.1⟩) (s.io k)}
def unpackXb:List (Tmp×Ty×Tmp×List Nat)→Tmp→Option (Ty×Option (Tmp×List Nat))
 | [],_=>none
 | (b,t,r,q)::bs,c=>cnd (Nat.beq c b) (some (t,some (r,q))) (unpackXb bs c)
def unpackBox (st:St) (S:Shp):(bs:List (Tmp×Ty×List (List Nat)))→(boxTy bs S.low).val→St
 | [],x=>{unpackIo st S.rd S.io x with xb:=unpackXb S.xb}
 | (b,t,ps)::bs,x=>putB (unpackBox st S bs x.2) b ⟨t,x.1⟩ ps
def unpackEnv (st:St) (S:Shp):(es:List (Tmp×ShE))→(envTy es (boxTy S.box S.low)).val→St
 | [],x=>unpackBox st S S.box x
 | (t,.dat ty ps)::es,x=>putE (unpackEnv st S es x.2) t (.dat ty x.1) ps
 | (t,.cel b p)::es,x=>putE (unpackEnv st S es x) t (.cel b p) []
 | (t,.rdr)::es,x=>putE (unpackEnv st S es x) t (.rdr []) []
 | (t,.xf r p)::es,x=>putE (unpackEnv st S es x) t (.xf r p) []
 | (t,.cx b p)::es,x=>putE (unpackEnv st S es x) t (.cx b p) []
 | (t,.fn f)::es,x=>putE (unpackEnv st S es x) t (.fn f) []
def unpack (S:Shp) (x:S.ty.val):St:=unpackEnv st00 S S.env x
/-! ### trees and records at a region's start -/
def dropX (e:Ent):Ent:=match e.av with
 | .xf _ _=>⟨.any,none⟩
 | .xp _ _ _ _=>⟨.any,none⟩
 | .xt _=>⟨.any,none⟩
 | .xe _ _=>⟨.any,none⟩
 | .mx _ _ _=>⟨.any,none⟩
 | _=>e
def trJoin (b R:Tmp) (st:St):Option St:=none
def trSplit (b N:Tmp) (st:St):Option St:=none
def frzBox (st:St) (c:Tmp):Option Dat:=match st.xb c with
 | some (t,some (r,q))=>match st.atX r q with
   | some y=>cnd (Ty.beq y.1 t) (some y) none
   | none=>none
 | some (_,none)=>none
 | none=>st.box c
def frzEnt (st:St) (e:Ent):Ent:=match e.av with
 | .cel c p=>match st.xb c with
   | none=>⟨.cel c p,none⟩
   | some _=>⟨.any,none⟩
 | .cx c p=>match st.xb c,frzBox st c with
   | some _,some _=>⟨.cel c p,none⟩
   | _,_=>⟨.any,none⟩
 | _=>⟨(dropX e).av,none⟩
def frzOwn (b:Tmp) (ty:Ty) (st:St):Loc→Bool
 | .tmp t p=>st.own (.tmp t p)
 | .box c p=>match st.xb c with
   | some _=>cnd (Nat.beq c b) (inPaths p (slicePaths ty)) false
   | none=>st.own (.box c p)
def frzS (b:Tmp) (ty:Ty) (st:St):St:={st with
 env:=fun t=>frzEnt st (st.env t)
 box:=fun c=>frzBox st c
 own:=frzOwn b ty st
 io:=fun _=>none
 xb:=fun _=>none
 rb:=fun _=>none}
def trFrz (b:Tmp) (st:St):Option St:=
 match st.xb b,frzBox st b with
 | some (ty,some (_,[])),some _=>some (frzS b ty st)
 | none,_=>some st
 | _,_=>none
def deepOwn (st:St) (f:List Nat→Loc) (t:Ty):Bool:=cnd (noSl t) true (cnd (nestT t) (allOwn st.own f (slicePaths t)) false)
def thawBox (st:St) (b c:Tmp):Option Dat:=cnd (Nat.beq c b) none (match st.box c with
 | some d=>cnd (deepOwn st (.box c ·) d.1) (some d) none
 | none=>none)
def thawEnt (st:St) (b:Tmp) (e:Ent):Ent:=match e.av with
 | .dat t x=>cnd (noSl t) ⟨.dat t x,none⟩ ⟨.any,none⟩
 | .tup _ _=>⟨.any,none⟩
 | .ref _ _=>⟨.any,none⟩
 | .cel c p=>cnd (Nat.beq c b) ⟨.cx c p,none⟩ (match thawBox st b c with
   | some _=>⟨.cel c p,none⟩
   | none=>⟨.any,none⟩)
 | v=>⟨v,none⟩
def rdNoSl:Option Dat→Bool
 | some d=>noSl d.1
 | none=>true
def thawS (b R:Tmp) (d:Dat) (st:St):St:={st with
 env:=fun t=>thawEnt st b (st.env t)
 box:=fun c=>thawBox st b c
 own:=fun l=>match l with
  | .tmp _ _=>false
  | .box c p=>match thawBox st b c with
    | some _=>st.own (.box c p)
    | none=>false
 io:=fun r=>cnd (Nat.beq r R) (some d) (st.io r)
 xb:=fun c=>cnd (Nat.beq c b) (some (d.1,some (R,[]))) (st.xb c)}
def trThaw (b R:Tmp) (st:St):Option St:=
 match st.box b,st.io R,st.xb b with
 | some d,none,none=>cnd (cnd (Nat.beq R 0) false (cnd (nestT d.1) (cnd (allOwn st.own (.box b ·) (slicePaths d.1)) (rdNoSl st.rd) false) false)) (some (thawS b R d st)) none
 | _,_,_=>none
inductive Tr where
 | join (b R:Tmp)
 | split (b N:Tmp)
 | frz (b:Tmp)
 | thaw (b R:Tmp)
def trOne (st:St):Tr→Option St
 | .join b R=>trJoin b R st
 | .split b N=>trSplit b N st
 | .frz b=>trFrz b st
 | .thaw b R=>trThaw b R st
def trAll (st:St):List Tr→Option St
 | []=>some st
 | t::ts=>match trOne st t with
   | some st'=>trAll st' ts
   | none=>none
structure Ann where
 cut:Nat→Option (Shp×Bool)
 loop:Nat→Option (Shp×Shp×Bool)
 mkt:Tmp→Bool:=fun _=>false
  /-- what is done with trees at a region's start -/
 pre:Nat→List Tr:=fun _=>[]
  /-- and ahead of a loop -/
 prel:Nat→List Tr:=fun _=>[]
 prec:Nat→List Tr:=fun _=>[]
def firstRegion:Code→Option Nat
 | .region id _ _=>some id
 | .seq x y=>match firstRegion x with
   | some i=>some i
   | none=>firstRegion y
 | .block _ c=>firstRegion c
 | .loop c=>firstRegion c
 | _=>none
def cutOf (ann:Ann) (y:Code):Option (Shp×Bool):=match firstRegion y with
 | some i=>ann.cut i
 | none=>none
def packT (ts:List Tr) (S:Shp) (st:St):Option S.ty.val:=match trAll st ts with
 | some s=>pack S s
 | none=>none
def precOf (ann:Ann) (c:Code):List Tr:=match firstRegion c with
 | some i=>ann.prec i
 | none=>[]
def evalK (tab:Tab) (G:Gam) (ann:Ann) (fuel:Nat):Code→(R:Type)→St→(St→Option R)→(St→Option R)→(Nat→St→Option R)→Option R
 | .skip,_,st,kn,_,_=>kn st
 | .region id ops draw,_,st0,kn,_,_=>match trAll {st0 with mkt:=ann.mkt} (ann.pre id) with
   | some st=>cnd draw (drawK tab G ops.toList ops.toList 0 st [] fun st' fs=>cnd (cnd (edgesOk ops.toList 0) (pairsOk (masks ops.toList []) [] fs 0) false) (kn st') none)
     (opsK tab G ops.toList ops.toList 0 st kn)
   | none=>none
 | .seq x y,R,st,kn,kr,ke=>match cutOf ann y with
   | none=>evalK tab G ann fuel x R st (fun st'=>evalK tab G ann fuel y R st' kn kr ke) kr ke
   | some (S,true)=>obind (evalK tab G ann fuel x S.ty.val st (fun st'=>packT (precOf ann y) S st') (fun _=>none) (fun _ _=>none))
       fun s=>evalK tab G ann fuel y R (unpack S s) kn kr ke
   | some (S,false)=>obind (evalK tab G ann fuel x (S.ty.val ⊕ R) st (fun st'=>(packT (precOf ann y) S st').map .inl) (fun st'=>(kr st').map .inr) (fun i st'=>(ke i st').map .inr))
       fun e=>sumE e (fun s=>evalK tab G ann fuel y R (unpack S s) kn kr ke) (fun r=>some r)
 | .cond c x y,R,st,kn,kr,ke=>match (st.ent c).av with
   | .dat .bool b=>cnd (st.knX c) (cnd b (evalK tab G ann fuel x R st kn kr ke) (evalK tab G ann fuel y R st kn kr ke)) (cndS b (evalK tab G ann fuel x R st kn kr ke) (evalK tab G ann fuel y R st kn kr ke))
   | _=>none
 | .block id (.loop b),R,st,kn,kr,ke=>match ann.loop id with
   | some (S,T,true)=>match packT (ann.prel id) S st with
     | none=>none
     | some s0=>
       obind (iter fuel (fun s=>evalK tab G ann fuel b (S.ty.val ⊕ T.ty.val) (unpack S s) (fun st'=>(pack S st').map .inl) (fun _=>none)
        (fun i st'=>cnd (Nat.beq i id) ((pack T st').map .inr) none)) s0) fun t=>kn (unpack T t)
   | some (S,T,false)=>match packT (ann.prel id) S st with
     | none=>none
     | some s0=>
       obind (iter fuel (fun s=>evalK tab G ann fuel b (S.ty.val ⊕ (T.ty.val ⊕ R)) (unpack S s) (fun st'=>(pack S st').map .inl) (fun st'=>(kr st').map fun r=>.inr (.inr r))
        (fun i st'=>cnd (Nat.beq i id) ((pack T st').map fun t=>.inr (.inl t)) ((ke i st').map fun r=>.inr (.inr r)))) s0) fun e=>sumE e (fun t=>kn (unpack T t)) (fun r=>some r)
   | none=>none
 | .block id c,R,st,kn,kr,ke=>evalK tab G ann fuel c R st kn kr (fun i st'=>cnd (Nat.beq i id) (kn st') (ke i st'))
 | .exit id,_,st,_,_,ke=>ke id st
 | .ret,_,st,_,kr,_=>kr st
 | _,_,_,_,_,_=>none
def opsDst (n:Nat):List Oper→Bool
 | []=>true
 | o::os=>match o.dst with
   | some d=>cnd (Nat.blt d n) (opsDst n os) false
   | none=>opsDst n os
def dstsOk (n:Nat):Code→Bool
 | .region _ ops _=>opsDst n ops.toList
 | .seq x y=>cnd (dstsOk n x) (dstsOk n y) false
 | .cond _ x y=>cnd (dstsOk n x) (dstsOk n y) false
 | .block _ c=>dstsOk n c
 | .loop c=>dstsOk n c
 | _=>true
def resVal (tab:Tab) (st:St) (ty:Ty):ResultVar→Option ty.val
 | .tmp t=>AV.as ty (st.env t).av
 | .cell t u=>match (st.env t).av with
   | .cel b []=>match st.box b with
     | some d=>cnd (tyIs (tab u) d.1) (Ty.cast d.1 ty d.2) none
     | none=>none
   | _=>none
def resLoc (st:St) (p:List Nat):ResultVar→Option Loc
 | .tmp t=>some (.tmp t p)
 | .cell t _=>match (st.env t).av with
   | .cel b []=>some (.box b p)
   | _=>none
def resVals (tab:Tab) (st:St):(t:Ty)→List ResultVar→Option t.val
 | .unit,[]=>some ()
 | .prod a b,r::rs=>match resVal tab st a r with
   | some x=>match resVals tab st b rs with
     | some y=>some (x,y)
     | none=>none
   | none=>none
 | _,_=>none
def nthR:List ResultVar→Nat→Option ResultVar
 | [],_=>none
 | r::_,0=>some r
 | _::rs,i+1=>nthR rs i
def resLocs (st:St) (rs:List ResultVar):List (List Nat)→Option (List Loc)
 | []=>some []
 | (i::p)::ps=>match nthR rs i with
   | some r=>match resLoc st p r with
     | some l=>match resLocs st rs ps with
       | some ls=>cnd (st.own l) (cnd (inLocs l ls) none (some (l::ls))) none
       | none=>none
     | none=>none
   | none=>none
 | []::_=>none
def argAV (a:Ty) (x:a.val):AV:=match a,x with
 | .unit,_=>.rdr []
 | a,x=>.dat a x
def putArgs:(t:Ty)→t.val→Nat→St
 | .prod a b,x,i=>putE (putArgs b x.2 (Nat.succ i)) i (argAV a x.1) []
 | _,_,_=>st00
def rootIn (st:St) (r:Tmp):List ResultVar→Bool
 | []=>false
 | .tmp t::rs=>match (st.env t).av with
   | .xf c _=>cnd (Nat.beq c r) true (rootIn st r rs)
   | _=>rootIn st r rs
 | _::rs=>rootIn st r rs
def soleIn (st:St) (r t:Tmp):List ResultVar→Bool
 | []=>false
 | .tmp u::rs=>cnd (Nat.beq u t) (cnd (rootIn st r rs) false true) (match (st.env u).av with
   | .xf c _=>cnd (Nat.beq c r) false (soleIn st r t rs)
   | _=>soleIn st r t rs)
 | _::rs=>soleIn st r t rs
def frzAV (st:St):AV→AV
 | .xf r p=>match st.atX r p with
   | some y=>.dat y.1 y.2
   | none=>.any
 | .xp _ _ _ _=>.any
 | .xt _=>.any
 | .cx _ _=>.any
 | .xe _ _=>.any
 | .mx _ _ _=>.any
 | v=>v
def frz (rs:List ResultVar) (st:St):St where
 env:=fun t=>⟨frzAV st (st.env t).av,none⟩
 box:=st.box
 own:=fun l=>match l with
  | .tmp t p=>match (st.env t).av with
    | .xf r q=>match st.atX r q with
      | some y=>cnd (soleIn st r t rs) (inPaths p (slicePaths y.1)) false
      | none=>false
    | _=>st.own l
  | .box _ _=>st.own l
 rd:=st.rd
 kn:=st.kn
 io:=fun _=>none
 xb:=fun _=>none
 mkt:=st.mkt
def finOf (tab:Tab) (rs:List ResultVar) (rdty:Ty) (usesRd:Bool) (rty:Ty) (own:List (List Nat)) (st0:St):Option (rty.val×rdty.val):=
 let st:=frz rs st0
 match resVals tab st rty rs,resLocs st rs own with
 | some r,some _=>cnd usesRd (match st.rd with
     | some d=>match Ty.cast d.1 rdty d.2 with
       | some z=>some (r,z)
       | none=>none
     | none=>none) (some (r,rdty.zero))
 | _,_=>none
def finOpen (rs:List ResultVar) (rty:Ty) (st:St):Option (rty.val×Ty.unit.val):=
 match rs with
 | [.tmp t]=>match (st.env t).av with
   | .cel b []=>match st.box b with
     | some d=>match Ty.cast d.1 rty d.2 with
       | some z=>some (z,())
       | none=>none
     | none=>none
   | _=>none
 | _=>none
def startOf (aty rdty:Ty) (usesRd:Bool) (x:aty.val) (rd:rdty.val):St:=cnd usesRd {putArgs aty x 0 with rd:=some ⟨rdty,rd⟩} (putArgs aty x 0)
def evalFn (tab:Tab) (G:Gam) (ann:Ann) (fuel:Nat) (fn:Func) (aty rdty:Ty) (usesRd:Bool) (rty:Ty) (own:List (List Nat)) (x:aty.val) (rd:rdty.val):Option (rty.val×rdty.val):=
 match fn.body with
 | none=>none
 | some c=>cnd (dstsOk fn.ntmps c) (evalK tab G ann fuel c (rty.val×rdty.val) (startOf aty rdty usesRd x rd) (finOf tab fn.results.toList rdty usesRd rty own) (finOf tab fn.results.toList rdty usesRd rty own) (fun _ _=>none)) none
def startMut (b rdty:Ty) (x:b.val) (rd:rdty.val):St:=
 {putE (putArgs b x 1) 0 (.xf 0 []) [] with io:=fun r=>cnd (Nat.beq r 0) (some ⟨rdty,rd⟩) none}
def evalCons (tab:Tab) (G:Gam) (ann:Ann) (fuel:Nat) (fn:Func) (a b rty:Ty) (own:List (List Nat)) (x:a.val) (y:b.val):Option (rty.val×Ty.unit.val):=
 match fn.body with
 | none=>none
 | some c=>cnd (dstsOk fn.ntmps c) (evalK tab G ann fuel c (rty.val×Ty.unit.val) (startMut b a y x) (finOf tab fn.results.toList .unit false rty own) (finOf tab fn.results.toList .unit false rty own) (fun _ _=>none)) none
def evalOpen (tab:Tab) (G:Gam) (ann:Ann) (fuel:Nat) (fn:Func) (aty rty:Ty) (x:aty.val):Option (rty.val×Ty.unit.val):=
 match fn.body with
 | none=>none
 | some c=>cnd (dstsOk fn.ntmps c) (evalK tab G ann fuel c (rty.val×Ty.unit.val) (startOf aty .unit false x ()) (finOpen fn.results.toList rty) (finOpen fn.results.toList rty) (fun _ _=>none)) none
end Go.Den
namespace Go.Den
abbrev Lim:=Nat→Option Nat
def under (lim:Lim) (b n:Nat):Prop:=∀m,lim b=some m→n≤m
def SRep {α:Type} (w:World) (lim:Lim) (R:α→List Value→Prop) (size:Nat) (xs:List α) (a:Option Addr):Prop:=
 xs=[]∨∃b o,a=some ⟨b,o,none⟩∧b<w.heap.size∧under lim b (o+xs.length*size) ∧
  ∀i x,xs[i]?=some x→∃cs,R x cs∧∀j v,cs[j]?=some v→w.cell? ⟨b,o+i*size+j,none⟩=some v
def CRep (w:World) (lim:Lim):(t:Ty)→t.val→List Value→Prop
 | .int k,x,cs=>cs=[.int k x]
 | .bool,x,cs=>cs=[.bool x]
 | .str,x,cs=>cs=[.string ⟨⟨x⟩⟩]
 | .unit,_,cs=>cs=[]
 | .prod a b,x,cs=>∃c1 c2,cs=c1++c2∧CRep w lim a x.1 c1∧CRep w lim b x.2 c2
 | .slice t,xs,cs=>∃a c,cs=[.slice a (List.length (α:=t.val) xs) c]∧List.length (α:=t.val) xs≤c∧SRep (α:=t.val) w lim (CRep w lim t) t.size xs a
theorem CRep.length {w:World} {lim:Lim} : ∀ {t:Ty} {x:t.val} {cs:List Value},CRep w lim t x cs→cs.length=t.size
 | .int _,_,_,h=>by cases h;rfl
 | .bool,_,_,h=>by cases h;rfl
 | .str,_,_,h=>by cases h;rfl
 | .unit,_,_,h=>by cases h;rfl
 | .prod a b,_,_,h=>by
   obtain ⟨c1,c2,rfl,h1,h2⟩:=h
   simp [Ty.size,CRep.length h1,CRep.length h2]
 | .slice t,_,_,h=>by obtain ⟨a,c,rfl,_⟩:=h;rfl
structure Ext (w:World) (lim:Lim) (w':World) (lim':Lim):Prop where
 size:w.heap.size≤w'.heap.size
 cell : ∀b o v,b<w.heap.size→under lim b (o+1)→w.cell? ⟨b,o,none⟩=some v→w'.cell? ⟨b,o,none⟩=some v
 lim : ∀b n,b<w.heap.size→under lim b n→under lim' b n
theorem Ext.refl (w:World) (lim:Lim):Ext w lim w lim:=⟨Nat.le_refl _,fun _ _ _ _ _ h=>h,fun _ _ _ h=>h⟩
theorem Ext.trans {w w' w'':World} {l l' l'':Lim} (h:Ext w l w' l') (k:Ext w' l' w'' l''):Ext w l w'' l'':=
 ⟨Nat.le_trans h.size k.size,fun b o v hb hu hc=>k.cell b o v (Nat.lt_of_lt_of_le hb h.size) (h.lim b _ hb hu) (h.cell b o v hb hu hc),
  fun b n hb hu=>k.lim b n (Nat.lt_of_lt_of_le hb h.size) (h.lim b n hb hu)⟩
theorem under_le {lim:Lim} {b n m:Nat} (h:under lim b n) (hm:m≤n):under lim b m:=fun k hk=>Nat.le_trans hm (h k hk)
theorem SRep.mono {α:Type} {w w':World} {lim lim':Lim} (he:Ext w lim w' lim') {R R':α→List Value→Prop} {size:Nat}
 (hs : ∀x cs,R x cs→cs.length=size) (hR : ∀x cs,R x cs→R' x cs) {xs:List α} {a:Option Addr} (h:SRep w lim R size xs a):SRep w' lim' R' size xs a:=by
 rcases h with h|⟨b,o,rfl,hb,hu,hc⟩
 ·exact .inl h
 ·refine .inr ⟨b,o,rfl,Nat.lt_of_lt_of_le hb he.size,he.lim _ _ hb hu,fun i x hx=>?_⟩
  obtain ⟨cs,hr,hcs⟩:=hc i x hx
  refine ⟨cs,hR _ _ hr,fun j v hv=>he.cell _ _ _ hb (under_le hu ?_) (hcs j v hv)⟩
  have hi:i<xs.length:=(List.getElem?_eq_some_iff.1 hx).1
  have hj:j<cs.length:=(List.getElem?_eq_some_iff.1 hv).1
  rw [hs _ _ hr] at hj
  have:(i+1)*size≤xs.length*size:=Nat.mul_le_mul_right _ hi
  rw [Nat.succ_mul] at this
  omega
theorem CRep.mono {w w':World} {lim lim':Lim} (he:Ext w lim w' lim') : ∀ {t:Ty} {x:t.val} {cs:List Value},CRep w lim t x cs→CRep w' lim' t x cs
 | .int _,_,_,h=>h
 | .bool,_,_,h=>h
 | .str,_,_,h=>h
 | .unit,_,_,h=>h
 | .prod a b,_,_,h=>by
   obtain ⟨c1,c2,rfl,h1,h2⟩:=h
   exact ⟨c1,c2,rfl,CRep.mono he h1,CRep.mono he h2⟩
 | .slice t,_,_,h=>by
   obtain ⟨a,c,rfl,hl,hs⟩:=h
   exact ⟨a,c,rfl,hl,hs.mono he (fun _ _ h=>CRep.length h) fun _ _ h=>CRep.mono he h⟩
def wrapV:Ty→List Value→Value
 | .prod _ _,cs=>.agg cs.toArray
 | .unit,cs=>.agg cs.toArray
 | _,cs=>cs.headD undef
def TRep (w:World) (lim:Lim) (t:Ty) (x:t.val) (v:Value):Prop:=∃cs,CRep w lim t x cs∧v=wrapV t cs
theorem TRep.mono {w w':World} {lim lim':Lim} (he:Ext w lim w' lim') {t:Ty} {x:t.val} {v:Value} (h:TRep w lim t x v):TRep w' lim' t x v:=by
 obtain ⟨cs,h,e⟩:=h;exact ⟨cs,h.mono he,e⟩
def notAgg:Value→Prop
 | .agg _=>False
 | .tuple _=>False
 | _=>True
theorem CRep.cells {w:World} {lim:Lim} : ∀ {t:Ty} {x:t.val} {cs:List Value},CRep w lim t x cs→∀v∈cs,notAgg v
 | .int _,_,_,h=>by cases h;simp [notAgg]
 | .bool,_,_,h=>by cases h;simp [notAgg]
 | .str,_,_,h=>by cases h;simp [notAgg]
 | .unit,_,_,h=>by cases h;simp
 | .prod a b,_,_,h=>by
   obtain ⟨c1,c2,rfl,h1,h2⟩:=h
   intro v hv
   rcases List.mem_append.1 hv with hv|hv
   ·exact CRep.cells h1 v hv
   ·exact CRep.cells h2 v hv
 | .slice t,_,_,h=>by obtain ⟨a,c,rfl,_⟩:=h;simp [notAgg]
theorem cells_notAgg {v:Value} (h:notAgg v):v.cells = #[v]:=by cases v<;>first|rfl|exact h.elim
theorem za6 {w:World} {lim:Lim} {t:Ty} {x:t.val} {cs:List Value} (h:CRep w lim t x cs):(wrapV t cs).cells=cs.toArray:=by
 cases t<;>try rfl
 all_goals
  obtain ⟨v,rfl⟩ : ∃v,cs=[v]:=by have:=h.length;exact List.length_eq_one_iff.1 this
  exact cells_notAgg (h.cells v (by simp))
theorem TRep.cells {w:World} {lim:Lim} {t:Ty} {x:t.val} {v:Value} (h:TRep w lim t x v):CRep w lim t x v.cells.toList:=by
 obtain ⟨cs,h,rfl⟩:=h;rw [za6 h];exact h
def TupRep (w:World) (lim:Lim):(t:Ty)→t.val→List Value→Prop
 | .unit,_,vs=>vs=[]
 | .prod a b,x,vs=>∃v vs',vs=v::vs'∧TRep w lim a x.1 v∧TupRep w lim b x.2 vs'
 | _,_,_=>False
theorem TupRep.mono {w w':World} {lim lim':Lim} (he:Ext w lim w' lim') : ∀ {t:Ty} {x:t.val} {vs:List Value},TupRep w lim t x vs→TupRep w' lim' t x vs
 | .unit,_,_,h=>h
 | .prod a b,_,_,h=>by
   obtain ⟨v,vs',rfl,h1,h2⟩:=h
   exact ⟨v,vs',rfl,h1.mono he,TupRep.mono he h2⟩
 | .int _,_,_,h=>h
 | .bool,_,_,h=>h
 | .str,_,_,h=>h
 | .slice _,_,_,h=>h
def offs:Ty→List Nat→Nat
 | .prod a _,0::p=>offs a p
 | .prod a b,(i+1)::p=>a.size+offs b (i::p)
 | _,_=>0
def typeAt:Ty→List Nat→Option Ty
 | t,[]=>some t
 | .prod a _,0::p=>typeAt a p
 | .prod _ b,(i+1)::p=>typeAt b (i::p)
 | .slice e,[0]=>some (.prod (.slice e) .unit)
 | _,_::_=>none
def flatV:Value→List Value
 | .tuple vs=>vs.toList.flatMap fun v=>v.cells.toList
 | v=>v.cells.toList
def blockOf:Value→Option Nat
 | .slice (some a) _ _=>some a.block
 | _=>none
def Tip (w:World) (lim:Lim) (base:Nat→Prop) (sz:Nat) (v:Value):Prop:=
 v = .slice none 0 0∨∃b n c arr e fr,v = .slice (some ⟨b,0,none⟩) n c∧base b∧w.heap[b]?=some (.cells arr e fr) ∧
   (∀o,o<arr.size→¬(fr.1≤o∧o<fr.2))∧n≤c∧c*sz≤arr.size∧lim b=some (n*sz)
def elemAt (w:World) (e:Ty) (v:Value) (i:Nat) (q:List Nat):Option Value:=match v with
 | .slice (some ⟨b,o,none⟩) n _=>if i<n then w.cell? ⟨b,o+i*e.size+offs e q,none⟩ else none
 | _=>none
def OTy:Ty→Bool
 | .slice _=>true
 | .prod (.slice _) .unit=>true
 | _=>false
def Blk (w:World):Ty→Value→Nat→Prop
 | .slice _,v,g=>blockOf v=some g
 | .prod (.slice e) .unit,v,g=>∃i q e' u,typeAt e q=some (.slice e')∧elemAt w e v i q=some u∧blockOf u=some g
 | _,_,_=>False
def OwnT (w:World) (lim:Lim) (base:Nat→Prop):Ty→Value→Prop
 | .slice e,v=>Tip w lim base e.size v
 | .prod (.slice e) .unit,v=>(∀i q e' u,typeAt e q=some (.slice e')→elemAt w e v i q=some u→Tip w lim base e'.size u) ∧
     ∀i q e' u j r e'' u' g,typeAt e q=some (.slice e')→typeAt e r=some (.slice e'')→elemAt w e v i q=some u→elemAt w e v j r=some u'→blockOf u=some g→blockOf u'=some g→i=j∧q=r
 | _,_=>False
def locTy (st:St):Loc→Option Ty
 | .tmp t p=>match (st.env t).av with
   | .dat ty _=>typeAt ty p
   | .tup ty _=>typeAt ty p
   | _=>none
 | .box b p=>match st.box b with
   | some d=>typeAt d.1 p
   | none=>none
def tmpOf (a:Act) (t:Tmp):Value:=a.tmps.getD t undef
structure Mp where
 b:Tmp→Nat
 c:Tmp→Nat
 V:Tmp→Value
 B:Tmp→Nat→Prop
  /-- the slices in the elements of the given tree -/
 K:Nat→List Nat→Value
instance:CoeFun Mp (fun _=>Tmp→Nat):=⟨Mp.b⟩
def mp0:Mp:=⟨fun _=>0,fun _=>0,fun _=>undef,fun _ _=>False,fun _ _=>undef⟩
def locV (st:St) (a:Act) (w:World) (β:Mp):Loc→Option Value
 | .tmp t p=>match (st.env t).av with
   | .dat ty _=>(flatV (tmpOf a t))[offs ty p]?
   | .tup ty _=>(flatV (tmpOf a t))[offs ty p]?
   | _=>none
 | .box b p=>match st.box b with
   | some d=>w.cell? ⟨β b,offs d.1 p,none⟩
   | none=>none
def HasL (st:St) (a:Act) (w:World) (β:Mp) (l:Loc) (g:Nat):Prop:=∃T v,locTy st l=some T∧locV st a w β l=some v∧Blk w T v g
structure Base extends World where
 X:Nat→Prop
 mu:Bool
 V0:Value
def Base.fr (w0:Base) (g:Nat):Prop:=w0.heap.size≤g∨w0.X g
structure Base.grownBy (w0:Base) (w:World) (row:Option Nat):Prop where
 os:w.os=w0.os
 tape:w.tape=w0.tape
 output:w.output=w0.output
 size:w0.heap.size≤w.heap.size
 block : ∀i,i<w0.heap.size→some i≠row→¬w0.X i→w.heap[i]?=w0.heap[i]?
def cellsV:(t:Ty)→t.val→List Value
 | .int k,x=>[.int k x]
 | .bool,x=>[.bool x]
 | .str,x=>[.string ⟨⟨x⟩⟩]
 | .unit,_=>[]
 | .prod a b,x=>cellsV a x.1++cellsV b x.2
 | .slice _,_=>[]
def XRep (w:World):(t:Ty)→t.val→List Value→(Nat→Prop)→Prop
 | .int k,x,cs,B=>cs=[.int k x]∧∀g,¬B g
 | .bool,x,cs,B=>cs=[.bool x]∧∀g,¬B g
 | .str,x,cs,B=>cs=[.string ⟨⟨x⟩⟩]∧∀g,¬B g
 | .unit,_,cs,B=>cs=[]∧∀g,¬B g
 | .prod a b,x,cs,B=>∃c1 c2 B1 B2,cs=c1++c2∧(∀g,B g↔B1 g∨B2 g)∧(∀g,B1 g→¬B2 g)∧XRep w a x.1 c1 B1∧XRep w b x.2 c2 B2
 | .slice t,xs,cs,B=>(cs=[.slice none 0 0]∧List.length (α:=t.val) xs=0∧∀g,¬B g) ∨
   ∃g c arr e fr,∃Bs:Nat→Nat→Prop,cs=[.slice (some ⟨g,0,none⟩) (List.length (α:=t.val) xs) c]∧List.length (α:=t.val) xs≤c∧c*t.size≤arr.size∧w.heap[g]?=some (.cells arr e fr)∧(∀o,o<arr.size→¬(fr.1≤o∧o<fr.2)) ∧
    (∀h,B h↔h=g∨∃i,Bs i h)∧(∀i h,Bs i h→i<List.length (α:=t.val) xs∧h≠g)∧(∀i j h,Bs i h→Bs j h→i=j) ∧
    ∀(i:Nat) (x:t.val),(show List t.val from xs)[i]?=some x→∃ds,XRep w t x ds (Bs i)∧∀j v,ds[j]?=some v→arr[i*t.size+j]?=some v
def NRep:(t:Ty)→t.val→List Value→Prop
 | .int k,x,cs=>cs=[.int k x]
 | .bool,x,cs=>cs=[.bool x]
 | .str,x,cs=>cs=[.string ⟨⟨x⟩⟩]
 | .unit,_,cs=>cs=[]
 | .prod a b,x,cs=>∃c1 c2,cs=c1++c2∧NRep a x.1 c1∧NRep b x.2 c2
 | .slice t,xs,cs=>cs=[.slice none 0 0]∧List.length (α:=t.val) xs=0
def MixOk (st:St) (β:Mp) (d:Dat) (ps:List (List Nat×Tmp×List Nat)) (cs:List Value):Prop:=
 (∃vc,NRep d.1 d.2 vc∧vc.length=cs.length∧∀j,(∀p r q u,(p,r,q)∈ps→typeAt d.1 p=some u→¬(offs d.1 p≤j∧j<offs d.1 p+u.size))→cs[j]?=vc[j]?) ∧
 ∀p r q,(p,r,q)∈ps→∃dr,st.io r=some dr∧(dr.1 = .unit∨∃u,typeAt d.1 p=some u∧typeAt dr.1 q=some u∧(cs.drop (offs d.1 p)).take u.size=((flatV (β.V r)).drop (offs dr.1 q)).take u.size)
def TupSh:Ty→List Value→Prop
 | .unit,vs=>vs=[]
 | .prod a b,vs=>∃v vs' cs,vs=v::vs'∧cs.length=a.size∧v=wrapV a cs∧v.cells.toList=cs∧TupSh b vs'
 | _,_=>False
def ERep (st:St) (w:World) (lim:Lim) (β:Mp) (rb:Option Nat):AV→Value→Prop
 | .any,_=>True
 | .skp,v=>v=undef
 | .nil,v=>v = .slice none 0 0
 | .dat t x,v=>TRep w lim t x v
 | .cel b p,v=>∃d,st.box b=some d∧v = .pointer (some ⟨β b,offs d.1 p,none⟩)
 | .ref t x,v=>∃b o cs,v = .pointer (some ⟨b,o,none⟩)∧b<w.heap.size∧CRep w lim t x cs∧under lim b (o+t.size)∧∀j u,cs[j]?=some u→w.cell? ⟨b,o+j,none⟩=some u
 | .tup t x,v=>∃vs,v = .tuple vs.toArray∧TupRep w lim t x vs
 | .rdr p,v=>∃d b,st.rd=some d∧rb=some b∧v = .pointer (some ⟨b,offs d.1 p,none⟩)
 | .xf r p,v=>∃d,st.io r=some d∧(d.1 = .unit∨∃u,typeAt d.1 p=some u∧v=wrapV u (((flatV (β.V r)).drop (offs d.1 p)).take u.size))
 | .xp r p n q,v=>∃d,st.io r=some d∧(d.1 = .unit∨∃e g m c,typeAt d.1 p=some (.slice e)∧0≤n∧(flatV (β.V r))[offs d.1 p]?=some (.slice (some ⟨g,0,none⟩) m c) ∧
     v = .pointer (some ⟨g,n.toNat*e.size+offs e q,none⟩))
 | .xt r,v=>∃d,st.io r=some d∧(d.1 = .unit∨(v=β.V r∧∃vs,v = .tuple vs.toArray∧TupSh d.1 vs))
 | .cx b p,v=>∃t o,st.xb b=some (t,o)∧v = .pointer (some ⟨β.c b,offs t p,none⟩)
 | .fn f,v=>v = .func (.func f) #[] #[]
 | .mx t x ps,v=>∃cs,v=wrapV t cs∧cs.length=t.size∧(wrapV t cs).cells=cs.toArray∧(∀u∈cs,notAgg u)∧MixOk st β ⟨t,x⟩ ps cs
 | .xe n q,v=>∃d,st.io 0=some d∧v=β.K n.toNat q∧0≤n∧∃g m c,(flatV (β.V 0))[0]?=some (.slice (some ⟨g,0,none⟩) m c)∧n.toNat<m
def KOk (st:St) (w:World) (β:Mp):Prop:=∀d,st.io 0=some d→∀e q e' g m c n,d.1 = .slice e→typeAt e q=some (.slice e') →
 (flatV (β.V 0))[0]?=some (.slice (some ⟨g,0,none⟩) m c)→n<m→w.cell? ⟨g,n*e.size+offs e q,none⟩=some (β.K n q)
structure Own (w0:Base) (rb:Option Nat) (st:St) (a:Act) (w:World) (lim:Lim) (β:Mp):Prop where
 io : ∀r d,st.io r=some d→XRep w d.1 d.2 (flatV (β.V r)) (β.B r)
 base : ∀r d g,st.io r=some d→β.B r g→(w0.heap.size≤g∨w0.X g)∧some g≠rb∧lim g=some 0
 box : ∀r d g,st.io r=some d→β.B r g→∀b d',st.box b=some d'→β b≠g
 own : ∀r d g,st.io r=some d→β.B r g→∀l,st.own l=true→¬HasL st a w β l g
 dis : ∀r d r' d' g,st.io r=some d→st.io r'=some d'→β.B r g→β.B r' g→r=r'
 xb : ∀b t o,st.xb b=some (t,o)→∃cells e,w.heap[β.c b]?=some (.cells cells e (0,0))∧cells.size=t.size∧w0.heap.size≤β.c b∧lim (β.c b)=some 0 ∧
  (∀r q,o=some (r,q)→∃d,st.io r=some d∧(d.1 = .unit∨(typeAt d.1 q=some t∧cells.toList=((flatV (β.V r)).drop (offs d.1 q)).take t.size)))
 xbox : ∀b t o,st.xb b=some (t,o)→(∀c d,st.box c=some d→β c≠β.c b)∧(∀l,st.own l=true→¬HasL st a w β l (β.c b))∧(∀r d,st.io r=some d→¬β.B r (β.c b))
 xinj : ∀b c t o t' o',st.xb b=some (t,o)→st.xb c=some (t',o')→β.c b=β.c c→b=c
 fix : ∀d,st.io 0=some d→w0.mu=true→β.V 0=w0.V0∧β.B 0=w0.X
 kx:KOk st w β
 rbx : ∀b d ps,st.rb b=some (d,ps)→st.xb b=some (d.1,none)∧∃cells e,w.heap[β.c b]?=some (.cells cells e (0,0))∧MixOk st β d ps cells.toList
def RdK (w0:Base) (rb:Option Nat) (rd:Option Dat) (w:World):Prop:=∀d b,rd=some d→rb=some b→∀p e,typeAt d.1 p=some (.slice e)→w.cell? ⟨b,offs d.1 p,none⟩=w0.cell? ⟨b,offs d.1 p,none⟩ ∧
 ∀ad m c,w0.cell? ⟨b,offs d.1 p,none⟩=some (.slice (some ad) m c)→0<m→ad.block<w0.heap.size
def TagOk (av:AV) (tv:Value) (lv:Option Value) (lt:Option Ty):Prop:=
 (lv=some tv∧∃e x,av = .dat (.slice e) x∧lt=some (.slice e)) ∨
 (∃e x g o m c i,av = .ref e x∧lt=some (.prod (.slice e) .unit)∧lv=some (.slice (some ⟨g,o,none⟩) m c)∧i<m∧tv = .pointer (some ⟨g,o+i*e.size,none⟩))
structure Sim (w0:Base) (lim0:Lim) (rb:Option Nat) (n:Nat) (st:St) (a:Act) (w:World) (lim:Lim) (β:Mp):Prop where
 size:a.tmps.size=n
 defers:a.defers=[]
 grow:w0.grownBy w rb
 limOld : ∀b,b<w0.heap.size→¬w0.X b→lim b=lim0 b
 xrb : ∀g,w0.X g→some g≠rb
 rdk:RdK w0 rb st.rd w
 env : ∀t,ERep st w lim β rb (st.env t).av (tmpOf a t)
 box : ∀b d,st.box b=some d→∃cells e,w.heap[β b]?=some (.cells cells e (0,0))∧CRep w lim d.1 d.2 cells.toList∧w0.heap.size≤β b∧lim (β b)=some 0
 inj : ∀b c d d',st.box b=some d→st.box c=some d'→β b=β c→b=c
 own : ∀l,st.own l=true→∃T v,locTy st l=some T∧locV st a w β l=some v∧OwnT w lim w0.fr T v
 ownb : ∀l g,st.own l=true→HasL st a w β l g→∀b d,st.box b=some d→β b≠g
 sep : ∀l l' g,st.own l=true→st.own l'=true→HasL st a w β l g→HasL st a w β l' g→l=l'
 tag : ∀t l,(st.env t).tag=some (true,l)→st.own l=true→TagOk (st.env t).av (tmpOf a t) (locV st a w β l) (locTy st l)
 rd : ∀d,st.rd=some d→∃b cells e,rb=some b∧b<w0.heap.size∧w.heap[b]?=some (.cells cells e (0,0))∧CRep w lim d.1 d.2 cells.toList∧lim b=some 0
 xs:Own w0 rb st a w lim β
end Go.Den
namespace Go.Den
theorem nbeq {a b:Nat} (h:Nat.beq a b=true):a=b:=by rw [Nat.beq_eq] at h;exact h
theorem isT_some {t:Tmp} {d:Option Tmp} : isT t d=true↔d=some t:=by
 cases d with
 | none=>simp [isT]
 | some d=>simp [isT,Nat.beq_eq];exact ⟨fun h=>h.symm,fun h=>h.symm⟩
theorem isT_ne {t:Tmp} {d:Option Tmp} : isT t d=false↔d≠some t:=by
 rw [←Bool.not_eq_true,isT_some]
theorem zjp : ∀ {p q:List Nat},pbeq p q=true↔p=q
 | [],[]=>by simp [pbeq]
 | [],_::_=>by simp [pbeq]
 | _::_,[]=>by simp [pbeq]
 | i::p,j::q=>by
   cases h:Nat.beq i j with
   | true=>have:=nbeq h;simp [pbeq,h,this,zjp (p:=p) (q:=q)]
   | false=>have:i≠j:=fun e=>by subst e;simp at h
            simp [pbeq,h,this]
theorem Loc.beq_iff : ∀ {l m:Loc},Loc.beq l m=true↔l=m
 | .tmp t p,.tmp u q=>by
   cases h:Nat.beq t u with
   | true=>have:=nbeq h;simp [Loc.beq,h,this,zjp]
   | false=>have:t≠u:=fun e=>by subst e;simp at h
            simp [Loc.beq,h,this]
 | .box t p,.box u q=>by
   cases h:Nat.beq t u with
   | true=>have:=nbeq h;simp [Loc.beq,h,this,zjp]
   | false=>have:t≠u:=fun e=>by subst e;simp at h
            simp [Loc.beq,h,this]
 | .tmp _ _,.box _ _=>by simp [Loc.beq]
 | .box _ _,.tmp _ _=>by simp [Loc.beq]
theorem zmh {l:Loc} : ∀ {ls:List Loc},inLocs l ls=true↔l∈ls
 | []=>by simp [inLocs]
 | m::ms=>by
   cases h:Loc.beq l m with
   | true=>simp only [inLocs,h,cnd_true,true_iff];rw [Loc.beq_iff.1 h];exact List.mem_cons_self
   | false=>have:l≠m:=fun e=>by rw [Loc.beq_iff.2 e] at h;cases h
            simp [inLocs,h,this,zmh (ls:=ms)]
theorem zhe {p:List Nat} : ∀ {ps:List (List Nat)},inPaths p ps=true↔p∈ps
 | []=>by simp [inPaths]
 | q::qs=>by
   cases h:pbeq p q with
   | true=>simp only [inPaths,h,cnd_true,true_iff];rw [zjp.1 h];exact List.mem_cons_self
   | false=>have:p≠q:=fun e=>by rw [zjp.2 e] at h;cases h
            simp [inPaths,h,this,zhe (ps:=qs)]
theorem zli {a:Act} {d:Option Tmp} {v:Value} {t:Tmp} (h:d≠some t):tmpOf (a.put d v) t=tmpOf a t:=by
 cases d with
 | none=>rfl
 | some d=>
   have:d≠t:=fun e=>h (by rw [e])
   simp [tmpOf,Act.put,Array.getElem?_setIfInBounds_ne this]
theorem zjh {a:Act} {v:Value} {t:Tmp} (h:t<a.tmps.size):tmpOf (a.put (some t) v) t=v:=by
 simp [tmpOf,Act.put,h]
def newOwn (u:Upd):Loc→Prop
 | .tmp t p=>u.dst=some t∧p∈u.own
 | .box b p=>∃d o q,u.bw=some (b,d,o,q)∧p∈o
def stays (st:St) (u:Upd) (l:Loc):Prop:=
 st.own l=true∧l∉u.takes∧match l with
  | .tmp t _=>u.dst≠some t
  | .box b p=>∀d o q,u.bw=some (b,d,o,q)→pcomp p q=false
theorem zeh {st:St} {u:Upd} {l:Loc} (h:(apply st u).own l=true):newOwn u l∨stays st u l:=by
 cases l with
 | tmp t p=>
   simp only [apply] at h
   cases ht:isT t u.dst with
   | true=>rw [ht] at h;exact .inl ⟨isT_some.1 ht,zhe.1 h⟩
   | false=>
     rw [ht] at h
     cases hl:inLocs (.tmp t p) u.takes with
     | true=>rw [hl] at h;simp at h
     | false=>
       rw [hl] at h
       exact .inr ⟨h,fun hm=>(by rw [zmh.2 hm] at hl;cases hl),isT_ne.1 ht⟩
 | box b p=>
   simp only [apply] at h
   cases hbw:u.bw with
   | none=>
     rw [hbw] at h
     cases hl:inLocs (.box b p) u.takes with
     | true=>rw [hl] at h;simp at h
     | false=>
       rw [hl] at h
       exact .inr ⟨h,fun hm=>(by rw [zmh.2 hm] at hl;cases hl),fun d o q he=>(by rw [hbw] at he;cases he)⟩
   | some x=>
     obtain ⟨c,d,o,q⟩:=x
     rw [hbw] at h
     simp only [] at h
     cases hl:inLocs (.box b p) u.takes with
     | true=>
       rw [hl] at h
       cases hbc:Nat.beq b c with
       | false=>rw [hbc] at h;simp at h
       | true=>
         rw [hbc] at h
         cases hp:inPaths p o with
         | true=>exact .inl ⟨d,o,q,by rw [hbw,nbeq hbc],zhe.1 hp⟩
         | false=>rw [hp] at h;cases hc:pcomp p q<;>rw [hc] at h<;>simp at h
     | false=>
       rw [hl] at h
       have hnt:Loc.box b p∉u.takes:=fun hm=>(by rw [zmh.2 hm] at hl;cases hl)
       cases hbc:Nat.beq b c with
       | false=>
         rw [hbc] at h
         refine .inr ⟨h,hnt,fun d' o' q' he=>?_⟩
         rw [hbw] at he
         injection he with he
         injection he with he _
         rw [he] at hbc;simp at hbc
       | true=>
         rw [hbc] at h
         cases hp:inPaths p o with
         | true=>exact .inl ⟨d,o,q,by rw [hbw,nbeq hbc],zhe.1 hp⟩
         | false=>
           rw [hp] at h
           cases hc:pcomp p q with
           | true=>rw [hc] at h;simp at h
           | false=>
             rw [hc] at h
             refine .inr ⟨h,hnt,fun d' o' q' he=>?_⟩
             rw [hbw] at he
             injection he with he
             injection he with _ he
             injection he with _ he
             injection he with _ he
             rw [←he];exact hc
/-! ### owned places under memory that changes elsewhere -/
theorem zce {e:Ty} {p:List Nat} {u:Ty} (h:typeAt (.slice e) p=some u):(p=[]∧u = .slice e)∨(p=[0]∧u = .prod (.slice e) .unit):=by
 cases p with
 | nil=>simp only [typeAt] at h;injection h with h;exact .inl ⟨rfl,h.symm⟩
 | cons i p=>
   cases i with
   | zero=>cases p with
     | nil=>simp only [typeAt] at h;injection h with h;exact .inr ⟨rfl,h.symm⟩
     | cons j p=>simp [typeAt] at h
   | succ i=>simp [typeAt] at h
theorem zb4 {e e':Ty} {p:List Nat} (h:typeAt (.slice e) p=some (.slice e')):p=[]∧e'=e:=by
 rcases zce h with ⟨h1,h2⟩|⟨_,h2⟩
 ·injection h2 with h2;exact ⟨h1,h2⟩
 ·cases h2
theorem zbf : ∀ {t:Ty} {p:List Nat} {u:Ty},typeAt t p=some u→offs t p+u.size≤t.size:=by
 intro t
 induction t with
 | prod a b iha ihb=>
   intro p u h
   cases p with
   | nil=>simp [typeAt] at h;subst h;simp [offs]
   | cons i p=>
     cases i with
     | zero=>simp only [typeAt] at h;have:=iha h;simp [offs,Ty.size];omega
     | succ i=>simp only [typeAt] at h;have:=ihb h;simp [offs,Ty.size];omega
 | int k=>intro p u h;cases p<;>simp [typeAt] at h;subst h;simp [offs]
 | bool=>intro p u h;cases p<;>simp [typeAt] at h;subst h;simp [offs]
 | str=>intro p u h;cases p<;>simp [typeAt] at h;subst h;simp [offs]
 | unit=>intro p u h;cases p<;>simp [typeAt] at h;subst h;simp [offs]
 | slice t=>
   intro p u h
   rcases zce h with ⟨rfl,rfl⟩|⟨rfl,rfl⟩<;>simp [offs,Ty.size]
theorem zdl {w:World} {lim:Lim} {t:Ty} {x:t.val} {v:Value} (h:TRep w lim t x v):flatV v=v.cells.toList:=by
 obtain ⟨cs,h,rfl⟩:=h
 cases t<;>first
  | rfl
  | (have:=h.length;obtain ⟨u,rfl⟩:=List.length_eq_one_iff.1 this
     have:=h.cells u (by simp)
     cases u<;>first|rfl|exact this.elim)
theorem TupRep.flat {w:World} {lim:Lim} : ∀ {t:Ty} {x:t.val} {vs:List Value},TupRep w lim t x vs→CRep w lim t x (vs.flatMap fun v=>v.cells.toList)
 | .unit,_,_,h=>by have h:_=[]:=h;subst h;rfl
 | .prod a b,_,_,h=>by
   obtain ⟨v,vs',rfl,h1,h2⟩:=h
   exact ⟨_,_,by simp only [List.flatMap_cons],h1.cells,TupRep.flat h2⟩
 | .int _,_,_,h=>h.elim
 | .bool,_,_,h=>h.elim
 | .str,_,_,h=>h.elim
 | .slice _,_,_,h=>h.elim
theorem CRep.vis {w:World} {lim:Lim} : ∀ {t:Ty} {x:t.val} {cs:List Value} {p:List Nat} {T:Ty},CRep w lim t x cs→typeAt t p=some T→OTy T=true →
 ∃e,(T = .slice e∨T = .prod (.slice e) .unit)∧∃(xs:(Ty.slice e).val) (v:Value),cs[offs t p]?=some v∧CRep w lim (.slice e) xs [v]:=by
 intro t
 induction t with
 | slice e _=>
   intro x cs p T h ht _
   obtain ⟨a,c,rfl,h1,h2⟩:=h
   rcases zce ht with ⟨rfl,rfl⟩|⟨rfl,rfl⟩
   ·exact ⟨e,.inl rfl,x,_,by simp [offs],a,c,rfl,h1,h2⟩
   ·exact ⟨e,.inr rfl,x,_,by simp [offs],a,c,rfl,h1,h2⟩
 | prod p' q' ihp ihq=>
   intro x cs p T h ht ho
   obtain ⟨c1,c2,rfl,h1,h2⟩:=h
   cases p with
   | nil=>
     simp only [typeAt] at ht;injection ht with ht;subst ht
     cases p' with
     | slice e=>
       cases q' with
       | unit=>
         obtain ⟨a,c,rfl,h3,h4⟩:=h1
         exact ⟨e,.inr rfl,x.1,_,by simp [offs],a,c,rfl,h3,h4⟩
       | _=>cases ho
     | _=>cases ho
   | cons i p=>
     cases i with
     | zero=>
       simp only [typeAt] at ht
       obtain ⟨e,k1,xs,v,k2,k3⟩:=ihp h1 ht ho
       exact ⟨e,k1,xs,v,by simp only [offs];rw [List.getElem?_append_left (List.getElem?_eq_some_iff.1 k2).1];exact k2,k3⟩
     | succ i=>
       simp only [typeAt] at ht
       obtain ⟨e,k1,xs,v,k2,k3⟩:=ihq h2 ht ho
       refine ⟨e,k1,xs,v,?_,k3⟩
       simp only [offs]
       rw [List.getElem?_append_right (by rw [h1.length];omega),h1.length,show p'.size+offs q' (i::p)-p'.size=offs q' (i::p) by omega];exact k2
 | int k=>intro x cs p T h ht ho;cases p<;>simp [typeAt] at ht;subst ht;cases ho
 | bool=>intro x cs p T h ht ho;cases p<;>simp [typeAt] at ht;subst ht;cases ho
 | str=>intro x cs p T h ht ho;cases p<;>simp [typeAt] at ht;subst ht;cases ho
 | unit=>intro x cs p T h ht ho;cases p<;>simp [typeAt] at ht;subst ht;cases ho
theorem oty_size {T:Ty} (h:OTy T=true):T.size=1:=by
 unfold OTy at h
 split at h
 ·rfl
 ·rfl
 ·cases h
theorem OwnT.oty {w:World} {lim:Lim} {base:Nat→Prop} {T:Ty} {v:Value} (h:OwnT w lim base T v):OTy T=true:=by
 unfold OwnT at h
 split at h
 ·rfl
 ·rfl
 ·exact h.elim
theorem Blk.oty {w:World} {T:Ty} {v:Value} {g:Nat} (h:Blk w T v g):OTy T=true:=by
 unfold Blk at h
 split at h
 ·rfl
 ·rfl
 ·exact h.elim
theorem elemAt_ext {w w':World} {lim lim':Lim} (he:Ext w lim w' lim') {e:Ty} {xs:(Ty.slice e).val} {v:Value} (h:CRep w lim (.slice e) xs [v]) {i:Nat} {q:List Nat} {e':Ty} (hq:typeAt e q=some (.slice e')) :
 elemAt w' e v i q=elemAt w e v i q:=by
 obtain ⟨a,c,hv,hl,hs⟩:=h
 injection hv with hv _
 subst hv
 have hlt:=zbf hq
 have hs1:(Ty.slice e').size=1:=rfl
 rcases hs with hs|⟨b,o,rfl,hb,hu,hc⟩
 ·rw [show List.length (α:=e.val) xs=0 by rw [hs];rfl]
  unfold elemAt
  split
  ·rename_i b o n c' heq
   injection heq with _ h2 _
   subst h2
   simp
  ·rfl
 ·simp only [elemAt]
  split
  ·rename_i hi
   obtain ⟨ds,k1,k2⟩:=hc i _ (List.getElem?_eq_getElem hi)
   have hd:=k1.length
   have hj:offs e q<ds.length:=by omega
   have k3:=k2 _ _ (List.getElem?_eq_getElem hj)
   rw [k3]
   have hm:(i+1)*e.size≤List.length (α:=e.val) xs*e.size:=Nat.mul_le_mul_right _ hi
   rw [Nat.succ_mul] at hm
   exact he.cell _ _ _ hb (under_le hu (by omega)) k3
  ·rfl
theorem Blk_ext {w w':World} {lim lim':Lim} (he:Ext w lim w' lim') {e:Ty} {T:Ty} (hT:T = .slice e∨T = .prod (.slice e) .unit) {xs:(Ty.slice e).val} {v:Value} (h:CRep w lim (.slice e) xs [v]) {g:Nat} :
 Blk w' T v g↔Blk w T v g:=by
 rcases hT with rfl|rfl
 ·exact Iff.rfl
 ·constructor
  ·rintro ⟨i,q,e',u,h1,h2,h3⟩
   exact ⟨i,q,e',u,h1,by rw [←elemAt_ext he h h1];exact h2,h3⟩
  ·rintro ⟨i,q,e',u,h1,h2,h3⟩
   exact ⟨i,q,e',u,h1,by rw [elemAt_ext he h h1];exact h2,h3⟩
theorem Tip.keep {w w':World} {lim lim':Lim} {base:Nat→Prop} {sz:Nat} {x:Value} (ht:Tip w lim base sz x) (hg : ∀g,blockOf x=some g→w'.heap[g]?=w.heap[g]?∧lim' g=lim g):Tip w' lim' base sz x:=by
 rcases ht with ht|⟨b,m,c,arr,e,fr,rfl,h1,h2,h3,h4,h5,h6⟩
 ·exact .inl ht
 ·obtain ⟨k1,k2⟩:=hg b rfl
  exact .inr ⟨b,m,c,arr,e,fr,rfl,h1,k1.trans h2,h3,h4,h5,k2.trans h6⟩
theorem OwnT_ext {w w':World} {lim lim':Lim} (he:Ext w lim w' lim') {base:Nat→Prop} {e:Ty} {T:Ty} (hT:T = .slice e∨T = .prod (.slice e) .unit) {xs:(Ty.slice e).val} {v:Value} (h:CRep w lim (.slice e) xs [v])
 (ho:OwnT w lim base T v) (hg : ∀g,Blk w T v g→w'.heap[g]?=w.heap[g]?∧lim' g=lim g):OwnT w' lim' base T v:=by
 rcases hT with rfl|rfl
 ·exact Tip.keep ho hg
 ·obtain ⟨h1,h2⟩:=ho
  refine ⟨fun i q e' u hq hu=>?_,fun i q e' u j r e'' u' g hq hr hu hu' hg1 hg2=>?_⟩
  ·rw [elemAt_ext he h hq] at hu
   exact (h1 i q e' u hq hu).keep fun g hgu=>hg g ⟨i,q,e',u,hq,hu,hgu⟩
  ·rw [elemAt_ext he h hq] at hu
   rw [elemAt_ext he h hr] at hu'
   exact h2 i q e' u j r e'' u' g hq hr hu hu' hg1 hg2
theorem OwnT.lt {w:World} {lim:Lim} {base:Nat→Prop} {T:Ty} {v:Value} {g:Nat} (h:OwnT w lim base T v) (hg:Blk w T v g):g<w.heap.size∧base g:=by
 have key : ∀ {sz:Nat} {x:Value},Tip w lim base sz x→blockOf x=some g→g<w.heap.size∧base g:=by
  intro sz x h3 hg
  rcases h3 with h3|⟨b,m,c,arr,e',fr,h3,h4,h5,_⟩
  ·rw [h3] at hg;cases hg
  ·rw [h3] at hg;injection hg with hg;subst hg
   exact ⟨(Array.getElem?_eq_some_iff.1 h5).1,h4⟩
 unfold OwnT at h
 split at h
 ·exact key h hg
 ·obtain ⟨i,q,e',u,k1,k2,k3⟩:=hg
  exact key (h.1 i q e' u k1 k2) k3
 ·exact h.elim
theorem Tip.below {w:World} {lim:Lim} {base base':Nat→Prop} {sz:Nat} {x:Value} (h:Tip w lim base sz x) (hb : ∀g,base g→base' g):Tip w lim base' sz x:=by
 rcases h with h|⟨b,m,cc,arr,el,fr,q1,q2,q3⟩
 ·exact .inl h
 ·exact .inr ⟨b,m,cc,arr,el,fr,q1,hb _ q2,q3⟩
theorem OwnT.below {w:World} {lim:Lim} {base base':Nat→Prop} {T:Ty} {v:Value} (h:OwnT w lim base T v) (hb : ∀g,base g→base' g):OwnT w lim base' T v:=by
 unfold OwnT at h ⊢
 split at h
 ·exact h.below hb
 ·exact ⟨fun i q e' u hq hu=>(h.1 i q e' u hq hu).below hb,h.2⟩
 ·exact h.elim
theorem OwnT.relim {w:World} {lim lim':Lim} {base:Nat→Prop} {T:Ty} {v:Value} (h:OwnT w lim base T v) (hl : ∀g,Blk w T v g→lim' g=lim g):OwnT w lim' base T v:=by
 unfold OwnT at h ⊢
 split at h
 ·exact Tip.keep h fun g hg=>⟨rfl,hl g hg⟩
 ·exact ⟨fun i q e' u hq hu=>(h.1 i q e' u hq hu).keep fun g hg=>⟨rfl,hl g ⟨i,q,e',u,hq,hu,hg⟩⟩,h.2⟩
 ·exact h.elim
theorem OwnT.nil {w:World} {lim:Lim} {base:Nat→Prop} {T:Ty} (h:OTy T=true):OwnT w lim base T (.slice none 0 0):=by
 unfold OTy at h
 split at h
 ·exact .inl rfl
 ·exact ⟨fun i q e' u _ hu=>(by cases hu),fun i q e' u j r e'' u' g _ _ hu=>(by cases hu)⟩
 ·cases h
theorem Blk.nil {w:World} {T:Ty} {g:Nat} (h:Blk w T (.slice none 0 0) g):False:=by
 unfold Blk at h
 split at h
 ·cases h
 ·obtain ⟨i,q,e',u,_,h,_⟩:=h;cases h
 ·exact h
section
variable {w0:Base} {lim0:Lim} {rb:Option Nat} {n:Nat}
theorem apply_rb {st:St} {u:Upd} (h:u.rw=none):(apply st u).rb=st.rb:=by simp [apply,h]
theorem MixOk.mono {st st':St} {β β':Mp} (hx : ∀r d,st.io r=some d→∃d',st'.io r=some d'∧(d'.1 = .unit∨(d'.1=d.1∧β'.V r=β.V r))) {d:Dat} {ps:List (List Nat×Tmp×List Nat)} {cs:List Value} (h:MixOk st β d ps cs):MixOk st' β' d ps cs:=by
 refine ⟨h.1,fun p r q hp=>?_⟩
 obtain ⟨dr,h1,h2⟩:=h.2 p r q hp
 obtain ⟨d',k1,k2⟩:=hx r dr h1
 refine ⟨d',k1,?_⟩
 rcases k2 with k2|⟨k2,k3⟩
 ·exact .inl k2
 ·rw [k2,k3];exact h2
theorem ERep.mono {st st':St} {w w':World} {lim lim':Lim} {β β':Mp} (he:Ext w lim w' lim')
 (hb : ∀b d,st.box b=some d→β' b=β b∧∃d',st'.box b=some d'∧d'.1=d.1)
 (hr : ∀d,st.rd=some d→∃d',st'.rd=some d'∧d'.1=d.1)
 (hx : ∀r d,st.io r=some d→∃d',st'.io r=some d'∧d'.1=d.1∧β'.V r=β.V r)
 (hc : ∀b t o,st.xb b=some (t,o)→(∃o',st'.xb b=some (t,o'))∧β'.c b=β.c b) (hK:β'.K=β.K:=by rfl) : ∀ {av:AV} {v:Value},ERep st w lim β rb av v→ERep st' w' lim' β' rb av v
 | .any,_,h=>h
 | .skp,_,h=>h
 | .nil,_,h=>h
 | .fn _,_,h=>h
 | .dat _ _,_,h=>TRep.mono he h
 | .cel b p,_,h=>by
   obtain ⟨d,h1,h2⟩:=h
   obtain ⟨e,d',h3,h4⟩:=hb b d h1
   exact ⟨d',h3,by rw [h2,e,h4]⟩
 | .ref t x,_,h=>by
   obtain ⟨b,o,cs,rfl,h1,h2,h3,h4⟩:=h
   refine ⟨b,o,cs,rfl,Nat.lt_of_lt_of_le h1 he.size,h2.mono he,he.lim _ _ h1 h3,fun j u hu=>he.cell _ _ _ h1 (under_le h3 ?_) (h4 j u hu)⟩
   have:=(List.getElem?_eq_some_iff.1 hu).1
   rw [h2.length] at this
   omega
 | .tup t x,_,h=>by
   obtain ⟨vs,rfl,h1⟩:=h
   exact ⟨vs,rfl,h1.mono he⟩
 | .rdr p,_,h=>by
   obtain ⟨d,b,h1,h2,h3⟩:=h
   obtain ⟨d',h4,h5⟩:=hr d h1
   exact ⟨d',b,h4,h2,by rw [h3,h5]⟩
 | .xf r p,_,h=>by
   obtain ⟨d,h1,h2⟩:=h
   obtain ⟨d',h4,h5,h6⟩:=hx r d h1
   refine ⟨d',h4,?_⟩
   rw [h5,h6];exact h2
 | .xp r p n q,_,h=>by
   obtain ⟨d,h1,h2⟩:=h
   obtain ⟨d',k1,k2,k3⟩:=hx r d h1
   refine ⟨d',k1,?_⟩
   rw [k2,k3];exact h2
 | .xt r,_,h=>by
   obtain ⟨d,h1,h2⟩:=h
   obtain ⟨d',k1,k2,k3⟩:=hx r d h1
   refine ⟨d',k1,?_⟩
   rw [k2,k3];exact h2
 | .cx b p,_,h=>by
   obtain ⟨t,o,h1,h2⟩:=h
   obtain ⟨⟨o',k1⟩,k2⟩:=hc b t o h1
   exact ⟨t,o',k1,by rw [h2,k2]⟩
 | .xe n q,_,h=>by
   obtain ⟨d,h1,h2,h3,h4⟩:=h
   obtain ⟨d',k1,_,k3⟩:=hx 0 d h1
   exact ⟨d',k1,by rw [hK];exact h2,h3,by rw [k3];exact h4⟩
 | .mx t x ps,_,h=>by
   obtain ⟨cs,h1,h2,h3,h5,h4⟩:=h
   exact ⟨cs,h1,h2,h3,h5,h4.mono fun r d hr=>by
    obtain ⟨d',k1,k2,k3⟩:=hx r d hr
    exact ⟨d',k1,.inr ⟨k2,k3⟩⟩⟩
def isTree (st:St) (β:Mp) (g:Nat):Prop:=(∃r d,st.io r=some d∧β.B r g)∨∃b t o,st.xb b=some (t,o)∧g=β.c b
theorem XRep.lt {w:World} : ∀ {t:Ty} {x:t.val} {cs:List Value} {B:Nat→Prop},XRep w t x cs B→∀g,B g→g<w.heap.size
 | .int _,_,_,_,h,g,hg=>(h.2 g hg).elim
 | .bool,_,_,_,h,g,hg=>(h.2 g hg).elim
 | .str,_,_,_,h,g,hg=>(h.2 g hg).elim
 | .unit,_,_,_,h,g,hg=>(h.2 g hg).elim
 | .prod a b,_,_,_,h,g,hg=>by
   obtain ⟨c1,c2,B1,B2,_,h2,_,h4,h5⟩:=h
   rcases (h2 g).1 hg with hg|hg
   ·exact XRep.lt h4 g hg
   ·exact XRep.lt h5 g hg
 | .slice t,xs,_,_,h,g,hg=>by
   rcases h with ⟨_,_,h⟩|⟨g',c,arr,e,fr,Bs,_,_,_,h4,_,h5,h6,_,h8⟩
   ·exact (h g hg).elim
   ·rcases (h5 g).1 hg with h'|⟨i,hi⟩
    ·subst h';exact (Array.getElem?_eq_some_iff.1 h4).1
    ·have hl:=(h6 i g hi).1
     obtain ⟨ds,k1,_⟩:=h8 i _ (List.getElem?_eq_getElem hl)
     exact XRep.lt k1 g hi
theorem XRep.keep {w w':World} : ∀ {t:Ty} {x:t.val} {cs:List Value} {B:Nat→Prop},XRep w t x cs B→(∀g,B g→w'.heap[g]?=w.heap[g]?)→XRep w' t x cs B
 | .int _,_,_,_,h,_=>h
 | .bool,_,_,_,h,_=>h
 | .str,_,_,_,h,_=>h
 | .unit,_,_,_,h,_=>h
 | .prod a b,_,_,_,h,hk=>by
   obtain ⟨c1,c2,B1,B2,h1,h2,h3,h4,h5⟩:=h
   exact ⟨c1,c2,B1,B2,h1,h2,h3,XRep.keep h4 (fun g hg=>hk g ((h2 g).2 (.inl hg))),XRep.keep h5 (fun g hg=>hk g ((h2 g).2 (.inr hg)))⟩
 | .slice t,_,_,_,h,hk=>by
   rcases h with h|⟨g,c,arr,e,fr,Bs,h1,h2,h3,h4,hf,h5,h6,h7,h8⟩
   ·exact .inl h
   ·refine .inr ⟨g,c,arr,e,fr,Bs,h1,h2,h3,(hk g ((h5 g).2 (.inl rfl))).trans h4,hf,h5,h6,h7,fun i x hx=>?_⟩
    obtain ⟨ds,k1,k2⟩:=h8 i x hx
    exact ⟨ds,XRep.keep k1 (fun g' hg'=>hk g' ((h5 g').2 (.inr ⟨i,hg'⟩))),k2⟩
theorem XRep.congr {w:World} : ∀ {t:Ty} {x:t.val} {cs:List Value} {B B':Nat→Prop},XRep w t x cs B→(∀g,B' g↔B g)→XRep w t x cs B'
 | .int _,_,_,_,_,h,hB=>⟨h.1,fun g hg=>h.2 g ((hB g).1 hg)⟩
 | .bool,_,_,_,_,h,hB=>⟨h.1,fun g hg=>h.2 g ((hB g).1 hg)⟩
 | .str,_,_,_,_,h,hB=>⟨h.1,fun g hg=>h.2 g ((hB g).1 hg)⟩
 | .unit,_,_,_,_,h,hB=>⟨h.1,fun g hg=>h.2 g ((hB g).1 hg)⟩
 | .prod a b,_,_,_,_,h,hB=>by
   obtain ⟨c1,c2,B1,B2,h1,h2,h3,h4,h5⟩:=h
   exact ⟨c1,c2,B1,B2,h1,fun g=>(hB g).trans (h2 g),h3,h4,h5⟩
 | .slice t,_,_,_,_,h,hB=>by
   rcases h with ⟨h1,h2,h3⟩|⟨g,c,arr,e,fr,Bs,h1,h2,h3,h4,hf,h5,h6⟩
   ·exact .inl ⟨h1,h2,fun g hg=>h3 g ((hB g).1 hg)⟩
   ·exact .inr ⟨g,c,arr,e,fr,Bs,h1,h2,h3,h4,hf,fun k=>(hB k).trans (h5 k),h6⟩
theorem Own.lt {st:St} {a:Act} {w:World} {lim:Lim} {β:Mp} (h:Own w0 rb st a w lim β) {g:Nat} (hg:isTree st β g):g<w.heap.size∧(w0.heap.size≤g∨w0.X g)∧lim g=some 0:=by
 rcases hg with ⟨r,d,h1,h2⟩|⟨b,t,o,h1,rfl⟩
 ·exact ⟨(h.io r d h1).lt g h2,(h.base r d g h1 h2).1,(h.base r d g h1 h2).2.2⟩
 ·obtain ⟨cells,e,h2,_,h3,h4,_⟩:=h.xb b t o h1
  exact ⟨(Array.getElem?_eq_some_iff.1 h2).1,.inl h3,h4⟩
theorem Own.off {st:St} {a:Act} {w:World} {lim:Lim} {β:Mp} (h:Own w0 rb st a w lim β) {m:Loc} {g:Nat} (h3:st.own m=true) (h4:HasL st a w β m g) : ¬isTree st β g:=by
 intro ht
 rcases ht with ⟨r,d',h1,h2⟩|⟨c,t,o,h1,h2⟩
 ·exact h.own r d' g h1 h2 m h3 h4
 ·rw [h2] at h4;exact (h.xbox c t o h1).2.1 m h3 h4
theorem Own.offb {st:St} {a:Act} {w:World} {lim:Lim} {β:Mp} (h:Own w0 rb st a w lim β) {b:Tmp} {d:Dat} (hbd:st.box b=some d) : ¬isTree st β (β b):=by
 intro ht
 rcases ht with ⟨r,d',h1,h2⟩|⟨c,t,o,h1,h2⟩
 ·exact h.box r d' _ h1 h2 b d hbd rfl
 ·exact (h.xbox c t o h1).1 b d hbd h2
theorem XRep.head {w:World} {e:Ty} {x:(Ty.slice e).val} {cs:List Value} {B:Nat→Prop} (h:XRep w (.slice e) x cs B) {g m c:Nat} (hc:cs[0]?=some (.slice (some ⟨g,0,none⟩) m c)):B g∧m=List.length (α:=e.val) x:=by
 rcases h with ⟨h1,_⟩|⟨g',c',arr,el,fr,Bs,h1,_,_,_,_,h5,_⟩
 ·rw [h1] at hc;cases hc
 ·rw [h1] at hc
  injection hc with hc
  injection hc with k1 k2 k3
  injection k1 with k1
  injection k1 with k1
  exact ⟨(h5 g).2 (.inl k1.symm),k2.symm⟩
theorem cell_keep {w w':World} {g o:Nat} (h:w'.heap[g]?=w.heap[g]?):w'.cell? ⟨g,o,none⟩=w.cell? ⟨g,o,none⟩:=by
 simp only [World.cell?,h]
theorem KOk.keep {st st':St} {w w':World} {β β':Mp} (h:KOk st w β) (hX : ∀d,st.io 0=some d→XRep w d.1 d.2 (flatV (β.V 0)) (β.B 0))
 (hio : ∀d',st'.io 0=some d'→d'.1≠.unit→∃d,st.io 0=some d∧d'.1=d.1∧β'.V 0=β.V 0) (hK:β'.K=β.K) (hk : ∀d,st.io 0=some d→∀g,β.B 0 g→w'.heap[g]?=w.heap[g]?):KOk st' w' β':=by
 intro d' hd' e q e' g m c n he hq hV hn
 obtain ⟨d,h1,h2,h3⟩:=hio d' hd' (by rw [he];intro h;cases h)
 rw [h3] at hV
 have hx:=hX d h1
 have he':=h2.symm.trans he
 obtain ⟨dt,dv⟩:=d
 simp only at he' hx
 subst he'
 rw [hK,cell_keep (hk _ h1 g (hx.head hV).1)]
 exact h _ h1 e q e' g m c n rfl hq hV hn
theorem Own.rb_none {st:St} {a:Act} {w:World} {lim:Lim} {β:Mp} (h:Own w0 rb st a w lim β) {b:Tmp} (hb:st.xb b=none):st.rb b=none:=by
 cases hq:st.rb b with
 | none=>rfl
 | some x=>
   obtain ⟨d,ps⟩:=x
   have:=(h.rbx b d ps hq).1
   rw [hb] at this;cases this
theorem Own.rbx_keep {st st':St} {a:Act} {w w':World} {lim:Lim} {β β':Mp} (h:Own w0 rb st a w lim β) (hrb:st'.rb=st.rb)
 (hxb : ∀b t,st.xb b=some (t,none)→st.rb b≠none→st'.xb b=some (t,none)∧β'.c b=β.c b∧w'.heap[β.c b]?=w.heap[β.c b]?)
 (hx : ∀r d,st.io r=some d→∃d',st'.io r=some d'∧(d'.1 = .unit∨(d'.1=d.1∧β'.V r=β.V r))) :
 ∀b d ps,st'.rb b=some (d,ps)→st'.xb b=some (d.1,none)∧∃cells e,w'.heap[β'.c b]?=some (.cells cells e (0,0))∧MixOk st' β' d ps cells.toList:=by
 intro b d ps hb
 rw [hrb] at hb
 obtain ⟨h1,cells,e,h2,h3⟩:=h.rbx b d ps hb
 obtain ⟨k1,k2,k3⟩:=hxb b _ h1 (by rw [hb];simp)
 exact ⟨k1,cells,e,by rw [k2];exact k3.trans h2,h3.mono hx⟩
theorem Own.keep {st st':St} {a a':Act} {w w':World} {lim lim':Lim} {β β':Mp} (h:Own w0 rb st a w lim β) (hio:st'.io=st.io) (hxb:st'.xb=st.xb)
 (hV : ∀r d,st.io r=some d→β'.V r=β.V r∧β'.B r=β.B r) (hβ : ∀b t o,st.xb b=some (t,o)→β'.c b=β.c b)
 (hk : ∀g,isTree st β g→w'.heap[g]?=w.heap[g]?∧lim' g=lim g)
 (hbox : ∀b d,st'.box b=some d→¬isTree st β (β' b))
 (hown : ∀l g,st'.own l=true→HasL st' a' w' β' l g→¬isTree st β g) (hK:β'.K=β.K:=by rfl) (hrbk:st'.rb=st.rb:=by rfl):Own w0 rb st' a' w' lim' β':=by
 have tr : ∀r d g,st.io r=some d→β'.B r g→isTree st β g:=fun r d g h1 h2=>.inl ⟨r,d,h1,by rw [←(hV r d h1).2];exact h2⟩
 refine ⟨fun r d hr=>?_,fun r d g hr hg=>?_,fun r d g hr hg b d' hb he=>?_,fun r d g hr hg l hl hg'=>?_,fun r d r' d' g hr hr' hg hg'=>?_,fun b t o hb=>?_,fun b t o hb=>?_,fun b c t o t' o' hb hc he=>?_,fun d hd hm=>?_,?_,fun b d ps hb=>?_⟩
 ·rw [hio] at hr
  have h2:=h.io r d hr
  rw [(hV r d hr).1,(hV r d hr).2]
  exact h2.keep fun g hg=>(hk g (.inl ⟨r,d,hr,hg⟩)).1
 ·rw [hio] at hr
  have ht:=tr r d g hr hg
  rw [(hV r d hr).2] at hg
  obtain ⟨h1,h2,h3⟩:=h.base r d g hr hg
  exact ⟨h1,h2,(hk g ht).2.trans h3⟩
 ·rw [hio] at hr;exact hbox b d' hb (by rw [he];exact tr r d g hr hg)
 ·rw [hio] at hr;exact hown l g hl hg' (tr r d g hr hg)
 ·rw [hio] at hr hr'
  rw [(hV r d hr).2] at hg
  rw [(hV r' d' hr').2] at hg'
  exact h.dis r d r' d' g hr hr' hg hg'
 ·rw [hxb] at hb
  obtain ⟨cells,e,h1,h2,h3,h4,h5⟩:=h.xb b t o hb
  have:=hk (β.c b) (.inr ⟨b,t,o,hb,rfl⟩)
  rw [hβ b t o hb]
  refine ⟨cells,e,this.1.trans h1,h2,h3,this.2.trans h4,fun r q ho=>?_⟩
  obtain ⟨d,k1,k2⟩:=h5 r q ho
  exact ⟨d,by rw [hio];exact k1,by rw [(hV r d k1).1];exact k2⟩
 ·rw [hxb] at hb
  have ht:isTree st β (β.c b):=.inr ⟨b,t,o,hb,rfl⟩
  rw [hβ b t o hb]
  refine ⟨fun c d hc he=>hbox c d hc (by rw [he];exact ht),fun l hl hg=>hown l _ hl hg ht,fun r d hr hg=>?_⟩
  rw [hio] at hr
  rw [(hV r d hr).2] at hg
  exact (h.xbox b t o hb).2.2 r d hr hg
 ·rw [hxb] at hb hc
  rw [hβ b t o hb,hβ c t' o' hc] at he
  exact h.xinj b c t o t' o' hb hc he
 ·rw [hio] at hd
  rw [(hV 0 d hd).1,(hV 0 d hd).2]
  exact h.fix d hd hm
 ·exact h.kx.keep (fun d hd=>h.io 0 d hd) (fun d hd _=>⟨d,by rw [←hio];exact hd,rfl,(hV 0 d (by rw [←hio];exact hd)).1⟩) hK (fun d hd g hg=>(hk g (.inl ⟨0,d,hd,hg⟩)).1)
 ·rw [hrbk] at hb
  obtain ⟨h1,cells,e,h2,h3⟩:=h.rbx b d ps hb
  refine ⟨by rw [hxb];exact h1,cells,e,?_,h3.mono fun r dr hr=>⟨dr,by rw [hio];exact hr,.inr ⟨rfl,(hV r dr hr).1⟩⟩⟩
  rw [hβ b _ _ h1]
  exact (hk (β.c b) (.inr ⟨b,_,_,h1,rfl⟩)).1.trans h2
theorem Sim.vis {st:St} {a:Act} {w:World} {lim:Lim} {β:Mp} (h:Sim w0 lim0 rb n st a w lim β) {l:Loc} {T:Ty} {v:Value} (hT:locTy st l=some T) (hv:locV st a w β l=some v) (ho:OTy T=true) :
 ∃e,(T = .slice e∨T = .prod (.slice e) .unit)∧∃xs:(Ty.slice e).val,CRep w lim (.slice e) xs [v]:=by
 have fin : ∀ {t:Ty} {x:t.val} {cs:List Value} {p:List Nat},CRep w lim t x cs→typeAt t p=some T→cs[offs t p]?=some v→∃e,(T = .slice e∨T = .prod (.slice e) .unit)∧∃xs:(Ty.slice e).val,CRep w lim (.slice e) xs [v]:=by
  intro t x cs p hc ht hv
  obtain ⟨e,k1,xs,v',k2,k3⟩:=hc.vis ht ho
  rw [hv] at k2;injection k2 with k2;subst k2
  exact ⟨e,k1,xs,k3⟩
 cases l with
 | tmp t p=>
   have he:=h.env t
   simp only [locTy] at hT
   simp only [locV] at hv
   cases hav:(st.env t).av with
   | dat ty x=>
     rw [hav] at hT hv he
     have he:TRep w lim ty x (tmpOf a t):=he
     have hf:flatV (tmpOf a t)=(tmpOf a t).cells.toList:=zdl he
     simp only [hf] at hv
     exact fin he.cells hT hv
   | tup ty x=>
     rw [hav] at hT hv he
     obtain ⟨vs,e1,e2⟩:=he
     simp only [e1,flatV] at hv
     exact fin e2.flat hT hv
   | _=>rw [hav] at hT;cases hT
 | box b p=>
   simp only [locTy] at hT
   simp only [locV] at hv
   cases hb:st.box b with
   | none=>rw [hb] at hT;cases hT
   | some d=>
     rw [hb] at hT hv
     obtain ⟨cells,e,h1,h2,_⟩:=h.box b d hb
     refine fin h2 hT ?_
     simp only [World.cell?,h1] at hv
     simpa using hv
theorem Sim.hasL {st:St} {a:Act} {w:World} {lim:Lim} {β:Mp} (h:Sim w0 lim0 rb n st a w lim β) {l:Loc} {T:Ty} {v:Value} (hT:locTy st l=some T) (hv:locV st a w β l=some v) {g:Nat} (hg:HasL st a w β l g):Blk w T v g:=by
 obtain ⟨T',v',k1,k2,k3⟩:=hg
 rw [hT] at k1;injection k1 with k1;subst k1
 rw [hv] at k2;injection k2 with k2;subst k2
 exact k3
theorem Sim.step {st:St} {a:Act} {w:World} {lim:Lim} {β:Mp} (h:Sim w0 lim0 rb n st a w lim β)
 (u:Upd) (v:Value) (w':World) (lim':Lim) (β':Mp)
 (hd : ∀d,u.dst=some d→d<n)
 (hext:Ext w lim w' lim') (hgrow:w0.grownBy w' rb) (hlim : ∀b,b<w0.heap.size→¬w0.X b→lim' b=lim b)
 (hβ : ∀b d,st.box b=some d→β' b=β b)
 (hval : ∀d,u.dst=some d→ERep (apply st u) w' lim' β' rb u.ent.av v)
 (hbk : ∀b d,st.box b=some d→(∀d' o q,u.bw≠some (b,d',o,q))→w'.heap[β b]?=w.heap[β b]?∧lim' (β b)=lim (β b))
 (hok : ∀l g,stays st u l→HasL st a w β l g→w'.heap[g]?=w.heap[g]?∧lim' g=lim g)
 (hbw : ∀c d o q,u.bw=some (c,d,o,q)→(∃cells e,w'.heap[β' c]?=some (.cells cells e (0,0))∧CRep w' lim' d.1 d.2 cells.toList∧w0.heap.size≤β' c∧lim' (β' c)=some 0) ∧
   (∀b d',b≠c→st.box b=some d'→β b≠β' c) ∧
   (∀l g,stays st u l→HasL st a w β l g→g≠β' c) ∧
   (∀d0,st.box c=some d0→d0.1=d.1∧∀p T,st.own (.box c p)=true→typeAt d0.1 p=some T→OTy T=true→pcomp p q=false→w'.cell? ⟨β' c,offs d.1 p,none⟩=w.cell? ⟨β c,offs d0.1 p,none⟩))
 (hnew : ∀l,newOwn u l→∃T x,locTy (apply st u) l=some T∧locV (apply st u) (a.put u.dst v) w' β' l=some x∧OwnT w' lim' w0.fr T x)
 (hnewb : ∀l g,newOwn u l→HasL (apply st u) (a.put u.dst v) w' β' l g→(∀b d,(apply st u).box b=some d→β' b≠g)∧(∀m,stays st u m→¬HasL st a w β m g))
 (hnsep : ∀l m g,newOwn u l→newOwn u m→HasL (apply st u) (a.put u.dst v) w' β' l g→HasL (apply st u) (a.put u.dst v) w' β' m g→l=m)
 (htag : ∀d l,u.dst=some d→u.ent.tag=some (true,l)→(apply st u).own l=true →
   TagOk u.ent.av v (locV (apply st u) (a.put u.dst v) w' β' l) (locTy (apply st u) l))
 (hrd:(u.rd=none∧∀d b,st.rd=some d→rb=some b→w'.heap[b]?=w.heap[b]?∧lim' b=lim b) ∨
   (∃d d0,u.rd=some d∧st.rd=some d0∧d.1=d0.1∧∃b cells e,rb=some b∧b<w0.heap.size∧w'.heap[b]?=some (.cells cells e (0,0))∧CRep w' lim' d.1 d.2 cells.toList∧lim' b=some 0∧∀p e',typeAt d.1 p=some (.slice e')→w'.cell? ⟨b,offs d.1 p,none⟩=w.cell? ⟨b,offs d.1 p,none⟩))
 (hio : ∀r d,st.io r=some d→∃d',(apply st u).io r=some d'∧d'.1=d.1∧β'.V r=β.V r)
 (hxb : ∀b t o,st.xb b=some (t,o)→(∃o',(apply st u).xb b=some (t,o'))∧β'.c b=β.c b)
 (hxs:(∀l g,stays st u l→(HasL (apply st u) (a.put u.dst v) w' β' l g↔HasL st a w β l g))→Own w0 rb (apply st u) (a.put u.dst v) w' lim' β') (hK:β'.K=β.K:=by rfl) :
 Sim w0 lim0 rb n (apply st u) (a.put u.dst v) w' lim' β':=by
 have hbox : ∀b d,st.box b=some d→β' b=β b∧∃d',(apply st u).box b=some d'∧d'.1=d.1:=by
  intro b d hb
  refine ⟨hβ b d hb,?_⟩
  simp only [apply]
  cases hu:u.bw with
  | none=>exact ⟨d,hb,rfl⟩
  | some x=>
    obtain ⟨c,d',o,q⟩:=x
    simp only []
    cases hc:Nat.beq b c with
    | false=>exact ⟨d,by simpa using hb,rfl⟩
    | true=>
      have:=nbeq hc;subst this
      exact ⟨d',rfl,((hbw _ _ _ _ hu).2.2.2 d hb).1.symm⟩
 have hrdm : ∀d,st.rd=some d→∃d',(apply st u).rd=some d'∧d'.1=d.1:=by
  intro d hr
  simp only [apply]
  rcases hrd with ⟨h1,_⟩|⟨d',d0,h1,h2,h3,_⟩
  ·rw [h1];exact ⟨d,hr,rfl⟩
  ·rw [h1];rw [h2] at hr;injection hr with hr;subst hr;exact ⟨d',rfl,h3⟩
 -- what an owned place that stays holds
 have hstay : ∀l,stays st u l→locTy (apply st u) l=locTy st l∧locV (apply st u) (a.put u.dst v) w' β' l=locV st a w β l:=by
  intro l hl
  cases l with
  | tmp t p=>
    have hne:u.dst≠some t:=hl.2.2
    have hav:((apply st u).env t).av=(st.env t).av:=by simp [apply,isT_ne.2 hne]
    exact ⟨by simp only [locTy,hav],by simp only [locV,hav,zli hne]⟩
  | box b p=>
    obtain ⟨e,x,h1,h2,h3⟩:=h.own _ hl.1
    cases hb:st.box b with
    | none=>simp only [locTy,hb] at h1;cases h1
    | some d=>
      obtain ⟨hbe,d',hb',hty⟩:=hbox b d hb
      refine ⟨by simp only [locTy,hb,hb',hty],?_⟩
      simp only [locV,hb,hb',hty]
      by_cases hw : ∃d2 o q,u.bw=some (b,d2,o,q)
      ·obtain ⟨d2,o,q,hw⟩:=hw
       have h4:=(hbw _ _ _ _ hw).2.2.2 d hb
       have hpc:pcomp p q=false:=hl.2.2 d2 o q hw
       have hd2:(apply st u).box b=some d2:=by simp [apply,hw]
       rw [hb'] at hd2;injection hd2 with hd2;subst hd2
       simp only [locTy,hb] at h1
       have:=h4.2 p e hl.1 h1 h3.oty hpc
       rw [hty] at this
       exact this
      ·have hk:=hbk b d hb (fun d' o q he=>hw ⟨d',o,q,he⟩)
       rw [hbe]
       exact World.cell?_of_block hk.1
 have hhas : ∀l g,stays st u l→(HasL (apply st u) (a.put u.dst v) w' β' l g↔HasL st a w β l g):=by
  intro l g hl
  obtain ⟨k1,k2⟩:=hstay l hl
  obtain ⟨T,x,h1,h2,h3⟩:=h.own l hl.1
  obtain ⟨e,hT,xs,hc⟩:=h.vis h1 h2 h3.oty
  constructor
  ·rintro ⟨T',x',m1,m2,m3⟩
   rw [k1,h1] at m1;injection m1 with m1;subst m1
   rw [k2,h2] at m2;injection m2 with m2;subst m2
   exact ⟨T,x,h1,h2,(Blk_ext hext hT hc).1 m3⟩
  ·intro hg
   exact ⟨T,x,k1.trans h1,k2.trans h2,(Blk_ext hext hT hc).2 (h.hasL h1 h2 hg)⟩
 have hrdk:RdK w0 rb (apply st u).rd w':=by
  intro d b hr hb p e hp
  simp only [apply] at hr
  rcases hrd with ⟨h1,h2⟩|⟨d',d0,h1,h2,h3,b',cells,e',h4,h5,h6,h7,h8,h9⟩
  ·rw [h1] at hr
   obtain ⟨k1,k2⟩:=h.rdk d b hr hb p e hp
   exact ⟨(World.cell?_of_block (h2 d b hr hb).1).trans k1,k2⟩
  ·rw [h1] at hr
   have hr:some d'=some d:=hr
   injection hr with hr;subst hr
   rw [hb] at h4;injection h4 with h4;subst h4
   rw [h3] at hp
   obtain ⟨k1,k2⟩:=h.rdk d0 b h2 hb p e hp
   rw [←h3] at hp k1 k2
   exact ⟨(h9 p e hp).trans k1,k2⟩
 refine {size:=?_,defers:=?_,grow:=hgrow,limOld:=fun b hb hX=>(hlim b hb hX).trans (h.limOld b hb hX),xrb:=h.xrb,rdk:=hrdk,env:=?_,box:=?_,inj:=?_,own:=?_,ownb:=?_,sep:=?_,tag:=?_,rd:=?_,xs:=hxs hhas}
 ·have:(a.put u.dst v).tmps.size=a.tmps.size:=by cases u.dst<;>simp [Act.put]
  rw [this];exact h.size
 ·have:(a.put u.dst v).defers=a.defers:=by cases u.dst<;>rfl
  rw [this];exact h.defers
 ·intro t
  cases ht:isT t u.dst with
  | true=>
    have hdt:=isT_some.1 ht
    have:((apply st u).env t)=u.ent:=by simp [apply,ht]
    rw [this,hdt,zjh (by rw [h.size];exact hd t hdt)]
    exact hval t hdt
  | false=>
    have:((apply st u).env t).av=(st.env t).av:=by simp [apply,ht]
    rw [this,zli (isT_ne.1 ht)]
    exact (h.env t).mono hext hbox hrdm hio hxb hK
 ·intro b d hb
  by_cases hw : ∃d2 o q,u.bw=some (b,d2,o,q)
  ·obtain ⟨d2,o,q,hw⟩:=hw
   have hd2:(apply st u).box b=some d2:=by simp [apply,hw]
   rw [hb] at hd2;injection hd2 with hd2;subst hd2
   exact (hbw _ _ _ _ hw).1
  ·have hne : ∀d' o q,u.bw≠some (b,d',o,q):=fun d' o q he=>hw ⟨d',o,q,he⟩
   have hb0:st.box b=some d:=by
    simp only [apply] at hb
    cases hu:u.bw with
    | none=>simpa [hu] using hb
    | some x=>
      obtain ⟨c,d',o,q⟩:=x
      rw [hu] at hb;simp only [] at hb
      cases hc:Nat.beq b c with
      | false=>simpa [hc] using hb
      | true=>have:=nbeq hc;subst this;exact absurd hu (hne _ _ _)
   obtain ⟨cells,e,h1,h2,h3,h4⟩:=h.box b d hb0
   obtain ⟨k1,k2⟩:=hbk b d hb0 hne
   rw [hβ b d hb0]
   exact ⟨cells,e,k1.trans h1,h2.mono hext,h3,k2.trans h4⟩
 ·intro b c d d' hb hc he
  have back : ∀b d,(apply st u).box b=some d→(∃d0,st.box b=some d0∧∀d' o q,u.bw≠some (b,d',o,q))∨∃o q,u.bw=some (b,d,o,q):=by
   intro b d hb
   simp only [apply] at hb
   cases hu:u.bw with
   | none=>rw [hu] at hb;exact .inl ⟨d,hb,fun _ _ _ he=>by cases he⟩
   | some x=>
     obtain ⟨c,d',o,q⟩:=x
     rw [hu] at hb;simp only [] at hb
     cases hc:Nat.beq b c with
     | false=>
       rw [hc] at hb
       refine .inl ⟨d,hb,fun d2 o2 q2 he=>?_⟩
       injection he with he;injection he with he _;rw [he] at hc;simp at hc
     | true=>
       rw [hc] at hb
       have:=nbeq hc;subst this
       have hb:some d'=some d:=hb
       injection hb with hb
       subst hb;exact .inr ⟨o,q,rfl⟩
  by_cases hbc:b=c
  ·exact hbc
  ·rcases back b d hb with ⟨d0,hb0,hbn⟩|⟨o,q,hbw'⟩<;>rcases back c d' hc with ⟨d1,hc0,hcn⟩|⟨o',q',hcw⟩
   ·rw [hβ b d0 hb0,hβ c d1 hc0] at he
    exact h.inj b c d0 d1 hb0 hc0 he
   ·rw [hβ b d0 hb0] at he
    exact absurd he ((hbw _ _ _ _ hcw).2.1 b d0 hbc hb0)
   ·rw [hβ c d1 hc0] at he
    exact absurd he.symm ((hbw _ _ _ _ hbw').2.1 c d1 (fun e=>hbc e.symm) hc0)
   ·rw [hbw'] at hcw;injection hcw with hcw;injection hcw with hcw _
 ·intro l hl
  rcases zeh hl with hn|hs
  ·exact hnew l hn
  ·obtain ⟨T,x,h1,h2,h3⟩:=h.own l hs.1
   obtain ⟨k1,k2⟩:=hstay l hs
   obtain ⟨e,hT,xs,hc⟩:=h.vis h1 h2 h3.oty
   exact ⟨T,x,k1.trans h1,k2.trans h2,OwnT_ext hext hT hc h3 (fun g hg=>hok l g hs ⟨T,x,h1,h2,hg⟩)⟩
 ·intro l g hl hg b d hb
  rcases zeh hl with hn|hs
  ·exact (hnewb l g hn hg).1 b d hb
  ·have hg:=(hhas l g hs).1 hg
   by_cases hw : ∃d2 o q,u.bw=some (b,d2,o,q)
   ·obtain ⟨d2,o,q,hw⟩:=hw
    exact fun e=>(hbw _ _ _ _ hw).2.2.1 l g hs hg e.symm
   ·have hb0:st.box b=some d:=by
      simp only [apply] at hb
      cases hu:u.bw with
      | none=>simpa [hu] using hb
      | some y=>
        obtain ⟨c,d',o,q⟩:=y
        rw [hu] at hb;simp only [] at hb
        cases hc:Nat.beq b c with
        | false=>simpa [hc] using hb
        | true=>have:=nbeq hc;subst this;exact absurd ⟨_,_,_,hu⟩ hw
    rw [hβ b d hb0]
    exact h.ownb l g hs.1 hg b d hb0
 ·intro l m g hl hm hx hy
  rcases zeh hl with hn|hs<;>rcases zeh hm with hn'|hs'
  ·exact hnsep l m g hn hn' hx hy
  ·exact absurd ((hhas m g hs').1 hy) ((hnewb l g hn hx).2 m hs')
  ·exact absurd ((hhas l g hs).1 hx) ((hnewb m g hn' hy).2 l hs)
  ·exact h.sep l m g hs.1 hs'.1 ((hhas l g hs).1 hx) ((hhas m g hs').1 hy)
 ·intro t l ht hl
  cases hdt:isT t u.dst with
  | true=>
    have hde:=isT_some.1 hdt
    have he:((apply st u).env t)=u.ent:=by simp [apply,hdt]
    rw [he] at ht
    rw [he]
    rw [show tmpOf (a.put u.dst v) t=v by rw [hde];exact zjh (by rw [h.size];exact hd t hde)]
    exact htag t l hde ht hl
  | false=>
    have hne:=isT_ne.1 hdt
    have htg:keepTag u (st.env t).tag=some (true,l):=by simpa [apply,hdt] using ht
    have hav:((apply st u).env t).av=(st.env t).av:=by simp [apply,hdt]
    have h0:(st.env t).tag=some (true,l)∧¬newOwn u l:=by
     cases hs:(st.env t).tag with
     | none=>rw [hs] at htg;simp [keepTag] at htg
     | some km=>
       obtain ⟨k,m⟩:=km
       rw [hs] at htg
       cases m with
       | tmp t' p=>
         simp only [keepTag] at htg
         injection htg with htg;injection htg with h1 h2
         subst h2
         cases hq:isT t' u.dst with
         | true=>rw [hq] at h1;cases h1
         | false=>
           rw [hq] at h1
           have h1:k=true:=h1
           subst h1
           exact ⟨rfl,fun hn=>by have:=isT_ne.1 hq;exact this hn.1⟩
       | box b p=>
         simp only [keepTag] at htg
         injection htg with htg;injection htg with h1 h2
         subst h2
         cases hu:u.bw with
         | none=>
           rw [hu] at h1
           have h1:k=true:=h1
           subst h1
           refine ⟨rfl,fun hn=>?_⟩
           obtain ⟨d,o,q,hn,_⟩:=hn
           rw [hu] at hn;cases hn
         | some x=>
           obtain ⟨c,d',o,q⟩:=x
           rw [hu] at h1
           have h1:cnd (Nat.beq b c) false k=true:=h1
           cases hc:Nat.beq b c with
           | true=>rw [hc] at h1;cases h1
           | false=>
             rw [hc] at h1
             have h1:k=true:=h1
             subst h1
             refine ⟨rfl,fun hn=>?_⟩
             obtain ⟨d2,o2,q2,hn,_⟩:=hn
             rw [hu] at hn;injection hn with hn;injection hn with hn _
             rw [hn] at hc;simp at hc
    rcases zeh hl with hn|hs
    ·exact absurd hn h0.2
    ·obtain ⟨k1,k2⟩:=hstay l hs
     have h1:=h.tag t l h0.1 hs.1
     rw [hav,k2,zli hne,k1];exact h1
 ·intro d hr
  simp only [apply] at hr
  rcases hrd with ⟨h1,h2⟩|⟨d',d0,h1,h2,h3,b,cells,e,h4,h5,h6,h7,h8,_⟩
  ·rw [h1] at hr
   obtain ⟨b,cells,e,h4,h5,h6,h7,h8⟩:=h.rd d hr
   obtain ⟨k1,k2⟩:=h2 d b hr h4
   exact ⟨b,cells,e,h4,h5,k1.trans h6,h7.mono hext,k2.trans h8⟩
  ·rw [h1] at hr
   have hr:some d'=some d:=hr
   injection hr with hr;subst hr
   exact ⟨b,cells,e,h4,h5,h6,h7,h8⟩
end
end Go.Den
namespace Go.Den
section
variable {w0:Base} {lim0:Lim} {rb:Option Nat} {n:Nat}
def typeAV (p:List Nat):AV→Option Ty
 | .dat ty _=>typeAt ty p
 | .tup ty _=>typeAt ty p
 | _=>none
def partAV (v:Value) (p:List Nat):AV→Option Value
 | .dat ty _=>(flatV v)[offs ty p]?
 | .tup ty _=>(flatV v)[offs ty p]?
 | _=>none
theorem zbb (st:St) (t:Tmp) (p:List Nat):locTy st (.tmp t p)=typeAV p (st.env t).av:=by
 simp only [locTy];cases (st.env t).av<;>rfl
theorem zda (st:St) (a:Act) (w:World) (β:Mp) (t:Tmp) (p:List Nat):locV st a w β (.tmp t p)=partAV (tmpOf a t) p (st.env t).av:=by
 simp only [locV];cases (st.env t).av<;>rfl
theorem zfs {st:St} {u:Upd} {d:Tmp} (h:u.dst=some d):(apply st u).env d=u.ent:=by
 simp [apply,isT_some.2 h]
theorem Sim.lt {st:St} {a:Act} {w:World} {lim:Lim} {β:Mp} (h:Sim w0 lim0 rb n st a w lim β) {l:Loc} {g:Nat}
 (ho:st.own l=true) (hg:HasL st a w β l g):g<w.heap.size∧w0.fr g:=by
 obtain ⟨T,y,h1,h2,h3⟩:=h.own l ho
 exact h3.lt (h.hasL h1 h2 hg)
theorem Sim.fr_rb {st:St} {a:Act} {w:World} {lim:Lim} {β:Mp} (h:Sim w0 lim0 rb n st a w lim β) {g:Nat} (hg:w0.fr g) (hr:some g=rb) (hl:g<w0.heap.size):False:=by
 rcases hg with hg|hg
 ·omega
 ·exact h.xrb g hg hr
theorem Sim.val {st:St} {a:Act} {w:World} {lim:Lim} {β:Mp} (h:Sim w0 lim0 rb n st a w lim β)
 (u:Upd) (v:Value) (hd : ∀d,u.dst=some d→d<n) (hb:u.bw=none) (hr:u.rd=none)
 (hv:ERep st w lim β rb u.ent.av v) (src:List Nat→Loc)
 (hown : ∀p∈u.own,∃T x,typeAV p u.ent.av=some T∧partAV v p u.ent.av=some x ∧
   ((x = .slice none 0 0∧OTy T=true)∨(src p∈u.takes∧st.own (src p)=true∧locV st a w β (src p)=some x∧locTy st (src p)=some T)))
 (hinj : ∀p∈u.own,∀q∈u.own,src p=src q→p=q)
 (hto : ∀l,u.ent.tag=some (true,l)→u.own=[])
 (htag : ∀l,u.ent.tag=some (true,l)→st.own l=true→TagOk u.ent.av v (locV st a w β l) (locTy st l))
 (hxw:u.xw=none:=by rfl) (hxk:u.xk=none:=by rfl) (hxbw:u.xbw=none:=by rfl) (hrw:u.rw=none:=by rfl) :
 Sim w0 lim0 rb n (apply st u) (a.put u.dst v) w lim β:=by
 have hbx : ∀b,(apply st u).box b=st.box b:=fun b=>by simp [apply,hb]
 have hrd:(apply st u).rd=st.rd:=by simp [apply,hr]
 have hnb : ∀c d o q,u.bw≠some (c,d,o,q):=fun _ _ _ _ e=>by rw [hb] at e;cases e
 have hiox:(apply st u).io=st.io:=by simp [apply,hxw,hxk]
 have hxbx:(apply st u).xb=st.xb:=by simp [apply,hxbw]
 have hio1 : ∀r d,st.io r=some d→∃d',(apply st u).io r=some d'∧d'.1=d.1∧β.V r=β.V r:=fun r d hr=>⟨d,by rw [hiox];exact hr,rfl,rfl⟩
 have hxb1 : ∀b t o,st.xb b=some (t,o)→(∃o',(apply st u).xb b=some (t,o'))∧β.c b=β.c b:=fun b t o hb'=>⟨⟨o,by rw [hxbx];exact hb'⟩,rfl⟩
 have hv':ERep (apply st u) w lim β rb u.ent.av v:=
  hv.mono (Ext.refl _ _) (fun b d hbd=>⟨rfl,d,(hbx b).trans hbd,rfl⟩) (fun d hd=>⟨d,hrd.trans hd,rfl⟩) hio1 hxb1
 have key : ∀l,newOwn u l→∃d p,l = .tmp d p∧u.dst=some d∧p∈u.own:=by
  intro l hl
  cases l with
  | tmp t p=>exact ⟨t,p,rfl,hl.1,hl.2⟩
  | box b p=>obtain ⟨d,o,q,he,_⟩:=hl;exact absurd he (hnb _ _ _ _)
 have look : ∀d p,u.dst=some d→locTy (apply st u) (.tmp d p)=typeAV p u.ent.av∧locV (apply st u) (a.put u.dst v) w β (.tmp d p)=partAV v p u.ent.av:=by
  intro d p hdd
  refine ⟨by rw [zbb,zfs hdd],?_⟩
  rw [zda,zfs hdd,hdd,zjh (by rw [h.size];exact hd d hdd)]
 -- what stands behind a new place stood behind the old one
 have back : ∀d p g,u.dst=some d→p∈u.own→HasL (apply st u) (a.put u.dst v) w β (.tmp d p) g→src p∈u.takes∧st.own (src p)=true∧HasL st a w β (src p) g:=by
  intro d p g hdd hp hg
  obtain ⟨T,x,h1,h2,h3⟩:=hown p hp
  obtain ⟨T',x',k1,k2,k3⟩:=hg
  rw [(look d p hdd).1,h1] at k1;injection k1 with k1;subst k1
  rw [(look d p hdd).2,h2] at k2;injection k2 with k2;subst k2
  rcases h3 with ⟨rfl,_⟩|⟨m1,m2,m3,m4⟩
  ·exact k3.nil.elim
  ·exact ⟨m1,m2,T,x,m4,m3,k3⟩
 refine h.step u v w lim β hd (Ext.refl _ _) h.grow (fun _ _ _=>rfl) (fun _ _ _=>rfl) (fun _ _=>hv') (fun _ _ _ _=>⟨rfl,rfl⟩) (fun _ _ _ _=>⟨rfl,rfl⟩)
  (fun c d o q he=>absurd he (hnb _ _ _ _)) ?_ ?_ ?_ ?_ (.inl ⟨hr,fun _ _ _ _=>⟨rfl,rfl⟩⟩) hio1 hxb1 ?_
 ·intro l hl
  obtain ⟨d,p,rfl,hdd,hp⟩:=key l hl
  obtain ⟨T,x,h1,h2,h3⟩:=hown p hp
  refine ⟨T,x,(look d p hdd).1.trans h1,(look d p hdd).2.trans h2,?_⟩
  rcases h3 with ⟨rfl,ho⟩|⟨_,k2,k3,k4⟩
  ·exact OwnT.nil ho
  ·obtain ⟨T',x',h4,h5,h6⟩:=h.own _ k2
   rw [k3] at h5;injection h5 with h5;subst h5
   rw [k4] at h4;injection h4 with h4;subst h4
   exact h6
 ·intro l g hl hg
  obtain ⟨d,p,rfl,hdd,hp⟩:=key l hl
  obtain ⟨k1,k2,k3⟩:=back d p g hdd hp hg
  refine ⟨fun b d' hbd=>h.ownb _ g k2 k3 b d' ((hbx b).symm.trans hbd),fun m hm hgm=>?_⟩
  have:=h.sep _ _ g k2 hm.1 k3 hgm
  rw [this] at k1
  exact hm.2.1 k1
 ·intro l m g hl hm hx hy
  obtain ⟨d,p,rfl,hdd,hp⟩:=key l hl
  obtain ⟨d',q,rfl,hdd',hq⟩:=key m hm
  rw [hdd] at hdd';injection hdd' with hdd';subst hdd'
  obtain ⟨_,k2,k3⟩:=back d p g hdd hp hx
  obtain ⟨_,k2',k3'⟩:=back d q g hdd hq hy
  rw [hinj p hp q hq (h.sep _ _ g k2 k2' k3 k3')]
 ·intro d l hdd ht hl
  rcases zeh hl with hn|hs
  ·exfalso
   obtain ⟨d',p,rfl,hdd',hp⟩:=key l hn
   rw [hto _ ht] at hp;cases hp
  ·have hne : ∀t p,l = .tmp t p→u.dst≠some t:=fun t p e=>by subst e;exact hs.2.2
   have k1:=htag l ht hs.1
   have:locTy (apply st u) l=locTy st l∧locV (apply st u) (a.put u.dst v) w β l=locV st a w β l:=by
    cases l with
    | tmp t p=>
      have hne:=hne t p rfl
      have hav:((apply st u).env t).av=(st.env t).av:=by simp [apply,isT_ne.2 hne]
      exact ⟨by simp only [locTy,hav],by simp only [locV,hav,zli hne]⟩
    | box b p=>exact ⟨by simp only [locTy,hbx],by simp only [locV,hbx]⟩
   rw [this.1,this.2];exact k1
 ·intro hst
  refine h.xs.keep hiox hxbx (fun _ _ _=>⟨rfl,rfl⟩) (fun _ _ _ _=>rfl) (fun _ _=>⟨rfl,rfl⟩) (fun b d hbd=>h.xs.offb ((hbx b).symm.trans hbd)) (fun l g hl hg=>?_) (hrbk:=apply_rb hrw)
  rcases zeh hl with hn|hs
  ·obtain ⟨d,p,rfl,hdd,hp⟩:=key l hn
   obtain ⟨_,k2,k3⟩:=back d p g hdd hp hg
   exact h.xs.off k2 k3
  ·exact h.xs.off hs.1 ((hst l g hs).1 hg)
/-! ### parts of a value -/
theorem cast_self (t:Ty) (z:t.val):Ty.cast t t z=some z:=by
 unfold Ty.cast;split
 ·rfl
 ·rename_i h;rw [Ty.beq_refl] at h;cases h
theorem zbm {t u:Ty} {x:t.val} {y:u.val} (h:Ty.cast t u x=some y) : ∃e:t=u,y=e▸x:=by
 unfold Ty.cast at h;split at h
 ·rename_i hb;injection h with h;exact ⟨Ty.of_beq hb,h.symm⟩
 ·cases h
theorem zb0 : ∀ {p:List Nat} {t:Ty} {x:t.val} {y:Dat},getP t x p=some y→typeAt t p=some y.1
 | [],t,x,y,h=>by simp [getP] at h;subst h;simp [typeAt]
 | i::p,t,x,y,h=>by
   simp only [getP] at h
   cases hf:getF t x i with
   | none=>rw [hf] at h;cases h
   | some d=>
     rw [hf] at h
     have ih:=zb0 h
     have : ∀ {t:Ty} {x:t.val} {i:Nat} {d:Dat},getF t x i=some d→typeAt t (i::p)=typeAt d.1 p:=by
      intro t
      induction t with
      | prod a b iha ihb=>
        intro x i d hf
        cases i with
        | zero=>simp [getF] at hf;subst hf;simp [typeAt]
        | succ i=>simp only [getF] at hf;simp only [typeAt];exact ihb hf
      | int k=>intro x i d hf;simp [getF] at hf
      | bool=>intro x i d hf;simp [getF] at hf
      | str=>intro x i d hf;simp [getF] at hf
      | unit=>intro x i d hf;simp [getF] at hf
      | slice t=>intro x i d hf;simp [getF] at hf
     rw [this hf];exact ih
theorem CRep.field {w:World} {lim:Lim} : ∀ {t:Ty} {x:t.val} {cs:List Value} {i:Nat} {d:Dat},CRep w lim t x cs→getF t x i=some d →
 ∃c1 c2 c3,cs=c1++(c2++c3)∧c1.length=offs t [i]∧CRep w lim d.1 d.2 c2 ∧
  ∀(z:d.1.val) c2' x',CRep w lim d.1 z c2'→setF t x i ⟨d.1,z⟩=some x'→CRep w lim t x' (c1++(c2'++c3)):=by
 intro t
 induction t with
 | prod a b iha ihb=>
   intro x cs i d hc hf
   obtain ⟨c1,c2,rfl,h1,h2⟩:=hc
   cases i with
   | zero=>
     simp [getF] at hf;subst hf
     refine ⟨[],c1,c2,rfl,by simp [offs],h1,fun z c2' x' hz hs=>?_⟩
     have hs':(Ty.cast a a z).map (fun z=>(z,x.2))=some x':=hs
     rw [cast_self] at hs';injection hs' with hs';subst hs'
     exact ⟨c2',c2,rfl,hz,h2⟩
   | succ i=>
     simp only [getF] at hf
     obtain ⟨k1,k2,k3,e,hl,hk,hset⟩:=ihb h2 hf
     refine ⟨c1++k1,k2,k3,by rw [e];simp,by simp [offs,h1.length,hl],hk,fun z c2' x' hz hs=>?_⟩
     have hs':(setF b x.2 i ⟨d.1,z⟩).map (fun z=>(x.1,z))=some x':=hs
     cases hq:setF b x.2 i ⟨d.1,z⟩ with
     | none=>rw [hq] at hs';cases hs'
     | some y=>
       rw [hq] at hs';injection hs' with hs';subst hs'
       exact ⟨c1,k1++(c2'++k3),by simp,h1,hset z c2' y hz hq⟩
 | int k=>intro x cs i d _ hf;simp [getF] at hf
 | bool=>intro x cs i d _ hf;simp [getF] at hf
 | str=>intro x cs i d _ hf;simp [getF] at hf
 | unit=>intro x cs i d _ hf;simp [getF] at hf
 | slice t=>intro x cs i d _ hf;simp [getF] at hf
theorem zdu : ∀ {t:Ty} {x:t.val} {i:Nat} {d:Dat} (p:List Nat),getF t x i=some d→typeAt t (i::p)=typeAt d.1 p∧offs t (i::p)=offs t [i]+offs d.1 p:=by
 intro t
 induction t with
 | prod a b iha ihb=>
   intro x i d p hf
   cases i with
   | zero=>simp [getF] at hf;subst hf;simp [typeAt,offs]
   | succ i=>
     simp only [getF] at hf
     obtain ⟨h1,h2⟩:=ihb p hf
     exact ⟨by simp only [typeAt];exact h1,by simp only [offs];rw [h2];omega⟩
 | int k=>intro x i d p hf;simp [getF] at hf
 | bool=>intro x i d p hf;simp [getF] at hf
 | str=>intro x i d p hf;simp [getF] at hf
 | unit=>intro x i d p hf;simp [getF] at hf
 | slice t=>intro x i d p hf;simp [getF] at hf
theorem CRep.part {w:World} {lim:Lim} : ∀ {p:List Nat} {t:Ty} {x:t.val} {cs:List Value} {y:Dat},CRep w lim t x cs→getP t x p=some y →
 ∃c1 c2 c3,cs=c1++(c2++c3)∧c1.length=offs t p∧CRep w lim y.1 y.2 c2 ∧
  ∀(z:y.1.val) c2' x',CRep w lim y.1 z c2'→setP t x p ⟨y.1,z⟩=some x'→CRep w lim t x' (c1++(c2'++c3))
 | [],t,x,cs,y,hc,hp=>by
   simp [getP] at hp;subst hp
   refine ⟨[],cs,[],by simp,by simp [offs],hc,fun z c2' x' hz hs=>?_⟩
   simp only [setP] at hs
   rw [cast_self] at hs;injection hs with hs;subst hs
   simpa using hz
 | i::p,t,x,cs,y,hc,hp=>by
   simp only [getP] at hp
   cases hf:getF t x i with
   | none=>rw [hf] at hp;cases hp
   | some d=>
     rw [hf] at hp
     obtain ⟨c1,c2,c3,rfl,hl,hd,hset⟩:=hc.field hf
     obtain ⟨k1,k2,k3,rfl,hl',hk,hset'⟩:=CRep.part hd hp
     refine ⟨c1++k1,k2,k3++c3,by simp,by rw [(zdu p hf).2];simp [hl,hl'],hk,fun z c2' x' hz hs=>?_⟩
     simp only [setP,hf] at hs
     cases hq:setP d.1 d.2 p ⟨y.1,z⟩ with
     | none=>rw [hq] at hs;cases hs
     | some r=>
       rw [hq] at hs
       have:=hset r _ x' (hset' z c2' r hz hq) hs
       simpa using this
theorem beside : ∀ {t:Ty} {p q:List Nat} {u v:Ty},typeAt t p=some u→typeAt t q=some v→pcomp p q=false →
 offs t p+u.size≤offs t q∨offs t q+v.size≤offs t p:=by
 intro t
 induction t with
 | prod a b iha ihb=>
   intro p q u v hp hq hc
   cases p with
   | nil=>simp [pcomp] at hc
   | cons i p=>
     cases q with
     | nil=>simp [pcomp] at hc
     | cons j q=>
       cases i with
       | zero=>
         cases j with
         | zero=>
           simp only [typeAt] at hp hq
           simp only [pcomp] at hc
           simp only [offs]
           exact iha hp hq (by simpa using hc)
         | succ j=>
           simp only [typeAt] at hp hq
           have:=zbf hp
           simp only [offs]
           left;omega
       | succ i=>
         cases j with
         | zero=>
           simp only [typeAt] at hp hq
           have:=zbf hq
           simp only [offs]
           right;omega
         | succ j=>
           simp only [typeAt] at hp hq
           have hc':pcomp (i::p) (j::q)=false:=by
            simp only [pcomp] at hc ⊢
            have:Nat.beq (i+1) (j+1)=Nat.beq i j:=rfl
            rw [this] at hc;exact hc
           have:=ihb hp hq hc'
           simp only [offs]
           omega
 | int k=>intro p q u v h _ hc;cases p<;>simp [typeAt,pcomp] at h hc
 | bool=>intro p q u v h _ hc;cases p<;>simp [typeAt,pcomp] at h hc
 | str=>intro p q u v h _ hc;cases p<;>simp [typeAt,pcomp] at h hc
 | unit=>intro p q u v h _ hc;cases p<;>simp [typeAt,pcomp] at h hc
 | slice t=>
   intro p q u v h h' hc
   rcases zce h with ⟨rfl,_⟩|⟨rfl,_⟩<;>rcases zce h' with ⟨rfl,_⟩|⟨rfl,_⟩<;>simp [pcomp] at hc
end
end Go.Den
namespace Go.Den
section
variable {w0:Base} {lim0:Lim} {rb:Option Nat} {n:Nat}
theorem Sim.grown {st:St} {a:Act} {w:World} {lim:Lim} {β:Mp} (h:Sim w0 lim0 rb n st a w lim β)
 (u:Upd) (v:Value) (w':World) (lim':Lim) (hd : ∀d,u.dst=some d→d<n) (hb:u.bw=none)
 (hext:Ext w lim w' lim') (hgrow:w0.grownBy w' rb)
 (hkeep : ∀k,k<w.heap.size→some k≠rb→(∀l,l∈u.takes→st.own l=true→¬HasL st a w β l k)→w'.heap[k]?=w.heap[k]?∧lim' k=lim k)
 (hrbl : ∀k,some k=rb→k<w0.heap.size∧lim' k=lim k)
 (hv:ERep (apply st u) w' lim' β rb u.ent.av v)
 (hown : ∀p∈u.own,∃T x,typeAV p u.ent.av=some T∧partAV v p u.ent.av=some x∧OwnT w' lim' w0.fr T x ∧
   ∀g,Blk w' T x g→w.heap.size≤g∨∃l,l∈u.takes∧st.own l=true∧HasL st a w β l g)
 (hsep : ∀p∈u.own,∀q∈u.own,∀T T' x y g,typeAV p u.ent.av=some T→typeAV q u.ent.av=some T'→partAV v p u.ent.av=some x→partAV v q u.ent.av=some y→Blk w' T x g→Blk w' T' y g→p=q)
 (htag:u.ent.tag=none)
 (hrd:(u.rd=none∧∀b,rb=some b→w'.heap[b]?=w.heap[b]?) ∨
   (∃d d0,u.rd=some d∧st.rd=some d0∧d.1=d0.1∧∃b cells e,rb=some b∧b<w0.heap.size∧w'.heap[b]?=some (.cells cells e (0,0))∧CRep w' lim' d.1 d.2 cells.toList∧lim' b=some 0∧∀p e',typeAt d.1 p=some (.slice e')→w'.cell? ⟨b,offs d.1 p,none⟩=w.cell? ⟨b,offs d.1 p,none⟩))
 (hxw:u.xw=none:=by rfl) (hxk:u.xk=none:=by rfl) (hxbw:u.xbw=none:=by rfl) (hrw:u.rw=none:=by rfl) :
 Sim w0 lim0 rb n (apply st u) (a.put u.dst v) w' lim' β:=by
 have hiox:(apply st u).io=st.io:=by simp [apply,hxw,hxk]
 have hxbx:(apply st u).xb=st.xb:=by simp [apply,hxbw]
 have hio1 : ∀r d,st.io r=some d→∃d',(apply st u).io r=some d'∧d'.1=d.1∧β.V r=β.V r:=fun r d hr=>⟨d,by rw [hiox];exact hr,rfl,rfl⟩
 have hxb1 : ∀b t o,st.xb b=some (t,o)→(∃o',(apply st u).xb b=some (t,o'))∧β.c b=β.c b:=fun b t o hb'=>⟨⟨o,by rw [hxbx];exact hb'⟩,rfl⟩
 have htree : ∀g,isTree st β g→w'.heap[g]?=w.heap[g]?∧lim' g=lim g:=by
  intro g hg
  have hlt:=h.xs.lt hg
  refine hkeep g hlt.1 (fun hr=>?_) (fun l _ ho hgx=>h.xs.off ho hgx hg)
  have h1:=(hrbl g hr).1
  rcases hg with ⟨r,d,k1,k2⟩|⟨b,t,o,k1,rfl⟩
  ·exact (h.xs.base r d g k1 k2).2.1 hr
  ·obtain ⟨_,_,_,_,k3,_⟩:=h.xs.xb b t o k1
   omega
 have hbx : ∀b,(apply st u).box b=st.box b:=fun b=>by simp [apply,hb]
 have hnb : ∀c d o q,u.bw≠some (c,d,o,q):=fun _ _ _ _ e=>by rw [hb] at e;cases e
 have key : ∀l,newOwn u l→∃d p,l = .tmp d p∧u.dst=some d∧p∈u.own:=by
  intro l hl
  cases l with
  | tmp t p=>exact ⟨t,p,rfl,hl.1,hl.2⟩
  | box b p=>obtain ⟨d,o,q,he,_⟩:=hl;exact absurd he (hnb _ _ _ _)
 have look : ∀d p,u.dst=some d→locTy (apply st u) (.tmp d p)=typeAV p u.ent.av∧locV (apply st u) (a.put u.dst v) w' β (.tmp d p)=partAV v p u.ent.av:=by
  intro d p hdd
  refine ⟨by rw [zbb,zfs hdd],?_⟩
  rw [zda,zfs hdd,hdd,zjh (by rw [h.size];exact hd d hdd)]
 have hlim : ∀b,b<w0.heap.size→¬w0.X b→lim' b=lim b:=fun b hb' hX=>by
  by_cases hr:some b=rb
  ·exact (hrbl b hr).2
  ·refine (hkeep b (Nat.lt_of_lt_of_le hb' h.grow.size) hr (fun l _ ho hg=>?_)).2
   rcases (h.lt ho hg).2 with h2|h2
   ·omega
   ·exact hX h2
 have boxk : ∀b d,st.box b=some d→w'.heap[β b]?=w.heap[β b]?∧lim' (β b)=lim (β b):=by
  intro b d hbd
  obtain ⟨cells,e,h1,h2,h3,h4⟩:=h.box b d hbd
  refine hkeep (β b) (Array.getElem?_eq_some_iff.1 h1).1 (fun hr=>?_) (fun l _ ho hg=>?_)
  ·have:=(hrbl _ hr).1;omega
  ·exact h.ownb l _ ho hg b d hbd rfl
 have ownk : ∀l g,stays st u l→HasL st a w β l g→w'.heap[g]?=w.heap[g]?∧lim' g=lim g:=by
  intro l g hs hg
  have hlt:=h.lt hs.1 hg
  refine hkeep g hlt.1 (fun hr=>?_) (fun m hm ho hgy=>?_)
  ·exact h.fr_rb hlt.2 hr (hrbl _ hr).1
  ·have:=h.sep _ _ g hs.1 ho hg hgy
   subst this
   exact hs.2.1 hm
 have back : ∀d p g,u.dst=some d→p∈u.own→HasL (apply st u) (a.put u.dst v) w' β (.tmp d p) g→∃T x,typeAV p u.ent.av=some T∧partAV v p u.ent.av=some x∧Blk w' T x g∧(w.heap.size≤g∨∃l,l∈u.takes∧st.own l=true∧HasL st a w β l g):=by
  intro d p g hdd hp hg
  obtain ⟨T,x,h1,h2,h3,h4⟩:=hown p hp
  obtain ⟨T',x',k1,k2,k3⟩:=hg
  rw [(look d p hdd).1,h1] at k1;injection k1 with k1;subst k1
  rw [(look d p hdd).2,h2] at k2;injection k2 with k2;subst k2
  exact ⟨T,x,h1,h2,k3,h4 g k3⟩
 refine h.step u v w' lim' β hd hext hgrow hlim (fun _ _ _=>rfl) (fun _ _=>hv) (fun b d hbd _=>boxk b d hbd) ownk
  (fun c d o q he=>absurd he (hnb _ _ _ _)) ?_ ?_ ?_ (fun d l _ ht=>by rw [htag] at ht;cases ht) ?_ hio1 hxb1 ?_
 ·intro l hl
  obtain ⟨d,p,rfl,hdd,hp⟩:=key l hl
  obtain ⟨T,x,h1,h2,h3,h4⟩:=hown p hp
  exact ⟨T,x,(look d p hdd).1.trans h1,(look d p hdd).2.trans h2,h3⟩
 ·intro l g hl hg
  obtain ⟨d,p,rfl,hdd,hp⟩:=key l hl
  obtain ⟨_,_,_,_,_,h4⟩:=back d p g hdd hp hg
  rcases h4 with hlt|⟨m,k1,k2,k3⟩
  ·refine ⟨fun b d' hbd he=>?_,fun m hm hgy=>?_⟩
   ·rw [hbx] at hbd
    obtain ⟨cells,e',h5,_⟩:=h.box b d' hbd
    have:=(Array.getElem?_eq_some_iff.1 h5).1
    omega
   ·have:=(h.lt hm.1 hgy).1
    omega
  ·refine ⟨fun b d' hbd he=>?_,fun m' hm' hgy'=>?_⟩
   ·rw [hbx] at hbd
    exact h.ownb m g k2 k3 b d' hbd he
   ·have:=h.sep _ _ g k2 hm'.1 k3 hgy'
    subst this
    exact hm'.2.1 k1
 ·intro l m g hl hm hx hy
  obtain ⟨d,p,rfl,hdd,hp⟩:=key l hl
  obtain ⟨d',q,rfl,hdd',hq⟩:=key m hm
  rw [hdd] at hdd';injection hdd' with hdd';subst hdd'
  obtain ⟨T,x,a1,a2,a3,_⟩:=back d p g hdd hp hx
  obtain ⟨T',y,b1,b2,b3,_⟩:=back d q g hdd hq hy
  rw [hsep p hp q hq T T' x y g a1 b1 a2 b2 a3 b3]
 ·rcases hrd with ⟨h1,h2⟩|h1
  ·exact .inl ⟨h1,fun d b _ hb'=>⟨h2 b hb',(hrbl b hb'.symm).2⟩⟩
  ·exact .inr h1
 ·intro hst
  refine h.xs.keep hiox hxbx (fun _ _ _=>⟨rfl,rfl⟩) (fun _ _ _ _=>rfl) htree (fun b d hbd=>h.xs.offb ((hbx b).symm.trans hbd)) (fun l g hl hg ht=>?_) (hrbk:=apply_rb hrw)
  rcases zeh hl with hn|hs
  ·obtain ⟨d,p,rfl,hdd,hp⟩:=key l hn
   obtain ⟨_,_,_,_,_,h4⟩:=back d p g hdd hp hg
   rcases h4 with hlt|⟨m,_,k2,k3⟩
   ·have:=(h.xs.lt ht).1;omega
   ·exact h.xs.off k2 k3 ht
  ·exact h.xs.off hs.1 ((hst l g hs).1 hg) ht
theorem Sim.boxw {st:St} {a:Act} {w:World} {lim:Lim} {β:Mp} (h:Sim w0 lim0 rb n st a w lim β)
 (u:Upd) (v:Value) (w':World) (lim':Lim) (β':Mp) (c:Tmp) (d:Dat) (o:List (List Nat)) (q:List Nat)
 (hd : ∀d,u.dst=some d→d<n) (hb:u.bw=some (c,d,o,q)) (hrd:u.rd=none) (hno:u.own=[]) (htag:u.ent.tag=none)
 (hext:Ext w lim w' lim') (hgrow:w0.grownBy w' rb)
 (hkeep : ∀k,k<w.heap.size→(∀d0,st.box c=some d0→k≠β c)→w'.heap[k]?=w.heap[k]?∧lim' k=lim k)
 (hβ : ∀b d,st.box b=some d→β' b=β b)
 (hblk:st.box c=none→w.heap.size≤β' c)
 (hrb : ∀k,some k=rb→k<w0.heap.size)
 (cells:Array Value) (e0:TypeId) (hcell:w'.heap[β' c]?=some (.cells cells e0 (0,0))) (hrep:CRep w' lim' d.1 d.2 cells.toList) (hl0:lim' (β' c)=some 0)
 (hold : ∀d0,st.box c=some d0→d0.1=d.1∧∀p T,typeAt d0.1 p=some T→OTy T=true→pcomp p q=false→w'.cell? ⟨β' c,offs d.1 p,none⟩=w.cell? ⟨β c,offs d0.1 p,none⟩)
 (hv : ∀d,u.dst=some d→ERep (apply st u) w' lim' β' rb u.ent.av v) (src:List Nat→Loc)
 (hown : ∀p∈o,∃T x,typeAt d.1 p=some T∧cells[offs d.1 p]?=some x ∧
   ((x = .slice none 0 0∧OTy T=true)∨(src p∈u.takes∧st.own (src p)=true∧locV st a w β (src p)=some x∧locTy st (src p)=some T)))
 (hinj : ∀p∈o,∀p'∈o,src p=src p'→p=p')
 (hV : ∀r d,st.io r=some d→β'.V r=β.V r∧β'.B r=β.B r:=by exact fun _ _ _=>⟨rfl,rfl⟩)
 (hβx : ∀b t o,st.xb b=some (t,o)→β'.c b=β.c b:=by exact fun _ _ _ _=>rfl)
 (hxw:u.xw=none:=by rfl) (hxk:u.xk=none:=by rfl) (hxbw:u.xbw=none:=by rfl) (hrw:u.rw=none:=by rfl) (hK:β'.K=β.K:=by rfl) :
 Sim w0 lim0 rb n (apply st u) (a.put u.dst v) w' lim' β':=by
 have hiox:(apply st u).io=st.io:=by simp [apply,hxw,hxk]
 have hxbx:(apply st u).xb=st.xb:=by simp [apply,hxbw]
 have hio1 : ∀r d,st.io r=some d→∃d',(apply st u).io r=some d'∧d'.1=d.1∧β'.V r=β.V r:=fun r d hr=>⟨d,by rw [hiox];exact hr,rfl,(hV r d hr).1⟩
 have hxb1 : ∀b t o,st.xb b=some (t,o)→(∃o',(apply st u).xb b=some (t,o'))∧β'.c b=β.c b:=fun b t o hb'=>⟨⟨o,by rw [hxbx];exact hb'⟩,hβx b t o hb'⟩
 have htree : ∀g,isTree st β g→w'.heap[g]?=w.heap[g]?∧lim' g=lim g:=fun g hg=>
  hkeep g (h.xs.lt hg).1 (fun d0 hc he=>h.xs.offb hc (by rw [←he];exact hg))
 have hctree : ¬isTree st β (β' c):=by
  intro hg
  cases hc:st.box c with
  | none=>have:=hblk hc;have:=(h.xs.lt hg).1;omega
  | some d0=>rw [hβ c d0 hc] at hg;exact h.xs.offb hc hg
 have hbc:(apply st u).box c=some d:=by simp [apply,hb]
 have hbase:w0.heap.size≤β' c:=by
  cases hc:st.box c with
  | none=>exact Nat.le_trans h.grow.size (hblk hc)
  | some d0=>rw [hβ c d0 hc];exact (h.box c d0 hc).choose_spec.choose_spec.2.2.1
 have hlim : ∀b,b<w0.heap.size→¬w0.X b→lim' b=lim b:=fun b hb' _=>(hkeep b (Nat.lt_of_lt_of_le hb' h.grow.size) (fun d0 hc he=>by
  rw [←hβ c d0 hc] at he;omega)).2
 have ownk : ∀l g,st.own l=true→HasL st a w β l g→w'.heap[g]?=w.heap[g]?∧lim' g=lim g∧g≠β' c:=by
  intro l g ho hg
  have hlt:=h.lt ho hg
  have hk:=hkeep g hlt.1 (fun d0 hc he=>h.ownb l g ho hg c d0 hc he.symm)
  refine ⟨hk.1,hk.2,fun he=>?_⟩
  cases hc:st.box c with
  | none=>have:=hblk hc;omega
  | some d0=>rw [hβ c d0 hc] at he;exact h.ownb l g ho hg c d0 hc he.symm
 have key : ∀l,newOwn u l→∃p,l = .box c p∧p∈o:=by
  intro l hl
  cases l with
  | tmp t p=>have:=hl.2;rw [hno] at this;cases this
  | box b p=>
    obtain ⟨d2,o2,q2,he,hp⟩:=hl
    rw [hb] at he;injection he with he;injection he with h1 he;injection he with h2 he;injection he with h3 he
    exact ⟨p,by rw [h1],by rw [h3];exact hp⟩
 have look : ∀p,locTy (apply st u) (.box c p)=typeAt d.1 p∧locV (apply st u) (a.put u.dst v) w' β' (.box c p)=cells[offs d.1 p]?:=by
  intro p
  refine ⟨by simp only [locTy,hbc],?_⟩
  simp only [locV,hbc,World.cell?,hcell];rfl
 have back : ∀p g,p∈o→HasL (apply st u) (a.put u.dst v) w' β' (.box c p) g→src p∈u.takes∧st.own (src p)=true∧HasL st a w β (src p) g:=by
  intro p g hp hg
  obtain ⟨T,x,h1,h2,h3⟩:=hown p hp
  obtain ⟨T',x',k1,k2,k3⟩:=hg
  rw [(look p).1,h1] at k1;injection k1 with k1;subst k1
  rw [(look p).2,h2] at k2;injection k2 with k2;subst k2
  rcases h3 with ⟨rfl,_⟩|⟨m1,m2,m3,m4⟩
  ·exact k3.nil.elim
  ·obtain ⟨e',hT,xs,hc⟩:=h.vis m4 m3 k3.oty
   exact ⟨m1,m2,T,x,m4,m3,(Blk_ext hext hT hc).1 k3⟩
 refine h.step u v w' lim' β' hd hext hgrow hlim hβ hv ?_ (fun l g hs hg=>let k:=ownk l g hs.1 hg;⟨k.1,k.2.1⟩) ?_ ?_ ?_ ?_ (fun d l _ ht=>by rw [htag] at ht;cases ht) ?_ hio1 hxb1 ?_ hK
 ·intro b d' hbd hne
  obtain ⟨cs,e,h1,h2,h3,h4⟩:=h.box b d' hbd
  have hk:=hkeep (β b) (Array.getElem?_eq_some_iff.1 h1).1 (fun d0 hc he=>hne d o q (by rw [h.inj b c d' d0 hbd hc he];exact hb))
  exact hk
 ·intro c' d' o' q' he
  rw [hb] at he;injection he with he;injection he with h1 he;injection he with h2 he;injection he with h3 h4
  subst h1 h2 h3 h4
  refine ⟨⟨cells,e0,hcell,hrep,hbase,hl0⟩,fun b d2 hne hbd he=>?_,fun l g hs hg=>(ownk l g hs.1 hg).2.2,fun d0 hc=>⟨(hold d0 hc).1,fun p e _=>(hold d0 hc).2 p e⟩⟩
  obtain ⟨cs,e,k1,_⟩:=h.box b d2 hbd
  cases hc:st.box c with
  | none=>have:=hblk hc;have:=(Array.getElem?_eq_some_iff.1 k1).1;omega
  | some d0=>rw [hβ c d0 hc] at he;exact hne (h.inj b c d2 d0 hbd hc he)
 ·intro l hl
  obtain ⟨p,rfl,hp⟩:=key l hl
  obtain ⟨T,x,h1,h2,h3⟩:=hown p hp
  refine ⟨T,x,(look p).1.trans h1,(look p).2.trans h2,?_⟩
  rcases h3 with ⟨rfl,ho⟩|⟨_,k2,k3,k4⟩
  ·exact OwnT.nil ho
  ·obtain ⟨T',x',h4,h5,h6⟩:=h.own _ k2
   rw [k3] at h5;injection h5 with h5;subst h5
   rw [k4] at h4;injection h4 with h4;subst h4
   obtain ⟨e',hT,xs,hc⟩:=h.vis k4 k3 h6.oty
   exact OwnT_ext hext hT hc h6 (fun g hg=>let k:=ownk _ g k2 ⟨T,x,k4,k3,hg⟩;⟨k.1,k.2.1⟩)
 ·intro l g hl hg
  obtain ⟨p,rfl,hp⟩:=key l hl
  obtain ⟨k1,k2,k3⟩:=back p g hp hg
  refine ⟨fun b d' hbd he=>?_,fun m hm hgy=>?_⟩
  ·by_cases hbb:b=c
   ·subst hbb;exact (ownk _ g k2 k3).2.2 he.symm
   ·have hbd0:st.box b=some d':=by
      have:Nat.beq b c=false:=by
       cases hq:Nat.beq b c with
       | true=>exact absurd (nbeq hq) hbb
       | false=>rfl
      simpa [apply,hb,this] using hbd
    rw [hβ b d' hbd0] at he
    exact h.ownb _ g k2 k3 b d' hbd0 he
  ·have:=h.sep _ _ g k2 hm.1 k3 hgy
   rw [this] at k1
   exact hm.2.1 k1
 ·intro l m g hl hm hx hy
  obtain ⟨p,rfl,hp⟩:=key l hl
  obtain ⟨p',rfl,hp'⟩:=key m hm
  obtain ⟨_,k2,k3⟩:=back p g hp hx
  obtain ⟨_,k2',k3'⟩:=back p' g hp' hy
  rw [hinj p hp p' hp' (h.sep _ _ g k2 k2' k3 k3')]
 ·refine .inl ⟨hrd,fun d' b _ hb'=>?_⟩
  have hlt:=hrb b hb'.symm
  exact hkeep b (Nat.lt_of_lt_of_le hlt h.grow.size) (fun d0 hc he=>by rw [←hβ c d0 hc] at he;omega)
 ·intro hst
  refine h.xs.keep hiox hxbx hV hβx htree (fun b d' hbd=>?_) (fun l g hl hg ht=>?_) hK (apply_rb hrw)
  ·by_cases hbb:b=c
   ·subst hbb;exact hctree
   ·have hbd0:st.box b=some d':=by
      have:Nat.beq b c=false:=by
       cases hq:Nat.beq b c with
       | true=>exact absurd (nbeq hq) hbb
       | false=>rfl
      simpa [apply,hb,this] using hbd
    rw [hβ b d' hbd0];exact h.xs.offb hbd0
  ·rcases zeh hl with hn|hs
   ·obtain ⟨p,rfl,hp⟩:=key l hn
    obtain ⟨_,k2,k3⟩:=back p g hp hg
    exact h.xs.off k2 k3 ht
   ·exact h.xs.off hs.1 ((hst l g hs).1 hg) ht
theorem Sim.gain {st:St} {a:Act} {w:World} {lim:Lim} {β:Mp} (h:Sim w0 lim0 rb n st a w lim β) (d:Tmp) (ps:List (List Nat))
 (hv : ∀p∈ps,∃T x,locTy st (.tmp d p)=some T∧locV st a w β (.tmp d p)=some x∧OwnT w lim w0.fr T x)
 (hvb : ∀p∈ps,∀g,HasL st a w β (.tmp d p) g→(∀b d',st.box b=some d'→β b≠g)∧(∀m,st.own m=true→¬HasL st a w β m g)∧¬isTree st β g)
 (hsep : ∀p∈ps,∀q∈ps,∀g,HasL st a w β (.tmp d p) g→HasL st a w β (.tmp d q) g→p=q)
 (htag : ∀t p,(st.env t).tag≠some (true,.tmp d p)) (hno : ∀p,st.own (.tmp d p)=false) :
 Sim w0 lim0 rb n {st with own:=fun l=>match l with
  | .tmp t p=>cnd (Nat.beq t d) (inPaths p ps) (st.own (.tmp t p))
  | .box b p=>st.own (.box b p)} a w lim β:=by
 generalize hst':({st with own:=fun l=>match l with
  | .tmp t p=>cnd (Nat.beq t d) (inPaths p ps) (st.own (.tmp t p))
  | .box b p=>st.own (.box b p)} : St)=st'
 have e1:st'.env=st.env:=by rw [←hst']
 have e2:st'.box=st.box:=by rw [←hst']
 have e3:st'.rd=st.rd:=by rw [←hst']
 have e4:st'.io=st.io:=by rw [←hst']
 have e5:st'.xb=st.xb:=by rw [←hst']
 have e6:st'.rb=st.rb:=by rw [←hst']
 have lt : ∀l,locTy st' l=locTy st l:=fun l=>by cases l<;>simp only [locTy,e1,e2]
 have lv : ∀l,locV st' a w β l=locV st a w β l:=fun l=>by cases l<;>simp only [locV,e1,e2]
 have key : ∀l,st'.own l=true→(∃p,l = .tmp d p∧p∈ps)∨st.own l=true:=by
  intro l hl
  rw [←hst'] at hl
  cases l with
  | tmp t p=>
    cases hq:Nat.beq t d with
    | true=>simp only [hq,cnd_true] at hl;exact .inl ⟨p,by rw [nbeq hq],zhe.1 hl⟩
    | false=>simp only [hq,cnd_false] at hl;exact .inr hl
  | box b p=>exact .inr hl
 have tr : ∀g,isTree st' β g↔isTree st β g:=fun g=>by simp only [isTree,e4,e5]
 have hh : ∀l g,HasL st' a w β l g↔HasL st a w β l g:=fun l g=>by
  unfold HasL;rw [lt,lv]
 refine {size:=h.size,defers:=h.defers,grow:=h.grow,limOld:=h.limOld,xrb:=h.xrb,rdk:=(by rw [e3];exact h.rdk),env:=fun t=>?_,box:=fun b x hb=>?_,inj:=fun b c x y hb hc he=>?_,own:=fun l hl=>?_,ownb:=fun l g hl hg b x hb=>?_,sep:=fun l m g hl hm hx hy=>?_,tag:=fun t l ht hl=>?_,rd:=fun x hx=>?_,xs:=?_}
 ·rw [e1]
  exact (h.env t).mono (Ext.refl _ _) (fun b x hb=>⟨rfl,x,by rw [e2];exact hb,rfl⟩) (fun x hx=>⟨x,by rw [e3];exact hx,rfl⟩) (fun r x hx=>⟨x,by rw [e4];exact hx,rfl,rfl⟩) (fun b t o hb=>⟨⟨o,by rw [e5];exact hb⟩,rfl⟩)
 ·rw [e2] at hb;exact h.box b x hb
 ·rw [e2] at hb hc;exact h.inj b c x y hb hc he
 ·rw [lt,lv]
  rcases key l hl with ⟨p,rfl,hp⟩|ho
  ·exact hv p hp
  ·exact h.own l ho
 ·rw [hh] at hg
  rw [e2] at hb
  rcases key l hl with ⟨p,rfl,hp⟩|ho
  ·exact (hvb p hp g hg).1 b x hb
  ·exact h.ownb l g ho hg b x hb
 ·rw [hh] at hx hy
  rcases key l hl with ⟨p,rfl,hp⟩|ho<;>rcases key m hm with ⟨q,rfl,hq⟩|ho'
  ·rw [hsep p hp q hq g hx hy]
  ·exact absurd hy ((hvb p hp g hx).2.1 m ho')
  ·exact absurd hx ((hvb q hq g hy).2.1 l ho)
  ·exact h.sep l m g ho ho' hx hy
 ·rw [e1] at ht
  rcases key l hl with ⟨p,rfl,hp⟩|ho
  ·exact absurd ht (htag t p)
  ·have k1:=h.tag t l ht ho
   rw [e1,lv,lt];exact k1
 ·rw [e3] at hx;exact h.rd x hx
 ·refine h.xs.keep e4 e5 (fun _ _ _=>⟨rfl,rfl⟩) (fun _ _ _ _=>rfl) (fun _ _=>⟨rfl,rfl⟩) (fun b x hb=>h.xs.offb (by rw [e2] at hb;exact hb)) (fun l g hl hg=>?_) (hrbk:=e6)
  rw [hh] at hg
  rcases key l hl with ⟨p,rfl,hp⟩|ho
  ·exact (hvb p hp g hg).2.2
  ·exact h.xs.off ho hg
end
end Go.Den
namespace Go.Den
def zeroCells:Ty→List Value
 | .int k=>[.int k 0]
 | .bool=>[.bool false]
 | .str=>[.string ⟨#[]⟩]
 | .unit=>[]
 | .prod a b=>zeroCells a++zeroCells b
 | .slice _=>[.slice none 0 0]
theorem zec (w:World) (lim:Lim) : ∀t:Ty,CRep w lim t t.zero (zeroCells t)
 | .int _=>rfl
 | .bool=>rfl
 | .str=>rfl
 | .unit=>rfl
 | .prod a b=>⟨_,_,rfl,zec w lim a,zec w lim b⟩
 | .slice _=>⟨none,0,rfl,Nat.le_refl _,.inl rfl⟩
def FieldsOk (tab:Tab):Ty→Nat→List Field→Prop
 | .unit,_,[]=>True
 | .prod a b, o, f :: fs => f.offset = o ∧ tab f.type = some a ∧ a.size ≠ 0 ∧ f.name ≠ "_" ∧ FieldsOk tab b (o + a.size) fs
 | _,_,_=>False
def DescOk (P:Program) (tab:Tab) (t:TypeId):Ty→Prop
 | .int k=>P.underlying t=some (.int k)
 | .bool=>P.underlying t=some .bool
 | .str=>P.underlying t=some .string
 | .slice e=>∃el,P.underlying t=some (.slice el)∧tab el=some e
 | ty=>∃fs,P.underlying t=some (.struct fs)∧FieldsOk tab ty 0 fs.toList
structure TyOk (P:Program) (tab:Tab) (t:TypeId) (ty:Ty):Prop where
 info : ∃i,P.info? t=some i∧i.size=ty.size∧i.zero=some (wrapV ty (zeroCells ty))∧i.bytes≤4096
 desc:DescOk P tab t ty
 cmp:isProd ty=true→P.stoodInHeld t=false∧P.eqGuardType P.depth t=false
def TabOk (P:Program) (tab:Tab):Prop:=∀t ty,tab t=some ty→TyOk P tab t ty
theorem zax {x:Option Ty} {b:Ty} (h:tyIs x b=true):x=some b:=by
 cases x with
 | none=>cases h
 | some t=>rw [Ty.of_beq h]
section
variable {P:Program} {tab:Tab} {w:World}
theorem zby {t:TypeId} {ty:Ty} (h:TyOk P tab t ty):(sizeOf t).run P w = .ok ty.size w:=by
 obtain ⟨i,h1,h2,_⟩:=h.info
 simp [sizeOf,typeInfo,h1,h2]
theorem zmg {t:TypeId} {ty:Ty} (h:TyOk P tab t ty):(zeroValue t).run P w = .ok (wrapV ty (zeroCells ty)) w:=by
 obtain ⟨i,h1,_,h3,_⟩:=h.info
 simp [zeroValue,typeInfo,h1,h3]
theorem run_isAgg {t:TypeId} {ty:Ty} (h:TyOk P tab t ty):(isAgg t).run P w = .ok (isProd ty) w:=by
 have hd:=h.desc
 cases ty with
 | int k=>have hd:P.underlying t=_:=hd;simp [isAgg,underlying,hd,isProd]
 | bool=>have hd:P.underlying t=_:=hd;simp [isAgg,underlying,hd,isProd]
 | str=>have hd:P.underlying t=_:=hd;simp [isAgg,underlying,hd,isProd]
 | unit=>obtain ⟨fs,hd,_⟩:=hd;simp [isAgg,underlying,hd,isProd]
 | prod a b=>obtain ⟨fs,hd,_⟩:=hd;simp [isAgg,underlying,hd,isProd]
 | slice e=>obtain ⟨fs,hd,_⟩:=hd;simp [isAgg,underlying,hd,isProd]
theorem zkr {t:TypeId} {ty:Ty} (h:TyOk P tab t ty) {lim:Lim} {x:ty.val} {cs:List Value} (hc:CRep w lim ty x cs) {b o:Nat}
 (hm : ∀j u,cs[j]?=some u→w.cell? ⟨b,o+j,none⟩=some u):(loadVar t ⟨b,o,none⟩).run P w = .ok (wrapV ty cs) w:=by
 have hadd : ∀j,(⟨b,o,none⟩:Addr).add j=⟨b,o+j,none⟩:=fun j=>by unfold Addr.add;split<;>simp_all
 have hl:(loadCells ⟨b,o,none⟩ ty.size).run P w = .ok cs.toArray w:=by
  have:=run_loadCells_list (P:=P) (w:=w) ⟨b,o,none⟩ cs (fun j v hv=>by rw [hadd];exact hm j v hv)
  rw [hc.length] at this
  exact this
 simp only [loadVar,Sem.run_bind,run_isAgg h,Result.andThen_ok]
 cases hp:isProd ty with
 | true=>
   simp only [if_true,Sem.run_bind,zby h,Result.andThen_ok,hl,Sem.run_pure]
   cases ty<;>first|rfl|cases hp
 | false=>
   obtain ⟨v,rfl⟩ : ∃v,cs=[v]:=by
    have:=hc.length
    cases ty<;>first|exact List.length_eq_one_iff.1 this|cases hp
   have hv:w.cell? ⟨b,o,none⟩=some v:=by simpa using hm 0 v rfl
   simp only [Bool.false_eq_true,if_false,run_load,hv]
   cases ty<;>first|rfl|cases hp
end
def Comp.out (st:St):Comp→Option St
 | .ret c u=>cond (chkB c) (some (apply st u)) none
 | .call _ _ F u=>F.map fun r=>apply st (u r)
theorem zap {st st':St} {c:Option Bool} {u:Upd} (h:(Comp.ret c u).out st=some st'):chkB c=true∧st'=apply st u:=by
 cases c with
 | none=>injection h with h;exact ⟨rfl,h.symm⟩
 | some c=>
   cases c with
   | true=>injection h with h;exact ⟨rfl,h.symm⟩
   | false=>cases h
def OpOk (P:Program) (w0:Base) (lim0:Lim) (rb:Option Nat) (n:Nat) (o:Oper) (st':St) (a:Act) (w:World):Prop:=
 ∀(K:Act→World→Prop) (Q:Exit→Act→World→Prop),(∀a' w' lim' β',Sim w0 lim0 rb n st' a' w' lim' β'→K a' w')→o.wp P a w K Q
section
variable {P:Program} {tab:Tab} {w0:Base} {lim0:Lim} {rb:Option Nat} {n:Nat}
theorem OpOk.value {o:Oper} {st':St} {a:Act} {w w':World} {lim:Lim} {β:Mp} {v:Value} (he:(execOp a.eval o).run P w = .ok (.value v) w')
 (hs:Sim w0 lim0 rb n st' (a.put o.dst v) w' lim β):OpOk P w0 lim0 rb n o st' a w:=by
 intro K Q hK
 unfold Oper.wp
 rw [he]
 exact hK _ _ _ _ hs
theorem OpOk.skip {o:Oper} {st':St} {a:Act} {w w':World} {lim:Lim} {β:Mp} (he:(execOp a.eval o).run P w = .ok .skip w')
 (hs:Sim w0 lim0 rb n st' (a.put o.dst undef) w' lim β):OpOk P w0 lim0 rb n o st' a w:=by
 intro K Q hK
 unfold Oper.wp
 rw [he]
 exact hK _ _ _ _ hs
section
variable {st:St} {a:Act} {w:World} {lim:Lim} {β:Mp}
theorem Sim.ent (h:Sim w0 lim0 rb n st a w lim β) (x:Operand):ERep st w lim β rb (st.ent x).av (a.eval x):=by
 cases x with
 | tmp t=>exact h.env t
 | const v=>
   simp only [St.ent,Act.eval]
   unfold constAV
   split
   ·exact ⟨_,rfl,rfl⟩
   ·exact ⟨_,rfl,rfl⟩
   ·exact ⟨[.string _],rfl,by simp [wrapV]⟩
   ·rfl
   ·trivial
 | global g=>trivial
 | func f=>rfl
theorem as_rep {t:Ty} {av:AV} {x:t.val} (h:AV.as t av=some x) {v:Value} (hv:ERep st w lim β rb av v):TRep w lim t x v:=by
 cases av with
 | dat u y=>
   obtain ⟨e,h⟩:=zbm h
   subst e;subst h;exact hv
 | nil=>
   cases t<;>first|(simp [AV.as] at h;done)|skip
   have h:some []=some x:=h
   injection h with h;subst h
   have hv:v=_:=hv
   subst hv
   exact ⟨[.slice none 0 0],⟨none,0,rfl,Nat.le_refl _,.inl rfl⟩,rfl⟩
 | any=>cases h
 | skp=>cases h
 | cel _ _=>cases h
 | ref _ _=>cases h
 | tup _ _=>cases h
 | rdr _=>cases h
 | xf _ _=>cases h
 | xp _ _ _ _=>cases h
 | xt _=>cases h
 | cx _ _=>cases h
 | fn _=>cases h
 | xe _ _=>cases h
 | mx _ _ _=>cases h
theorem int_rep {k:IntKind} {x:Int} {v:Value} (h:ERep st w lim β rb (.dat (.int k) x) v):v = .int k x:=by
 obtain ⟨cs,rfl,rfl⟩:=h;rfl
theorem bool_rep {x:Bool} {v:Value} (h:ERep st w lim β rb (.dat .bool x) v):v = .bool x:=by
 obtain ⟨cs,rfl,rfl⟩:=h;rfl
theorem str_rep {x:List UInt8} {v:Value} (h:ERep st w lim β rb (.dat .str x) v):v = .string ⟨⟨x⟩⟩:=by
 obtain ⟨cs,rfl,rfl⟩:=h;rfl
theorem zhv {t:Ty} {xs:List t.val} {v:Value} (h:ERep st w lim β rb (.dat (.slice t) xs) v) :
 ∃a c,v = .slice a xs.length c∧xs.length≤c∧SRep w lim (CRep w lim t) t.size xs a:=by
 obtain ⟨cs,⟨a,c,rfl,h1,h2⟩,rfl⟩:=h
 exact ⟨a,c,rfl,h1,h2⟩
theorem mk_int {k:IntKind} {x:Int} : ERep st w lim β rb (.dat (.int k) x) (.int k x):=⟨[.int k x],rfl,rfl⟩
theorem zkj {x:Bool} : ERep st w lim β rb (.dat .bool x) (.bool x):=⟨[.bool x],rfl,rfl⟩
theorem mk_str {x:List UInt8} : ERep st w lim β rb (.dat .str x) (.string ⟨⟨x⟩⟩):=⟨[.string ⟨⟨x⟩⟩],rfl,rfl⟩
theorem Sim.plain (h:Sim w0 lim0 rb n st a w lim β) (dst:Option Tmp) (av:AV) (v:Value) (hd : ∀d,dst=some d→d<n) (hv:ERep st w lim β rb av v) :
 Sim w0 lim0 rb n (apply st (upd0 dst av none)) (a.put dst v) w lim β:=
 h.val (upd0 dst av none) v hd rfl rfl hv (fun _=>.tmp 0 []) (fun p hp=>by cases hp) (fun p hp=>by cases hp) (fun l hl=>by cases hl) (fun l hl=>by cases hl)
theorem Sim.tagged (h:Sim w0 lim0 rb n st a w lim β) (dst:Option Tmp) (av:AV) (tag:Option (Bool×Loc)) (v:Value) (hd : ∀d,dst=some d→d<n) (hv:ERep st w lim β rb av v)
 (ht : ∀l,tag=some (true,l)→st.own l=true→TagOk av v (locV st a w β l) (locTy st l)) :
 Sim w0 lim0 rb n (apply st (upd0 dst av tag)) (a.put dst v) w lim β:=
 h.val (upd0 dst av tag) v hd rfl rfl hv (fun _=>.tmp 0 []) (fun p hp=>by cases hp) (fun p hp=>by cases hp) (fun _ _=>rfl) ht
end
end
end Go.Den
namespace Go.Den
section
variable {P:Program} {tab:Tab} {w0:Base} {lim0:Lim} {rb:Option Nat} {n:Nat}
variable {st st':St} {a:Act} {w:World} {lim:Lim} {β:Mp} {o:Oper} {c:Comp}
theorem zh9 (x:Option Addr) (m k:Nat):flatV (.slice x m k)=[.slice x m k]:=rfl
theorem bump_typeAt {a b:Ty} {q:List Nat} {u:Ty} (hq:q≠[]) (h:typeAt b q=some u):typeAt (.prod a b) (bump q)=some u:=by
 cases q with
 | nil=>exact absurd rfl hq
 | cons i q=>simpa [typeAt,bump] using h
theorem isSlT_some {t:Ty} (h:isSlT t=true) : ∃e,t = .slice e:=by
 cases t<;>first|exact ⟨_,rfl⟩|cases h
theorem slice_paths {e:Ty} {p:List Nat} (h:p∈slicePaths (.slice e)):p=[]∨p=[0]:=by
 simp only [slicePaths] at h
 cases h1:noSl e with
 | true=>rw [h1] at h;simp at h;exact .inl h
 | false=>
   rw [h1] at h
   cases h2:flatT e with
   | true=>rw [h2] at h;simpa using h
   | false=>rw [h2] at h;simp at h;exact .inl h
theorem zc3 (e:Ty):[]∈slicePaths (.slice e):=by
 simp only [slicePaths]
 cases noSl e<;>cases flatT e<;>simp
theorem slice_flat {e:Ty} (h:noSl e=true):slicePaths (.slice e)=[[]]:=by simp [slicePaths,h]
theorem zaw : ∀ {t:Ty} {p:List Nat},p∈slicePaths t→(∃T,typeAt t p=some T∧OTy T=true)∧(isProd t=true→p≠[]):=by
 intro t
 induction t with
 | slice e=>
   intro p h
   refine ⟨?_,fun h=>by cases h⟩
   rcases slice_paths h with rfl|rfl
   ·exact ⟨_,rfl,rfl⟩
   ·exact ⟨_,rfl,rfl⟩
 | prod a b iha ihb=>
   intro p h
   simp only [slicePaths,List.mem_append,List.mem_map] at h
   rcases h with ⟨q,hq,rfl⟩|h
   ·obtain ⟨⟨e,he,ho⟩,_⟩:=iha hq;exact ⟨⟨e,by simpa [typeAt] using he,ho⟩,fun _=>by simp⟩
   ·cases b with
    | prod c d=>
      simp only [List.mem_map] at h
      obtain ⟨q,hq,rfl⟩:=h
      obtain ⟨⟨e,he,ho⟩,hne⟩:=ihb hq
      have hne:=hne rfl
      exact ⟨⟨e,bump_typeAt hne he,ho⟩,fun _=>by cases q<;>simp_all [bump]⟩
    | int k=>simp at h
    | bool=>simp at h
    | str=>simp at h
    | unit=>simp at h
    | slice e=>simp at h
 | int k=>intro p h;simp [slicePaths] at h
 | bool=>intro p h;simp [slicePaths] at h
 | str=>intro p h;simp [slicePaths] at h
 | unit=>intro p h;simp [slicePaths] at h
theorem flat_prod {a b:Ty} (h:flatT (.prod a b)=true):flatT a=true∧((∃p q,b = .prod p q∧flatT b=true)∨b = .unit):=by
 simp only [flatT] at h
 cases ha:flatT a with
 | false=>rw [ha] at h;cases h
 | true=>
   rw [ha] at h
   refine ⟨rfl,?_⟩
   cases b with
   | prod p q=>exact .inl ⟨p,q,rfl,h⟩
   | unit=>exact .inr rfl
   | _=>cases h
theorem flat_paths : ∀ {t:Ty} {p:List Nat} {e:Ty},flatT t=true→typeAt t p=some (.slice e)→p∈slicePaths t:=by
 intro t
 induction t with
 | slice u _=>intro p e hf h;rw [(zb4 h).1];exact zc3 u
 | prod a b iha ihb=>
   intro p e hf h
   obtain ⟨f1,f2⟩:=flat_prod hf
   cases p with
   | nil=>simp [typeAt] at h
   | cons i p=>
     cases i with
     | zero=>
       simp only [typeAt] at h
       simp only [slicePaths]
       exact List.mem_append_left _ (List.mem_map.2 ⟨p,iha f1 h,rfl⟩)
     | succ i=>
       simp only [typeAt] at h
       rcases f2 with ⟨u,v,rfl,f2⟩|rfl
       ·rw [slicePaths];exact List.mem_append_right _ (List.mem_map.2 ⟨i::p,ihb f2 h,rfl⟩)
       ·simp [typeAt] at h
 | int k=>intro p e _ h;cases p<;>simp [typeAt] at h
 | bool=>intro p e _ h;cases p<;>simp [typeAt] at h
 | str=>intro p e _ h;cases p<;>simp [typeAt] at h
 | unit=>intro p e _ h;cases p<;>simp [typeAt] at h
theorem flat_plain : ∀ {t:Ty} {p:List Nat},flatT t=true→p∈slicePaths t→∃e,typeAt t p=some (.slice e):=by
 intro t
 induction t with
 | slice u _=>intro p hf h;rw [slice_flat hf] at h;have:p=[]:=by simpa using h
              subst this;exact ⟨u,rfl⟩
 | prod a b iha ihb=>
   intro p hf h
   obtain ⟨f1,f2⟩:=flat_prod hf
   simp only [slicePaths,List.mem_append,List.mem_map] at h
   rcases h with ⟨q,hq,rfl⟩|h
   ·obtain ⟨e,he⟩:=iha f1 hq;exact ⟨e,by simpa [typeAt] using he⟩
   ·rcases f2 with ⟨u,v,rfl,f2⟩|rfl
    ·simp only [List.mem_map] at h
     obtain ⟨q,hq,rfl⟩:=h
     obtain ⟨e,he⟩:=ihb f2 hq
     exact ⟨e,bump_typeAt ((zaw hq).2 rfl) he⟩
    ·simp at h
 | int k=>intro p _ h;simp [slicePaths] at h
 | bool=>intro p _ h;simp [slicePaths] at h
 | str=>intro p _ h;simp [slicePaths] at h
 | unit=>intro p _ h;simp [slicePaths] at h
theorem CRep.at : ∀ {t:Ty} {p:List Nat} {u:Ty} {x:t.val} {cs:List Value},CRep w lim t x cs→typeAt t p=some u →
 ∃(y:u.val) (cs':List Value),CRep w lim u y cs'∧∀j v,cs'[j]?=some v→cs[offs t p+j]?=some v:=by
 intro t
 induction t with
 | prod a b iha ihb=>
   intro p u x cs hc hp
   cases p with
   | nil=>simp [typeAt] at hp;subst hp;exact ⟨x,cs,hc,fun j v h=>by simpa [offs] using h⟩
   | cons i p=>
     obtain ⟨c1,c2,rfl,h1,h2⟩:=hc
     cases i with
     | zero=>
       simp only [typeAt] at hp
       obtain ⟨y,cs',hy,hj⟩:=iha h1 hp
       refine ⟨y,cs',hy,fun j v h=>?_⟩
       have:=hj j v h
       simp only [offs]
       rw [List.getElem?_append_left (List.getElem?_eq_some_iff.1 this).1];exact this
     | succ i=>
       simp only [typeAt] at hp
       obtain ⟨y,cs',hy,hj⟩:=ihb h2 hp
       refine ⟨y,cs',hy,fun j v h=>?_⟩
       have:=hj j v h
       simp only [offs]
       rw [List.getElem?_append_right (by rw [h1.length];omega),h1.length]
       rw [show a.size+offs b (i::p)+j-a.size=offs b (i::p)+j by omega];exact this
 | int k=>intro p u x cs hc hp;cases p<;>simp [typeAt] at hp;subst hp;exact ⟨x,cs,hc,fun j v h=>by simpa [offs] using h⟩
 | bool=>intro p u x cs hc hp;cases p<;>simp [typeAt] at hp;subst hp;exact ⟨x,cs,hc,fun j v h=>by simpa [offs] using h⟩
 | str=>intro p u x cs hc hp;cases p<;>simp [typeAt] at hp;subst hp;exact ⟨x,cs,hc,fun j v h=>by simpa [offs] using h⟩
 | unit=>intro p u x cs hc hp;cases p<;>simp [typeAt] at hp;subst hp;exact ⟨x,cs,hc,fun j v h=>by simpa [offs] using h⟩
 | slice e=>
   intro p u x cs hc hp
   rcases zce hp with ⟨rfl,rfl⟩|⟨rfl,rfl⟩
   ·exact ⟨x,cs,hc,fun j v h=>by simpa [offs] using h⟩
   ·exact ⟨(x,()),cs,⟨cs,[],by simp,hc,rfl⟩,fun j v h=>by simpa [offs] using h⟩
theorem CRep.sliceAt {t:Ty} {p:List Nat} {T:Ty} {x:t.val} {cs:List Value} (h:CRep w lim t x cs) (hp:typeAt t p=some T) (ho:OTy T=true) :
 ∃b m k,cs[offs t p]?=some (.slice b m k):=by
 obtain ⟨e,_,xs,v,k2,a,c,k3,_⟩:=h.vis hp ho
 injection k3 with k3 _
 exact ⟨a,_,c,by rw [←k3];exact k2⟩
theorem owned_mem {x:Operand} {p:List Nat} : ∀ {ps:List (List Nat)},p∈st.owned x ps→p∈ps∧st.ownOp x p=true
 | [],h=>by simp [St.owned] at h
 | q::qs,h=>by
   simp only [St.owned] at h
   cases hq:st.ownOp x q with
   | true=>
     rw [hq] at h;simp at h
     rcases h with rfl|h
     ·exact ⟨by simp,hq⟩
     ·obtain ⟨h1,h2⟩:=owned_mem h;exact ⟨by simp [h1],h2⟩
   | false=>
     rw [hq] at h
     obtain ⟨h1,h2⟩:=owned_mem h;exact ⟨by simp [h1],h2⟩
def srcOf:Operand→List Nat→Loc
 | .tmp u,p=>.tmp u p
 | _,p=>.tmp 0 p
theorem srcOf_inj (x:Operand) {p q:List Nat} (h:srcOf x p=srcOf x q):p=q:=by
 cases x<;>simp [srcOf] at h<;>exact h
theorem mem_takesOf {x:Operand} {ps:List (List Nat)} {p:List Nat} (hx : ∀k,x≠.const k) (h:st.ownOp x p=true) (hp:p∈ps):srcOf x p∈takesOf x ps:=by
 cases x with
 | tmp u=>exact List.mem_map.2 ⟨p,hp,rfl⟩
 | const k=>exact absurd rfl (hx k)
 | global g=>cases h
 | func f=>cases h
theorem handed (h:Sim w0 lim0 rb n st a w lim β) {x:Operand} {t:Ty} {p:List Nat} (hav : ∀u,x = .tmp u→(∃v,(st.env u).av = .dat t v)∨(st.env u).av = .nil)
 (hcn : ∀k,x = .const k→(st.ent x).av = .nil∨slicePaths t=[])
 {v:t.val} (hr:TRep w lim t v (a.eval x)) (hs:p∈slicePaths t) (hp:st.ownOp x p=true) :
 ∃T y,typeAt t p=some T∧(a.eval x).cells.toList[offs t p]?=some y ∧
  ((y = .slice none 0 0∧OTy T=true)∨((∀k,x≠.const k)∧st.own (srcOf x p)=true∧locV st a w β (srcOf x p)=some y∧locTy st (srcOf x p)=some T)):=by
 obtain ⟨⟨e,he1,ho1⟩,_⟩:=zaw hs
 obtain ⟨b,m,k,hk⟩:=hr.cells.sliceAt he1 ho1
 refine ⟨e,_,he1,hk,?_⟩
 cases x with
 | const kk=>
   rcases hcn kk rfl with hn|hn
   ·have hev:=h.ent (.const kk)
    rw [hn] at hev
    have hev:a.eval (.const kk) = .slice none 0 0:=hev
    rw [hev] at hk
    have:(Value.slice none 0 0).cells.toList=[.slice none 0 0]:=rfl
    rw [this] at hk
    cases ho:offs t p with
    | zero=>rw [ho] at hk;simp at hk;exact .inl (by obtain ⟨rfl,rfl,rfl⟩:=hk;exact ⟨rfl,ho1⟩)
    | succ j=>rw [ho] at hk;simp at hk
   ·rw [hn] at hs;cases hs
 | tmp u=>
   obtain ⟨v',hav⟩ : ∃v,(st.env u).av = .dat t v:=by
    rcases hav u rfl with hav|hav
    ·exact hav
    ·obtain ⟨e',y',k1,_⟩:=h.own (.tmp u p) hp
     rw [zbb,hav] at k1;cases k1
   refine .inr ⟨fun k=>by simp,hp,?_,?_⟩
   ·simp only [srcOf]
    rw [zda,hav]
    simp only [partAV]
    have:flatV (tmpOf a u)=(a.eval (.tmp u)).cells.toList:=zdl hr
    rw [this];exact hk
   ·simp only [srcOf];rw [zbb,hav];exact he1
 | global g=>cases hp
 | func f=>cases hp
theorem coerce_rep (h:Sim w0 lim0 rb n st a w lim β) (x:Operand) {t:Option Ty} {av:AV} (hav:coerce t (st.ent x).av=av):ERep st w lim β rb av (a.eval x):=by
 have hx:=h.ent x
 cases hk:(st.ent x).av with
 | nil=>
   rw [hk] at hav hx
   have hx:a.eval x=_:=hx
   simp only [coerce] at hav
   split at hav
   ·subst hav;rw [hx];exact ⟨_,⟨none,0,rfl,Nat.le_refl _,.inl rfl⟩,rfl⟩
   ·subst hav;trivial
 | _=>rw [hk] at hav hx;simp only [coerce] at hav;subst hav;exact hx
theorem const_own {k:Value} {t:Option Ty} {ty:Ty} {v:ty.val} (hco:coerce t (st.ent (.const k)).av = .dat ty v):(st.ent (.const k)).av = .nil∨slicePaths ty=[]:=by
 cases hk:(st.ent (.const k)).av with
 | nil=>exact .inl rfl
 | dat u y=>
   rw [hk] at hco;simp only [coerce] at hco
   injection hco with h1 h2;subst h1
   right
   simp only [St.ent,constAV] at hk
   split at hk<;>first|(injection hk with h3;subst h3;rfl)|cases hk
 | _=>rw [hk] at hco;simp only [coerce] at hco;cases hco
theorem ok_move (h:Sim w0 lim0 rb n st a w lim β) (hd : ∀d,o.dst=some d→d<n) {x:Operand} (hop:o.op = .move x) (ho:(stMove tab o x st).out st=some st'):OpOk P w0 lim0 rb n o st' a w:=by
 have he:(execOp a.eval o).run P w = .ok (.value (a.eval x)) w:=by simp [execOp,hop]
 have hx:=h.ent x
 unfold stMove at ho
 cases x with
 | tmp t=>
   obtain ⟨_,rfl⟩:=zap ho
   refine .value he (h.tagged _ _ _ _ hd hx fun l hl hol=>?_)
   have hent:st.ent (.tmp t)=st.env t:=rfl
   cases hsl:isSlV (st.env t).av with
   | false=>
     rw [hent,hsl] at hl
     exact h.tag t l hl hol
   | true=>
   rw [hent,hsl] at hl
   simp only [cnd_true] at hl
   cases hot:st.own (.tmp t []) with
   | true=>
     simp only [hot,cnd_true] at hl;injection hl with hl;injection hl with _ hl;subst hl
     have hav : ∃e x,(st.env t).av = .dat (.slice e) x:=by
      cases hav:(st.env t).av with
      | dat ty x=>
        rw [hav] at hsl
        obtain ⟨e,rfl⟩:=isSlT_some (t:=ty) hsl
        exact ⟨e,x,rfl⟩
      | _=>rw [hav] at hsl;cases hsl
     obtain ⟨e,x,hav⟩:=hav
     have h1:locTy st (.tmp t [])=some (.slice e):=by rw [zbb,hav];rfl
     refine .inl ⟨?_,e,x,hav,h1⟩
     rw [zda,hav]
     have hev:=h.env t
     rw [hav] at hev
     obtain ⟨b,cc,hv,_⟩:=zhv hev
     simp only [partAV,hv,zh9,offs]
     have:a.eval (.tmp t)=tmpOf a t:=rfl
     rw [this,hv];rfl
   | false=>
     simp only [hot,cnd_false] at hl
     exact h.tag t l hl hol
 | const k=>
   simp only [] at ho
   cases hco:coerce (tab o.type) (st.ent (.const k)).av with
   | dat t v=>
     rw [hco] at ho
     obtain ⟨_,rfl⟩:=zap ho
     have hr:TRep w lim t v (a.eval (.const k)):=coerce_rep h _ hco
     refine .value he (h.val _ _ hd rfl rfl hr (srcOf (.const k)) (fun p hp=>?_) (fun p _ q _ hpq=>srcOf_inj _ hpq) (fun l hl=>by cases hl) (fun l hl=>by cases hl))
     obtain ⟨e,y,h1,h2,h3⟩:=handed h (x:=.const k) (p:=p) (fun u hu=>by cases hu) (fun _ _=>const_own hco) hr hp rfl
     refine ⟨e,y,h1,?_,?_⟩
     ·simp only [upd0,partAV];rw [zdl hr];exact h2
     ·rcases h3 with h3|⟨h3,_⟩
      ·exact .inl h3
      ·exact absurd rfl (h3 k)
   | _=>
     rw [hco] at ho
     obtain ⟨_,rfl⟩:=zap ho
     exact .value he (h.plain _ _ _ hd (coerce_rep h _ hco))
 | global g=>
   simp only [] at ho
   simp only [St.ent,coerce] at ho
   obtain ⟨_,rfl⟩:=zap ho
   exact .value he (h.plain _ _ _ hd trivial)
 | func f=>
   simp only [] at ho
   simp only [St.ent,coerce] at ho
   obtain ⟨_,rfl⟩:=zap ho
   exact .value he (h.plain _ _ _ hd rfl)
end
end Go.Den
namespace Go.Den
section
variable {P:Program} {tab:Tab} {w0:Base} {lim0:Lim} {rb:Option Nat} {n:Nat}
variable {st st':St} {a:Act} {w:World} {lim:Lim} {β:Mp} {o:Oper} {c:Comp}
theorem Sim.passed (h:Sim w0 lim0 rb n st a w lim β) (hd : ∀d,o.dst=some d→d<n) (x:Operand) {t:Ty} {v:t.val}
 (hav : ∀u,x = .tmp u→(∃v,(st.env u).av = .dat t v)∨(st.env u).av = .nil) (hcn : ∀k,x = .const k→(st.ent x).av = .nil∨slicePaths t=[]) (hr:TRep w lim t v (a.eval x)) :
 Sim w0 lim0 rb n (apply st {upd0 o.dst (.dat t v) none with own:=st.owned x (slicePaths t),takes:=takesOf x (st.owned x (slicePaths t))}) (a.put o.dst (a.eval x)) w lim β:=by
 refine h.val {upd0 o.dst (.dat t v) none with own:=st.owned x (slicePaths t),takes:=takesOf x (st.owned x (slicePaths t))} _ hd rfl rfl hr (srcOf x) (fun p hp=>?_) (fun p _ q _ hpq=>srcOf_inj _ hpq) (fun l hl=>by cases hl) (fun l hl=>by cases hl)
 obtain ⟨h1,h2⟩:=owned_mem hp
 obtain ⟨e,y,k1,k2,k3⟩:=handed h hav hcn hr h1 h2
 refine ⟨e,y,k1,by simp only [upd0,partAV];rw [zdl hr];exact k2,?_⟩
 rcases k3 with k3|⟨k3,k4⟩
 ·exact .inl k3
 ·exact .inr ⟨mem_takesOf k3 h2 hp,k4⟩
theorem ok_assign (h:Sim w0 lim0 rb n st a w lim β) (hd : ∀d,o.dst=some d→d<n) {x:Operand} (hop:o.op = .assign x) (ho:(stAssign tab o x st).out st=some st'):OpOk P w0 lim0 rb n o st' a w:=by
 have he:(execOp a.eval o).run P w = .ok (.value (a.eval x)) w:=by simp [execOp,hop]
 unfold stAssign at ho
 cases hco:coerce (tab o.type) (st.ent x).av with
 | dat t v=>
   rw [hco] at ho
   obtain ⟨_,rfl⟩:=zap ho
   refine .value he (h.passed hd x (fun u hu=>?_) (fun k hk=>by subst hk;exact const_own hco) (coerce_rep h _ hco))
   subst hu
   have hx:=h.ent (.tmp u)
   cases hk:(st.ent (.tmp u)).av with
   | dat ty y=>rw [hk] at hco;simp only [coerce] at hco;injection hco with h1 h2;subst h1;exact .inl ⟨y,hk⟩
   | nil=>exact .inr hk
   | _=>rw [hk] at hco;simp only [coerce] at hco;cases hco
 | _=>
   rw [hco] at ho
   obtain ⟨_,rfl⟩:=zap ho
   exact .value he (h.plain _ _ _ hd (coerce_rep h _ hco))
theorem ok_pick (h:Sim w0 lim0 rb n st a w lim β) (hd : ∀d,o.dst=some d→d<n) {x y z:Operand} (hop:o.op = .pick x y z) (hc:stPick o x y z st=some c) (ho:c.out st=some st'):OpOk P w0 lim0 rb n o st' a w:=by
 unfold stPick at hc
 have hx:=h.ent x
 cases hx':(st.ent x).av with
 | dat t b=>
   rw [hx'] at hc hx
   cases t<;>try (simp only [] at hc;cases hc)
   have hb:=bool_rep hx
   have he:(execOp a.eval o).run P w = .ok (.value (if (show Bool from b)=true then a.eval y else a.eval z)) w:=by simp [execOp,hop,hb,asBool];rfl
   have hy:=h.ent y
   have hz:=h.ent z
   have fin : ∀av,ERep st w lim β rb av (if (show Bool from b)=true then a.eval y else a.eval z)→some (Comp.ret none (upd0 o.dst av none))=some c→OpOk P w0 lim0 rb n o st' a w:=by
    intro av hav hcc
    injection hcc with hcc;subst hcc
    obtain ⟨_,rfl⟩:=zap ho
    exact .value he (h.plain _ _ _ hd hav)
   have two:ERep st w lim β rb (cnd b (st.ent y).av (st.ent z).av) (if (show Bool from b)=true then a.eval y else a.eval z):=by
    cases b with
    | true=>exact hy
    | false=>exact hz
   cases hy':(st.ent y).av with
   | dat t v=>
     cases hz':(st.ent z).av with
     | dat u w2=>
       simp only [hy',hz'] at hc
       cases hcast:Ty.cast u t w2 with
       | none=>rw [hcast] at hc;cases hc
       | some w3=>
         rw [hcast] at hc
         refine fin _ ?_ hc
         obtain ⟨e,hw3⟩:=zbm hcast
         subst e;subst hw3
         rw [hy'] at hy;rw [hz'] at hz
         cases b with
         | true=>exact hy
         | false=>exact hz
     | _=>simp only [hy',hz'] at hc two;exact fin _ two hc
   | _=>simp only [hy'] at hc two;exact fin _ two hc
 | _=>rw [hx'] at hc;cases hc
theorem ok_nilCheck (h:Sim w0 lim0 rb n st a w lim β) (hd : ∀d,o.dst=some d→d<n) {x:Operand} (hop:o.op = .nilCheck x)
 (hc:(match (st.ent x).av with
   | .cel b p=>some (.ret none (upd0 o.dst (.cel b p) none))
   | .rdr p=>some (.ret none (upd0 o.dst (.rdr p) none))
   | _=>none)=some c) (ho:c.out st=some st'):OpOk P w0 lim0 rb n o st' a w:=by
 have hx:=h.ent x
 cases hx':(st.ent x).av with
 | cel b p=>
   rw [hx'] at hc hx
   injection hc with hc;subst hc
   obtain ⟨_,rfl⟩:=zap ho
   obtain ⟨d,h1,h2⟩:=hx
   exact .value (v:=a.eval x) (by simp [execOp,hop,h2]) (h.plain _ _ _ hd ⟨d,h1,h2⟩)
 | rdr p=>
   rw [hx'] at hc hx
   injection hc with hc;subst hc
   obtain ⟨_,rfl⟩:=zap ho
   obtain ⟨d,b,h1,h2,h3⟩:=hx
   exact .value (v:=a.eval x) (by simp [execOp,hop,h3]) (h.plain _ _ _ hd ⟨d,b,h1,h2,h3⟩)
 | _=>rw [hx'] at hc;cases hc
theorem getP_app : ∀ {p:List Nat} {t:Ty} {x:t.val} {y:Dat},getP t x p=some y→∀(q:List Nat) {u:Ty},typeAt y.1 q=some u→typeAt t (p++q)=some u∧offs t (p++q)=offs t p+offs y.1 q
 | [],t,x,y,h,q,u,hq=>by
   simp [getP] at h;subst h
   exact ⟨by simpa using hq,by simp [offs]⟩
 | i::p,t,x,y,h,q,u,hq=>by
   simp only [getP] at h
   cases hf:getF t x i with
   | none=>rw [hf] at h;cases h
   | some d=>
     rw [hf] at h
     obtain ⟨h1,h2⟩:=getP_app h q hq
     simp only [List.cons_append]
     refine ⟨by rw [(zdu (p++q) hf).1];exact h1,?_⟩
     rw [(zdu (p++q) hf).2,(zdu p hf).2,h2];omega
theorem ownedB_mem {b:Tmp} {p q:List Nat} : ∀ {ps:List (List Nat)},q∈st.ownedB b p ps→q∈ps∧st.own (.box b (p++q))=true
 | [],h=>by simp [St.ownedB] at h
 | r::rs,h=>by
   simp only [St.ownedB] at h
   cases hq:st.own (.box b (p++r)) with
   | true=>
     rw [hq] at h;simp at h
     rcases h with rfl|h
     ·exact ⟨by simp,hq⟩
     ·obtain ⟨h1,h2⟩:=ownedB_mem h;exact ⟨by simp [h1],h2⟩
   | false=>
     rw [hq] at h
     obtain ⟨h1,h2⟩:=ownedB_mem h;exact ⟨by simp [h1],h2⟩
theorem flat_slice_at : ∀ {t:Ty} {p:List Nat},flatT t=true→p∈slicePaths t→∃e,typeAt t p=some (.slice e):=by
 intro t
 induction t with
 | slice e=>
   intro p hf hp
   have hf:noSl e=true:=hf
   simp only [slicePaths,hf,cnd_true,List.mem_singleton] at hp
   subst hp;exact ⟨e,rfl⟩
 | prod a b iha ihb=>
   intro p hf hp
   obtain ⟨f1,f2⟩:=flat_prod hf
   simp only [slicePaths,List.mem_append,List.mem_map] at hp
   rcases hp with ⟨q,hq,rfl⟩|hp
   ·obtain ⟨e,he⟩:=iha f1 hq;exact ⟨e,by simpa [typeAt] using he⟩
   ·rcases f2 with ⟨c,d,rfl,f2⟩|rfl
    ·simp only [List.mem_map] at hp
     obtain ⟨q,hq,rfl⟩:=hp
     obtain ⟨e,he⟩:=ihb f2 hq
     exact ⟨e,bump_typeAt ((zaw hq).2 rfl) he⟩
    ·simp at hp
 | int k=>intro p _ h;simp [slicePaths] at h
 | bool=>intro p _ h;simp [slicePaths] at h
 | str=>intro p _ h;simp [slicePaths] at h
 | unit=>intro p _ h;simp [slicePaths] at h
theorem starOf_some {x:Operand} {u:Ty} {l:Loc} (h:starOf st o x u=some l) : ∃t,x = .tmp t∧flatT u=true∧(st.env t).tag=some (true,l)∧st.own l=true:=by
 unfold starOf at h
 cases hm:mkD st o.dst with
 | false=>rw [hm] at h;cases h
 | true=>
 cases hf:flatT u with
 | false=>rw [hm,hf] at h;cases h
 | true=>
 rw [hm,hf] at h
 simp only [cnd_true] at h
 split at h
 ·rename_i l' ht
  cases ho:st.own l' with
  | false=>rw [ho] at h;cases h
  | true=>
    rw [ho] at h
    injection h with h;subst h
    cases x with
    | tmp t=>exact ⟨t,rfl,rfl,ht,ho⟩
    | const _=>cases ht
    | global _=>cases ht
    | func _=>cases ht
 ·cases h
theorem ok_load (hT:TabOk P tab) (h:Sim w0 lim0 rb n st a w lim β) (hrb : ∀k,some k=rb→k<w0.heap.size) (hd : ∀d,o.dst=some d→d<n) {t:TypeId} {x:Operand} (hop:o.op = .load t x) (hc:stLoad tab o t x st=some c) (ho:c.out st=some st'):OpOk P w0 lim0 rb n o st' a w:=by
 unfold stLoad at hc
 have hx:=h.ent x
 -- a box's part, or the reader's
 have part : ∀ {g:Nat} {cells:Array Value} {e:TypeId} {d:Dat} {p:List Nat} {y:Dat},w.heap[g]?=some (.cells cells e (0,0))→CRep w lim d.1 d.2 cells.toList→getP d.1 d.2 p=some y →
  ∃cs,CRep w lim y.1 y.2 cs∧∀j u,cs[j]?=some u→w.cell? ⟨g,offs d.1 p+j,none⟩=some u:=by
  intro g cells e d p y hg hr hp
  obtain ⟨c1,c2,c3,h1,h2,h3,_⟩:=hr.part hp
  refine ⟨c2,h3,fun j u hu=>?_⟩
  simp only [World.cell?,hg]
  have:cells[offs d.1 p+j]?=cells.toList[offs d.1 p+j]?:=by simp
  rw [←h2]
  simp only [Option.isSome_none,Bool.false_eq_true,if_false]
  rw [←Array.getElem?_toList,h1,List.getElem?_append_right (by omega)]
  rw [show c1.length+j-c1.length=j by omega,List.getElem?_append_left (List.getElem?_eq_some_iff.1 hu).1]
  exact hu
 have run : ∀ {g oo:Nat} {y:Dat} {cs:List Value},a.eval x = .pointer (some ⟨g,oo,none⟩)→tab t=some y.1→CRep w lim y.1 y.2 cs→(∀j u,cs[j]?=some u→w.cell? ⟨g,oo+j,none⟩=some u) →
  (execOp a.eval o).run P w = .ok (.value (wrapV y.1 cs)) w:=by
  intro g oo y cs he ht hr hm
  simp [execOp,hop,Instr.loadAt,Instr.sureAddr,he,zkr (hT _ _ ht) hr hm]
 cases hx':(st.ent x).av with
 | cel b p=>
   rw [hx'] at hc hx
   obtain ⟨d,h1,h2⟩:=hx
   simp only [h1] at hc
   cases hp:getP d.1 d.2 p with
   | none=>rw [hp] at hc;cases hc
   | some y=>
     rw [hp] at hc;simp only [] at hc
     cases hty:tyIs (tab t) y.1 with
     | false=>rw [hty] at hc;cases hc
     | true=>
       rw [hty] at hc
       cases hmk:mkD st o.dst with
       | true=>
         rw [hmk] at hc
         injection hc with hc;subst hc
         obtain ⟨_,rfl⟩:=zap ho
         obtain ⟨cells,e,k1,k2,_⟩:=h.box b d h1
         obtain ⟨cs,k3,k4⟩:=part k1 k2 hp
         refine .value (run h2 (zax hty) k3 k4) (h.val {upd0 o.dst (.dat y.1 y.2) none with own:=st.ownedB b p (slicePaths y.1),takes:=(st.ownedB b p (slicePaths y.1)).map fun q=>.box b (p++q)} _ hd rfl rfl ⟨cs,k3,rfl⟩
          (fun q=>.box b (p++q)) (fun q hq=>?_) (fun q _ q' _ hqq=>?_) (fun l hl=>by cases hl) (fun l hl=>by cases hl))
         ·obtain ⟨m1,m2⟩:=ownedB_mem hq
          obtain ⟨⟨e',he',ho'⟩,_⟩:=zaw m1
          obtain ⟨t1,t2⟩:=getP_app hp q he'
          have hT':TRep w lim y.1 y.2 (wrapV y.1 cs):=⟨cs,k3,rfl⟩
          obtain ⟨bb,mm,kk,hk⟩:=k3.sliceAt he' ho'
          refine ⟨e',_,he',by simp only [upd0,partAV];rw [zdl hT',za6 k3];simpa using hk,.inr ⟨List.mem_map.2 ⟨q,hq,rfl⟩,m2,?_,?_⟩⟩
          ·simp only [locV,h1,t2,Nat.add_assoc];exact k4 _ _ hk
          ·simp only [locTy,h1];exact t1
         ·injection hqq with _ hqq;exact List.append_cancel_left hqq
       | false=>
       rw [hmk] at hc
       injection hc with hc;subst hc
       obtain ⟨_,rfl⟩:=zap ho
       obtain ⟨cells,e,k1,k2,_⟩:=h.box b d h1
       obtain ⟨cs,k3,k4⟩:=part k1 k2 hp
       refine .value (run h2 (zax hty) k3 k4) (h.tagged _ _ _ _ hd ⟨cs,k3,rfl⟩ fun l hl hol=>?_)
       cases hsl:isSlT y.1 with
       | false=>rw [hsl] at hl;cases hl
       | true=>
       rw [hsl] at hl;simp only [cnd_true] at hl
       cases hob:st.own (.box b p) with
       | false=>rw [hob] at hl;cases hl
       | true=>
         rw [hob] at hl;injection hl with hl;injection hl with _ hl;subst hl
         obtain ⟨e',he'⟩:=isSlT_some hsl
         obtain ⟨ty,yv⟩:=y
         simp only at he';subst he'
         have m1:locTy st (.box b p)=some (.slice e'):=by simp only [locTy,h1];exact zb0 hp
         obtain ⟨aa,cc,hcs,_⟩:=k3
         subst hcs
         refine .inl ⟨?_,e',yv,rfl,m1⟩
         simp only [locV,h1,wrapV]
         simpa using k4 0 _ rfl
 | ref u y=>
   rw [hx'] at hc hx
   simp only [] at hc
   obtain ⟨b,oo,cs,h1,h2,h3,h4,h5⟩:=hx
   cases hty:tyIs (tab t) u with
   | false=>rw [hty] at hc;cases hc
   | true=>
     rw [hty] at hc
     simp only [cnd_true] at hc
     cases hso:starOf st o x u with
     | none=>
       rw [hso] at hc
       injection hc with hc;subst hc
       obtain ⟨_,rfl⟩:=zap ho
       exact .value (run (y:=⟨u,y⟩) h1 (zax hty) h3 h5) (h.plain _ _ _ hd ⟨cs,h3,rfl⟩)
     | some l=>
       rw [hso] at hc
       injection hc with hc;subst hc
       obtain ⟨_,rfl⟩:=zap ho
       obtain ⟨t0,rfl,hfl,htg,hol⟩:=starOf_some hso
       have hav:(st.env t0).av = .ref u y:=hx'
       rcases h.tag t0 l htg hol with ⟨_,e,z,k2,_⟩|⟨e,z,g,o',m,cc,i,k2,k3,k4,k5,k6⟩
       ·rw [hav] at k2;cases k2
       rw [hav] at k2
       injection k2 with k2 k2';subst k2
       have hev:a.eval (.tmp t0)=_:=h1
       have h1:tmpOf a t0=_:=h1
       rw [k6] at h1
       injection h1 with h1;injection h1 with h1;injection h1 with q1 q2 _
       subst q1;subst q2
       obtain ⟨T,v,n1,n2,n3⟩:=h.own l hol
       rw [k3] at n1;injection n1 with n1;subst n1
       rw [k4] at n2;injection n2 with n2;subst n2
       obtain ⟨n4,n5⟩:=n3
       have hT':TRep w lim u y (wrapV u cs):=⟨cs,h3,rfl⟩
       have at' : ∀p e' x',typeAt u p=some (.slice e')→partAV (wrapV u cs) p (.dat u y)=some x'→elemAt w u (.slice (some ⟨g,o',none⟩) m cc) i p=some x':=by
        intro p e' x' _ hx2
        simp only [partAV] at hx2
        rw [zdl hT',za6 h3] at hx2
        simp only [elemAt,if_pos k5]
        exact h5 _ _ hx2
       refine .value (run (y:=⟨u,y⟩) hev (zax hty) h3 h5) (h.grown {upd0 o.dst (.dat u y) none with own:=slicePaths u,takes:=[l]} _ w lim hd rfl (Ext.refl _ _) h.grow (fun _ _ _ _=>⟨rfl,rfl⟩) (fun k hk=>⟨hrb k hk,rfl⟩) ⟨cs,h3,rfl⟩ (fun p hp=>?_) (fun p hp q hq T1 T2 x1 x2 g' ht1 ht2 hx1 hx2 hb1 hb2=>?_) rfl (.inl ⟨rfl,fun _ _=>rfl⟩))
       ·obtain ⟨e',he'⟩:=flat_slice_at hfl hp
        obtain ⟨bb,mm,kk,hk⟩:=h3.sliceAt he' rfl
        have hpv:partAV (wrapV u cs) p (.dat u y)=some (.slice bb mm kk):=by
         simp only [partAV];rw [zdl hT',za6 h3];simpa using hk
        have hel:=at' p e' _ he' hpv
        exact ⟨.slice e',_,he',hpv,n4 i p e' _ he' hel,fun g' hg'=>.inr ⟨l,by simp,hol,_,_,k3,k4,i,p,e',_,he',hel,hg'⟩⟩
       ·obtain ⟨e1,he1⟩:=flat_slice_at hfl hp
        obtain ⟨e2,he2⟩:=flat_slice_at hfl hq
        have ht1:typeAt u p=some T1:=ht1
        have ht2:typeAt u q=some T2:=ht2
        rw [he1] at ht1;injection ht1 with ht1;subst ht1
        rw [he2] at ht2;injection ht2 with ht2;subst ht2
        exact (n5 i p e1 _ i q e2 _ g' he1 he2 (at' p e1 _ he1 hx1) (at' q e2 _ he2 hx2) hb1 hb2).2
 | rdr p=>
   rw [hx'] at hc hx
   obtain ⟨d,b,h1,h2,h3⟩:=hx
   simp only [h1] at hc
   cases hp:getP d.1 d.2 p with
   | none=>rw [hp] at hc;cases hc
   | some y=>
     rw [hp] at hc;simp only [] at hc
     cases hty:tyIs (tab t) y.1 with
     | false=>rw [hty] at hc;cases hc
     | true=>
       rw [hty] at hc
       injection hc with hc;subst hc
       obtain ⟨_,rfl⟩:=zap ho
       obtain ⟨b',cells,e,k0,_,k1,k2,_⟩:=h.rd d h1
       rw [h2] at k0;injection k0 with k0;subst k0
       obtain ⟨cs,k3,k4⟩:=part k1 k2 hp
       exact .value (run h3 (zax hty) k3 k4) (h.plain _ _ _ hd ⟨cs,k3,rfl⟩)
 | _=>rw [hx'] at hc;cases hc
end
end Go.Den
namespace Go.Den
section
variable {P:Program} {tab:Tab} {w0:Base} {lim0:Lim} {rb:Option Nat} {n:Nat}
variable {st st':St} {a:Act} {w:World} {lim:Lim} {β:Mp} {o:Oper} {c:Comp}
theorem toList_str (x:List UInt8):(ByteArray.mk ⟨x⟩).toList=x:=by
 rw [ByteArray.toList_eq]
theorem zi3 (h:Sim w0 lim0 rb n st a w lim β) {x:Operand} {k:IntKind} {v:Int} (hx:(st.ent x).av = .dat (.int k) v):a.eval x = .int k v:=int_rep (hx▸h.ent x)
theorem eval_bool (h:Sim w0 lim0 rb n st a w lim β) {x:Operand} {v:Bool} (hx:(st.ent x).av = .dat .bool v):a.eval x = .bool v:=bool_rep (hx▸h.ent x)
theorem eval_str (h:Sim w0 lim0 rb n st a w lim β) {x:Operand} {v:List UInt8} (hx:(st.ent x).av = .dat .str v):a.eval x = .string ⟨⟨v⟩⟩:=str_rep (hx▸h.ent x)
theorem ok_un (h:Sim w0 lim0 rb n st a w lim β) (hd : ∀d,o.dst=some d→d<n) {op:UnOp} {t:TypeId} {x:Operand} (hop:o.op = .unOp op t x) (hc:stUn o op x st=some c) (ho:c.out st=some st'):OpOk P w0 lim0 rb n o st' a w:=by
 unfold stUn at hc
 split at hc
 ·rename_i b hx
  injection hc with hc;subst hc
  obtain ⟨_,rfl⟩:=zap ho
  have hev:=eval_bool h hx
  exact .value (v:=.bool (notB b)) (by simp [execOp,hop,hev,Op.unary,notB]) (h.plain _ _ _ hd zkj)
 ·rename_i k m hx
  injection hc with hc;subst hc
  obtain ⟨_,rfl⟩:=zap ho
  have hev:=zi3 h hx
  exact .value (v:=.int k (wrapI k (subI 0 m))) (by simp [execOp,hop,hev,Op.unary,Op.intArith,wrapI,subI]) (h.plain _ _ _ hd mk_int)
 ·cases hc
theorem run_intOp {op:BinOp} {k:IntKind} {x y:Int} {av:AV} {xt:TypeId} {ox oy:Operand} {ck:Option Bool} (hi:intOp op k x y=some (ck,av)) (hck:chkB ck=true) :
 ∃v,((eqGuard op xt ox oy (.int k x) (.int k y)).run P w = .ok () w)∧(binOp op xt (.int k x) (.int k y)).run P w = .ok v w∧ERep st w lim β rb av v:=by
 have hg:(eqGuard op xt ox oy (.int k x) (.int k y)).run P w = .ok () w:=by
  unfold eqGuard;cases op<;>simp
 cases op<;>simp only [intOp,reduceCtorEq] at hi
 all_goals
  injection hi with hi
  injection hi with h1 h2
  subst h1
 case add=>subst h2;exact ⟨_,hg,by simp [binOp,Op.intArith];rfl,mk_int⟩
 case sub=>subst h2;exact ⟨_,hg,by simp [binOp,Op.intArith];rfl,mk_int⟩
 case mul=>subst h2;exact ⟨_,hg,by simp [binOp,Op.intArith];rfl,mk_int⟩
 case quo=>
  subst h2
  have hy:y≠0:=by simpa [notB,eqI] using hck
  exact ⟨_,hg,by simp [binOp,Op.intDiv,hy];rfl,mk_int⟩
 case rem=>
  subst h2
  have hy:y≠0:=by simpa [notB,eqI] using hck
  exact ⟨_,hg,by simp [binOp,Op.intDiv,hy];rfl,mk_int⟩
 case xor=>subst h2;exact ⟨.int k (xorI k x y),hg,by simp only [binOp,ne_eq,not_true_eq_false,if_false,Op.intBits,Sem.run_pure,xorI],mk_int⟩
 case shr=>
  subst h2
  have hy:0≤y∧y≤8:=by simpa [chkB,andB,le0,leI] using hck
  have hb:8≤k.bits:=by cases k<;>decide
  have hmin:min y.toNat k.bits=y.toNat:=by omega
  have hn : ¬y<0:=by omega
  exact ⟨.int k (shrI x y),hg,by simp [binOp,Op.shift,hn,hmin,shrI],mk_int⟩
 case eql=>subst h2;exact ⟨.bool (eqI x y),hg,by simp [binOp,Op.intCmp,eqI];rfl,zkj⟩
 case neq=>subst h2;exact ⟨.bool (notB (eqI x y)),hg,by simp [binOp,Op.intCmp,eqI,notB];rfl,zkj⟩
 case lss=>subst h2;exact ⟨.bool (ltI x y),hg,by simp [binOp,Op.intCmp,ltI],zkj⟩
 case leq=>subst h2;exact ⟨.bool (leI x y),hg,by simp [binOp,Op.intCmp,leI],zkj⟩
 case gtr=>subst h2;exact ⟨.bool (ltI y x),hg,by simp [binOp,Op.intCmp,ltI],zkj⟩
 case geq=>subst h2;exact ⟨.bool (leI y x),hg,by simp [binOp,Op.intCmp,leI],zkj⟩
theorem run_strOp {op:BinOp} {x y:List UInt8} {av:AV} {xt:TypeId} {ox oy:Operand} {ck:Option Bool} (hi:strOp op x y=some (ck,av)) (hck:chkB ck=true) :
 ∃v,((eqGuard op xt ox oy (.string ⟨⟨x⟩⟩) (.string ⟨⟨y⟩⟩)).run P w = .ok () w)∧(binOp op xt (.string ⟨⟨x⟩⟩) (.string ⟨⟨y⟩⟩)).run P w = .ok v w∧ERep st w lim β rb av v:=by
 have hg:(eqGuard op xt ox oy (.string ⟨⟨x⟩⟩) (.string ⟨⟨y⟩⟩)).run P w = .ok () w:=by
  unfold eqGuard;cases op<;>simp
 have heq:(x == y)=eqS x y:=by unfold eqS;rw [Bool.eq_iff_iff];simp
 cases op<;>simp only [strOp,reduceCtorEq] at hi
 all_goals
  injection hi with hi
  injection hi with h1 h2
  subst h1
  subst h2
 case add=>
  have hlt:((x.length:Int)+y.length)<big:=of_decide_eq_true hck
  refine ⟨.string ⟨⟨x++y⟩⟩,hg,?_,mk_str⟩
  have hs : ∀z:List UInt8,(ByteArray.mk ⟨z⟩).size=z.length:=fun z=>rfl
  have hn : ¬(IntKind.i64.max<((x.length:Int)+(y.length:Int))):=by
   have:IntKind.i64.max=9223372036854775807:=by decide
   unfold big at hlt;omega
  simp only [binOp,Op.stringOp,hs]
  rw [if_neg (by simpa using hn)]
  have:(ByteArray.mk ⟨x⟩++ByteArray.mk ⟨y⟩)=ByteArray.mk ⟨x++y⟩:=by
   apply ByteArray.ext
   simp
  rw [this];rfl
 case eql=>exact ⟨.bool (eqS x y),hg,by simp [binOp,Op.stringOp,heq],zkj⟩
 case neq=>exact ⟨.bool (notB (eqS x y)),hg,by simp [binOp,Op.stringOp,heq,notB],zkj⟩
 case lss=>exact ⟨.bool (lessS x y),hg,by simp [binOp,Op.stringOp,lessS],zkj⟩
 case leq=>exact ⟨.bool (orB (lessS x y) (eqS x y)),hg,by simp [binOp,Op.stringOp,lessS,orB,heq],zkj⟩
 case gtr=>exact ⟨.bool (notB (orB (lessS x y) (eqS x y))),hg,by simp [binOp,Op.stringOp,lessS,orB,heq,notB],zkj⟩
 case geq=>exact ⟨.bool (notB (lessS x y)),hg,by simp [binOp,Op.stringOp,lessS,notB],zkj⟩
/-! ### places -/
theorem addr_add (b o m:Nat):(⟨b,o,none⟩:Addr).add m=⟨b,o+m,none⟩:=by unfold Addr.add;split<;>simp_all
theorem fields_at : ∀ {t:Ty} {off:Nat} {fs:List Field} {x:t.val} {i:Nat} {d:Dat},FieldsOk tab t off fs→getF t x i=some d →
 ∃f,fs[i]?=some f∧f.offset=off+offs t [i]∧tab f.type=some d.1∧d.1.size≠0:=by
 intro t
 induction t with
 | prod p q ihp ihq=>
   intro off fs x i d hf hg
   cases fs with
   | nil=>exact hf.elim
   | cons f fs=>
     obtain ⟨h1,h2,h3,_,h4⟩:=hf
     cases i with
     | zero=>simp [getF] at hg;subst hg;exact ⟨f,rfl,by simp [offs,h1],h2,h3⟩
     | succ i=>
       simp only [getF] at hg
       obtain ⟨f',k1,k2,k3,k4⟩:=ihq h4 hg
       exact ⟨f',by simpa using k1,by simp only [offs];omega,k3,k4⟩
 | int k=>intro off fs x i d _ hg;simp [getF] at hg
 | bool=>intro off fs x i d _ hg;simp [getF] at hg
 | str=>intro off fs x i d _ hg;simp [getF] at hg
 | unit=>intro off fs x i d _ hg;simp [getF] at hg
 | slice t=>intro off fs x i d _ hg;simp [getF] at hg
theorem struct_of (hT:TabOk P tab) {s:TypeId} {ty:Ty} {x:ty.val} {i:Nat} {d:Dat} (hs:tab s=some ty) (hg:getF ty x i=some d) :
 ∃fs:Array Field,P.underlying s=some (.struct fs)∧∃f,fs[i]?=some f∧f.offset=offs ty [i]∧TyOk P tab f.type d.1∧d.1.size≠0:=by
 have hd:=(hT s ty hs).desc
 cases ty with
 | prod p q=>
   obtain ⟨fs,h1,h2⟩:=hd
   obtain ⟨f,k1,k2,k3,k4⟩:=fields_at h2 hg
   exact ⟨fs,h1,f,by simpa using k1,by omega,hT _ _ k3,k4⟩
 | _=>simp [getF] at hg
theorem zku (hT:TabOk P tab) {s:TypeId} {ty:Ty} {x:ty.val} {i:Nat} {d:Dat} (hs:tab s=some ty) (hg:getF ty x i=some d) {b oo:Nat} :
 (Instr.fieldAt s (.pointer (some ⟨b,oo,none⟩)) i).run P w = .ok (.pointer (some ⟨b,oo+offs ty [i],none⟩)) w:=by
 obtain ⟨fs,h1,f,h2,h3,h4,h5⟩:=struct_of hT hs hg
 simp [Instr.fieldAt,underlying,h1,h2,Instr.sureAddr,fieldPlace,zby h4,h5,h3,addr_add]
theorem getP_snoc : ∀ {p:List Nat} {t:Ty} {x:t.val} {y z:Dat} {i:Nat},getP t x p=some y→getF y.1 y.2 i=some z→getP t x (p++[i])=some z∧offs t (p++[i])=offs t p+offs y.1 [i]
 | [],t,x,y,z,i,h,hf=>by
   simp [getP] at h;subst h
   exact ⟨by simp [getP,hf],by simp [offs]⟩
 | j::p,t,x,y,z,i,h,hf=>by
   simp only [getP] at h
   cases hg:getF t x j with
   | none=>rw [hg] at h;cases h
   | some d=>
     rw [hg] at h
     obtain ⟨h1,h2⟩:=getP_snoc h hf
     refine ⟨by simp only [List.cons_append,getP,hg];exact h1,?_⟩
     simp only [List.cons_append]
     rw [(zdu (p++[i]) hg).2,(zdu p hg).2,h2];omega
theorem ok_fieldAddr (hT:TabOk P tab) (h:Sim w0 lim0 rb n st a w lim β) (hd : ∀d,o.dst=some d→d<n) {s:TypeId} {x:Operand} {f:Nat} (hop:o.op = .fieldAddr s x f) (hc:stFieldAddr tab o s x f st=some c) (ho:c.out st=some st'):OpOk P w0 lim0 rb n o st' a w:=by
 unfold stFieldAddr at hc
 have hx:=h.ent x
 cases hx':(st.ent x).av with
 | cel b p=>
   rw [hx'] at hc hx
   obtain ⟨d,h1,h2⟩:=hx
   simp only [h1] at hc
   cases hp:getP d.1 d.2 p with
   | none=>rw [hp] at hc;cases hc
   | some y=>
     rw [hp] at hc;simp only [] at hc
     cases hty:tyIs (tab s) y.1 with
     | false=>rw [hty] at hc;cases hc
     | true=>
       cases hf:getF y.1 y.2 f with
       | none=>rw [hty,hf] at hc;cases hc
       | some z=>
         rw [hty,hf] at hc
         injection hc with hc;subst hc
         obtain ⟨_,rfl⟩:=zap ho
         refine .value (by simp [execOp,hop,h2,zku hT (zax hty) hf]<;>rfl) (h.plain _ _ _ hd ⟨d,h1,?_⟩)
         rw [(getP_snoc hp hf).2]
 | ref u y=>
   rw [hx'] at hc hx
   simp only [] at hc
   obtain ⟨b,oo,cs,h1,h2,h3,h4,h5⟩:=hx
   cases hty:tyIs (tab s) u with
   | false=>rw [hty] at hc;cases hc
   | true=>
     cases hf:getF u y f with
     | none=>rw [hty,hf] at hc;cases hc
     | some z=>
       rw [hty,hf] at hc
       injection hc with hc;subst hc
       obtain ⟨_,rfl⟩:=zap ho
       obtain ⟨c1,c2,c3,k1,k2,k3,_⟩:=h3.field hf
       refine .value (by simp [execOp,hop,h1,zku hT (zax hty) hf]<;>rfl) (h.plain _ _ _ hd ⟨b,oo+offs u [f],c2,rfl,h2,k3,under_le h4 ?_,fun j v hj=>?_⟩)
       ·have:=h3.length
        rw [k1] at this;simp at this
        have:=k3.length
        omega
       ·rw [Nat.add_assoc]
        refine h5 _ _ ?_
        rw [k1,List.getElem?_append_right (by omega)]
        rw [show offs u [f]+j-c1.length=j by omega,List.getElem?_append_left (List.getElem?_eq_some_iff.1 hj).1];exact hj
 | rdr p=>
   rw [hx'] at hc hx
   obtain ⟨d,b,h1,h2,h3⟩:=hx
   simp only [h1] at hc
   cases hp:getP d.1 d.2 p with
   | none=>rw [hp] at hc;cases hc
   | some y=>
     rw [hp] at hc;simp only [] at hc
     cases hty:tyIs (tab s) y.1 with
     | false=>rw [hty] at hc;cases hc
     | true=>
       cases hf:getF y.1 y.2 f with
       | none=>rw [hty,hf] at hc;cases hc
       | some z=>
         rw [hty,hf] at hc
         injection hc with hc;subst hc
         obtain ⟨_,rfl⟩:=zap ho
         refine .value (by simp [execOp,hop,h3,zku hT (zax hty) hf]<;>rfl) (h.plain _ _ _ hd ⟨d,b,h1,h2,?_⟩)
         rw [(getP_snoc hp hf).2]
 | _=>rw [hx'] at hc;cases hc
end
end Go.Den
namespace Go.Den
section
variable {P:Program} {tab:Tab} {w0:Base} {lim0:Lim} {rb:Option Nat} {n:Nat}
variable {st st':St} {a:Act} {w:World} {lim:Lim} {β:Mp} {o:Oper} {c:Comp}
theorem run_part {t:TypeId} {ty:Ty} (h:TyOk P tab t ty) {x:ty.val} {cs c1 c2 c3:List Value} {off:Nat} (hc:CRep w lim ty x c2) (he:cs=c1++(c2++c3)) (hl:c1.length=off) :
 (part t cs.toArray off).run P w = .ok (wrapV ty c2) w:=by
 unfold part
 simp only [Sem.run_bind,run_isAgg h,Result.andThen_ok]
 cases hp:isProd ty with
 | true=>
   simp only [if_true,Sem.run_bind,zby h,Result.andThen_ok,Sem.run_pure]
   have:cs.toArray.extract off (off+ty.size)=c2.toArray:=by
    apply Array.ext'
    rw [←hl,←hc.length]
    simp [he]
   rw [this]
   cases ty<;>first|rfl|cases hp
 | false=>
   obtain ⟨v,hv⟩ : ∃v,c2=[v]:=by
    have:=hc.length
    cases ty<;>first|exact List.length_eq_one_iff.1 this|cases hp
   have:cs.toArray[off]?=some v:=by
    rw [←hl,he,hv];simp
   simp only [Bool.false_eq_true,if_false,this,Sem.run_pure,hv]
   cases ty<;>first|rfl|cases hp
theorem ok_field (hT:TabOk P tab) (h:Sim w0 lim0 rb n st a w lim β) (hd : ∀d,o.dst=some d→d<n) {s:TypeId} {x:Operand} {f:Nat} (hop:o.op = .field s x f) (hc:stField tab o s x f st=some c) (ho:c.out st=some st'):OpOk P w0 lim0 rb n o st' a w:=by
 unfold stField at hc
 have hx:=h.ent x
 cases hx':(st.ent x).av with
 | dat u y=>
   rw [hx'] at hc hx
   simp only [] at hc
   cases hty:tyIs (tab s) u with
   | false=>rw [hty] at hc;cases hc
   | true=>
     cases hf:getF u y f with
     | none=>rw [hty,hf] at hc;cases hc
     | some z=>
       rw [hty,hf] at hc
       injection hc with hc;subst hc
       obtain ⟨_,rfl⟩:=zap ho
       obtain ⟨fs,h1,g,h2,h3,h4,h5⟩:=struct_of hT (zax hty) hf
       obtain ⟨cs,hr,he⟩:=hx
       obtain ⟨c1,c2,c3,k1,k2,k3,_⟩:=hr.field hf
       have hag:a.eval x = .agg cs.toArray:=by rw [he];cases u<;>first|rfl|simp [getF] at hf
       refine .value (v:=wrapV z.1 c2) ?_ (h.plain _ _ _ hd ⟨c2,k3,rfl⟩)
       have hpart:(part g.type cs.toArray g.offset).run P w = .ok (wrapV z.1 c2) w:=run_part h4 k3 k1 (by rw [h3];exact k2)
       simp [execOp,hop,hag,Instr.field,underlying,h1,h2,asAgg,hpart]
 | _=>rw [hx'] at hc;cases hc
theorem inRange {i:Int} {m:Nat} (h:andB (le0 i) (ltI i (m:Int))=true):0≤i∧i<m:=by
 unfold andB le0 ltI at h
 simpa using h
theorem elemTy (hT:TabOk P tab) {t:TypeId} {e:Ty} (h:tab t=some (.slice e)) : ∃el,P.underlying t=some (.slice el)∧TyOk P tab el e:=by
 obtain ⟨el,h1,h2⟩:=(hT _ _ h).desc
 exact ⟨el,h1,hT _ _ h2⟩
theorem ok_indexAddr (hT:TabOk P tab) (h:Sim w0 lim0 rb n st a w lim β) (hd : ∀d,o.dst=some d→d<n) {t:TypeId} {x i:Operand} (hop:o.op = .indexAddr t x i) (hc:stIndexAddr tab o t x i st=some c) (ho:c.out st=some st'):OpOk P w0 lim0 rb n o st' a w:=by
 unfold stIndexAddr at hc
 split at hc
 ·rename_i e xs k m hx hi
  change List e.val at xs
  change Int at m
  cases hty:tyIs (tab t) (.slice e) with
  | false=>rw [hty] at hc;cases hc
  | true=>
    rw [hty] at hc
    injection hc with hc;subst hc
    obtain ⟨hr,rfl⟩:=zap ho
    have hr:=inRange hr
    have hm:=zi3 h hi
    obtain ⟨b,cc,hv,hle,hs⟩:=zhv (hx▸h.ent x)
    obtain ⟨el,h1,h2⟩:=elemTy hT (zax hty)
    rcases hs with hs|⟨bb,oo,rfl,hb,hu,hcell⟩
    ·rw [hs] at hr;simp at hr;omega
    ·have hlt:m.toNat<xs.length:=by omega
     have hget:atL xs m e.zero=xs[m.toNat]:=by simp [atL,hlt]
     obtain ⟨cs,hcr,hcc⟩:=hcell m.toNat _ (List.getElem?_eq_getElem hlt)
     refine .value (v:=.pointer (some ⟨bb,oo+m.toNat*e.size,none⟩)) ?_ (h.tagged _ _ _ _ hd ⟨bb,oo+m.toNat*e.size,cs,rfl,hb,?_,under_le hu ?_,fun j u hj=>hcc j u hj⟩ fun l hl hol=>?_)
     ·simp [execOp,hop,hv,hm,Instr.indexAt,asIntOf,underlying,h1,zby h2,hr.1,hr.2,addr_add]
     ·rw [hget];exact hcr
     ·have:(m.toNat+1)*e.size≤xs.length*e.size:=Nat.mul_le_mul_right _ hlt
      rw [Nat.succ_mul] at this
      omega
     ·unfold starTag at hl
      cases hmk:mkD st o.dst with
      | false=>rw [hmk] at hl;cases hl
      | true=>
      cases hn:noSl e with
      | true=>rw [hmk,hn] at hl;cases hl
      | false=>
      cases hot:st.ownOp x [0] with
      | false=>rw [hmk,hn,hot] at hl;cases hl
      | true=>
      rw [hmk,hn,hot] at hl
      simp only [cnd_true,cnd_false] at hl
      cases x with
      | tmp t0=>
        injection hl with hl;injection hl with _ hl;subst hl
        have hx:(st.env t0).av = .dat (.slice e) xs:=hx
        refine .inr ⟨e,_,bb,oo,_,cc,m.toNat,rfl,by rw [zbb,hx];rfl,?_,hlt,rfl⟩
        rw [zda,hx]
        have hv:tmpOf a t0=_:=hv
        simp only [partAV,hv,zh9,offs]
        rfl
      | _=>cases hl
 ·cases hc
end
end Go.Den
namespace Go.Den
section
variable {P:Program} {tab:Tab} {w0:Base} {lim0:Lim} {rb:Option Nat} {n:Nat}
variable {st st':St} {a:Act} {w:World} {lim:Lim} {β:Mp} {o:Oper} {c:Comp}
theorem ok_index (hT:TabOk P tab) (h:Sim w0 lim0 rb n st a w lim β) (hd : ∀d,o.dst=some d→d<n) {t:TypeId} {x i:Operand} (hop:o.op = .index t x i) (hc:stIndex tab o t x i st=some c) (ho:c.out st=some st'):OpOk P w0 lim0 rb n o st' a w:=by
 unfold stIndex at hc
 split at hc
 ·rename_i s k m hx hi
  change List UInt8 at s
  change Int at m
  cases hty:tyIs (tab t) .str with
  | false=>rw [hty] at hc;cases hc
  | true=>
    rw [hty] at hc
    injection hc with hc;subst hc
    obtain ⟨hr,rfl⟩:=zap ho
    have hr:=inRange hr
    have hm:=zi3 h hi
    have hs:=eval_str h hx
    have hu:P.underlying t=some .string:=(hT _ _ (zax hty)).desc
    have hlt:m.toNat<s.length:=by omega
    have hget:atL s m 0=s[m.toNat]:=by simp [atL,hlt]
    refine .value (v:=.int .u8 (u8i (atL s m 0))) ?_ (h.plain _ _ _ hd mk_int)
    have hq:(ByteArray.mk ⟨s⟩)[m.toNat]?=some s[m.toNat]:=by
     have hz:m.toNat<(ByteArray.mk ⟨s⟩).size:=hlt
     rw [getElem?_pos (ByteArray.mk ⟨s⟩) m.toNat hz];rfl
    simp [execOp,hop,hs,hm,Instr.index,asIntOf,underlying,hu,hr.1,hq,hget,u8i]
 ·cases hc
theorem ok_len (hT:TabOk P tab) (h:Sim w0 lim0 rb n st a w lim β) (hd : ∀d,o.dst=some d→d<n) {t:TypeId} {x:Operand} {cl:Call} (hop:o.op = .call cl) (hcal:cl.callee = .builtin .len) (ha:cl.args = #[x]) (hat:cl.argTypes = #[t])
 (hc:stLen tab o t x st=some c) (ho:c.out st=some st'):OpOk P w0 lim0 rb n o st' a w:=by
 unfold stLen at hc
 split at hc
 ·rename_i e xs hx
  change List e.val at xs
  cases hty:tyIs (tab t) (.slice e) with
  | false=>rw [hty] at hc;cases hc
  | true=>
    rw [hty] at hc
    injection hc with hc;subst hc
    obtain ⟨_,rfl⟩:=zap ho
    obtain ⟨el,h1,h2⟩:=elemTy hT (zax hty)
    obtain ⟨b,cc,hv,hle,hs⟩:=zhv (hx▸h.ent x)
    refine .value (v:=.int .i64 (lenL xs)) ?_ (h.plain _ _ _ hd mk_int)
    simp [execOp,hop,resolve,hcal,ha,hat,invoke,builtin,Builtin.len_,underlying,h1,hv,goInt,lenL]
 ·rename_i s hx
  change List UInt8 at s
  cases hty:tyIs (tab t) .str with
  | false=>rw [hty] at hc;cases hc
  | true=>
    rw [hty] at hc
    injection hc with hc;subst hc
    obtain ⟨_,rfl⟩:=zap ho
    have hu:P.underlying t=some .string:=(hT _ _ (zax hty)).desc
    have hs:=eval_str h hx
    refine .value (v:=.int .i64 (lenL s)) ?_ (h.plain _ _ _ hd mk_int)
    simp [execOp,hop,resolve,hcal,ha,hat,invoke,builtin,Builtin.len_,underlying,hu,hs,goInt,lenL]
    rfl
 ·cases hc
theorem ok_minmax (h:Sim w0 lim0 rb n st a w lim β) (hd : ∀d,o.dst=some d→d<n) {mx:Bool} {x y:Operand} {cl:Call} (hop:o.op = .call cl) (hcal:cl.callee = .builtin (cond mx .max .min)) (ha:cl.args = #[x,y])
 (hc:stMinMax mx o x y st=some c) (ho:c.out st=some st'):OpOk P w0 lim0 rb n o st' a w:=by
 unfold stMinMax at hc
 split at hc
 ·rename_i k p k' q hx hy
  change Int at p
  change Int at q
  cases hk:kbeq k k' with
  | false=>rw [hk] at hc;cases hc
  | true=>
    have:=k_of_beq hk;subst this
    rw [hk] at hc
    injection hc with hc;subst hc
    obtain ⟨_,rfl⟩:=zap ho
    have h1:=zi3 h hx
    have h2:=zi3 h hy
    cases mx with
    | true=>
      refine .value (v:=.int k (maxI p q)) ?_ (h.plain _ _ _ hd mk_int)
      simp [execOp,hop,resolve,hcal,ha,invoke,builtin,Builtin.max_,h1,h2,Builtin.max2,maxI]
    | false=>
      refine .value (v:=.int k (minI p q)) ?_ (h.plain _ _ _ hd mk_int)
      simp [execOp,hop,resolve,hcal,ha,invoke,builtin,Builtin.min_,h1,h2,Builtin.min2,minI]
 ·cases hc
theorem strOf_bytes (xs:List Int):strOfNums xs=⟨⟨byteList xs⟩⟩:=by
 simp [strOfNums,byteList]
theorem dep_prod {p q:Ty} {d:Nat} (h:(Ty.prod p q).dep≤d):p.dep+1≤d∧q.dep≤d:=by
 simp only [Ty.dep] at h
 cases hb:Nat.ble (Nat.succ p.dep) q.dep with
 | true=>rw [hb] at h;have:=Nat.le_of_ble_eq_true hb;simp only [cnd_true] at h;omega
 | false=>
   rw [hb] at h;simp only [cnd_false] at h
   have : ¬(p.dep+1≤q.dep):=fun hh=>by rw [Nat.ble_eq_true_of_le hh] at hb;cases hb
   omega
theorem run_eqFields (hT:TabOk P tab) (d:Nat)
 (ih : ∀(ty:Ty) (t:TypeId) (x y:ty.val) (c1 c2:List Value) (q:Bool),ty.dep≤d→TyOk P tab t ty→CRep w lim ty x c1→CRep w lim ty y c2→Ty.eqv ty x y=some q →
   (Op.equalIn d t (wrapV ty c1) (wrapV ty c2)).run P w = .ok q w) :
 ∀(ty:Ty) (off:Nat) (fs:List Field) (x y:ty.val) (p1 c1 p2 c2:List Value) (q:Bool),ty.dep≤d+1→FieldsOk tab ty off fs→CRep w lim ty x c1→CRep w lim ty y c2→p1.length=off→p2.length=off →
  Ty.eqv ty x y=some q→(Op.eqFields d (p1++c1).toArray (p2++c2).toArray fs).run P w = .ok q w:=by
 intro ty
 induction ty with
 | prod p r ihp ihr=>
   intro off fs x y p1 c1 p2 c2 q hdep hf h1 h2 hl1 hl2 hq
   cases fs with
   | nil=>exact hf.elim
   | cons f fs=>
     obtain ⟨k1,k2,k3,k4,k5⟩:=hf
     obtain ⟨a1,b1,rfl,ha1,hb1⟩:=h1
     obtain ⟨a2,b2,rfl,ha2,hb2⟩:=h2
     obtain ⟨hd1,hd2⟩:=dep_prod hdep
     simp only [Ty.eqv] at hq
     cases hqp:Ty.eqv p x.1 y.1 with
     | none=>rw [hqp] at hq;cases hq
     | some qp=>
       cases hqr:Ty.eqv r x.2 y.2 with
       | none=>rw [hqp,hqr] at hq;cases hq
       | some qr=>
         rw [hqp,hqr] at hq;injection hq with hq;subst hq
         have e1:=run_part (P:=P) (hT _ _ k2) ha1 (cs:=p1++(a1++b1)) (c1:=p1) (c3:=b1) rfl (off:=f.offset) (by omega)
         have e2:=run_part (P:=P) (hT _ _ k2) ha2 (cs:=p2++(a2++b2)) (c1:=p2) (c3:=b2) rfl (off:=f.offset) (by omega)
         have e3:=ih p f.type x.1 y.1 a1 a2 qp (by omega) (hT _ _ k2) ha1 ha2 hqp
         have e4:=ihr (off+p.size) fs x.2 y.2 (p1++a1) b1 (p2++a2) b2 qr hd2 k5 hb1 hb2 (by simp [hl1,ha1.length]) (by simp [hl2,ha2.length]) hqr
         simp only [Op.eqFields,k4,ne_eq,not_false_eq_true,if_true,Sem.run_bind,e1,e2,e3,Result.andThen_ok]
         cases qp with
         | false=>simp [andB]
         | true=>
           simp only [Bool.not_true,Bool.false_eq_true,if_false,andB,Bool.true_and]
           simpa using e4
 | unit=>
   intro off fs x y p1 c1 p2 c2 q _ hf _ _ _ _ hq
   cases fs with
   | nil=>simp [Ty.eqv] at hq;subst hq;simp [Op.eqFields]
   | cons f fs=>exact hf.elim
 | int k=>intro off fs x y p1 c1 p2 c2 q _ hf;cases fs<;>exact hf.elim
 | bool=>intro off fs x y p1 c1 p2 c2 q _ hf;cases fs<;>exact hf.elim
 | str=>intro off fs x y p1 c1 p2 c2 q _ hf;cases fs<;>exact hf.elim
 | slice t=>intro off fs x y p1 c1 p2 c2 q _ hf;cases fs<;>exact hf.elim
theorem run_equalIn (hT:TabOk P tab) : ∀(d:Nat) (ty:Ty) (t:TypeId) (x y:ty.val) (c1 c2:List Value) (q:Bool),ty.dep≤d→TyOk P tab t ty→CRep w lim ty x c1→CRep w lim ty y c2→Ty.eqv ty x y=some q →
 (Op.equalIn d t (wrapV ty c1) (wrapV ty c2)).run P w = .ok q w:=by
 intro d
 induction d with
 | zero=>
   intro ty t x y c1 c2 q hd
   exfalso
   cases ty<;>simp [Ty.dep] at hd
   rename_i p r
   have:=(dep_prod (p:=p) (q:=r) (d:=0) (by simpa [Ty.dep] using hd)).1
   omega
 | succ d ih=>
   intro ty t x y c1 c2 q hdep ht h1 h2 hq
   have hdesc:=ht.desc
   have strct : ∀fs:Array Field,P.underlying t=some (.struct fs)→P.underlying t=some (.struct (P.fieldsOf t)):=fun fs hfs=>by simp [Program.fieldsOf,hfs]
   cases ty with
   | int k=>
     cases h1;cases h2
     simp [Ty.eqv] at hq;subst hq
     have hu:P.underlying t=some (.int k):=hdesc
     rw [show wrapV (.int k) [Value.int k x] = .int k x from rfl,show wrapV (.int k) [Value.int k y] = .int k y from rfl,run_equalIn_int w d t k k x y hu]
     rfl
   | bool=>
     cases h1;cases h2
     simp [Ty.eqv] at hq;subst hq
     have hu:P.underlying t=some .bool:=hdesc
     rw [show wrapV .bool [Value.bool x] = .bool x from rfl,show wrapV .bool [Value.bool y] = .bool y from rfl,run_equalIn_bool w d t x y hu]
     rfl
   | str=>
     cases h1;cases h2
     simp [Ty.eqv] at hq;subst hq
     have hu:P.underlying t=some .string:=hdesc
     change List UInt8 at x
     change List UInt8 at y
     rw [show wrapV .str [Value.string ⟨⟨x⟩⟩] = .string ⟨⟨x⟩⟩ from rfl,show wrapV .str [Value.string ⟨⟨y⟩⟩] = .string ⟨⟨y⟩⟩ from rfl,run_equalIn_string w d t _ _ hu,toList_str,toList_str]
     have:(x == y)=eqS x y:=by unfold eqS;rw [Bool.eq_iff_iff];simp
     rw [this]
   | unit=>
     obtain ⟨fs,hfs,hf⟩:=hdesc
     have hfo:P.fieldsOf t=fs:=by simp [Program.fieldsOf,hfs]
     rw [show wrapV .unit c1 = .agg c1.toArray from rfl,show wrapV .unit c2 = .agg c2.toArray from rfl,run_equalIn_struct w d t _ _ (strct fs hfs) (ht.cmp rfl).1,hfo]
     exact run_eqFields hT d (fun ty t x y c1 c2 q h1 h2 h3 h4 h5=>ih ty t x y c1 c2 q h1 h2 h3 h4 h5) .unit 0 fs.toList x y [] c1 [] c2 q hdep hf h1 h2 rfl rfl hq
   | prod p r=>
     obtain ⟨fs,hfs,hf⟩:=hdesc
     have hfo:P.fieldsOf t=fs:=by simp [Program.fieldsOf,hfs]
     rw [show wrapV (.prod p r) c1 = .agg c1.toArray from rfl,show wrapV (.prod p r) c2 = .agg c2.toArray from rfl,run_equalIn_struct w d t _ _ (strct fs hfs) (ht.cmp rfl).1,hfo]
     exact run_eqFields hT d (fun ty t x y c1 c2 q h1 h2 h3 h4 h5=>ih ty t x y c1 c2 q h1 h2 h3 h4 h5) (.prod p r) 0 fs.toList x y [] c1 [] c2 q hdep hf h1 h2 rfl rfl hq
   | slice e=>simp [Ty.eqv] at hq
theorem ok_bin (hT:TabOk P tab) (h:Sim w0 lim0 rb n st a w lim β) (hd : ∀d,o.dst=some d→d<n) {op:BinOp} {xt yt:TypeId} {x y:Operand} (hop:o.op = .binOp op xt x y yt) (hc:stBin tab o op xt x y st=some c) (ho:c.out st=some st'):OpOk P w0 lim0 rb n o st' a w:=by
 unfold stBin at hc
 cases hb:binAV tab op xt (st.ent x).av (st.ent y).av with
 | none=>rw [hb] at hc;cases hc
 | some cv=>
   obtain ⟨chk,av⟩:=cv
   rw [hb] at hc
   injection hc with hc;subst hc
   obtain ⟨hchk,rfl⟩:=zap ho
   have main : ∃v,(eqGuard op xt x y (a.eval x) (a.eval y)).run P w = .ok () w∧(binOp op xt (a.eval x) (a.eval y)).run P w = .ok v w∧ERep st w lim β rb av v:=by
    unfold binAV at hb
    split at hb
    ·rename_i k p k' q hx hy
     cases hk:kbeq k k' with
     | false=>rw [hk] at hb;cases hb
     | true=>
       have:=k_of_beq hk;subst this
       rw [hk] at hb
       rw [zi3 h hx,zi3 h hy]
       exact run_intOp hb hchk
    ·rename_i p q hx hy
     rw [eval_str h hx,eval_str h hy]
     exact run_strOp hb hchk
    ·rename_i t p u q hn1 hn2 hx hy
     cases hg:cnd (tyIs (tab xt) t) (Nat.ble (Ty.dep t) 1000) false with
     | false=>rw [hg] at hb;cases hb
     | true=>
       rw [hg] at hb
       cases hcast:Ty.cast u t q with
       | none=>rw [hcast] at hb;cases hb
       | some q'=>
         rw [hcast] at hb
         obtain ⟨e,hq'⟩:=zbm hcast
         subst e;subst hq'
         have hty:tyIs (tab xt) u=true∧Ty.dep u≤1000:=by
          cases ht:tyIs (tab xt) u with
          | false=>rw [ht] at hg;cases hg
          | true=>rw [ht] at hg;exact ⟨rfl,Nat.le_of_ble_eq_true hg⟩
         have htok:=hT _ _ (zax hty.1)
         cases hq:Ty.eqv u p q' with
         | none=>simp only [hq] at hb;cases hb
         | some r=>
           simp only [hq] at hb
           obtain ⟨cx,hcx,hvx⟩:=(hx▸h.ent x:ERep st w lim β rb (.dat u p) (a.eval x))
           obtain ⟨cy,hcy,hvy⟩:=(hy▸h.ent y:ERep st w lim β rb (.dat u q') (a.eval y))
           have heq : ∀d,1000≤d→(Op.equalIn d xt (a.eval x) (a.eval y)).run P w = .ok r w:=fun d hdd=>by
            rw [hvx,hvy];exact run_equalIn hT d u xt p q' cx cy r (Nat.le_trans hty.2 hdd) htok hcx hcy hq
           have fin : ∀ {op:BinOp} {b:Bool},(eqGuard op xt x y (a.eval x) (a.eval y)).run P w = .ok () w→(binOp op xt (a.eval x) (a.eval y)).run P w = .ok (.bool b) w→some (none,AV.dat .bool b)=some (chk,av) →
            ∃v,(eqGuard op xt x y (a.eval x) (a.eval y)).run P w = .ok () w∧(binOp op xt (a.eval x) (a.eval y)).run P w = .ok v w∧ERep st w lim β rb av v:=by
            intro op b g1 g2 g3
            injection g3 with g3;injection g3 with _ g3;subst g3
            exact ⟨_,g1,g2,zkj⟩
           have hcase:(∃b1 b2,a.eval x = .bool b1∧a.eval y = .bool b2)∨(isProd u=true∧∃c1 c2,a.eval x = .agg c1∧a.eval y = .agg c2):=by
            cases u with
            | bool=>cases hcx;cases hcy;exact .inl ⟨_,_,hvx,hvy⟩
            | unit=>exact .inr ⟨rfl,_,_,hvx,hvy⟩
            | prod _ _=>exact .inr ⟨rfl,_,_,hvx,hvy⟩
            | int k=>exact (hn1 k p k q' rfl HEq.rfl rfl HEq.rfl).elim
            | str=>exact (hn2 p q' rfl HEq.rfl rfl HEq.rfl).elim
            | slice e=>simp [Ty.eqv] at hq
           have e10:=heq 10000 (by omega)
           rcases hcase with ⟨b1,b2,hb1,hb2⟩|⟨hpr,c1,c2,hb1,hb2⟩
           ·rw [hb1,hb2] at e10 fin ⊢
            have heqv:(Op.equal xt (.bool b1) (.bool b2)).run P w = .ok r w:=e10
            cases op<;>first|(cases hb;done)|skip
            ·exact fin (by simp [eqGuard]) (by simp [binOp,heqv]) hb
            ·exact fin (by simp [eqGuard]) (by simp [binOp,heqv,notB]) hb
           ·rw [hb1,hb2] at e10 fin ⊢
            have hgd:=run_eqGuard_agg (P:=P) (w:=w) op xt x y c1 c2 (htok.cmp hpr).2
            cases op<;>first|(cases hb;done)|skip
            ·exact fin hgd (by rw [run_eql_struct,e10];rfl) hb
            ·exact fin hgd (by rw [run_neq_struct,e10];rfl) hb
    ·cases hb
   obtain ⟨v,g1,g2,g3⟩:=main
   refine .value (v:=v) ?_ (h.plain _ _ _ hd g3)
   simp [execOp,hop,g1,g2]
end
end Go.Den
namespace Go.Den
section
variable {P:Program} {tab:Tab} {w0:Base} {lim0:Lim} {rb:Option Nat} {n:Nat}
variable {st st':St} {a:Act} {w:World} {lim:Lim} {β:Mp} {o:Oper} {c:Comp}
theorem TupRep.part : ∀ {t:Ty} {x:t.val} {vs:List Value} {i:Nat} {d:Dat},TupRep w lim t x vs→getF t x i=some d →
 ∃v,vs[i]?=some v∧TRep w lim d.1 d.2 v∧∀j u,v.cells.toList[j]?=some u→(vs.flatMap fun v=>v.cells.toList)[offs t [i]+j]?=some u:=by
 intro t
 induction t with
 | prod p q ihp ihq=>
   intro x vs i d ht hg
   obtain ⟨v,vs',rfl,h1,h2⟩:=ht
   cases i with
   | zero=>
     simp [getF] at hg;subst hg
     refine ⟨v,rfl,h1,fun j u hu=>?_⟩
     simp only [offs,List.flatMap_cons,Nat.zero_add]
     rw [List.getElem?_append_left (List.getElem?_eq_some_iff.1 hu).1];exact hu
   | succ i=>
     simp only [getF] at hg
     obtain ⟨u,k1,k2,k3⟩:=ihq h2 hg
     refine ⟨u,by simpa using k1,k2,fun j z hz=>?_⟩
     have:=k3 j z hz
     have hl:=h1.cells.length
     simp only [offs,List.flatMap_cons]
     rw [List.getElem?_append_right (by omega),hl,show p.size+offs q [i]+j-p.size=offs q [i]+j by omega];exact this
 | int k=>intro x vs i d _ hg;simp [getF] at hg
 | bool=>intro x vs i d _ hg;simp [getF] at hg
 | str=>intro x vs i d _ hg;simp [getF] at hg
 | unit=>intro x vs i d _ hg;simp [getF] at hg
 | slice t=>intro x vs i d _ hg;simp [getF] at hg
theorem ok_extract (h:Sim w0 lim0 rb n st a w lim β) (hd : ∀d,o.dst=some d→d<n) {x:Operand} {i:Nat} (hop:o.op = .extract x i) (hc:stExtract o x i st=some c) (ho:c.out st=some st'):OpOk P w0 lim0 rb n o st' a w:=by
 unfold stExtract at hc
 have hx:=h.ent x
 cases hx':(st.ent x).av with
 | tup t v=>
   rw [hx'] at hc hx
   simp only [] at hc
   cases hf:getF t v i with
   | none=>rw [hf] at hc;cases hc
   | some d=>
     rw [hf] at hc
     obtain ⟨vs,hv,htr⟩:=hx
     obtain ⟨u,k1,k2,k3⟩:=htr.part hf
     have he:(execOp a.eval o).run P w = .ok (.value u) w:=by
      simp [execOp,hop,hv,Instr.extract,k1]
     cases hmk:mkD st o.dst with
     | true=>
       simp only [hmk,cnd_true] at hc
       injection hc with hc;subst hc
       obtain ⟨_,rfl⟩:=zap ho
       exact .value he (h.val (upd0 o.dst (.dat d.1 d.2) none) u hd rfl rfl k2 (fun p=>srcOf x (i::p)) (fun p hp=>by cases hp) (fun p hp=>by cases hp) (fun l hl=>by cases hl) (fun l hl=>by cases hl))
     | false=>
     simp only [hmk,cnd_false] at hc
     injection hc with hc;subst hc
     obtain ⟨_,rfl⟩:=zap ho
     refine .value he (h.val {upd0 o.dst (.dat d.1 d.2) none with own:=(st.owned x ((slicePaths d.1).map (i :: ·))).map (·.drop 1),takes:=takesOf x (st.owned x ((slicePaths d.1).map (i :: ·)))} u hd rfl rfl k2
      (fun p=>srcOf x (i::p)) (fun p hp=>?_) (fun p _ q _ hpq=>?_) (fun l hl=>by cases hl) (fun l hl=>by cases hl))
     ·obtain ⟨p',hp',rfl⟩:=List.mem_map.1 hp
      obtain ⟨m1,m2⟩:=owned_mem hp'
      obtain ⟨q,hq,rfl⟩:=List.mem_map.1 m1
      simp only [List.drop_one,List.tail_cons] at hp ⊢
      obtain ⟨⟨e,he1,ho1⟩,_⟩:=zaw hq
      obtain ⟨b,m,k,hk⟩:=k2.cells.sliceAt he1 ho1
      refine ⟨e,_,he1,by simp only [upd0,partAV];rw [zdl k2];exact hk,.inr ?_⟩
      cases x with
      | tmp s=>
        have hav:(st.env s).av = .tup t v:=hx'
        refine ⟨List.mem_map.2 ⟨_,hp',rfl⟩,m2,?_,?_⟩
        ·simp only [srcOf]
         rw [zda,hav]
         simp only [partAV]
         have:tmpOf a s = .tuple vs.toArray:=hv
         rw [this,(zdu q hf).2]
         simpa [flatV] using k3 _ _ hk
        ·simp only [srcOf];rw [zbb,hav];simp only [typeAV];rw [(zdu q hf).1];exact he1
      | const kk=>simp only [St.ent] at hx';unfold constAV at hx';split at hx'<;>cases hx'
      | global g=>cases m2
      | func f=>cases m2
     ·have:=srcOf_inj x hpq
      injection this
 | _=>rw [hx'] at hc;cases hc
theorem andB_iff {x y:Bool} : andB x y=true↔x=true∧y=true:=by unfold andB;exact Bool.and_eq_true_iff
theorem le0_iff {x:Int} : le0 x=true↔0≤x:=decide_eq_true_iff
theorem leI_iff {x y:Int} : leI x y=true↔x≤y:=decide_eq_true_iff
theorem ltI_iff {x y:Int} : ltI x y=true↔x<y:=decide_eq_true_iff
theorem cut_spec {α:Type} {xs ys:List α} {lo hi:Option AV} {chk:Bool} (hc:cutL xs lo hi=some (chk,ys)) (hchk:chk=true) :
 ∃l r:Int,0≤l∧l≤r∧r≤xs.length∧ys=(xs.take r.toNat).drop l.toNat ∧
  ((∃k,lo=some (.dat (.int k) l))∨(lo=none∧l=0))∧((∃k,hi=some (.dat (.int k) r))∨(hi=none∧r=xs.length))∧(lo≠none∨hi≠none):=by
 unfold cutL at hc
 split at hc
 ·rename_i k l k' r
  change Int at l
  change Int at r
  injection hc with hc;injection hc with h1 h2
  rw [hchk] at h1
  have h1:0≤l∧l≤r∧r≤xs.length:=let q:=andB_iff.1 h1;let q':=andB_iff.1 q.2;⟨le0_iff.1 q.1,leI_iff.1 q'.1,leI_iff.1 q'.2⟩
  exact ⟨l,r,h1.1,h1.2.1,h1.2.2,h2.symm,.inl ⟨k,rfl⟩,.inl ⟨k',rfl⟩,.inl (by simp)⟩
 ·rename_i k l
  change Int at l
  injection hc with hc;injection hc with h1 h2
  rw [hchk] at h1
  have h1:0≤l∧l≤xs.length:=let q:=andB_iff.1 h1;⟨le0_iff.1 q.1,leI_iff.1 q.2⟩
  refine ⟨l,xs.length,h1.1,h1.2,Int.le_refl _,?_,.inl ⟨k,rfl⟩,.inr ⟨rfl,rfl⟩,.inl (by simp)⟩
  rw [←h2];simp [dropL]
 ·rename_i k r
  change Int at r
  injection hc with hc;injection hc with h1 h2
  rw [hchk] at h1
  have h1:0≤r∧r≤xs.length:=let q:=andB_iff.1 h1;⟨le0_iff.1 q.1,leI_iff.1 q.2⟩
  refine ⟨0,r,Int.le_refl _,h1.1,h1.2,?_,.inr ⟨rfl,rfl⟩,.inl ⟨k,rfl⟩,.inr (by simp)⟩
  rw [←h2];simp [takeL]
 ·cases hc
theorem run_cut_slice {t el:TypeId} {e:Ty} (h1:P.underlying t=some (.slice el)) (h2:TyOk P tab el e) {b:Option Addr} {m cc:Nat} {lo hi:Option Value} {l r:Int} (h0:0≤l) (hlr:l≤r) (hrm:r≤m) (hmc:m≤cc)
 (hlo:(∃k,lo=some (.int k l))∨(lo=none∧l=0)) (hhi:(∃k,hi=some (.int k r))∨(hi=none∧r=m)) :
 (Instr.slice t (.slice b m cc) lo hi none).run P w = .ok (.slice (if cc=l.toNat then b else b.map (·.add (l.toNat*e.size))) (r.toNat-l.toNat) (cc-l.toNat)) w:=by
 have hr:r≤(cc:Int):=by omega
 rcases hlo with ⟨k,rfl⟩|⟨rfl,rfl⟩<;>rcases hhi with ⟨k',rfl⟩|⟨rfl,rfl⟩
 ·simp [Instr.slice,underlying,h1,Instr.sliceBounds,Instr.sliceBound,asIntOf,zby h2,h0,hr,hlr,show (0:Int)≤r by omega,Int.toNat_of_nonneg (show (0:Int)≤r by omega)]
 ·simp [Instr.slice,underlying,h1,Instr.sliceBounds,Instr.sliceBound,asIntOf,zby h2,h0,hlr]
 ·simp [Instr.slice,underlying,h1,Instr.sliceBounds,Instr.sliceBound,asIntOf,zby h2,hlr,hr]
 ·simp [Instr.slice,underlying,h1,Instr.sliceBounds,zby h2]
theorem run_cut_str {t:TypeId} (h1:P.underlying t=some .string) {s:List UInt8} {lo hi:Option Value} {l r:Int} (h0:0≤l) (hlr:l≤r) (hrm:r≤s.length)
 (hlo:(∃k,lo=some (.int k l))∨(lo=none∧l=0)) (hhi:(∃k,hi=some (.int k r))∨(hi=none∧r=s.length)) :
 (Instr.slice t (.string ⟨⟨s⟩⟩) lo hi none).run P w = .ok (.string ⟨⟨(s.take r.toNat).drop l.toNat⟩⟩) w:=by
 have hsz:(ByteArray.mk ⟨s⟩).size=s.length:=rfl
 have hext : ∀i j:Nat,(ByteArray.mk ⟨s⟩).extract i j=⟨⟨(s.take j).drop i⟩⟩:=by
  intro i j
  apply ByteArray.ext
  simp [ByteArray.data_extract]
  rw [List.drop_take]
 rcases hlo with ⟨k,rfl⟩|⟨rfl,rfl⟩<;>rcases hhi with ⟨k',rfl⟩|⟨rfl,rfl⟩
 ·simp [Instr.slice,underlying,h1,Instr.sliceBounds,Instr.sliceBound,asIntOf,h0,hsz,hlr,hrm,show (0:Int)≤r by omega,Int.toNat_of_nonneg (show (0:Int)≤r by omega),hext]
 ·simp [Instr.slice,underlying,h1,Instr.sliceBounds,Instr.sliceBound,asIntOf,h0,hlr,hsz,hext]
 ·simp [Instr.slice,underlying,h1,Instr.sliceBounds,Instr.sliceBound,asIntOf,hlr,hrm,hsz,hext]
 ·simp [Instr.slice,underlying,h1,Instr.sliceBounds,hsz]
theorem ok_slice (hT:TabOk P tab) (h:Sim w0 lim0 rb n st a w lim β) (hd : ∀d,o.dst=some d→d<n) {t:TypeId} {x:Operand} {lo hi mx:Option Operand} (hop:o.op = .slice t x lo hi mx) (hc:stSlice tab o t x lo hi mx st=some c) (ho:c.out st=some st'):OpOk P w0 lim0 rb n o st' a w:=by
 unfold stSlice at hc
 have bound : ∀ {y:Option Operand} {l:Int},((∃k,avOpt st y=some (.dat (.int k) l))→∃k,y.map a.eval=some (.int k l))∧(avOpt st y=none→y.map a.eval=none):=by
  intro y l
  cases y with
  | none=>exact ⟨fun ⟨k,hk⟩=>by simp [avOpt] at hk,fun _=>rfl⟩
  | some y=>exact ⟨fun ⟨k,hk⟩=>⟨k,by simp only [avOpt] at hk;injection hk with hk;simp only [Option.map_some,zi3 h hk]⟩,fun hk=>by simp [avOpt] at hk⟩
 have two : ∀ {y:Option Operand} {l m:Int},((∃k,avOpt st y=some (.dat (.int k) l))∨(avOpt st y=none∧l=m))→((∃k,y.map a.eval=some (.int k l))∨(y.map a.eval=none∧l=m)):=by
  intro y l m hh
  rcases hh with hh|⟨h1,h2⟩
  ·exact .inl (bound.1 hh)
  ·exact .inr ⟨(bound (l:=l)).2 h1,h2⟩
 split at hc
 ·rename_i e xs hx
  change List e.val at xs
  cases hty:tyIs (tab t) (.slice e) with
  | false=>rw [hty] at hc;cases hc
  | true=>
    cases hcut:cutL xs (avOpt st lo) (avOpt st hi) with
    | none=>rw [hty,hcut] at hc;cases hc
    | some cy=>
      obtain ⟨chk,ys⟩:=cy
      rw [hty,hcut] at hc
      injection hc with hc;subst hc
      obtain ⟨hchk,rfl⟩:=zap ho
      obtain ⟨l,r,k0,k1,k2,rfl,k3,k4,_⟩:=cut_spec hcut hchk
      obtain ⟨el,h1,h2⟩:=elemTy hT (zax hty)
      obtain ⟨b,cc,hv,hle,hs⟩:=zhv (hx▸h.ent x)
      refine .value (v:=.slice (if cc=l.toNat then b else b.map (·.add (l.toNat*e.size))) (r.toNat-l.toNat) (cc-l.toNat)) ?_ (h.plain _ _ _ hd ?_)
      ·have hu:=run_cut_slice (w:=w) (b:=b) h1 h2 k0 k1 k2 hle (two k3) (two k4)
       simp only [execOp,hop,Instr.sliceAt,Sem.run_bind,underlying,run_program,h1,Result.andThen_ok,Sem.run_pure,Option.map_none,hv]
       simp only [hu,Result.andThen_ok]
      ·have hlen:((xs.take r.toNat).drop l.toNat).length=r.toNat-l.toNat:=by simp;omega
       refine ⟨[_],⟨_,cc-l.toNat,by rw [hlen],by rw [hlen];omega,?_⟩,rfl⟩
       by_cases hemp:(xs.take r.toNat).drop l.toNat=[]
       ·exact .inl hemp
       ·have hne:r.toNat-l.toNat≠0:=fun hz=>hemp (List.eq_nil_of_length_eq_zero (by rw [hlen,hz]))
        rcases hs with hs|⟨bb,oo,rfl,hb,hu,hcell⟩
        ·rw [hs] at hlen;simp at hlen;omega
        ·have hlt:l.toNat<xs.length:=by omega
         rw [if_neg (by omega)]
         refine .inr ⟨bb,oo+l.toNat*e.size,by simp [addr_add],hb,under_le hu ?_,fun i y hy=>?_⟩
         ·rw [hlen]
          have:(r.toNat-l.toNat+l.toNat)*e.size≤xs.length*e.size:=Nat.mul_le_mul_right _ (by omega)
          rw [Nat.add_mul] at this
          omega
         ·rw [List.getElem?_drop,List.getElem?_take] at hy
          split at hy
          ·obtain ⟨cs,m1,m2⟩:=hcell _ _ hy
           refine ⟨cs,m1,fun j u hu=>?_⟩
           have:=m2 j u hu
           rw [Nat.add_mul] at this
           rw [show oo+l.toNat*e.size+i*e.size+j=oo+(l.toNat*e.size+i*e.size)+j by omega];exact this
          ·cases hy
 ·rename_i s hx
  change List UInt8 at s
  cases hty:tyIs (tab t) .str with
  | false=>rw [hty] at hc;cases hc
  | true=>
    cases hcut:cutL s (avOpt st lo) (avOpt st hi) with
    | none=>rw [hty,hcut] at hc;cases hc
    | some cy=>
      obtain ⟨chk,ys⟩:=cy
      rw [hty,hcut] at hc
      injection hc with hc;subst hc
      obtain ⟨hchk,rfl⟩:=zap ho
      obtain ⟨l,r,k0,k1,k2,rfl,k3,k4,_⟩:=cut_spec hcut hchk
      have h1:P.underlying t=some .string:=(hT _ _ (zax hty)).desc
      refine .value (v:=.string ⟨⟨(s.take r.toNat).drop l.toNat⟩⟩) ?_ (h.plain _ _ _ hd mk_str)
      have hu:=run_cut_str (P:=P) (w:=w) h1 k0 k1 k2 (two k3) (two k4)
      simp only [execOp,hop,Instr.sliceAt,Sem.run_bind,underlying,run_program,h1,Result.andThen_ok,Sem.run_pure,Option.map_none,eval_str h hx]
      simp only [hu,Result.andThen_ok]
 ·cases hc
end
end Go.Den
