/- The reading, its plain words a parameter. -/
import Derived.Test.YtbfndjfjkkfaeaaXDenXM
set_option linter.unusedVariables false
set_option linter.unusedSimpArgs false
namespace Go.Den
structure Atoms where
  cndS : {α : Type} → (c : Bool) → (x y : α) → α
  obind : {α β : Type} → (x : Option α) → (f : α → Option β) → Option β
  sumE : {α β γ : Type} → (e : α ⊕ β) → (f : α → γ) → (g : β → γ) → γ
  iter : {σ ρ : Type} → Nat → (σ → Option (σ ⊕ ρ)) → σ → Option ρ
  le0 : (n : Int) → Bool
  leI : (a b : Int) → Bool
  ltI : (a b : Int) → Bool
  lenL : {α : Type} → (xs : List α) → Int
  takeL : {α : Type} → (xs : List α) → (n : Int) → List α
  dropL : {α : Type} → (xs : List α) → (n : Int) → List α
  atL : {α : Type} → (xs : List α) → (n : Int) → (d : α) → α
  appL : {α : Type} → (xs ys : List α) → List α
  repL : {α : Type} → (n : Int) → (d : α) → List α
  u8i : (b : UInt8) → Int
  eqI : (a b : Int) → Bool
  eqB : (a b : Bool) → Bool
  eqS : (a b : List UInt8) → Bool
  lessS : (a b : List UInt8) → Bool
  notB : (b : Bool) → Bool
  andB : (a b : Bool) → Bool
  orB : (a b : Bool) → Bool
  wrapI : (k : IntKind) → (n : Int) → Int
  addI : (a b : Int) → Int
  subI : (a b : Int) → Int
  mulI : (a b : Int) → Int
  quoI : (a b : Int) → Int
  remI : (a b : Int) → Int
  minI : (a b : Int) → Int
  maxI : (a b : Int) → Int
  xorI : (k : IntKind) → (a b : Int) → Int
  setL : {α : Type} → (xs : List α) → (n : Int) → (x : α) → List α
  byteList : (xs : List Int) → List UInt8
  intList : (s : List UInt8) → List Int
  big : Int
def real : Atoms := { cndS := @cndS, obind := @obind, sumE := @sumE, iter := @iter, le0 := le0, leI := leI, ltI := ltI, lenL := @lenL, takeL := @takeL, dropL := @dropL, atL := @atL, appL := @appL, repL := @repL, u8i := u8i, eqI := eqI, eqB := eqB, eqS := eqS, lessS := lessS, notB := notB, andB := andB, orB := orB, wrapI := wrapI, addI := addI, subI := subI, mulI := mulI, quoI := quoI, remI := remI, minI := minI, maxI := maxI, xorI := xorI, setL := @setL, byteList := byteList, intList := intList, big := big }
def stPickP (A : Atoms) (o : Oper) (c x y : Operand) (st : St) : Option Comp :=
  match (st.ent c).av with
  | .dat .bool b => match (st.ent x).av, (st.ent y).av with
    | .dat t v, .dat u w => match Ty.cast u t w with
      | some w' => some (.ret none (upd0 o.dst (.dat t (A.cndS b v w')) none))
      | none => none
    | v, w => some (.ret none (upd0 o.dst (cnd b v w) none))
  | _ => none
def stMakeSliceP (A : Atoms) (tab : Tab) (o : Oper) (t : TypeId) (l c : Operand) (st : St) : Option Comp :=
  match tab t, (st.ent l).av, (st.ent c).av with
  | some (.slice e), .dat (.int _) n, .dat (.int _) m =>
    some (.ret (some (A.andB (A.le0 n) (A.andB (A.leI n m) (A.ltI m A.big)))) { upd0 o.dst (.dat (.slice e) (A.repL n e.zero)) none with own := [[]] })
  | _, _, _ => none
def Ty.eqvP (A : Atoms) : (t : Ty) → t.val → t.val → Option Bool
  | .int _, x, y => some (A.eqI x y)
  | .bool, x, y => some (A.eqB x y)
  | .str, x, y => some (A.eqS x y)
  | .unit, _, _ => some true
  | .prod a b, x, y => match Ty.eqvP A a x.1 y.1, Ty.eqvP A b x.2 y.2 with
    | some p, some q => some (A.andB p q)
    | _, _ => none
  | .slice _, _, _ => none
def intOpP (A : Atoms) (op : BinOp) (k : IntKind) (a b : Int) : Option (Option Bool × AV) :=
  match op with
  | .add => some (none, .dat (.int k) (A.wrapI k (A.addI a b)))
  | .sub => some (none, .dat (.int k) (A.wrapI k (A.subI a b)))
  | .mul => some (none, .dat (.int k) (A.wrapI k (A.mulI a b)))
  | .quo => some (some (A.notB (A.eqI b 0)), .dat (.int k) (A.wrapI k (A.quoI a b)))
  | .rem => some (some (A.notB (A.eqI b 0)), .dat (.int k) (A.remI a b))
  | .xor => some (none, .dat (.int k) (A.xorI k a b))
  | .eql => some (none, .dat .bool (A.eqI a b))
  | .neq => some (none, .dat .bool (A.notB (A.eqI a b)))
  | .lss => some (none, .dat .bool (A.ltI a b))
  | .leq => some (none, .dat .bool (A.leI a b))
  | .gtr => some (none, .dat .bool (A.ltI b a))
  | .geq => some (none, .dat .bool (A.leI b a))
  | _ => none
def strOpP (A : Atoms) (op : BinOp) (a b : List UInt8) : Option (Option Bool × AV) :=
  match op with
  | .add => some (some (A.ltI (A.addI (A.lenL a) (A.lenL b)) A.big), .dat .str (A.appL a b))
  | .eql => some (none, .dat .bool (A.eqS a b))
  | .neq => some (none, .dat .bool (A.notB (A.eqS a b)))
  | .lss => some (none, .dat .bool (A.lessS a b))
  | .leq => some (none, .dat .bool (A.orB (A.lessS a b) (A.eqS a b)))
  | .gtr => some (none, .dat .bool (A.notB (A.orB (A.lessS a b) (A.eqS a b))))
  | .geq => some (none, .dat .bool (A.notB (A.lessS a b)))
  | _ => none
def binAVP (A : Atoms) (tab : Tab) (op : BinOp) (xt : TypeId) (x y : AV) : Option (Option Bool × AV) :=
  match x, y with
  | .dat (.int k) a, .dat (.int k') b => cnd (kbeq k k') (intOpP A op k a b) none
  | .dat .str a, .dat .str b => strOpP A op a b
  | .dat t a, .dat u b => match cnd (tyIs (tab xt) t) (Nat.ble (Ty.dep t) 1000) false, Ty.cast u t b with
    | true, some b' => match Ty.eqvP A t a b', op with
      | some q, .eql => some (none, .dat .bool q)
      | some q, .neq => some (none, .dat .bool (A.notB q))
      | _, _ => none
    | _, _ => none
  | _, _ => none
def stBinP (A : Atoms) (tab : Tab) (o : Oper) (op : BinOp) (xt : TypeId) (x y : Operand) (st : St) : Option Comp :=
  match binAVP A tab op xt (st.ent x).av (st.ent y).av with
  | some (c, v) => some (.ret c (upd0 o.dst v none))
  | none => none
def stUnP (A : Atoms) (o : Oper) (op : UnOp) (x : Operand) (st : St) : Option Comp :=
  match op, (st.ent x).av with
  | .not, .dat .bool b => some (.ret none (upd0 o.dst (.dat .bool (A.notB b)) none))
  | .neg, .dat (.int k) n => some (.ret none (upd0 o.dst (.dat (.int k) (A.wrapI k (A.subI 0 n))) none))
  | _, _ => none
def stConvP (A : Atoms) (tab : Tab) (o : Oper) (src dst : TypeId) (x : Operand) (st : St) : Option Comp :=
  match tab src, tab dst, (st.ent x).av with
  | some (.int _), some (.int k), .dat (.int _) n => some (.ret none (upd0 o.dst (.dat (.int k) (A.wrapI k n)) none))
  | some (.slice (.int .u8)), some .str, .dat (.slice (.int .u8)) xs => some (.ret none (upd0 o.dst (.dat .str (A.byteList xs)) none))
  | some .str, some (.slice (.int .u8)), .dat .str s => some (.ret (some (A.ltI (A.lenL (α := UInt8) s) A.big)) { upd0 o.dst (.dat (.slice (.int .u8)) (A.intList s)) none with own := [[]] })
  | some .str, some .str, .dat .str s => some (.ret none (upd0 o.dst (.dat .str s) none))
  | _, _, _ => none
def cutLP (A : Atoms) {α : Type} (xs : List α) : Option AV → Option AV → Option (Bool × List α)
  | some (.dat (.int _) l), some (.dat (.int _) h) => some (A.andB (A.le0 l) (A.andB (A.leI l h) (A.leI h (A.lenL xs))), A.dropL (A.takeL xs h) l)
  | some (.dat (.int _) l), none => some (A.andB (A.le0 l) (A.leI l (A.lenL xs)), A.dropL xs l)
  | none, some (.dat (.int _) h) => some (A.andB (A.le0 h) (A.leI h (A.lenL xs)), A.takeL xs h)
  | _, _ => none
def stSliceP (A : Atoms) (tab : Tab) (o : Oper) (t : TypeId) (x : Operand) (lo hi max : Option Operand) (st : St) : Option Comp :=
  match max, (st.ent x).av with
  | none, .dat (.slice e) xs => match tyIs (tab t) (.slice e), cutLP A (α := e.val) xs (avOpt st lo) (avOpt st hi) with
    | true, some (c, ys) => some (.ret (some c) (upd0 o.dst (.dat (.slice e) ys) none))
    | _, _ => none
  | none, .dat .str xs => match tyIs (tab t) .str, cutLP A (α := UInt8) xs (avOpt st lo) (avOpt st hi) with
    | true, some (c, ys) => some (.ret (some c) (upd0 o.dst (.dat .str ys) none))
    | _, _ => none
  | _, _ => none
def stIndexAddrP (A : Atoms) (tab : Tab) (o : Oper) (t : TypeId) (x i : Operand) (st : St) : Option Comp :=
  match (st.ent x).av, (st.ent i).av with
  | .dat (.slice e) xs, .dat (.int _) n => cnd (tyIs (tab t) (.slice e))
    (some (.ret (some (A.andB (A.le0 n) (A.ltI n (A.lenL (α := e.val) xs)))) (upd0 o.dst (.ref e (A.atL (α := e.val) xs n e.zero)) none))) none
  | _, _ => none
def stIndexP (A : Atoms) (tab : Tab) (o : Oper) (t : TypeId) (x i : Operand) (st : St) : Option Comp :=
  match (st.ent x).av, (st.ent i).av with
  | .dat .str s, .dat (.int _) n => cnd (tyIs (tab t) .str)
    (some (.ret (some (A.andB (A.le0 n) (A.ltI n (A.lenL (α := UInt8) s)))) (upd0 o.dst (.dat (.int .u8) (A.u8i (A.atL (α := UInt8) s n 0))) none))) none
  | _, _ => none
def stLenP (A : Atoms) (tab : Tab) (o : Oper) (t : TypeId) (x : Operand) (st : St) : Option Comp :=
  match (st.ent x).av with
  | .dat (.slice e) xs => cnd (tyIs (tab t) (.slice e)) (some (.ret none (upd0 o.dst (.dat (.int .i64) (A.lenL (α := e.val) xs)) none))) none
  | .dat .str s => cnd (tyIs (tab t) .str) (some (.ret none (upd0 o.dst (.dat (.int .i64) (A.lenL (α := UInt8) s)) none))) none
  | _ => none
def stAppendP (A : Atoms) (tab : Tab) (o : Oper) (t : TypeId) (x y : Operand) (st : St) : Option Comp :=
  match tab t with
  | some (.slice e) => match AV.as (.slice e) (st.ent x).av, AV.as (.slice e) (st.ent y).av, st.owner x with
    | some xs, some ys, some l => some (.ret (some (A.ltI (A.addI (A.lenL (α := e.val) xs) (A.lenL (α := e.val) ys)) A.big))
        { upd0 o.dst (.dat (.slice e) (A.appL (α := e.val) xs ys)) none with own := [[]], takes := l.toList })
    | _, _, _ => none
  | _ => none
def stMinMaxP (A : Atoms) (mx : Bool) (o : Oper) (x y : Operand) (st : St) : Option Comp :=
  match (st.ent x).av, (st.ent y).av with
  | .dat (.int k) a, .dat (.int k') b => match kbeq k k' with
    | true => some (.ret none (upd0 o.dst (.dat (.int k) (cnd mx (A.maxI a b) (A.minI a b))) none))
    | false => none
  | _, _ => none
def stMakeXP (A : Atoms) (tab : Tab) (o : Oper) (t : TypeId) (l c : Operand) (st : St) : Option Comp :=
  match tab t, (st.ent l).av, (st.ent c).av, freeD st o.dst with
  | some (.slice e), .dat (.int _) n, .dat (.int _) m, some d => match noSl e with
    | true => some (.ret (some (A.andB (A.le0 n) (A.andB (A.leI n m) (A.ltI m A.big)))) { upd0 (some d) (.xf d []) none with xw := some (d, ⟨.slice e, A.repL n e.zero⟩) })
    | false => none
  | _, _, _, _ => none
def stStoreXP (A : Atoms) (tab : Tab) (o : Oper) (t : TypeId) (r : Tmp) (p : List Nat) (n : Int) (q : List Nat) (v : Operand) (st : St) : Option Comp :=
  match st.io r, st.atX r p with
  | some d, some ⟨.slice e, xs⟩ => match getP e (A.atL (α := e.val) xs n e.zero) q with
    | some y => match tyIs (tab t) y.1, noSl e, AV.as y.1 (st.ent v).av with
      | true, true, some z => match setP e (A.atL (α := e.val) xs n e.zero) q ⟨y.1, z⟩ with
        | some x' => match setP d.1 d.2 p ⟨.slice e, A.setL (α := e.val) xs n x'⟩ with
          | some d' => some (.ret (some (A.andB (A.le0 n) (A.ltI n (A.lenL (α := e.val) xs)))) { upd0 o.dst .skp none with xw := some (r, ⟨d.1, d'⟩) })
          | none => none
        | none => none
      | _, _, _ => none
    | none => none
  | _, _ => none
def stFieldAddrXP (A : Atoms) (tab : Tab) (o : Oper) (s : TypeId) (r : Tmp) (p : List Nat) (n : Int) (q : List Nat) (f : Nat) (st : St) : Option Comp :=
  match st.atX r p with
  | some ⟨.slice e, xs⟩ => match getP e (A.atL (α := e.val) xs n e.zero) q with
    | some y => match tyIs (tab s) y.1, getF y.1 y.2 f with
      | true, some _ => some (.ret none (upd0 o.dst (.xp r p n (q ++ [f])) none))
      | _, _ => none
    | none => none
  | _ => none
def stIndexAddrXP (A : Atoms) (tab : Tab) (o : Oper) (t : TypeId) (r : Tmp) (p : List Nat) (i : Operand) (st : St) : Option Comp :=
  match st.atX r p, (st.ent i).av with
  | some ⟨.slice e, xs⟩, .dat (.int _) n => cnd (tyIs (tab t) (.slice e))
    (some (.ret (some (A.andB (A.le0 n) (A.ltI n (A.lenL (α := e.val) xs)))) (upd0 o.dst (.xp r p n []) none))) none
  | _, _ => none
def stLenXP (A : Atoms) (tab : Tab) (o : Oper) (t : TypeId) (r : Tmp) (p : List Nat) (st : St) : Option Comp :=
  match st.atX r p with
  | some ⟨.slice e, xs⟩ => cnd (tyIs (tab t) (.slice e)) (some (.ret none (upd0 o.dst (.dat (.int .i64) (A.lenL (α := e.val) xs)) none))) none
  | _ => none
def stepCP (A : Atoms) (tab : Tab) (G : Gam) (o : Oper) (st : St) : Option Comp :=
  match o.op with
  | .move x => some (cnd (mkD st o.dst) (stAssignM o x st (stMove tab o x st)) (stMove tab o x st))
  | .assign x => some (cnd (mkD st o.dst) (stAssignM o x st (stAssign tab o x st)) (stAssign tab o x st))
  | .pick c a b => stPickP A o c a b st
  | .alloc e => cnd (mkD st o.dst) (stAllocX tab o e st) (stAlloc tab o e st)
  | .box e x => match (st.ent x).av with
    | .xf r p => stBoxX tab o e r p st
    | _ => stBox tab o e x st
  | .build t ps => stBuild tab o t ps.toList st
  | .buildSlice t n ps => stBuildSlice tab o t n ps.toList st
  | .load t x => match (st.ent x).av with
    | .cx b p => stLoadX tab o t b p st
    | _ => stLoad tab o t x st
  | .store t x v => match (st.ent x).av, (st.ent v).av with
    | .xp r p n q, _ => stStoreXP A tab o t r p n q v st
    | .cx b [], .xf r q => stPutX tab o t b r q st
    | _, _ => stStore tab o t x v st
  | .nilCheck x => match (st.ent x).av with
    | .cel b p => some (.ret none (upd0 o.dst (.cel b p) none))
    | .rdr p => some (.ret none (upd0 o.dst (.rdr p) none))
    | _ => none
  | .binOp op xt x y _ => stBinP A tab o op xt x y st
  | .unOp op _ x => stUnP A o op x st
  | .convert s d x => stConvP A tab o s d x st
  | .makeSlice t l c => cnd (mkD st o.dst) (stMakeXP A tab o t l c st) (stMakeSliceP A tab o t l c st)
  | .slice t x lo hi mx => stSliceP A tab o t x lo hi mx st
  | .fieldAddr s x f => match (st.ent x).av with
    | .xp r p n q => stFieldAddrXP A tab o s r p n q f st
    | .cx b p => stFieldAddrC tab o s b p f st
    | _ => stFieldAddr tab o s x f st
  | .field s x f => stField tab o s x f st
  | .indexAddr t x i => match (st.ent x).av with
    | .xf r p => stIndexAddrXP A tab o t r p i st
    | _ => stIndexAddrP A tab o t x i st
  | .index t x i => stIndexP A tab o t x i st
  | .extract x i => match (st.ent x).av with
    | .xt r => stExtractX o r i st
    | _ => stExtract o x i st
  | .call c => match c.callee with
    | .value (.func f) => cnd (cnd (anyX st c.args.toList) true (cnd (mkD st o.dst) true (isMut G f))) (stCallX G o f c.args.toList st) (stCall G o f c.args.toList st)
    | .builtin .len => match c.args.toList, c.argTypes.toList with
      | [x], [t] => match (st.ent x).av with
        | .xf r p => stLenXP A tab o t r p st
        | _ => stLenP A tab o t x st
      | _, _ => none
    | .builtin .append => match c.args.toList, c.argTypes.toList with
      | [x, y], [t, t'] => cnd (Nat.beq t t') (stAppendP A tab o t x y st) none
      | _, _ => none
    | .builtin .min => match c.args.toList with
      | [x, y] => stMinMaxP A false o x y st
      | _ => none
    | .builtin .max => match c.args.toList with
      | [x, y] => stMinMaxP A true o x y st
      | _ => none
    | _ => none
  | _ => none
def Comp.runKP (A : Atoms) {R : Type} (st : St) (k : St → Option R) : Comp → Option R
  | .ret none u => k (apply st u)
  | .ret (some c) u => A.cndS c (k (apply st u)) none
  | .call _ _ F u => A.obind F fun r => k (apply st (u r))
def Comp.runTP (A : Atoms) {R : Type} (st : St) (rs : List Res) (k : St → FP → Option R) : Comp → Option R
  | .ret none u => k (apply st u) ⟨tagRes u ++ rs, u.writes⟩
  | .ret (some c) u => A.cndS c (k (apply st u) ⟨tagRes u ++ rs, u.writes⟩) none
  | .call _ _ F u => A.obind F fun r => k (apply st (u r)) ⟨tagRes (u r) ++ rs, (u r).writes⟩
def opsKP (A : Atoms) {R : Type} (tab : Tab) (G : Gam) (ops : List Oper) : List Oper → Nat → St → (St → Option R) → Option R
  | [], _, st, k => k st
  | o :: rest, i, st, k => match o.guard with
    | none => match stepCP A tab G o st with
      | some c => c.runKP A st fun st' => opsKP A tab G ops rest (Nat.succ i) (setKn st' o.dst (knOf o st)) k
      | none => none
    | some (g, want) => match guardT ops g with
      | none => none
      | some t => match (st.env t).av with
        | .dat .bool b =>
          let go (st : St) := match stepCP A tab G o st with
            | some c => c.runKP A st fun st' => opsKP A tab G ops rest (Nat.succ i) (setKn st' o.dst (knOf o st)) k
            | none => none
          let by' (st : St) := opsKP A tab G ops rest (Nat.succ i) (setKn (apply st (skipU o)) o.dst false) k
          cnd (st.kn t) (cnd b (cnd want (go st) (by' st)) (cnd want (by' st) (go st)))
            (A.cndS b (cnd want (go (setKn (setAV st t (.dat .bool true)) (some t) true)) (by' (setKn (setAV st t (.dat .bool true)) (some t) true)))
                    (cnd want (by' (setKn (setAV st t (.dat .bool false)) (some t) true)) (go (setKn (setAV st t (.dat .bool false)) (some t) true))))
        | .skp => opsKP A tab G ops rest (Nat.succ i) (setKn (apply st (skipU o)) o.dst false) k
        | _ => none
def drawKP (A : Atoms) {R : Type} (tab : Tab) (G : Gam) (ops : List Oper) : List Oper → Nat → St → List FP → (St → List FP → Option R) → Option R
  | [], _, st, acc, k => k st acc
  | o :: rest, i, st, acc, k => match o.guard with
    | none => match stepCP A tab G o st with
      | some c => c.runTP A st (reads st o) fun st' f => drawKP A tab G ops rest (Nat.succ i) (setKn st' o.dst (knOf o st)) (acc ++ [f]) k
      | none => none
    | some (g, want) => match guardT ops g with
      | none => none
      | some t => match (st.env t).av with
        | .dat .bool b =>
          let go (st : St) := match stepCP A tab G o st with
            | some c => c.runTP A st (.tmp t :: reads st o) fun st' f => drawKP A tab G ops rest (Nat.succ i) (setKn st' o.dst (knOf o st)) (acc ++ [f]) k
            | none => none
          let by' (st : St) := drawKP A tab G ops rest (Nat.succ i) (setKn (apply st (skipU o)) o.dst false) (acc ++ [⟨[.tmp t], (skipU o).writes⟩]) k
          cnd (st.kn t) (cnd b (cnd want (go st) (by' st)) (cnd want (by' st) (go st)))
            (A.cndS b (cnd want (go (setKn (setAV st t (.dat .bool true)) (some t) true)) (by' (setKn (setAV st t (.dat .bool true)) (some t) true)))
                    (cnd want (by' (setKn (setAV st t (.dat .bool false)) (some t) true)) (go (setKn (setAV st t (.dat .bool false)) (some t) true))))
        | .skp => drawKP A tab G ops rest (Nat.succ i) (setKn (apply st (skipU o)) o.dst false) (acc ++ [⟨[.tmp t], (skipU o).writes⟩]) k
        | _ => none
def evalKP (A : Atoms) (tab : Tab) (G : Gam) (ann : Ann) (fuel : Nat) : Code → (R : Type) → St → (St → Option R) → (St → Option R) → (Nat → St → Option R) → Option R
  | .skip, _, st, kn, _, _ => kn st
  | .region _ ops draw, _, st0, kn, _, _ =>
    let st : St := { st0 with mkt := ann.mkt }
    cnd draw (drawKP A tab G ops.toList ops.toList 0 st [] fun st' fs => cnd (cnd (edgesOk ops.toList 0) (pairsOk (masks ops.toList []) [] fs 0) false) (kn st') none)
      (opsKP A tab G ops.toList ops.toList 0 st kn)
  | .seq x y, R, st, kn, kr, ke => match cutOf ann y with
    | none => evalKP A tab G ann fuel x R st (fun st' => evalKP A tab G ann fuel y R st' kn kr ke) kr ke
    | some (S, true) => A.obind (evalKP A tab G ann fuel x S.ty.val st (fun st' => pack S st') (fun _ => none) (fun _ _ => none))
        fun s => evalKP A tab G ann fuel y R (unpack S s) kn kr ke
    | some (S, false) => A.obind (evalKP A tab G ann fuel x (S.ty.val ⊕ R) st (fun st' => (pack S st').map .inl) (fun st' => (kr st').map .inr) (fun i st' => (ke i st').map .inr))
        fun e => A.sumE e (fun s => evalKP A tab G ann fuel y R (unpack S s) kn kr ke) (fun r => some r)
  | .cond c x y, R, st, kn, kr, ke => match (st.ent c).av with
    | .dat .bool b => cnd (st.knX c) (cnd b (evalKP A tab G ann fuel x R st kn kr ke) (evalKP A tab G ann fuel y R st kn kr ke)) (A.cndS b (evalKP A tab G ann fuel x R st kn kr ke) (evalKP A tab G ann fuel y R st kn kr ke))
    | _ => none
  | .block id (.loop b), R, st, kn, kr, ke => match ann.loop id with
    | some (S, T, true) => match pack S st with
      | none => none
      | some s0 =>
        A.obind (A.iter fuel (fun s => evalKP A tab G ann fuel b (S.ty.val ⊕ T.ty.val) (unpack S s) (fun st' => (pack S st').map .inl) (fun _ => none)
          (fun i st' => cnd (Nat.beq i id) ((pack T st').map .inr) none)) s0) fun t => kn (unpack T t)
    | some (S, T, false) => match pack S st with
      | none => none
      | some s0 =>
        A.obind (A.iter fuel (fun s => evalKP A tab G ann fuel b (S.ty.val ⊕ (T.ty.val ⊕ R)) (unpack S s) (fun st' => (pack S st').map .inl) (fun st' => (kr st').map fun r => .inr (.inr r))
          (fun i st' => cnd (Nat.beq i id) ((pack T st').map fun t => .inr (.inl t)) ((ke i st').map fun r => .inr (.inr r)))) s0) fun e => A.sumE e (fun t => kn (unpack T t)) (fun r => some r)
    | none => none
  | .block id c, R, st, kn, kr, ke => evalKP A tab G ann fuel c R st kn kr (fun i st' => cnd (Nat.beq i id) (kn st') (ke i st'))
  | .exit id, _, st, _, _, ke => ke id st
  | .ret, _, st, _, kr, _ => kr st
  | _, _, _, _, _, _ => none
def evalFnP (A : Atoms) (tab : Tab) (G : Gam) (ann : Ann) (fuel : Nat) (fn : Func) (aty rdty : Ty) (usesRd : Bool) (rty : Ty) (own : List (List Nat)) (x : aty.val) (rd : rdty.val) : Option (rty.val × rdty.val) :=
  match fn.body with
  | none => none
  | some c => cnd (dstsOk fn.ntmps c) (evalKP A tab G ann fuel c (rty.val × rdty.val) (startOf aty rdty usesRd x rd) (finOf tab fn.results.toList rdty usesRd rty own) (finOf tab fn.results.toList rdty usesRd rty own) (fun _ _ => none)) none
def evalMutP (A : Atoms) (tab : Tab) (G : Gam) (ann : Ann) (fuel : Nat) (fn : Func) (b rdty rty : Ty) (x : b.val) (rd : rdty.val) : Option (rty.val × rdty.val) :=
  match fn.body with
  | none => none
  | some c => cnd (dstsOk fn.ntmps c) (evalKP A tab G ann fuel c (rty.val × rdty.val) (startMut b rdty x rd) (finMut tab fn.results.toList rdty rty) (finMut tab fn.results.toList rdty rty) (fun _ _ => none)) none
def evalOpenP (A : Atoms) (tab : Tab) (G : Gam) (ann : Ann) (fuel : Nat) (fn : Func) (aty rty : Ty) (x : aty.val) : Option (rty.val × Ty.unit.val) :=
  match fn.body with
  | none => none
  | some c => cnd (dstsOk fn.ntmps c) (evalKP A tab G ann fuel c (rty.val × Ty.unit.val) (startOf aty .unit false x ()) (finOpen fn.results.toList rty) (finOpen fn.results.toList rty) (fun _ _ => none)) none
theorem stPick_real (o : Oper) (c x y : Operand) (st : St) : stPickP real o c x y st = stPick o c x y st := rfl
theorem eqv_real : ∀ (t : Ty) (x y : t.val), Ty.eqvP real t x y = Ty.eqv t x y
  | .int _, _, _ => rfl
  | .bool, _, _ => rfl
  | .str, _, _ => rfl
  | .unit, _, _ => rfl
  | .slice _, _, _ => rfl
  | .prod a b, x, y => by simp only [Ty.eqvP, Ty.eqv, eqv_real a, eqv_real b]; rfl
theorem intOp_real (op : BinOp) (k : IntKind) (a b : Int) : intOpP real op k a b = intOp op k a b := by kernel_rfl
theorem strOp_real (op : BinOp) (a b : List UInt8) : strOpP real op a b = strOp op a b := by kernel_rfl
theorem binAV_real (tab : Tab) (op : BinOp) (xt : TypeId) (x y : AV) : binAVP real tab op xt x y = binAV tab op xt x y := by
  unfold binAVP binAV
  simp only [eqv_real, intOp_real, strOp_real]
  kernel_rfl
theorem stepC_real (tab : Tab) (G : Gam) (o : Oper) (st : St) : stepCP real tab G o st = stepC tab G o st := by
  unfold stepCP stepC
  cases o.op with
  | binOp op xt x y yt => simp only [stBinP, stBin, binAV_real]; kernel_rfl
  | _ => kernel_rfl
theorem runK_real {R : Type} (st : St) (k : St → Option R) (c : Comp) : c.runKP real st k = c.runK st k := by cases c <;> rfl
theorem runT_real {R : Type} (st : St) (rs : List Res) (k : St → FP → Option R) (c : Comp) : c.runTP real st rs k = c.runT st rs k := by cases c <;> rfl
theorem opsK_real {R : Type} (tab : Tab) (G : Gam) (ops : List Oper) : ∀ (rest : List Oper) (i : Nat) (st : St) (k : St → Option R), opsKP real tab G ops rest i st k = opsK tab G ops rest i st k := by
  intro rest
  induction rest with
  | nil => intros; rfl
  | cons o rest ih => intro i st k; simp only [opsKP, opsK, stepC_real, runK_real, ih]; kernel_rfl
theorem drawK_real {R : Type} (tab : Tab) (G : Gam) (ops : List Oper) : ∀ (rest : List Oper) (i : Nat) (st : St) (acc : List FP) (k : St → List FP → Option R), drawKP real tab G ops rest i st acc k = drawK tab G ops rest i st acc k := by
  intro rest
  induction rest with
  | nil => intros; rfl
  | cons o rest ih => intro i st acc k; simp only [drawKP, drawK, stepC_real, runT_real, ih]; kernel_rfl
theorem evalK_real (tab : Tab) (G : Gam) (ann : Ann) (fuel : Nat) (c : Code) : (∀ (R : Type) (st : St) (kn kr : St → Option R) (ke : Nat → St → Option R), evalKP real tab G ann fuel c R st kn kr ke = evalK tab G ann fuel c R st kn kr ke) ∧
    ∀ b, c = .loop b → ∀ (R : Type) (st : St) (kn kr : St → Option R) (ke : Nat → St → Option R), evalKP real tab G ann fuel b R st kn kr ke = evalK tab G ann fuel b R st kn kr ke := by
  induction c with
  | skip => exact ⟨fun _ _ _ _ _ => rfl, fun b hb => by cases hb⟩
  | region id ops draw =>
    refine ⟨fun R st kn kr ke => ?_, fun b hb => by cases hb⟩
    simp only [evalKP, evalK, opsK_real, drawK_real]
  | seq x y ihx ihy =>
    refine ⟨fun R st kn kr ke => ?_, fun b hb => by cases hb⟩
    simp only [evalKP, evalK, ihx.1, ihy.1]; kernel_rfl
  | cond c x y ihx ihy =>
    refine ⟨fun R st kn kr ke => ?_, fun b hb => by cases hb⟩
    simp only [evalKP, evalK, ihx.1, ihy.1]; kernel_rfl
  | block id c ih =>
    refine ⟨fun R st kn kr ke => ?_, fun b hb => by cases hb⟩
    cases c with
    | loop b => simp only [evalKP, evalK, ih.2 b rfl]; kernel_rfl
    | _ => exact ih.1 R st kn kr (fun i st' => cnd (Nat.beq i id) (kn st') (ke i st'))
  | loop c ih => exact ⟨fun _ _ _ _ _ => rfl, fun b hb => by injection hb with hb; subst hb; exact ih.1⟩
  | _ => exact ⟨fun _ _ _ _ _ => rfl, fun b hb => by cases hb⟩
theorem evalFn_real (tab : Tab) (G : Gam) (ann : Ann) (fuel : Nat) (fn : Func) (aty rdty : Ty) (usesRd : Bool) (rty : Ty) (own : List (List Nat)) (x : aty.val) (rd : rdty.val) :
    evalFnP real tab G ann fuel fn aty rdty usesRd rty own x rd = evalFn tab G ann fuel fn aty rdty usesRd rty own x rd := by
  unfold evalFnP evalFn
  cases fn.body with
  | none => rfl
  | some c => simp only [(evalK_real tab G ann fuel c).1]
theorem evalOpen_real (tab : Tab) (G : Gam) (ann : Ann) (fuel : Nat) (fn : Func) (aty rty : Ty) (x : aty.val) :
    evalOpenP real tab G ann fuel fn aty rty x = evalOpen tab G ann fuel fn aty rty x := by
  unfold evalOpenP evalOpen
  cases fn.body with
  | none => rfl
  | some c => simp only [(evalK_real tab G ann fuel c).1]
theorem evalMut_real (tab : Tab) (G : Gam) (ann : Ann) (fuel : Nat) (fn : Func) (b rdty rty : Ty) (x : b.val) (rd : rdty.val) :
    evalMutP real tab G ann fuel fn b rdty rty x rd = evalMut tab G ann fuel fn b rdty rty x rd := by
  unfold evalMutP evalMut
  cases fn.body with
  | none => rfl
  | some c => simp only [(evalK_real tab G ann fuel c).1]

end Go.Den
