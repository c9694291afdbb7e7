/- The printed words, plainly, and what a reading comes to. -/
import Derived.Test.YtojleoiiijlhaaaGreatXDm4
import Derived.Test.YtojleoiiijlhaaaGreatXPm1
import Derived.Test.YtojleoiiijlhaaaGreatXPm2

namespace Go.Den
class IsReal (A : Atoms) : Prop where
  eq : A = real
instance isReal_real : IsReal real:=⟨rfl⟩
section
variable {A : Atoms} [R : IsReal A] {α β γ σ ρ : Type}
@[simp] theorem a_cndS (c : Bool) (x y : α) : A.cndS c x y = if c = true then x else y:=by obtain rfl:=R.eq; cases c <;> rfl
@[simp] theorem a_obind_some (a : α) (f : α→Option β) : A.obind (some a) f = f a:=by obtain rfl:=R.eq; rfl
@[simp] theorem a_obind_none (f : α→Option β) : A.obind none f = none:=by obtain rfl:=R.eq; rfl
@[simp] theorem a_sumE_inl (a : α) (f : α→γ) (g : β→γ) : A.sumE (.inl a) f g = f a:=by obtain rfl:=R.eq; rfl
@[simp] theorem a_sumE_inr (b : β) (f : α→γ) (g : β→γ) : A.sumE (.inr b) f g = g b:=by obtain rfl:=R.eq; rfl
theorem a_iter (k : Nat) (f : σ→Option (σ ⊕ ρ)) (s : σ) : A.iter k f s = iter k f s:=by obtain rfl:=R.eq; rfl
@[simp] theorem a_le0 (n : Int) : A.le0 n = decide (0≤n):=by obtain rfl:=R.eq; rfl
@[simp] theorem a_leI (a b : Int) : A.leI a b = decide (a≤b):=by obtain rfl:=R.eq; rfl
@[simp] theorem a_ltI (a b : Int) : A.ltI a b = decide (a < b):=by obtain rfl:=R.eq; rfl
@[simp] theorem a_lenL (xs : List α) : A.lenL xs = (xs.length : Int):=by obtain rfl:=R.eq; rfl
@[simp] theorem a_takeL (xs : List α) (n : Int) : A.takeL xs n = xs.take n.toNat:=by obtain rfl:=R.eq; rfl
@[simp] theorem a_dropL (xs : List α) (n : Int) : A.dropL xs n = xs.drop n.toNat:=by obtain rfl:=R.eq; rfl
@[simp] theorem a_atL (xs : List α) (n : Int) (d : α) : A.atL xs n d = xs.getD n.toNat d:=by obtain rfl:=R.eq; rfl
@[simp] theorem a_setL (xs : List α) (n : Int) (x : α) : A.setL xs n x = xs.set n.toNat x:=by obtain rfl:=R.eq; rfl
@[simp] theorem a_appL (xs ys : List α) : A.appL xs ys = xs ++ ys:=by obtain rfl:=R.eq; rfl
@[simp] theorem a_repL (n : Int) (d : α) : A.repL n d = List.replicate n.toNat d:=by obtain rfl:=R.eq; rfl
@[simp] theorem a_u8i (b : UInt8) : A.u8i b = (b.toNat : Int):=by obtain rfl:=R.eq; rfl
@[simp] theorem a_eqI (a b : Int) : A.eqI a b = decide (a = b):=by obtain rfl:=R.eq; rfl
@[simp] theorem a_eqB (a b : Bool) : A.eqB a b = (a == b):=by obtain rfl:=R.eq; rfl
@[simp] theorem a_eqS (a b : List UInt8) : A.eqS a b = decide (a = b):=by obtain rfl:=R.eq; rfl
@[simp] theorem a_lessS (a b : List UInt8) : A.lessS a b = Op.bytesLess a b:=by obtain rfl:=R.eq; rfl
@[simp] theorem a_notB (b : Bool) : A.notB b = !b:=by obtain rfl:=R.eq; rfl
@[simp] theorem a_andB (a b : Bool) : A.andB a b = (a && b):=by obtain rfl:=R.eq; rfl
@[simp] theorem a_orB (a b : Bool) : A.orB a b = (a || b):=by obtain rfl:=R.eq; rfl
@[simp] theorem a_addI (a b : Int) : A.addI a b = a + b:=by obtain rfl:=R.eq; rfl
@[simp] theorem a_subI (a b : Int) : A.subI a b = a - b:=by obtain rfl:=R.eq; rfl
@[simp] theorem a_mulI (a b : Int) : A.mulI a b = a * b:=by obtain rfl:=R.eq; rfl
@[simp] theorem a_quoI (a b : Int) : A.quoI a b = a.tdiv b:=by obtain rfl:=R.eq; rfl
@[simp] theorem a_remI (a b : Int) : A.remI a b = a.tmod b:=by obtain rfl:=R.eq; rfl
@[simp] theorem a_shrI (a b : Int) : A.shrI a b = a.fdiv (2 ^ b.toNat):=by obtain rfl:=R.eq; rfl
@[simp] theorem a_minI (a b : Int) : A.minI a b = if b < a then b else a:=by obtain rfl:=R.eq; rfl
@[simp] theorem a_maxI (a b : Int) : A.maxI a b = if a < b then b else a:=by obtain rfl:=R.eq; rfl
theorem a_wrapI (k : IntKind) (n : Int) : A.wrapI k n = k.wrap n:=by obtain rfl:=R.eq; rfl
theorem a_xorI (k : IntKind) (a b : Int) : A.xorI k a b = k.wrap (BitVec.ofInt k.bits a ^^^ BitVec.ofInt k.bits b).toNat:=by obtain rfl:=R.eq; rfl
@[simp] theorem a_byteList (xs : List Int) : A.byteList xs = xs.map fun n=>UInt8.ofNat n.toNat:=by obtain rfl:=R.eq; rfl
@[simp] theorem a_intList (s : List UInt8) : A.intList s = s.map fun b=>(b.toNat : Int):=by obtain rfl:=R.eq; rfl
@[simp] theorem a_big : A.big = 4294967296:=by obtain rfl:=R.eq; rfl
theorem wrap_i64 {n : Int} (h1 : -9223372036854775808≤n) (h2 : n≤9223372036854775807) : IntKind.i64.wrap n = n:=by
  have e : IntKind.i64.wrap n = if (decide (n % 18446744073709551616 ≥ 9223372036854775808)) = true then n % 18446744073709551616 - 18446744073709551616 else n % 18446744073709551616:=rfl
  rw [e]
  by_cases hn : 0≤n
  · have : n % 18446744073709551616 = n:=Int.emod_eq_of_lt hn (by omega)
    rw [this,if_neg (by simp; omega)]
  · have : n % 18446744073709551616 = n + 18446744073709551616:=by omega
    rw [this,if_pos (by simp; omega)]; omega
theorem a_wrap {n : Int} (h1 : -9223372036854775808≤n) (h2 : n≤9223372036854775807) : A.wrapI .i64 n = n:=by rw [a_wrapI,wrap_i64 h1 h2]
/-! ### what a reading comes to -/
def Ok (x : Option α) (Q : α→Prop) : Prop:=∃ r,x = some r∧Q r
theorem Ok.mono {x : Option α} {Q Q' : α→Prop} (h : Ok x Q) (k : ∀ r,Q r→Q' r) : Ok x Q':=by obtain ⟨r,e,q⟩:=h; exact ⟨r,e,k r q⟩
theorem ok_some {r : α} {Q : α→Prop} : Ok (some r) Q ↔ Q r:=⟨fun ⟨_,e,q⟩=>(by cases e; exact q),fun q=>⟨r,rfl,q⟩⟩
theorem ok_cndS {c : Bool} {x y : Option α} {Q : α→Prop} : Ok (A.cndS c x y) Q ↔ (c = true→Ok x Q)∧(c = false→Ok y Q):=by
  rw [a_cndS]; cases c <;> simp
theorem ok_obind {x : Option α} {f : α→Option β} {Q : β→Prop} : Ok (A.obind x f) Q ↔ Ok x (fun r=>Ok (f r) Q):=by
  obtain rfl:=R.eq
  cases x with
  | none=>exact ⟨fun ⟨_,e,_⟩=>(by cases e),fun ⟨_,e,_⟩=>(by cases e)⟩
  | some a=>exact ⟨fun h=>⟨a,rfl,h⟩,fun ⟨r,e,h⟩=>(by cases e; exact h)⟩
theorem ok_sumE {e : α ⊕ β} {f : α→Option γ} {g : β→Option γ} {Q : γ→Prop} : Ok (A.sumE e f g) Q ↔ (∀ a,e = .inl a→Ok (f a) Q)∧(∀ b,e = .inr b→Ok (g b) Q):=by
  obtain rfl:=R.eq
  cases e with
  | inl a=>exact ⟨fun h=>⟨fun b e=>(by cases e; exact h),fun b e=>(by cases e)⟩,fun h=>h.1 a rfl⟩
  | inr a=>exact ⟨fun h=>⟨fun b e=>(by cases e),fun b e=>(by cases e; exact h)⟩,fun h=>h.2 a rfl⟩
theorem ok_eq {x : Option α} {v : α} : Ok x (· = v) ↔ x = some v:=⟨fun ⟨r,e,q⟩=>(by rw [e,q]),fun h=>⟨v,h,rfl⟩⟩
theorem Ok.bind {x : Option α} {f : α→Option β} {P : α→Prop} {Q : β→Prop} (h : Ok x P) (k : ∀ r,P r→Ok (f r) Q) : Ok (A.obind x f) Q:=ok_obind.2 (h.mono k)

/-! ### loops -/
theorem iter_ok {f : σ→Option (σ ⊕ ρ)} (I : Nat→σ→Prop) (Q : ρ→Prop)
    (h : ∀ n s,I n s→Ok (f s) (fun r=>(∀ s',r = .inl s'→∃ m,m < n∧I m s')∧∀ e,r = .inr e→Q e)) :
    ∀ {k n : Nat} {s : σ},n < k→I n s→Ok (A.iter k f s) Q:=by
  intro k
  rw [show (A.iter k f : σ→Option ρ) = iter k f from funext (a_iter k f)]
  induction k with
  | zero=>intro n s hn; omega
  | succ k ih =>
    intro n s hn hI
    obtain ⟨r,h1,h2,h3⟩:=h n s hI
    cases r with
    | inl s' =>
      obtain ⟨m,h4,h5⟩:=h2 s' rfl
      obtain ⟨r,h6,h7⟩:=ih (by omega) h5
      exact ⟨r,(by simp only [iter,h1]; exact h6),h7⟩
    | inr r=>exact ⟨r,(by simp only [iter,h1]),h3 r rfl⟩
theorem iter_walk {f : σ→Option (σ ⊕ ρ)} (St : Nat→σ) (n : Nat) (stop : Nat→Option ρ) (d : ρ)
    (hs : ∀ i,i < n→f (St i) = some (match stop i with | none=>.inl (St (i + 1)) | some e=>.inr e))
    (hd : f (St n) = some (.inr d)) : ∀ {k : Nat},n < k→A.iter k f (St 0) = some (((List.range n).findSome? stop).getD d):=by
  have main : ∀ m i k,n - i = m→i≤n→m < k→iter k f (St i) = some (((List.range' i m).findSome? stop).getD d):=by
    intro m
    induction m with
    | zero =>
      intro i k hm hi hk
      obtain ⟨k,rfl⟩ : ∃ q,k = q + 1:=⟨k - 1,by omega⟩
      have : i = n:=by omega
      subst this
      simp [iter,hd]
    | succ m ih =>
      intro i k hm hi hk
      obtain ⟨k,rfl⟩ : ∃ q,k = q + 1:=⟨k - 1,by omega⟩
      have e:=hs i (by omega)
      simp only [iter,e,List.range'_succ,List.findSome?_cons]
      cases h : stop i with
      | none=>exact ih (i + 1) k (by omega) (by omega) (by omega)
      | some r=>rfl
  intro k hk
  rw [a_iter,main n 0 k (by omega) (by omega) hk,List.range_eq_range']
theorem iter_for {f : σ→Option (σ ⊕ ρ)} (St : Nat→σ) (n : Nat) (d : ρ) (hs : ∀ i,i < n→f (St i) = some (.inl (St (i + 1)))) (hd : f (St n) = some (.inr d)) {k : Nat} (hk : n < k) :
    A.iter k f (St 0) = some d:=by
  rw [iter_walk St n (fun _=>none) d hs hd hk]
  have : ∀ l : List Nat,l.findSome? (fun _=>(none : Option ρ)) = none:=by intro l; induction l <;> simp_all
  rw [this]; rfl
theorem iter_all {f : σ→Option (σ ⊕ ρ)} (St : Nat→σ) (n : Nat) (p : Nat→Bool) (e d : ρ) (hs : ∀ i,i < n→f (St i) = some (if p i = true then .inl (St (i + 1)) else .inr e)) (hd : f (St n) = some (.inr d)) {k : Nat} (hk : n < k) :
    A.iter k f (St 0) = some (if (List.range n).all p = true then d else e):=by
  rw [iter_walk St n (fun i=>if p i = true then none else some e) d (fun i hi=>by rw [hs i hi]; cases p i <;> rfl) hd hk]
  congr 1
  induction (List.range n) with
  | nil=>rfl
  | cons x xs ih =>
    simp only [List.findSome?_cons,List.all_cons]
    by_cases h : p x = true
    · simp only [h,if_true,Bool.true_and]; exact ih
    · have h' : p x = false:=by simpa using h
      simp [h']
theorem range_find {n : Nat} {f : Nat→Option α} : ((List.range n).findSome? f = none∧∀ i,i < n→f i = none)∨∃ i x,i < n∧f i = some x∧(∀ j,j < i→f j = none)∧(List.range n).findSome? f = some x:=by
  induction n with
  | zero=>exact .inl ⟨rfl,fun i hi=>by omega⟩
  | succ n ih =>
    rw [List.range_succ,List.findSome?_append]
    rcases ih with ⟨e,h⟩ | ⟨i,x,h1,h2,h3,e⟩
    · rw [e]
      cases hf : f n with
      | none => exact .inl ⟨by simp [hf], fun i hi => by by_cases hin : i = n; · rw [hin]; exact hf
                                                         · exact h i (by omega)⟩
      | some x=>exact .inr ⟨n,x,by omega,hf,h,by simp [hf]⟩
    · exact .inr ⟨i,x,by omega,h2,h3,by rw [e]; rfl⟩
theorem findSome_map (l : List Nat) (p : Nat→Prop) [DecidablePred p] (f : Nat→α) (g : α→β) : l.findSome? (fun i=>if p i then some (g (f i)) else none) = (l.findSome? fun i=>if p i then some (f i) else none).map g:=by
  induction l with
  | nil=>rfl
  | cons x l ih =>
    simp only [List.findSome?_cons]
    by_cases h : p x
    · simp only [if_pos h]; rfl
    · simp only [if_neg h]; exact ih
theorem range_all {p : Nat→Bool} {n : Nat} : (List.range n).all p = true ↔ ∀ i,i < n→p i = true:=by simp [List.all_eq_true]
theorem getD_lt {xs : List α} {n : Nat} {d : α} (h : n < xs.length) : xs.getD n d = xs[n]:=by simp [h]
theorem all_range {xs : List α} {q : α→Bool} {d : α} : (List.range xs.length).all (fun i=>q (xs.getD i d)) = xs.all q:=by
  rw [Bool.eq_iff_iff,range_all,List.all_eq_true]
  constructor
  · intro h x hx
    obtain ⟨i,hi,rfl⟩:=List.mem_iff_getElem.1 hx
    have:=h i hi
    rwa [getD_lt hi] at this
  · intro h i hi
    rw [getD_lt hi]; exact h _ (List.getElem_mem hi)
end
end Go.Den

namespace Go.Den.T
set_option linter.unusedVariables false
set_option linter.unusedSimpArgs false
variable {A : Atoms} [IsReal A]
abbrev Cfg:=Int × (List Int × (Bool × Unit))

theorem nodeValid_eq (k : Nat) (v : Int) : impl_nodeValid_t A k (v,()) () = some ((decide (0≤v∧v≤4),()),()):=by
  simp only [impl_nodeValid_t,a_cndS,a_leI,a_ltI,if_true,decide_eq_true_eq]
  by_cases h : 0≤v <;> simp [h]; omega
theorem l1In_eq (k : Nat) (v a b : Int) : spec_l1In_t A k (v,(a,(b,()))) () = some ((decide (a≤v∧v≤b),()),()):=by
  simp only [spec_l1In_t,a_cndS,a_leI,if_true,decide_eq_true_eq]
  by_cases h : a≤v <;> simp [h]

def idx (xs : List Int) (v : Int) : Int:=((List.range xs.length).findSome? fun i=>if v = xs.getD i 0 then some (i : Int) else none).getD (-1)
theorem idx_cases (xs : List Int) (v : Int) : (idx xs v = -1∧v ∉ xs)∨∃ i : Nat,idx xs v = i∧i < xs.length∧xs.getD i 0 = v∧∀ j,j < i→xs.getD j 0 ≠ v:=by
  rcases range_find (n:=xs.length) (f:=fun i=>if v = xs.getD i 0 then some (i : Int) else none) with ⟨e,h⟩ | ⟨i,x,h1,h2,h3,e⟩
  · refine .inl ⟨by rw [idx,e]; rfl,fun hm=>?_⟩
    obtain ⟨i,hi,rfl⟩:=List.mem_iff_getElem.1 hm
    have:=h i hi
    rw [getD_lt hi,if_pos rfl] at this; cases this
  · by_cases hv : v = xs.getD i 0
    · rw [if_pos hv] at h2; cases h2
      exact .inr ⟨i,by rw [idx,e]; rfl,h1,hv.symm,fun j hj hjv=>by have:=h3 j hj; rw [if_pos hjv.symm] at this; cases this⟩
    · rw [if_neg hv] at h2; cases h2
theorem idx_mem {xs : List Int} {v : Int} : 0≤idx xs v ↔ v ∈ xs:=by
  rcases idx_cases xs v with ⟨e,h⟩ | ⟨i,e,h1,h2,_⟩
  · simp [e,h]
  · rw [e]; simp only [Int.natCast_nonneg,true_iff]; rw [← h2,getD_lt h1]; exact List.getElem_mem h1
theorem slices_Index_eq (k : Nat) (xs : List Int) (v : Int) (hk : xs.length < k) (hl : xs.length≤1000000000000) : slices_Index_int_t A k (xs,(v,())) () = some ((idx xs v,()),()):=by
  have h:=iter_walk (A:=A) (f:=slices_Index_int_t_b0 A k) (fun i=>(xs,(v,((xs.length : Int),((i : Int),()))))) xs.length (fun i=>if v = xs.getD i 0 then some (.inr (((i : Int),()),())) else none) (.inl ())
    (fun i hi=>by
      simp (disch:=omega) [slices_Index_int_t_b0,hi,a_wrap]
      by_cases hv : v = xs[i] <;> simp [hv])
    (by simp [slices_Index_int_t_b0]) hk
  simp only [slices_Index_int_t,a_lenL]
  rw [show ((0 : Int)) = ((0 : Nat) : Int) from rfl,h,idx]
  rw [findSome_map (List.range xs.length) (fun i=>v = xs.getD i 0) (fun i=>(i : Int)) (fun i=>Sum.inr (α:=Unit) ((i,()),()))]
  cases (List.range xs.length).findSome? fun i=>if v = xs.getD i 0 then some (i : Int) else none <;> simp
theorem slices_Contains_eq (k : Nat) (xs : List Int) (v : Int) (hk : xs.length < k) (hl : xs.length≤1000000000000) : slices_Contains_int_t A k (xs,(v,())) () = some ((decide (v ∈ xs),()),()):=by
  simp [slices_Contains_int_t,slices_Index_eq k xs v hk hl,idx_mem]
theorem l16Index_eq (k : Nat) (c : Cfg) (v : Int) (hk : c.2.1.length < k) (hl : c.2.1.length≤1000000000000) : spec_l16Index_t A k (c,(v,())) () = some ((idx c.2.1 v,()),()):=by
  obtain ⟨ep,xs,fr,_⟩:=c
  simp only at hk hl
  have h:=iter_walk (A:=A) (f:=spec_l16Index_t_b0 A k) (fun i=>(v,((i : Int),((ep,(xs,(fr,()))),())))) xs.length (fun i=>if v = xs.getD i 0 then some (.inr (((i : Int),()),())) else none) (.inl ())
    (fun i hi=>by
      simp (disch:=omega) [spec_l16Index_t_b0,hi,a_wrap]
      by_cases hv : v = xs[i]
      · simp [hv]
      · simp [hv,Ne.symm hv])
    (by simp [spec_l16Index_t_b0]) hk
  simp only [spec_l16Index_t]
  rw [show ((0 : Int)) = ((0 : Nat) : Int) from rfl,h,idx]
  rw [findSome_map (List.range xs.length) (fun i=>v = xs.getD i 0) (fun i=>(i : Int)) (fun i=>Sum.inr (α:=Unit) ((i,()),()))]
  cases (List.range xs.length).findSome? fun i=>if v = xs.getD i 0 then some (i : Int) else none <;> simp

/-! ### valid configurations -/
def membersOk (xs : List Int) : Bool:=(List.range xs.length).all fun i=>decide (0≤xs.getD i 0∧xs.getD i 0≤4) && !decide (xs.getD i 0 ∈ xs.take i)
def cfgOk (c : Cfg) : Bool:=decide (1≤c.1∧c.1≤60) && (decide (1≤c.2.1.length∧c.2.1.length≤4) && (!(c.2.2.1 && decide (c.2.1.length < 2)) && membersOk c.2.1))

theorem impl_ConfigValid_eq (k : Nat) (hk : 10≤k) (c : Cfg) : impl_ConfigValid_t A k (c,()) () = some ((cfgOk c,()),()):=by
  obtain ⟨ep,xs,fr,_⟩:=c
  have h : xs.length≤4→A.iter k (impl_ConfigValid_t_b0 A k) (xs,((xs.length : Int),(((0 : Nat) : Int),((ep,(xs,(fr,()))),())))) = some (if membersOk xs = true then .inl () else .inr ((false,()),())):=fun hl =>
    iter_all (A:=A) (f:=impl_ConfigValid_t_b0 A k) (fun i=>(xs,((xs.length : Int),((i : Int),((ep,(xs,(fr,()))),()))))) xs.length (fun i=>decide (0≤xs.getD i 0∧xs.getD i 0≤4) && !decide (xs.getD i 0 ∈ xs.take i)) (.inr ((false,()),())) (.inl ())
    (fun i hi=>by
      have hle : (i : Int)≤(xs.length : Int):=by omega
      simp (disch:=omega) [impl_ConfigValid_t_b0,hi,hle,a_wrap,nodeValid_eq]
      rw [slices_Contains_eq k (xs.take i) xs[i] (by simp; omega) (by simp; omega)]
      by_cases h1 : 0≤xs[i]∧xs[i]≤4
      · by_cases h2 : xs[i] ∈ xs.take i <;> simp [h1,h2]
      · simp [h1])
    (by simp [impl_ConfigValid_t_b0]) (by omega)
  have h':=fun hl=>h hl
  simp only [Int.natCast_zero,Int.ofNat_zero] at h'
  simp only [impl_ConfigValid_t,cfgOk,a_cndS,a_ltI,a_lenL,decide_eq_true_eq,Bool.false_eq_true,if_true,if_false]
  by_cases h1 : ep < 1
  · simp [h1]; omega
  by_cases h2 : 60 < ep
  · simp [h1,h2]; omega
  by_cases h3 : (xs.length : Int) < 1
  · simp [h1,h2,h3]; omega
  by_cases h4 : (4 : Int) < (xs.length : Int)
  · simp [h1,h2,h3,h4]; omega
  have e1 : (1≤ep∧ep≤60):=by omega
  have e2 : (1≤xs.length∧xs.length≤4):=by omega
  by_cases h5 : fr = true
  · by_cases h6 : (xs.length : Int) < 2
    · have : xs.length < 2:=by omega
      simp [h1,h2,h3,h4,h5,h6,this]
    · have : ¬ xs.length < 2:=by omega
      subst h5
      simp [h1,h2,h3,h4,h6,this,e1,e2]
      rw [h' (by omega)]
      cases membersOk xs <;> simp
  · have h5 : fr = false:=by simpa using h5
    subst h5
    simp [h1,h2,h3,h4,e1,e2]
    rw [h' (by omega)]
    cases membersOk xs <;> simp
theorem not_mem_take {xs : List Int} {i : Nat} (hi : i < xs.length) {v : Int} : (List.range i).all (fun j=>!decide (xs.getD j 0 = v)) = !decide (v ∈ xs.take i):=by
  rw [Bool.eq_iff_iff,range_all]
  simp only [Bool.not_eq_true',decide_eq_false_iff_not]
  constructor
  · intro h hm
    obtain ⟨j,hj,he⟩:=List.mem_iff_getElem.1 hm
    simp at hj he
    exact h j (by omega) (by rw [getD_lt (by omega)]; exact he)
  · intro h j hj he
    refine h (List.mem_iff_getElem.2 ⟨j,by simp; omega,?_⟩)
    rw [getD_lt (by omega)] at he
    simpa using he
theorem spec_ConfigValid_eq (k : Nat) (hk : 10≤k) (c : Cfg) : spec_ConfigValid_t A k (c,()) () = some ((cfgOk c,()),()):=by
  obtain ⟨ep,xs,fr,_⟩:=c
  have h0 : xs.length≤4→∀ i,i < xs.length→A.iter k (spec_ConfigValid_t_b0 A k) ((i : Int),(((0 : Nat) : Int),((ep,(xs,(fr,()))),()))) = some (if (!decide (xs.getD i 0 ∈ xs.take i)) = true then .inl ((i : Int),((ep,(xs,(fr,()))),())) else .inr (.inr (.inr ((false,()),())))):=fun hl i hi=>by
    rw [← not_mem_take hi]
    exact iter_all (A:=A) (f:=spec_ConfigValid_t_b0 A k) (fun j=>((i : Int),((j : Int),((ep,(xs,(fr,()))),())))) i (fun j=>!decide (xs.getD j 0 = xs.getD i 0)) (.inr (.inr (.inr ((false,()),())))) (.inl ((i : Int),((ep,(xs,(fr,()))),())))
      (fun j hj=>by
        have h1 : j < xs.length:=by omega
        simp (disch:=omega) [spec_ConfigValid_t_b0,hi,hj,h1,a_wrap]
        by_cases hv : xs[j] = xs[i] <;> simp [hv])
      (by simp [spec_ConfigValid_t_b0]) (by omega)
  have h : xs.length≤4→A.iter k (spec_ConfigValid_t_b1 A k) (((0 : Nat) : Int),((ep,(xs,(fr,()))),())) = some (if membersOk xs = true then .inl () else .inr ((false,()),())):=fun hl =>
    iter_all (A:=A) (f:=spec_ConfigValid_t_b1 A k) (fun i=>((i : Int),((ep,(xs,(fr,()))),()))) xs.length (fun i=>decide (0≤xs.getD i 0∧xs.getD i 0≤4) && !decide (xs.getD i 0 ∈ xs.take i)) (.inr ((false,()),())) (.inl ())
    (fun i hi=>by
      have h0:=h0 hl i hi
      simp only [Int.ofNat_zero,Int.natCast_zero] at h0
      simp (disch:=omega) [spec_ConfigValid_t_b1,hi,a_wrap,l1In_eq]
      rw [h0]
      by_cases h1 : 0≤xs[i]∧xs[i]≤4
      · by_cases h2 : xs[i] ∈ xs.take i <;> simp (disch:=omega) [h1,h2,hi,a_wrap]
      · simp [h1])
    (by simp [spec_ConfigValid_t_b1]) (by omega)
  have h':=fun hl=>h hl
  simp only [Int.natCast_zero,Int.ofNat_zero] at h'
  simp only [spec_ConfigValid_t,cfgOk,l1In_eq,a_obind_some,a_cndS,a_ltI,a_lenL,a_notB,decide_eq_true_eq,Bool.false_eq_true,if_true,if_false,Bool.not_eq_true',decide_eq_false_iff_not]
  by_cases h1 : 1≤ep∧ep≤60
  case neg=>simp [h1]
  by_cases h2 : 1≤(xs.length : Int)∧(xs.length : Int)≤4
  case neg=>simp [h1,h2]; omega
  have e2 : (1≤xs.length∧xs.length≤4):=by omega
  by_cases h5 : fr = true
  · by_cases h6 : (xs.length : Int) < 2
    · have : xs.length < 2:=by omega
      simp [h1,h2,h5,h6,this]
    · have : ¬ xs.length < 2:=by omega
      subst h5
      simp [h1,h2,h6,this,e2]
      rw [h' (by omega)]
      cases membersOk xs <;> simp
  · have h5 : fr = false:=by simpa using h5
    subst h5
    simp [h1,h2,e2]
    rw [h' (by omega)]
    cases membersOk xs <;> simp

/-! ### the other functions -/
theorem cfgOk_len {c : Cfg} (h : cfgOk c = true) : 1≤c.1∧c.1≤60∧1≤c.2.1.length∧c.2.1.length≤4∧(c.2.2.1 = true→2≤c.2.1.length):=by
  simp only [cfgOk,Bool.and_eq_true,decide_eq_true_eq,Bool.not_eq_true',Bool.and_eq_false_iff,decide_eq_false_iff_not] at h
  refine ⟨h.1.1,h.1.2,h.2.1.1,h.2.1.2,fun hf=>?_⟩
  rcases h.2.2.1 with h | h
  · rw [h] at hf; cases hf
  · omega
theorem l16Copy_eq (k : Nat) (c : Cfg) (h : c.2.1.length≤1000000000) : spec_l16Copy_t A k (c,()) () = some ((c,()),()):=by
  have : (c.2.1.length : Int) < 4294967296:=by omega
  simp [spec_l16Copy_t,this]
def complete (c : Cfg) : List Int:=if c.2.2.1 = true then c.2.1.take (c.2.1.length - 1) else c.2.1
def without (c : Cfg) (i : Nat) : Cfg:=(c.1 + 1,(c.2.1.take i ++ c.2.1.drop (i + 1),((c.2.2.1 && !decide (i = c.2.1.length - 1)),())))
end Go.Den.T

namespace Go.Den.T
set_option linter.unusedVariables false
set_option linter.unusedSimpArgs false
variable {A : Atoms} [IsReal A]
theorem fill_step {α : Type} (xs : List α) (d e : α) (i n : Nat) (hn : n = xs.length) (h : i < n) : (xs.take i ++ List.replicate (n - i) d).set i (xs.getD i e) = xs.take (i + 1) ++ List.replicate (n - (i + 1)) d:=by
  subst hn
  rw [List.set_append_right _ _ (by simp; omega)]
  have e1 : i - (xs.take i).length = 0:=by simp; omega
  have e2 : xs.length - i = (xs.length - (i + 1)) + 1:=by omega
  rw [e1,e2,List.replicate_succ,List.set_cons_zero,List.take_succ_eq_append_getElem h,getD_lt h,List.append_assoc]
  rfl
theorem list_eq_iff {xs ys : List Int} (h : xs.length = ys.length) : (List.range xs.length).all (fun i=>decide (xs.getD i 0 = ys.getD i 0)) = decide (xs = ys):=by
  rw [Bool.eq_iff_iff,range_all,decide_eq_true_eq]
  constructor
  · intro hh
    refine List.ext_getElem h fun i h1 h2=>?_
    have:=hh i h1
    rw [getD_lt h1,getD_lt h2] at this; simpa using this
  · intro e i _; subst e; simp
def marks (n : Int) (m : Nat) : List Int:=(List.range m).map fun i : Nat=>n + (i : Int)
@[simp] theorem marks_len (n : Int) (m : Nat) : (marks n m).length = m:=by simp [marks]
end Go.Den.T

namespace Go.Den.T
set_option linter.unusedVariables false
set_option linter.unusedSimpArgs false
variable {A : Atoms} [IsReal A]
theorem copyOf_int_eq (k : Nat) (xs : List Int) (h : xs.length≤1000000000) : impl_copyOf_int_t A k (xs,()) () = some ((xs,()),()):=by
  have : (xs.length : Int) < 4294967296:=by omega
  simp [impl_copyOf_int_t,this]
theorem copyConfig_eq (k : Nat) (c : Cfg) (h : c.2.1.length≤1000000000) : impl_copyConfig_t A k (c,()) () = some ((c,()),()):=by
  simp [impl_copyConfig_t,copyOf_int_eq k c.2.1 h]
def after (c : Cfg) (n : Int) : Int:=if (cfgOk c && (decide (n ∈ c.2.1) && !decide (idx c.2.1 n = (c.2.1.length : Int) - 1))) = true then c.2.1.getD (idx c.2.1 n + 1).toNat 0 else -1
def completeOr (c : Cfg) : List Int:=if cfgOk c = true then complete c else []
theorem impl_CompleteMembers_eq (k : Nat) (hk : 10≤k) (c : Cfg) : impl_CompleteMembers_t A k (c,()) () = some ((completeOr c,()),()):=by
  simp only [impl_CompleteMembers_t,impl_ConfigValid_eq k hk,a_obind_some,a_cndS,a_notB,completeOr]
  cases h : cfgOk c with
  | false=>simp
  | true =>
    have hl:=cfgOk_len h
    have e : ((c.2.1.length : Int) - 1).toNat = c.2.1.length - 1:=by omega
    by_cases hf : c.2.2.1 = true
    · have h2 : 0≤(c.2.1.length : Int) - 1:=by omega
      have e3:=copyOf_int_eq (A:=A) k (c.2.1.take (c.2.1.length - 1)) (by simp; omega)
      simp (disch:=omega) [h2,hf,a_wrap,complete,e,e3]
      omega
    · simp [hf,complete,copyOf_int_eq (A:=A) k c.2.1 (by omega)]
/-! ### a member taken away -/
/-! ### exact laws -/
end Go.Den.T

namespace Go.Den.T
set_option linter.unusedVariables false
set_option linter.unusedSimpArgs false
set_option linter.unusedSectionVars false
variable {A : Atoms} [IsReal A]
abbrev Cmd:=Int × (List UInt8 × (Int × (Int × Unit)))
abbrev Ent:=Int × (Int × (Cmd × Unit))
def letter (b : UInt8) : Bool:=decide (97≤b.toNat∧b.toNat≤122)
def keyOk (s : List UInt8) : Bool:=decide (1≤s.length∧s.length≤4) && s.all letter
theorem lettersOnly_eq : ∀ (k : Nat) (s : List UInt8),s.length < k→impl_lettersOnly_t A k (s,()) () = some ((s.all letter,()),())
  | 0,_,h=>by omega
  | k + 1,[],_=>by simp [impl_lettersOnly_t]
  | k + 1,b :: s,h=>by
    have ih:=lettersOnly_eq k s (by simpa using h)
    simp only [List.length_cons] at h
    have h1 : (0 : Int) < (s.length : Int) + 1:=by omega
    have h2 : (1 : Int)≤(s.length : Int) + 1:=by omega
    by_cases q1 : 97≤b.toNat
    · have q1' : (97 : Int)≤(b.toNat : Int):=by omega
      by_cases q2 : b.toNat≤122
      · have q2' : (b.toNat : Int)≤122:=by omega
        simp [impl_lettersOnly_t,h1,h2,q1,q1',q2,q2',ih,letter]
      · have q2' : ¬ (b.toNat : Int)≤122:=by omega
        simp [impl_lettersOnly_t,h1,h2,q1,q1',q2,q2',letter]
    · have q1' : ¬ (97 : Int)≤(b.toNat : Int):=by omega
      simp [impl_lettersOnly_t,h1,h2,q1,q1',letter]
theorem impl_KeyValid_eq (k : Nat) (hk : 10≤k) (s : List UInt8) : impl_KeyValid_t A k (s,()) () = some ((keyOk s,()),()):=by
  by_cases h1 : (s.length : Int) < 1
  · have : ¬ (1≤s.length∧s.length≤4):=by omega
    simp only [impl_KeyValid_t,a_cndS,a_ltI,a_lenL,h1,decide_true,if_true,keyOk,this,decide_false,Bool.false_and]
  · by_cases h2 : (4 : Int) < (s.length : Int)
    · have : ¬ (1≤s.length∧s.length≤4):=by omega
      simp only [impl_KeyValid_t,a_cndS,a_ltI,a_lenL,h1,h2,decide_true,decide_false,Bool.false_eq_true,if_true,if_false,keyOk,this,Bool.false_and]
    · have : (1≤s.length∧s.length≤4):=by omega
      simp only [impl_KeyValid_t,a_cndS,a_ltI,a_lenL,h1,h2,decide_true,decide_false,Bool.false_eq_true,if_true,if_false,keyOk,this,lettersOnly_eq k s (by omega),a_obind_some,Bool.true_and,and_self]
theorem spec_KeyValid_eq (k : Nat) (hk : 10≤k) (s : List UInt8) : spec_KeyValid_t A k (s,()) () = some ((keyOk s,()),()):=by
  have h : s.length≤4→A.iter k (spec_KeyValid_t_b0 A k) (s,(((0 : Nat) : Int),())) = some (if (List.range s.length).all (fun i=>letter (s.getD i 0)) = true then .inl () else .inr ((false,()),())):=fun hl =>
    iter_all (A:=A) (f:=spec_KeyValid_t_b0 A k) (fun i=>(s,((i : Int),()))) s.length (fun i=>letter (s.getD i 0)) (.inr ((false,()),())) (.inl ())
      (fun i hi=>by
        by_cases q1 : s[i].toNat < 97
        · have q1' : ¬ 97≤s[i].toNat:=by omega
          simp (disch:=omega) [spec_KeyValid_t_b0,hi,a_wrap,letter,q1,q1']
          omega
        · have q1' : 97≤s[i].toNat:=by omega
          have q3 : ¬ (s[i].toNat : Int) < 97:=by omega
          by_cases q2 : 122 < s[i].toNat
          · have q2' : ¬ s[i].toNat≤122:=by omega
            have q4 : (122 : Int) < (s[i].toNat : Int):=by omega
            simp (disch:=omega) [spec_KeyValid_t_b0,hi,a_wrap,letter,q1',q2',q3,q4]
          · have q2' : s[i].toNat≤122:=by omega
            have q4 : ¬ (122 : Int) < (s[i].toNat : Int):=by omega
            simp (disch:=omega) [spec_KeyValid_t_b0,hi,a_wrap,letter,q1',q2',q3,q4])
      (by simp [spec_KeyValid_t_b0]) (by omega)
  rw [all_range] at h
  simp only [Int.natCast_zero,Int.ofNat_zero] at h
  simp only [spec_KeyValid_t,l1In_eq,a_obind_some,a_cndS,a_notB,keyOk,a_lenL]
  by_cases hl : 1≤s.length∧s.length≤4
  · have hl' : (1 : Int)≤(s.length : Int)∧(s.length : Int)≤4:=by omega
    simp only [hl,hl',and_self,decide_true,Bool.not_true,Bool.false_eq_true,if_false,h hl.2,a_obind_some,Bool.true_and]
    cases s.all letter <;> simp
  · have hl' : ¬ ((1 : Int)≤(s.length : Int)∧(s.length : Int)≤4):=by omega
    simp only [hl,hl',decide_false,Bool.not_false,if_true,Bool.false_and]
def cmdOk (c : Cmd) : Bool:=(keyOk c.2.1 || (decide (c.1 = 5) && decide (c.2.1 = []))) &&
  (if c.1 = 1∨c.1 = 3∨c.1 = 5 then decide (c.2.2.1 = 0∧c.2.2.2.1 = 0) else if c.1 = 2 then decide ((0≤c.2.2.1∧c.2.2.1≤999)∧c.2.2.2.1 = 0)
    else if c.1 = 4 then decide ((0≤c.2.2.1∧c.2.2.1≤999)∧-1≤c.2.2.2.1∧c.2.2.2.1≤999) else false)
theorem valueValid_eq (k : Nat) (v : Int) : impl_valueValid_t A k (v,()) () = some ((decide (0≤v∧v≤999),()),()):=by
  simp only [impl_valueValid_t,a_cndS,a_leI,if_true,decide_eq_true_eq]
  by_cases h : 0≤v <;> simp [h]
theorem seqValid_eq (k : Nat) (v : Int) : impl_seqValid_t A k (v,()) () = some ((decide (1≤v∧v≤999),()),()):=by
  simp only [impl_seqValid_t,a_cndS,a_leI,if_true,decide_eq_true_eq]
  by_cases h : 1≤v <;> simp [h]
theorem impl_CommandValid_eq (k : Nat) (hk : 10≤k) (c : Cmd) : impl_CommandValid_t A k (c,()) () = some ((cmdOk c,()),()):=by
  obtain ⟨op,s,v,o,_⟩:=c
  simp only [impl_CommandValid_t,impl_KeyValid_eq k hk,valueValid_eq,a_obind_some,a_cndS,a_notB,a_eqI,a_eqS,a_ltI,cmdOk]
  by_cases hlo : op < 1
  · have h1 : ¬ op = 1:=by omega
    have h2 : ¬ op = 2:=by omega
    have h3 : ¬ op = 3:=by omega
    have h4 : ¬ op = 4:=by omega
    have h5 : ¬ op = 5:=by omega
    simp [hlo,h1,h2,h3,h4,h5]
  by_cases hhi : 5 < op
  · have h1 : ¬ op = 1:=by omega
    have h2 : ¬ op = 2:=by omega
    have h3 : ¬ op = 3:=by omega
    have h4 : ¬ op = 4:=by omega
    have h5 : ¬ op = 5:=by omega
    simp [hlo,hhi,h1,h2,h3,h4,h5]
  by_cases h5 : op = 5
  · subst h5
    cases hb : keyOk s with
    | true=>by_cases hv : v = 0 <;> by_cases ho : o = 0 <;> simp [hb,hv,ho]
    | false =>
      by_cases hs : s = []
      · subst hs
        by_cases hv : v = 0 <;> by_cases ho : o = 0 <;> simp [hb,hv,ho]
      · simp [hb,hs]
  · cases hb : keyOk s with
    | false=>simp [hb,h5,hlo,hhi]
    | true =>
      by_cases h1 : op = 1
      · subst h1; by_cases hv : v = 0 <;> by_cases ho : o = 0 <;> simp [hb,hv,ho]
      by_cases h3 : op = 3
      · subst h3; by_cases hv : v = 0 <;> by_cases ho : o = 0 <;> simp [hb,hv,ho]
      by_cases h2 : op = 2
      · subst h2; by_cases hv : 0≤v∧v≤999 <;> by_cases ho : o = 0 <;> simp [hb,hv,ho]
      have h4 : op = 4:=by omega
      subst h4
      by_cases hv : 0≤v∧v≤999
      · by_cases ho : o = -1
        · subst ho; simp [hb,hv]
        · have e : decide (-1≤o∧o≤999) = decide (0≤o∧o≤999):=by
            rw [Bool.eq_iff_iff]; simp; omega
          have e2 : (decide (-1≤o) && decide (o≤999)) = (decide (0≤o) && decide (o≤999)):=by simpa using e
          simp [hb,hv,ho,e2]
      · simp [hb,hv]
def entOk (e : Ent) : Bool:=decide (0≤e.1∧e.1≤3) && (decide (1≤e.2.1∧e.2.1≤999) && cmdOk e.2.2.1)
theorem impl_EntryValid_eq (k : Nat) (hk : 10≤k) (e : Ent) : impl_EntryValid_t A k (e,()) () = some ((entOk e,()),()):=by
  simp only [impl_EntryValid_t,seqValid_eq,impl_CommandValid_eq k hk,a_obind_some,a_cndS,a_leI,a_ltI,entOk]
  by_cases h1 : 0≤e.1
  · by_cases h3 : e.1 < 4
    · have : e.1≤3:=by omega
      by_cases h2 : 1≤e.2.1∧e.2.1≤999 <;> simp [h1,h2,h3,this]
    · have : ¬ e.1≤3:=by omega
      simp [h1,h3,this]
  · simp [h1]
/-! ### exact -/
end Go.Den.T

namespace Go.Den.T
set_option linter.unusedVariables false
set_option linter.unusedSimpArgs false
set_option linter.unusedSectionVars false
variable {A : Atoms} [IsReal A]
/-! ### loops over lists -/
theorem eq_loop {α : Type} [DecidableEq α] {f : List α × (List α × (Int × Unit))→Option ((List α × (List α × (Int × Unit))) ⊕ (Unit ⊕ ((Bool × Unit) × Unit)))} {k : Nat} (d : α) (xs ys : List α) (hk : xs.length < k) (he : xs.length = ys.length)
    (hs : ∀ i : Nat,i < xs.length→f (xs,(ys,((i : Int),()))) = some (if (decide (xs.getD i d = ys.getD i d)) = true then .inl (xs,(ys,(((i + 1 : Nat) : Int),()))) else .inr (.inr ((false,()),()))))
    (hd : f (xs,(ys,(((xs.length : Nat) : Int),()))) = some (.inr (.inl ()))) : A.iter k f (xs,(ys,(0,()))) = some (if xs = ys then .inl () else .inr ((false,()),())):=by
  have h:=iter_all (A:=A) (f:=f) (fun i=>(xs,(ys,((i : Int),())))) xs.length (fun i=>decide (xs.getD i d = ys.getD i d)) (.inr ((false,()),())) (.inl ()) hs hd hk
  have e : (List.range xs.length).all (fun i=>decide (xs.getD i d = ys.getD i d)) = decide (xs = ys):=by
    rw [Bool.eq_iff_iff,range_all,decide_eq_true_eq]
    constructor
    · intro hh
      refine List.ext_getElem he fun i h1 h2=>?_
      have:=hh i h1
      rw [getD_lt h1,getD_lt h2] at this; simpa using this
    · intro e i _; subst e; simp
  rw [e] at h
  simpa using h
/-! ### entries -/
instance : DecidableEq Cmd:=inferInstanceAs (DecidableEq (Int × (List UInt8 × (Int × (Int × Unit)))))
instance : DecidableEq Ent:=inferInstanceAs (DecidableEq (Int × (Int × (Cmd × Unit))))
abbrev ent0 : Ent:=(0,(0,((0,([],(0,(0,())))),())))
/-! ### replicas -/
abbrev Rep:=Cfg × (Bool × (List Ent × Unit))
abbrev Msg:=Int × (Int × (Int × (Cfg × (List Ent × Unit))))
instance : DecidableEq Cfg:=inferInstanceAs (DecidableEq (Int × (List Int × (Bool × Unit))))
instance : DecidableEq Rep:=inferInstanceAs (DecidableEq (Cfg × (Bool × (List Ent × Unit))))
set_option synthInstance.maxSize 1000 in
instance : DecidableEq Msg:=inferInstanceAs (DecidableEq (Int × (Int × (Int × (Cfg × (List Ent × Unit))))))
def noCfg (c : Cfg) : Bool:=decide (c.1 = 0) && (decide (c.2.1.length = 0) && !c.2.2.1)
theorem noConfig_eq (k : Nat) (c : Cfg) : impl_noConfig_t A k (c,()) () = some ((noCfg c,()),()):=by
  simp only [impl_noConfig_t,a_cndS,a_eqI,a_lenL,a_notB,noCfg]
  by_cases h1 : c.1 = 0
  · by_cases h2 : c.2.1.length = 0
    · simp [h1,h2]
    · simp [h1,h2]
  · simp [h1]
def logOk (l : List Ent) : Bool:=decide (l.length≤24) && l.all entOk
theorem entriesValid_eq (k : Nat) (hk : 30≤k) (l : List Ent) : impl_entriesValid_t A k (l,()) () = some ((logOk l,()),()):=by
  by_cases hl : (24 : Int) < l.length
  · have : ¬ l.length≤24:=by omega
    simp [impl_entriesValid_t,hl,logOk,this]
  · have hl' : l.length≤24:=by omega
    have h:=iter_all (A:=A) (f:=impl_entriesValid_t_b0 A k) (fun i=>(l,((l.length : Int),((i : Int),())))) l.length (fun i=>entOk (l.getD i ent0)) (.inr ((false,()),())) (.inl ())
      (fun i hi=>by
        simp (disch:=omega) [impl_entriesValid_t_b0,hi,a_wrap,impl_EntryValid_eq k (by omega)]
        cases entOk l[i] <;> simp)
      (by simp [impl_entriesValid_t_b0]) (k:=k) (by omega)
    rw [all_range] at h
    simp only [Int.natCast_zero,Int.ofNat_zero] at h
    simp only [impl_entriesValid_t,a_cndS,a_ltI,a_lenL,hl,decide_false,Bool.false_eq_true,if_false,h,a_obind_some,logOk,hl',decide_true,Bool.true_and]
    cases l.all entOk <;> simp
def repOk (r : Rep) : Bool:=if noCfg r.1 = true then !r.2.1 && decide (r.2.2.1.length = 0) else cfgOk r.1 && (logOk r.2.2.1 && (r.2.1 || decide (r.2.2.1.length = 0)))
theorem impl_ReplicaValid_eq (k : Nat) (hk : 30≤k) (r : Rep) : impl_ReplicaValid_t A k (r,()) () = some ((repOk r,()),()):=by
  simp only [impl_ReplicaValid_t,noConfig_eq,impl_ConfigValid_eq k (by omega : 10≤k),entriesValid_eq k hk,a_obind_some,a_cndS,a_notB,a_eqI,a_lenL,repOk]
  cases noCfg r.1 <;> cases cfgOk r.1 <;> cases logOk r.2.2.1 <;> cases r.2.1 <;> simp
def msgOk (m : Msg) : Bool :=
  if m.1 = 1 then decide (1≤m.2.2.1∧m.2.2.1≤60) && (decide (0≤m.2.1∧m.2.1≤4) && (cfgOk m.2.2.2.1 && (decide (m.2.2.2.1.1 = m.2.2.1) && decide (m.2.2.2.2.1.length = 0))))
  else if m.1 = 2 then decide (1≤m.2.2.1∧m.2.2.1≤60) && (decide (0≤m.2.1∧m.2.1≤4) && (noCfg m.2.2.2.1 && logOk m.2.2.2.2.1))
  else if m.1 = 3 then decide (1≤m.2.2.1∧m.2.2.1≤60) && (decide (m.2.1 = -1) && (noCfg m.2.2.2.1 && decide (m.2.2.2.2.1.length = 0)))
  else false
theorem impl_MessageValid_eq (k : Nat) (hk : 30≤k) (m : Msg) : impl_MessageValid_t A k (m,()) () = some ((msgOk m,()),()):=by
  obtain ⟨kd,nd,ep,c,l,_⟩:=m
  simp only [impl_MessageValid_t,nodeValid_eq,noConfig_eq,impl_ConfigValid_eq k (by omega : 10≤k),entriesValid_eq k hk,a_obind_some,a_cndS,a_eqI,a_lenL,a_ltI,msgOk]
  by_cases hlo : ep < 1
  · have : ¬ (1≤ep∧ep≤60):=by omega
    simp [hlo,this]
  by_cases hhi : 60 < ep
  · have : ¬ (1≤ep∧ep≤60):=by omega
    simp [hlo,hhi,this]
  have hep : 1≤ep∧ep≤60:=by omega
  by_cases h1 : kd = 1
  · subst h1
    by_cases h2 : 0≤nd∧nd≤4
    · cases hc : cfgOk c with
      | false=>simp [hlo,hhi,h2,hep,hc,nodeValid_eq,impl_ConfigValid_eq k (by omega : 10≤k)]
      | true =>
        by_cases h3 : c.1 = ep <;> simp [hlo,hhi,h2,hep,hc,h3,nodeValid_eq,impl_ConfigValid_eq k (by omega : 10≤k)]
    · simp [hlo,hhi,h2,hep,nodeValid_eq]
  by_cases h1' : kd = 2
  · subst h1'
    by_cases h2 : 0≤nd∧nd≤4
    · cases hc : noCfg c <;> simp [hlo,hhi,h2,hep,hc,nodeValid_eq,noConfig_eq,entriesValid_eq k hk]
    · simp [hlo,hhi,h2,hep,nodeValid_eq]
  by_cases h1'' : kd = 3
  · subst h1''
    by_cases h2 : nd = -1
    · cases hc : noCfg c <;> simp [hlo,hhi,h2,hep,hc,noConfig_eq]
    · simp [hlo,hhi,h2,hep]
  simp [hlo,hhi,h1,h1',h1'']
end Go.Den.T

namespace Go.Den.T
abbrev TCmd : Ty:=.prod (.int .i64) (.prod .str (.prod (.int .i64) (.prod (.int .i64) .unit)))
abbrev TEnt : Ty:=.prod (.int .i64) (.prod (.int .i64) (.prod TCmd .unit))
end Go.Den.T

namespace Go.Den.T
set_option linter.unusedVariables false
set_option linter.unusedSimpArgs false
set_option linter.unusedSectionVars false
section
variable {A : Atoms} [IsReal A]
end
abbrev TCfg' : Ty:=.prod (.int .i64) (.prod (.slice (.int .i64)) (.prod .bool .unit))
abbrev TRep : Ty:=.prod TCfg' (.prod .bool (.prod (.slice TEnt) .unit))
end Go.Den.T

namespace Go.Den.T
set_option linter.unusedVariables false
set_option linter.unusedSimpArgs false
variable {A : Atoms} [IsReal A]
abbrev Rd:=List Int × (Int × Unit)
def RdOk (N : Int) (r : Rd) : Prop:=(∀ x ∈ r.1,0≤x∧x≤255)∧r.1.length≤2000∧0≤r.2.1∧r.2.1≤N
theorem RdOk.le {N M : Int} {r : Rd} (h : RdOk N r) (hm : N≤M) : RdOk M r:=⟨h.1,h.2.1,h.2.2.1,Int.le_trans h.2.2.2 hm⟩
theorem xor_bound {a b : Int} (ha : 0≤a) (ha' : a < 4611686018427387904) (hb : 0≤b) (hb' : b < 4611686018427387904) : 0≤A.xorI .i64 a b∧A.xorI .i64 a b < 4611686018427387904:=by
  have e : A.xorI .i64 a b = IntKind.i64.wrap ((BitVec.ofInt 64 a ^^^ BitVec.ofInt 64 b).toNat : Int):=a_xorI _ _ _
  have h1 : (BitVec.ofInt 64 a).toNat = a.toNat:=by rw [BitVec.toNat_ofInt]; omega
  have h2 : (BitVec.ofInt 64 b).toNat = b.toNat:=by rw [BitVec.toNat_ofInt]; omega
  have h3 : (BitVec.ofInt 64 a ^^^ BitVec.ofInt 64 b).toNat < 2 ^ 62:=by
    rw [BitVec.toNat_xor,h1,h2]
    exact Nat.xor_lt_two_pow (by omega) (by omega)
  rw [e,wrap_i64 (by omega) (by omega)]
  omega
def PickOk (N n : Int) (q : (Int × Unit) × Rd) : Prop:=RdOk (N + 1) q.2∧0≤q.1.1∧q.1.1≤1000000000∧(1≤n→q.1.1 < n)∧(n < 1→q.1.1 = 0)
theorem pick_ok (k : Nat) (n N : Int) (r : Rd) (h : RdOk N r) (hp : N≤1000000000) (hn0 : n≤1000000000) : Ok (spec_l20Rd_pick_t A k ((),(n,())) r) (PickOk N n):=by
  obtain ⟨rb,rp,_⟩:=r
  obtain ⟨hb,h4,h2,h3⟩:=h
  simp only at hb h2 h3 h4
  have w1 : A.wrapI .i64 (rp + 1) = rp + 1:=a_wrap (by omega) (by omega)
  have w2 : A.wrapI .i64 (rp + 1 - 1) = rp:=by rw [show rp + 1 - 1 = rp by omega]; exact a_wrap (by omega) (by omega)
  have hq : RdOk (N + 1) (rb,(rp + 1,())):=⟨hb,h4,by show 0≤rp + 1; omega,by show rp + 1≤N + 1; omega⟩
  by_cases hn : n < 1
  · exact ⟨((0,()),(rb,(rp + 1,()))),by simp [spec_l20Rd_pick_t,hn,w1],hq,by simp,by simp,fun h=>by omega,fun _=>rfl⟩
  by_cases hl : (rb.length : Int) = 0
  · have hl' : rb = []:=List.eq_nil_of_length_eq_zero (by omega)
    subst hl'
    exact ⟨((0,()),([],(rp + 1,()))),by simp [spec_l20Rd_pick_t,hn,w1],hq,by simp,by simp,fun h=>by show (0 : Int) < n; omega,fun _=>rfl⟩
  have hn0 : ¬ n = 0:=by omega
  by_cases hlt : rp < (rb.length : Int)
  · have hx:=hb (rb.getD rp.toNat 0) (by
      have : rp.toNat < rb.length:=by omega
      rw [getD_lt this]; exact List.getElem_mem this)
    have w3 : A.wrapI .i64 (rb.getD rp.toNat 0) = rb.getD rp.toNat 0:=a_wrap (by omega) (by omega)
    refine ⟨(((rb.getD rp.toNat 0).tmod n,()),(rb,(rp + 1,()))),?_,hq,?_,?_,fun _=>?_,fun h=>by omega⟩
    · simp only [spec_l20Rd_pick_t,a_cndS,a_ltI,a_eqI,a_lenL,a_andB,a_le0,a_notB,a_atL,a_remI,a_subI,a_addI,a_obind_some,a_sumE_inl,hn,hl,hn0,hlt,h2,w1,w2,w3,decide_true,decide_false,Bool.false_eq_true,Bool.not_false,Bool.and_self,if_true,if_false]
    · exact Int.tmod_nonneg _ hx.1
    · show (rb.getD rp.toNat 0).tmod n≤1000000000
      have:=Int.tmod_lt_of_pos (rb.getD rp.toNat 0) (b:=n) (by omega); omega
    · exact Int.tmod_lt_of_pos _ (by omega)
  · have hL : 0 < (rb.length : Int):=by omega
    have hLn : ¬ (rb.length : Int) = 0:=hl
    have w7 : A.wrapI .i64 (rp * 7) = rp * 7:=a_wrap (by omega) (by omega)
    have w8 : A.wrapI .i64 (rp * 7 + 3) = rp * 7 + 3:=a_wrap (by omega) (by omega)
    have i1 : 0≤rp.tmod rb.length:=Int.tmod_nonneg _ h2
    have i2 : rp.tmod rb.length < rb.length:=Int.tmod_lt_of_pos _ hL
    have i3 : 0≤(rp * 7 + 3).tmod rb.length:=Int.tmod_nonneg _ (by omega)
    have i4 : (rp * 7 + 3).tmod rb.length < rb.length:=Int.tmod_lt_of_pos _ hL
    have at' : ∀ i : Int,0≤i→i < rb.length→0≤rb.getD i.toNat 0∧rb.getD i.toNat 0≤255:=fun i hi1 hi2=>hb _ (by
      have : i.toNat < rb.length:=by omega
      rw [getD_lt this]; exact List.getElem_mem this)
    have x1:=at' _ i1 i2
    have x2:=at' _ i3 i4
    have d1 : 0≤rp.tdiv rb.length:=Int.tdiv_nonneg h2 (by omega)
    have d2 : rp.tdiv rb.length≤rp:=by
      rw [Int.tdiv_eq_ediv_of_nonneg h2]; exact Int.ediv_le_self _ h2
    have key : ∀ X Y D : Int,0≤X∧X≤255→0≤Y∧Y≤255→0≤D→D≤rp→rb.getD (rp.tmod rb.length).toNat 0 = X→rb.getD ((rp * 7 + 3).tmod rb.length).toNat 0 = Y→rp.tdiv rb.length = D →
        Ok (spec_l20Rd_pick_t A k ((),(n,())) (rb,(rp,()))) (PickOk N n):=by
      intro X Y D x1 x2 d1 d2 hX hY hD
      have v1 : A.wrapI .i64 X = X:=a_wrap (by omega) (by omega)
      have v2 : A.wrapI .i64 Y = Y:=a_wrap (by omega) (by omega)
      have v3 : A.wrapI .i64 (X * 131) = X * 131:=a_wrap (by omega) (by omega)
      have v4 : A.wrapI .i64 (Y * 1117) = Y * 1117:=a_wrap (by omega) (by omega)
      have v5 : A.wrapI .i64 (X * 131 + Y * 1117) = X * 131 + Y * 1117:=a_wrap (by omega) (by omega)
      have v6 : A.wrapI .i64 (rp * 29) = rp * 29:=a_wrap (by omega) (by omega)
      have v7 : A.wrapI .i64 (X * 131 + Y * 1117 + rp * 29) = X * 131 + Y * 1117 + rp * 29:=a_wrap (by omega) (by omega)
      have v8 : A.wrapI .i64 D = D:=a_wrap (by omega) (by omega)
      have v9 : A.wrapI .i64 (D * 53) = D * 53:=a_wrap (by omega) (by omega)
      have v10 : A.wrapI .i64 (X * 131 + Y * 1117 + rp * 29 + D * 53) = X * 131 + Y * 1117 + rp * 29 + D * 53:=a_wrap (by omega) (by omega)
      have q0 : 0≤(X * 131 + Y * 1117 + rp * 29 + D * 53).tdiv 64:=Int.tdiv_nonneg (by omega) (by omega)
      have q1 : (X * 131 + Y * 1117 + rp * 29 + D * 53).tdiv 64≤X * 131 + Y * 1117 + rp * 29 + D * 53:=by
        rw [Int.tdiv_eq_ediv_of_nonneg (by omega)]; exact Int.ediv_le_self _ (by omega)
      have v11 : A.wrapI .i64 ((X * 131 + Y * 1117 + rp * 29 + D * 53).tdiv 64) = (X * 131 + Y * 1117 + rp * 29 + D * 53).tdiv 64:=a_wrap (by omega) (by omega)
      have hz:=xor_bound (A:=A) (a:=X * 131 + Y * 1117 + rp * 29 + D * 53) (b:=(X * 131 + Y * 1117 + rp * 29 + D * 53).tdiv 64) (by omega) (by omega) q0 (by omega)
      have h64 : ¬ (64 : Int) = 0:=by decide
      refine ⟨(((A.xorI .i64 (X * 131 + Y * 1117 + rp * 29 + D * 53) ((X * 131 + Y * 1117 + rp * 29 + D * 53).tdiv 64)).tmod n,()),(rb,(rp + 1,()))),?_,hq,?_,?_,fun _=>?_,fun h=>by omega⟩
      · simp only [spec_l20Rd_pick_t,a_cndS,a_ltI,a_eqI,a_lenL,a_andB,a_le0,a_notB,a_atL,a_remI,a_subI,a_mulI,a_quoI,a_addI,a_obind_some,a_sumE_inl,hn,hl,hn0,hlt,h64,i1,i2,i3,i4,h2,w1,w2,w7,w8,hX,hY,hD,v1,v2,v3,v4,v5,v6,v7,v8,v9,v10,v11,decide_true,decide_false,Bool.false_eq_true,Bool.not_false,Bool.and_self,if_true,if_false]
      · exact Int.tmod_nonneg _ hz.1
      · show Int.tmod _ n≤1000000000
        have:=Int.tmod_lt_of_pos (A.xorI .i64 (X * 131 + Y * 1117 + rp * 29 + D * 53) ((X * 131 + Y * 1117 + rp * 29 + D * 53).tdiv 64)) (b:=n) (by omega); omega
      · exact Int.tmod_lt_of_pos _ (by omega)
    exact key _ _ _ x1 x2 d1 d2 rfl rfl rfl
theorem odd_ok (k : Nat) (n N : Int) (r : Rd) (h : RdOk N r) (hp : N≤1000000000) (hn : n≤1000000000) : Ok (spec_l20Rd_odd_t A k ((),(n,())) r) (fun q=>RdOk (N + 1) q.2):=by
  simp only [spec_l20Rd_odd_t,ok_cndS,a_ltI,ok_obind,ok_some]
  exact ⟨fun _=>(pick_ok k n N r h hp hn).mono fun q hq=>hq.1,fun _=>h.le (by omega)⟩
theorem open_ok (k : Nat) (a : List Int) (hb : ∀ x ∈ a,0≤x∧x≤255) : Ok (spec_l20Open_t A k (a,()) ()) (fun q=>RdOk 0 q.1):=by
  by_cases h : (2000 : Int) < (a.length : Int)
  · have h2 : (2000 : Int)≤(a.length : Int):=by omega
    exact ⟨((a.take 2000,((0 : Int),())),()),by simp [spec_l20Open_t,h,h2],fun x hx=>hb x (List.mem_of_mem_take hx),by simp; omega,Int.le_refl _,Int.le_refl _⟩
  · exact ⟨((a,((0 : Int),())),()),by simp [spec_l20Open_t,h],hb,by show a.length≤2000; omega,Int.le_refl _,Int.le_refl _⟩
end Go.Den.T

namespace Go.Den.T
set_option linter.unusedVariables false
set_option linter.unusedSimpArgs false
variable {A : Atoms} [IsReal A]
def Short (c : Cfg) : Prop:=c.2.1.length≤100
theorem keyRank_aa (k : Nat) : impl_KeyRank_t real (k + 10) ([97,97],()) () = some ((1,()),()):=by rfl
theorem keyRank_nil (k : Nat) : impl_KeyRank_t real (k + 10) ([],()) () = some ((-1,()),()):=by rfl
theorem alive_eq (k : Nat) (hk : 10≤k) : laws_alive_t A k () () = some ((true,()),()):=by
  obtain ⟨k,rfl⟩ : ∃ q,k = q + 10:=⟨k - 10,by omega⟩
  have e1:=keyRank_aa k
  have e2:=keyRank_nil k
  rw [← IsReal.eq (A:=A)] at e1 e2
  simp [laws_alive_t,e1,e2]
end Go.Den.T

namespace Go.Den.T
set_option linter.unusedVariables false
set_option linter.unusedSimpArgs false
set_option linter.unusedSectionVars false
variable {A : Atoms} [IsReal A]
theorem at_ok {α : Type} {xs : List α} {d : α} {i : Int} {P : α→Prop} (h : ∀ x ∈ xs,P x) (h0 : 0≤i) (h1 : i < xs.length) : P (xs.getD i.toNat d):=by
  have : i.toNat < xs.length:=by omega
  rw [getD_lt this]; exact h _ (List.getElem_mem this)
def KeyS (x : List UInt8) : Prop:=x.length≤8
def ValS (x : Int) : Prop:=-1≤x∧x≤1000
theorem l20Key_ok (k : Nat) (hk : 100≤k) (n N : Int) (r : Rd) (h : RdOk N r) (hp : N≤900000000) (hn : n≤1000000000) : Ok (spec_l20Key_t A k ((),(n,())) r) (fun q=>RdOk (N + 10) q.2∧q.1.1.length≤8):=by
  rw [spec_l20Key_t]
  refine (odd_ok k n N r h (by omega) (by omega)).bind fun q hq=>?_
  rw [ok_cndS]
  refine ⟨fun _=>?_,fun _=>?_⟩
  · refine (pick_ok k 6 _ _ hq (by omega) (by omega)).bind fun q1 hq1=>?_
    have b1:=hq1.2.1
    have b2:=hq1.2.2.2.1 (by omega)
    rw [ok_cndS]
    refine ⟨fun _=>ok_some.2 ⟨hq1.1.le (by omega),?_⟩,fun hc=>?_⟩
    · rw [a_atL]; refine at_ok (P:=KeyS) ?_ b1 ?_
      · simp [KeyS]
      · simpa using b2
    · simp at hc; omega
  · refine (pick_ok k 12 _ _ hq (by omega) (by omega)).bind fun q1 hq1=>?_
    rw [ok_cndS]
    refine ⟨fun _=>?_,fun _=>?_⟩
    · refine (pick_ok k 5 _ _ hq1.1 (by omega) (by omega)).bind fun q2 hq2=>?_
      have b1:=hq2.2.1
      have b2:=hq2.2.2.2.1 (by omega)
      rw [ok_cndS]
      refine ⟨fun _=>ok_some.2 ⟨hq2.1.le (by omega),?_⟩,fun hc=>?_⟩
      · rw [a_atL]; refine at_ok (P:=KeyS) ?_ b1 ?_
        · simp [KeyS]
        · simpa using b2
      · simp at hc; omega
    · refine (pick_ok k 2 _ _ hq1.1 (by omega) (by omega)).bind fun q2 hq2=>?_
      have b1:=hq2.2.1
      have b2:=hq2.2.2.2.1 (by omega)
      have w : A.wrapI .i64 (A.addI 1 q2.1.1) = 1 + q2.1.1:=by rw [a_addI]; exact a_wrap (by omega) (by omega)
      rw [w]
      refine Ok.bind (P:=fun e=>RdOk (N + 10) e.2∧e.1.length≤8) (iter_ok (fun j s=>(j : Int) = s.2.1∧s.2.1≤2∧(s.1.length : Int) + s.2.1≤2∧RdOk (N + 6 - s.2.1) s.2.2) _ ?_ (n:=(1 + q2.1.1).toNat) (by omega) ⟨by show (((1 + q2.1.1).toNat : Nat) : Int) = 1 + q2.1.1; omega,by show 1 + q2.1.1≤2; omega,by show (([] : List UInt8).length : Int) + (1 + q2.1.1)≤2; simp; omega,hq2.1.le (by show N + 1 + 1 + 1≤N + 6 - (1 + q2.1.1); omega)⟩) fun e he=>ok_some.2 he
      rintro j ⟨s,m,rr⟩ ⟨h1,h2,h3,h4⟩
      simp only at h1 h2 h3 h4
      rw [spec_l20Key_t_b0,ok_cndS]
      simp only [a_ltI,decide_eq_true_eq,decide_eq_false_iff_not]
      refine ⟨fun hpos=>?_,fun hneg=>ok_some.2 ⟨fun s' e=>(by cases e),fun e he=>(by injection he with he; subst he; exact ⟨h4.le (by omega),by show s.length≤8; omega⟩)⟩⟩
      refine (pick_ok k 4 _ _ h4 (by omega) (by omega)).bind fun q4 hq4=>?_
      have w2 : A.wrapI .i64 (A.subI m 1) = m - 1:=by rw [a_subI]; exact a_wrap (by omega) (by omega)
      rw [ok_cndS]
      refine ⟨fun _=>ok_some.2 ⟨fun s' e=>?_,fun e he=>(by cases he)⟩,fun hc=>?_⟩
      · injection e with e; subst e
        rw [w2]
        refine ⟨j - 1,by omega,by show ((j - 1 : Nat) : Int) = m - 1; omega,by show m - 1≤2; omega,?_,hq4.1.le (by show N + 6 - m + 1≤N + 6 - (m - 1); omega)⟩
        simp; omega
      · simp at hc; omega
theorem l20Value_ok (k : Nat) (n N : Int) (r : Rd) (h : RdOk N r) (hp : N≤900000000) (hn : n≤1000000000) : Ok (spec_l20Value_t A k ((),(n,())) r) (fun q=>RdOk (N + 4) q.2∧-1≤q.1.1∧q.1.1≤1000):=by
  rw [spec_l20Value_t]
  refine (odd_ok k n N r h (by omega) (by omega)).bind fun q hq=>?_
  rw [ok_cndS]
  refine ⟨fun _=>?_,fun _=>?_⟩
  · refine (pick_ok k 2 _ _ hq (by omega) (by omega)).bind fun q1 hq1=>?_
    have b1:=hq1.2.1
    have b2:=hq1.2.2.2.1 (by omega)
    rw [ok_cndS]
    refine ⟨fun _=>ok_some.2 ⟨hq1.1.le (by omega),?_⟩,fun hc=>?_⟩
    · rw [a_atL]; refine at_ok (P:=ValS) ?_ b1 ?_
      · simp [ValS]
      · simpa using b2
    · simp at hc; omega
  · refine (pick_ok k 20 _ _ hq (by omega) (by omega)).bind fun q1 hq1=>?_
    have b1:=hq1.2.1
    have b2:=hq1.2.2.2.1 (by omega)
    refine (pick_ok k 9 _ _ hq1.1 (by omega) (by omega)).bind fun q2 hq2=>?_
    have c1:=hq2.2.1
    have c2:=hq2.2.2.2.1 (by omega)
    have d1 : 0≤q2.1.1.tdiv 8:=Int.tdiv_nonneg c1 (by omega)
    have d2 : q2.1.1.tdiv 8≤1:=by rw [Int.tdiv_eq_ediv_of_nonneg c1]; omega
    have w : A.wrapI .i64 (A.quoI q2.1.1 8) = q2.1.1.tdiv 8:=by rw [a_quoI]; exact a_wrap (by omega) (by omega)
    rw [w,ok_cndS]
    refine ⟨fun _=>?_,fun hc=>by simp at hc⟩
    rw [ok_cndS]
    refine ⟨fun _=>ok_some.2 ⟨hq2.1.le (by omega),?_⟩,fun hc=>?_⟩
    · rw [a_atL]; refine at_ok (P:=ValS) ?_ d1 ?_
      · simp [ValS]; omega
      · simp; omega
    · simp at hc; omega
def CmdS (c : Cmd) : Prop:=c.2.1.length≤8
def EntS (e : Ent) : Prop:=CmdS e.2.2.1
end Go.Den.T

namespace Go.Den.T
set_option linter.unusedVariables false
set_option linter.unusedSimpArgs false
set_option linter.unusedSectionVars false
variable {A : Atoms} [IsReal A]
def LogS (l : List Ent) : Prop:=l.length≤30∧∀ e ∈ l,EntS e
theorem LogS.get {l : List Ent} {i : Int} (h : ∀ e ∈ l,EntS e) (h0 : 0≤i) (h1 : i < l.length) : EntS (A.atL l i dfE):=by
  rw [a_atL]; exact at_ok (P:=EntS) h h0 h1
end Go.Den.T

namespace Go.Den.T
set_option linter.unusedVariables false
set_option linter.unusedSimpArgs false
variable {A : Atoms} [IsReal A]
theorem sameInts_eq (k : Nat) (xs ys : List Int) (hk : xs.length < k) (hl : xs.length≤1000000000) : laws_sameInts_t A k (xs,(ys,())) () = some ((decide (xs = ys),()),()):=by
  by_cases he : xs.length = ys.length
  · have h:=iter_all (A:=A) (f:=laws_sameInts_t_b0 A k) (fun i=>(xs,(ys,((i : Int),())))) xs.length (fun i=>decide (xs.getD i 0 = ys.getD i 0)) (.inr ((false,()),())) (.inl ())
      (fun i hi=>by
        have hi' : i < ys.length:=by omega
        simp (disch:=omega) [laws_sameInts_t_b0,hi,hi',a_wrap]
        by_cases hv : xs[i] = ys[i] <;> simp [hv])
      (by simp [laws_sameInts_t_b0]) hk
    rw [list_eq_iff he] at h
    simp [laws_sameInts_t,he]
    simp at h
    rw [h]
    by_cases hv : xs = ys <;> simp [hv]
  · have h2 : ¬ (xs.length : Int) = ys.length:=by omega
    have h3 : ¬ xs = ys:=fun e=>he (by rw [e])
    simp [laws_sameInts_t,h2,h3]
theorem sameConfig_eq (k : Nat) (c d : Cfg) (hk : c.2.1.length < k) (hl : c.2.1.length≤1000000000) : laws_sameConfig_t A k (c,(d,())) () = some ((decide (c = d),()),()):=by
  obtain ⟨e1,xs,f1,_⟩:=c
  obtain ⟨e2,ys,f2,_⟩:=d
  simp only at hk hl
  simp [laws_sameConfig_t,sameInts_eq k xs ys hk hl]
  by_cases h1 : e1 = e2
  · by_cases h2 : xs = ys
    · by_cases h3 : f1 = f2 <;> simp [h1,h2,h3]
    · simp [h1,h2]
  · simp [h1]
end Go.Den.T

namespace Go.Den.T
set_option linter.unusedVariables false
set_option linter.unusedSimpArgs false
variable {A : Atoms} [IsReal A]
/-! ### a member taken away -/
end Go.Den.T

namespace Go.Den.T
theorem code_bytes {a : List Int} (h : InR (.slice (.int .u8)) a) : ∀ x ∈ a,0≤x∧x≤255:=by
  intro x hx
  have:=h.2 x hx
  simp [InR,Lit.wf,IntKind.min,IntKind.max,IntKind.signed,IntKind.bits] at this
  omega
end Go.Den.T

namespace Go.Den.T
set_option linter.unusedVariables false
set_option linter.unusedSimpArgs false
set_option linter.unusedSectionVars false
section
variable {A : Atoms} [IsReal A]
/-! ### a member added -/
end
end Go.Den.T

namespace Go.Den.T
set_option linter.unusedVariables false
set_option linter.unusedSimpArgs false
set_option linter.unusedSectionVars false
section
variable {A : Atoms} [IsReal A]
def MsgS (m : Msg) : Prop:=Short m.2.2.2.1∧LogS m.2.2.2.2.1
end
end Go.Den.T

namespace Go.Den.T
set_option linter.unusedVariables false
set_option linter.unusedSimpArgs false
set_option linter.unusedSectionVars false
section
variable {A : Atoms} [IsReal A]
def bagOk (l : List Msg) : Bool:=decide (l.length≤10) && l.all msgOk
theorem impl_BagValid_eq (k : Nat) (hk : 30≤k) (l : List Msg) : impl_BagValid_t A k (l,()) () = some ((bagOk l,()),()):=by
  by_cases hl : (10 : Int) < l.length
  · have : ¬ l.length≤10:=by omega
    simp [impl_BagValid_t,hl,bagOk,this]
  · have hl' : l.length≤10:=by omega
    have h:=iter_all (A:=A) (f:=impl_BagValid_t_b0 A k) (fun i=>(l,((l.length : Int),((i : Int),())))) l.length (fun i=>msgOk (l.getD i ((0 : Int),((0 : Int),((0 : Int),(((0 : Int),(([] : List Int),(false,()))),(([] : List Ent),()))))))) (.inr ((false,()),())) (.inl ())
      (fun i hi=>by
        simp (disch:=omega) [impl_BagValid_t_b0,hi,a_wrap,impl_MessageValid_eq k hk]
        cases msgOk l[i] <;> simp)
      (by simp [impl_BagValid_t_b0]) (k:=k) (by omega)
    rw [all_range] at h
    simp only [Int.natCast_zero,Int.ofNat_zero] at h
    simp only [impl_BagValid_t,a_cndS,a_ltI,a_lenL,hl,decide_false,Bool.false_eq_true,if_false,h,a_obind_some,bagOk,hl',decide_true,Bool.true_and]
    cases l.all msgOk <;> simp
def BagS (l : List Msg) : Prop:=l.length≤30∧∀ m ∈ l,MsgS m
end
end Go.Den.T

namespace Go.Den.T
set_option linter.unusedVariables false
set_option linter.unusedSimpArgs false
set_option linter.unusedSectionVars false
section
variable {A : Atoms} [IsReal A]
abbrev rep0 : Rep:=((0,([],(false,()))),(false,([],())))
end
end Go.Den.T

namespace Go.Den.T
set_option linter.unusedVariables false
set_option linter.unusedSimpArgs false
set_option linter.unusedSectionVars false
section
variable {A : Atoms} [IsReal A]
theorem ent_eq (a b : Ent) : (decide (a.1 = b.1) && (decide (a.2.1 = b.2.1) && ((decide (a.2.2.1.1 = b.2.2.1.1) && (decide (a.2.2.1.2.1 = b.2.2.1.2.1) && (decide (a.2.2.1.2.2.1 = b.2.2.1.2.2.1) && (decide (a.2.2.1.2.2.2.1 = b.2.2.1.2.2.2.1) && true)))) && true))) = decide (a = b):=by
  obtain ⟨a1,a2,⟨a3,a4,a5,a6,_⟩,_⟩:=a
  obtain ⟨b1,b2,⟨b3,b4,b5,b6,_⟩,_⟩:=b
  rw [Bool.eq_iff_iff]
  simp
theorem sameLog_eq (k : Nat) (xs ys : List Ent) (hk : xs.length < k) (hl : xs.length≤1000000000) : laws_sameLog_t A k (xs,(ys,())) () = some ((decide (xs = ys),()),()):=by
  by_cases he : xs.length = ys.length
  · have h:=eq_loop (A:=A) (f:=laws_sameLog_t_b0 A k) ent0 xs ys hk he
      (fun i hi=>by
        have hi' : i < ys.length:=by omega
        have hx : (i : Int) < (xs.length : Int):=by omega
        have hy : (i : Int) < (ys.length : Int):=by omega
        have w : A.wrapI .i64 ((i : Int) + 1) = (i : Int) + 1:=a_wrap (by omega) (by omega)
        have e:=ent_eq (xs.getD i ent0) (ys.getD i ent0)
        simp only [laws_sameLog_t_b0,a_cndS,a_ltI,a_lenL,a_le0,a_andB,hx,hy,Int.natCast_nonneg,decide_true,Bool.and_self,if_true,a_atL,Int.toNat_natCast,a_eqI,a_eqS,a_notB,a_addI,w,e]
        by_cases hv : xs.getD i ent0 = ys.getD i ent0
        · simp only [hv]; simp
        · simp only [hv]; simp)
      (by simp [laws_sameLog_t_b0])
    simp only [laws_sameLog_t,a_lenL,he,a_eqI,decide_true,a_notB,Bool.not_true,a_cndS,Bool.false_eq_true,if_false,h]
    by_cases hv : xs = ys <;> simp [hv]
  · have h2 : ¬ (xs.length : Int) = ys.length:=by omega
    have h3 : ¬ xs = ys:=fun e=>he (by rw [e])
    simp [laws_sameLog_t,h2,h3]
theorem sameReplica_eq (k : Nat) (r s : Rep) (h1 : r.1.2.1.length < k) (h2 : r.2.2.1.length < k) (h1' : r.1.2.1.length≤1000000000) (h2' : r.2.2.1.length≤1000000000) : laws_sameReplica_t A k (r,(s,())) () = some ((decide (r = s),()),()):=by
  obtain ⟨a1,a2,a3,_⟩:=r
  obtain ⟨b1,b2,b3,_⟩:=s
  simp only at h1 h2 h1' h2'
  simp only [laws_sameReplica_t,sameConfig_eq k a1 b1 h1 h1',sameLog_eq k a3 b3 h2 h2',a_obind_some,a_cndS,a_eqB]
  by_cases h1 : a1 = b1
  · by_cases h2 : a2 = b2
    · by_cases h3 : a3 = b3 <;> simp [h1,h2,h3]
    · simp [h1,h2]
  · simp [h1]
end
end Go.Den.T

namespace Go.Den.T
set_option linter.unusedVariables false
set_option linter.unusedSimpArgs false
set_option linter.unusedSectionVars false
section
variable {A : Atoms} [IsReal A]
abbrev msg0 : Msg:=(0,(0,(0,((0,([],(false,()))),([],())))))
def MsgF (m : Msg) : Prop:=m.2.2.2.1.2.1.length≤1000000000∧m.2.2.2.2.1.length≤1000000000
end
end Go.Den.T

namespace Go.Den.T
end Go.Den.T

namespace Go.Den.T
set_option linter.unusedVariables false
set_option linter.unusedSimpArgs false
set_option linter.unusedSectionVars false
section
variable {A : Atoms} [IsReal A]
def MsgZ (m : Msg) : Prop:=m.2.2.2.1.2.1.length≤1048576∧m.2.2.2.2.1.length≤1048576
end
end Go.Den.T

namespace Go.Den.T
set_option linter.unusedVariables false
set_option linter.unusedSimpArgs false
set_option linter.unusedSectionVars false
variable {A : Atoms} [IsReal A]
abbrev Itv:=List UInt8 × (List UInt8 × Unit)
abbrev Pair:=List UInt8 × (Int × Unit)
abbrev Ses:=Int × (Int × (Int × Unit))
abbrev Stt:=Itv × (List Pair × (List Ses × (Bool × (List UInt8 × Unit))))
abbrev Chk:=Int × (Stt × Unit)
def keyOrNil (s : List UInt8) : Bool:=decide (s = []) || keyOk s
def bless (a b : List UInt8) : Bool:=Op.bytesLess a b
def lowest (s : List UInt8) : List UInt8:=if s = [] then [97] else s
def itvOk (i : Itv) : Bool:=keyOrNil i.1 && (keyOrNil i.2.1 && (decide (i.2.1 = []) || bless (lowest i.1) i.2.1))
theorem impl_IntervalValid_eq (k : Nat) (hk : 10≤k) (i : Itv) : impl_IntervalValid_t A k (i,()) () = some ((itvOk i,()),()):=by
  obtain ⟨a,b,_⟩:=i
  simp only [impl_IntervalValid_t,impl_KeyValid_eq k hk,a_obind_some,a_cndS,a_notB,a_eqS,itvOk,keyOrNil,lowest,bless]
  by_cases h1 : a = [] <;> by_cases h2 : b = []
  · simp [h1,h2]
  · cases h3 : keyOk b <;> simp [h1,h2,h3,impl_lowestKey_t]
  · cases h3 : keyOk a <;> simp [h1,h2,h3,impl_lowestKey_t]
  · cases h3 : keyOk a <;> cases h4 : keyOk b <;> simp [h1,h2,h3,h4,impl_lowestKey_t]
theorem bless_nil (b : List UInt8) : bless [] b = decide (b ≠ []):=by cases b <;> simp [bless,Op.bytesLess]
theorem bless_to_nil (a : List UInt8) : bless a [] = false:=by cases a <;> simp [bless,Op.bytesLess]
theorem bless_cons (x y : UInt8) (xs ys : List UInt8) : bless (x :: xs) (y :: ys) = (decide (x < y) || (x == y && bless xs ys)):=by simp [bless,Op.bytesLess]
theorem bless_total : ∀ a b : List UInt8,bless a b = !(bless b a || decide (b = a))
  | [],[]=>by simp [bless_nil]
  | [],y :: ys=>by simp [bless_nil,bless_to_nil]
  | x :: xs,[]=>by simp [bless_nil,bless_to_nil]
  | x :: xs,y :: ys=>by
    rw [bless_cons,bless_cons,bless_total xs ys]
    by_cases h : x = y
    · subst h
      have : ¬ x < x:=by rw [UInt8.lt_iff_toNat_lt]; omega
      simp [this]
    · have h' : ¬ y = x:=fun e=>h e.symm
      have hn : x.toNat ≠ y.toNat:=fun e=>h (UInt8.toNat_inj.1 e)
      by_cases hl : x < y
      · have : ¬ y < x:=by rw [UInt8.lt_iff_toNat_lt] at hl ⊢; omega
        simp [hl,this,h,h']
      · have : y < x:=by rw [UInt8.lt_iff_toNat_lt] at hl ⊢; omega
        simp [hl,this,h,h']
theorem less_a {b : List UInt8} (h : keyOk b = true) : bless [97] b = !decide (b = [97]):=by
  unfold keyOk at h
  simp only [Bool.and_eq_true,decide_eq_true_eq] at h
  obtain ⟨⟨h1,h2⟩,h3⟩:=h
  cases b with
  | nil=>simp at h1
  | cons c cs =>
    have hc : letter c = true:=by simp only [List.all_cons,Bool.and_eq_true] at h3; exact h3.1
    simp only [letter,decide_eq_true_eq] at hc
    rw [bless_cons,bless_nil]
    by_cases h : c = 97
    · subst h
      have : ¬ (97 : UInt8) < 97:=by decide
      simp [this]
    · have hn : c.toNat ≠ 97:=fun e=>h (UInt8.toNat_inj.1 (by rw [e]; rfl))
      have : (97 : UInt8) < c:=by rw [UInt8.lt_iff_toNat_lt]; show 97 < c.toNat; omega
      simp [this,h]
theorem spec_IntervalValid_eq (k : Nat) (hk : 10≤k) (i : Itv) : spec_IntervalValid_t A k (i,()) () = some ((itvOk i,()),()):=by
  obtain ⟨a,b,_⟩:=i
  simp only [spec_IntervalValid_t,spec_KeyValid_eq k hk,a_obind_some,a_cndS,a_notB,a_eqS,a_lessS,itvOk,keyOrNil,lowest]
  by_cases h1 : a = [] <;> by_cases h2 : b = []
  · simp [h1,h2]
  · cases h3 : keyOk b with
    | false=>simp [h1,h2,h3]
    | true =>
      have e1 : Op.bytesLess [] b = true:=by have:=bless_nil b; simp only [bless] at this; rw [this]; simp [h2]
      have e2:=less_a h3
      simp [h1,h2,h3,e1,e2]
  · cases h3 : keyOk a <;> simp [h1,h2,h3]
  · cases h3 : keyOk a <;> cases h4 : keyOk b <;> simp [h1,h2,h3,h4]
    simp only [bless]
    cases Op.bytesLess a b <;> simp
def valOk (v : Int) : Bool:=decide (0≤v∧v≤999)
abbrev ses0 : Ses:=(0,(0,(0,())))
def pairAt (l : List Pair) (i : Nat) : Bool:=keyOk (l.getD i (([] : List UInt8),((0 : Int),()))).1 && (valOk (l.getD i (([] : List UInt8),((0 : Int),()))).2.1 && (decide (i = 0) || bless (l.getD (i - 1) (([] : List UInt8),((0 : Int),()))).1 (l.getD i (([] : List UInt8),((0 : Int),()))).1))
def pairsOk (l : List Pair) : Bool:=decide (l.length≤48) && (List.range l.length).all (pairAt l)
theorem spec_PairsValid_eq (k : Nat) (hk : 60≤k) (l : List Pair) : spec_PairsValid_t A k (l,()) () = some ((pairsOk l,()),()):=by
  by_cases hl : (48 : Int) < l.length
  · have : ¬ l.length≤48:=by omega
    simp [spec_PairsValid_t,hl,pairsOk,this]
  · have hl' : l.length≤48:=by omega
    have h := iter_all (A := A) (f := spec_PairsValid_t_b0 A k) (fun i => (l, ((i : Int), ()))) l.length (pairAt l) (.inr ((false, ()), ())) (.inl ())
      (fun i hi=>by
        have hi' : (i : Int) < (l.length : Int):=by omega
        have w : A.wrapI .i64 ((i : Int) + 1) = (i : Int) + 1:=a_wrap (by omega) (by omega)
        simp only [spec_PairsValid_t_b0,a_cndS,a_ltI,a_lenL,a_le0,a_andB,hi',Int.natCast_nonneg,decide_true,Bool.and_self,if_true,a_atL,Int.toNat_natCast,spec_KeyValid_eq k (by omega : 10≤k),l1In_eq,a_obind_some,a_notB,a_addI,w,pairAt,valOk,a_subI,a_orB,a_lessS,a_eqS]
        rcases Bool.eq_false_or_eq_true (keyOk (l.getD i (([] : List UInt8),((0 : Int),()))).1) with hkk | hkk
        case inr=>simp only [hkk]; simp
        case inl =>
          by_cases hv : 0≤(l.getD i (([] : List UInt8),((0 : Int),()))).2.1∧(l.getD i (([] : List UInt8),((0 : Int),()))).2.1≤999
          · by_cases h0 : i = 0
            · subst h0; simp only [hkk,hv]; simp
            · have h1 : (0 : Int) < (i : Int):=by omega
              have w2 : A.wrapI .i64 ((i : Int) - 1) = (i : Int) - 1:=a_wrap (by omega) (by omega)
              have h2 : (0 : Int)≤(i : Int) - 1:=by omega
              have h3 : (i : Int) - 1 < (l.length : Int):=by omega
              have h4 : ((i : Int) - 1).toNat = i - 1:=by omega
              have ht:=bless_total (l.getD (i - 1) (([] : List UInt8),((0 : Int),()))).1 (l.getD i (([] : List UInt8),((0 : Int),()))).1
              simp only [bless] at ht
              simp only [hkk,hv,h1,w2,h2,h3,h4,h0,ht,bless,decide_true,decide_false,Bool.and_self,Bool.true_and,Bool.false_or,if_true,Bool.not_true,Bool.false_eq_true,if_false,and_self]
              rcases Bool.eq_false_or_eq_true (Op.bytesLess (l.getD i (([] : List UInt8),((0 : Int),()))).1 (l.getD (i - 1) (([] : List UInt8),((0 : Int),()))).1 || decide ((l.getD i (([] : List UInt8),((0 : Int),()))).1 = (l.getD (i - 1) (([] : List UInt8),((0 : Int),()))).1)) with hq | hq <;> simp only [hq] <;> simp
          · simp only [hkk,hv]; simp)
      (by simp [spec_PairsValid_t_b0]) (k:=k) (by omega)
    simp only [Int.natCast_zero,Int.ofNat_zero] at h
    simp only [spec_PairsValid_t,a_cndS,a_ltI,a_lenL,hl,decide_false,Bool.false_eq_true,if_false,h,a_obind_some,pairsOk,hl',decide_true,Bool.true_and]
    cases (List.range l.length).all (pairAt l) <;> simp
theorem impl_PairsValid_eq (k : Nat) (hk : 60≤k) (l : List Pair) : impl_PairsValid_t A k (l,()) () = some ((pairsOk l,()),()):=by
  by_cases hl : (48 : Int) < l.length
  · have : ¬ l.length≤48:=by omega
    simp [impl_PairsValid_t,hl,pairsOk,this]
  · have hl' : l.length≤48:=by omega
    have h := iter_all (A := A) (f := impl_PairsValid_t_b0 A k) (fun i => (l, (l, ((l.length : Int), ((i : Int), ()))))) l.length (pairAt l) (.inr ((false, ()), ())) (.inl ())
      (fun i hi=>by
        have hi' : (i : Int) < (l.length : Int):=by omega
        have w : A.wrapI .i64 ((i : Int) + 1) = (i : Int) + 1:=a_wrap (by omega) (by omega)
        simp only [impl_PairsValid_t_b0,a_cndS,a_ltI,a_lenL,a_le0,a_andB,hi',Int.natCast_nonneg,decide_true,Bool.and_self,if_true,a_atL,Int.toNat_natCast,impl_KeyValid_eq k (by omega : 10≤k),valueValid_eq,a_obind_some,a_notB,a_addI,pairAt,valOk,a_subI,a_lessS]
        rcases Bool.eq_false_or_eq_true (keyOk (l.getD i (([] : List UInt8),((0 : Int),()))).1) with hkk | hkk
        case inr=>simp only [hkk]; simp
        case inl =>
          by_cases hv : 0≤(l.getD i (([] : List UInt8),((0 : Int),()))).2.1∧(l.getD i (([] : List UInt8),((0 : Int),()))).2.1≤999
          · by_cases h0 : i = 0
            · subst h0; simp only [hkk,hv]; simp [w]; exact w
            · have h1 : (0 : Int) < (i : Int):=by omega
              have w2 : A.wrapI .i64 ((i : Int) - 1) = (i : Int) - 1:=a_wrap (by omega) (by omega)
              have h2 : (0 : Int)≤(i : Int) - 1:=by omega
              have h3 : (i : Int) - 1 < (l.length : Int):=by omega
              have h4 : ((i : Int) - 1).toNat = i - 1:=by omega
              simp only [hkk,hv,h1,w,w2,h2,h3,h4,h0,bless,decide_true,decide_false,Bool.and_self,Bool.true_and,Bool.false_or,if_true,Bool.not_true,Bool.false_eq_true,if_false,and_self,a_sumE_inl,a_obind_some]
              rcases Bool.eq_false_or_eq_true (Op.bytesLess (l.getD (i - 1) (([] : List UInt8),((0 : Int),()))).1 (l.getD i (([] : List UInt8),((0 : Int),()))).1) with hq | hq <;> simp only [hq] <;> simp
          · simp only [hkk,hv]; simp)
      (by simp [impl_PairsValid_t_b0]) (k:=k) (by omega)
    simp only [Int.natCast_zero,Int.ofNat_zero] at h
    simp only [impl_PairsValid_t,a_cndS,a_ltI,a_lenL,hl,decide_false,Bool.false_eq_true,if_false,h,a_obind_some,pairsOk,hl',decide_true,Bool.true_and]
    cases (List.range l.length).all (pairAt l) <;> simp
end Go.Den.T

namespace Go.Den.T
set_option linter.unusedVariables false
set_option linter.unusedSimpArgs false
set_option linter.unusedSectionVars false
variable {A : Atoms} [IsReal A]
def sesP (s q : Ses) (i : Nat) : Bool:=decide (0≤s.1∧s.1≤3) && (decide (1≤s.2.1∧s.2.1≤999) && (decide (-2≤s.2.2.1∧s.2.2.1≤999) && (decide (i = 0) || !decide (s.1≤q.1))))
def sesAt (l : List Ses) (i : Nat) : Bool:=sesP (l.getD i ((0 : Int),((0 : Int),((0 : Int),())))) (l.getD (i - 1) ((0 : Int),((0 : Int),((0 : Int),())))) i
def sesOk (l : List Ses) : Bool:=(List.range l.length).all (sesAt l)
theorem spec_SessionsValid_eq (k : Nat) (l : List Ses) (hk : l.length < k) (hl : l.length≤1000000000) : spec_SessionsValid_t A k (l,()) () = some ((sesOk l,()),()):=by
  have h:=iter_all (A:=A) (f:=spec_SessionsValid_t_b0 A k) (fun i=>(l,((i : Int),()))) l.length (sesAt l) (.inr ((false,()),())) (.inl ())
    (fun i hi=>by
      have hi' : (i : Int) < (l.length : Int):=by omega
      have w : A.wrapI .i64 ((i : Int) + 1) = (i : Int) + 1:=a_wrap (by omega) (by omega)
      rw [show sesAt l i = sesP (l.getD i ((0 : Int),((0 : Int),((0 : Int),())))) (l.getD (i - 1) ((0 : Int),((0 : Int),((0 : Int),())))) i from rfl]
      simp only [spec_SessionsValid_t_b0,a_atL,Int.toNat_natCast]
      by_cases h0 : i = 0
      · generalize l.getD i ((0 : Int),((0 : Int),((0 : Int),()))) = s
        subst h0
        obtain ⟨c,q,v,_⟩:=s
        simp only [sesP,l1In_eq,a_obind_some,a_cndS,a_ltI,a_lenL,a_le0,a_andB,hi',a_notB,a_addI,w]
        by_cases h1 : 0≤c∧c≤3 <;> by_cases h2 : 1≤q∧q≤999 <;> by_cases h3 : -2≤v∧v≤999 <;> simp [h1,h2,h3,hi]
      · have g1 : (0 : Int) < (i : Int):=by omega
        have w2 : A.wrapI .i64 (A.subI (i : Int) 1) = (i : Int) - 1:=by rw [a_subI]; exact a_wrap (by omega) (by omega)
        have g2 : (0 : Int)≤(i : Int) - 1:=by omega
        have g2' : (1 : Int)≤(i : Int):=by omega
        have g3 : (i : Int) - 1 < (l.length : Int):=by omega
        have g4 : ((i : Int) - 1).toNat = i - 1:=by omega
        simp only [w2,g4]
        generalize l.getD i ((0 : Int),((0 : Int),((0 : Int),()))) = s
        generalize l.getD (i - 1) ((0 : Int),((0 : Int),((0 : Int),()))) = s'
        obtain ⟨c,q,v,_⟩:=s
        obtain ⟨c',_⟩:=s'
        simp only [sesP,l1In_eq,a_obind_some,a_cndS,a_ltI,a_lenL,a_le0,a_andB,hi',a_notB,a_addI,w,a_leI]
        by_cases h1 : 0≤c∧c≤3 <;> by_cases h2 : 1≤q∧q≤999 <;> by_cases h3 : -2≤v∧v≤999 <;> by_cases h4 : c≤c' <;> simp [h1,h2,h3,h4,hi,g1,g2,g2',g3,h0] <;> omega)
    (by simp [spec_SessionsValid_t_b0]) (k:=k) hk
  simp only [Int.natCast_zero,Int.ofNat_zero] at h
  simp only [spec_SessionsValid_t,h,a_obind_some,sesOk]
  cases (List.range l.length).all (sesAt l) <;> simp
theorem impl_SessionsValid_eq (k : Nat) (l : List Ses) (hk : l.length < k) (hl : l.length≤1000000000) : impl_SessionsValid_t A k (l,()) () = some ((sesOk l,()),()):=by
  have h:=iter_all (A:=A) (f:=impl_SessionsValid_t_b0 A k) (fun i=>(l,(l,((l.length : Int),((i : Int),()))))) l.length (sesAt l) (.inr ((false,()),())) (.inl ())
    (fun i hi=>by
      have hi' : (i : Int) < (l.length : Int):=by omega
      have w : A.wrapI .i64 ((i : Int) + 1) = (i : Int) + 1:=a_wrap (by omega) (by omega)
      rw [show sesAt l i = sesP (l.getD i ((0 : Int),((0 : Int),((0 : Int),())))) (l.getD (i - 1) ((0 : Int),((0 : Int),((0 : Int),())))) i from rfl]
      simp only [impl_SessionsValid_t_b0,a_atL,Int.toNat_natCast]
      have hw : ∀ j : Int,A.wrapI .i64 (A.subI j 1) = A.wrapI .i64 (j - 1):=fun j=>by rw [a_subI]
      by_cases h0 : i = 0
      · generalize l.getD i ((0 : Int),((0 : Int),((0 : Int),()))) = s
        subst h0
        obtain ⟨c,q,v,_⟩:=s
        simp only [sesP,seqValid_eq,a_obind_some,a_cndS,a_ltI,a_leI,a_lenL,a_le0,a_andB,hi',a_notB]
        by_cases h1 : c < 0
        · have : ¬ (0≤c∧c≤3):=by omega
          simp [h1,this,hi]
        by_cases h1' : 4≤c
        · have : ¬ (0≤c∧c≤3):=by omega
          simp [h1,h1',this,hi]
        have h1'' : 0≤c∧c≤3:=by omega
        by_cases h2 : 1≤q∧q≤999
        case neg=>simp [h1,h1',h1'',h2,hi]
        by_cases h3 : v < -2
        · have : ¬ (-2≤v∧v≤999):=by omega
          simp [h1,h1',h1'',h2,h3,this,hi]
        by_cases h3' : 999 < v
        · have : ¬ (-2≤v∧v≤999):=by omega
          simp [h1,h1',h1'',h2,h3,h3',this,hi]
        have h3'' : -2≤v∧v≤999:=by omega
        simp [h1,h1',h1'',h2,h3,h3',h3'',hi]; exact w
      · have g1 : 0 < i:=by omega
        have w2 : A.wrapI .i64 ((i : Int) - 1) = (i : Int) - 1:=a_wrap (by omega) (by omega)
        have g2' : (1 : Int)≤(i : Int):=by omega
        have g2 : (0 : Int)≤(i : Int) - 1:=by omega
        have g3 : (i : Int) - 1 < (l.length : Int):=by omega
        have g4 : ((i : Int) - 1).toNat = i - 1:=by omega
        generalize hs : l.getD i ((0 : Int),((0 : Int),((0 : Int),()))) = s
        generalize hs' : l.getD (i - 1) ((0 : Int),((0 : Int),((0 : Int),()))) = s'
        obtain ⟨c,q,v,_⟩:=s
        obtain ⟨c',_⟩:=s'
        have hs2 : l[i - 1]?.getD ((0 : Int),((0 : Int),((0 : Int),()))) = (c',‹_›):=by simpa [List.getD] using hs'
        simp only [sesP,seqValid_eq,a_obind_some,a_cndS,a_ltI,a_leI,a_lenL,a_le0,a_andB,hi',a_notB]
        by_cases h1 : c < 0
        · have : ¬ (0≤c∧c≤3):=by omega
          simp [h1,this,hi]
        by_cases h1' : 4≤c
        · have : ¬ (0≤c∧c≤3):=by omega
          simp [h1,h1',this,hi]
        have h1'' : 0≤c∧c≤3:=by omega
        by_cases h2 : 1≤q∧q≤999
        case neg=>simp [h1,h1',h1'',h2,hi]
        by_cases h3 : v < -2
        · have : ¬ (-2≤v∧v≤999):=by omega
          simp [h1,h1',h1'',h2,h3,this,hi]
        by_cases h3' : 999 < v
        · have : ¬ (-2≤v∧v≤999):=by omega
          simp [h1,h1',h1'',h2,h3,h3',this,hi]
        have h3'' : -2≤v∧v≤999:=by omega
        by_cases hq : c≤c'
        · have hq' : ¬ c' < c:=by omega
          simp [h1,h1',h1'',h2,h3,h3',h3'',g1,w2,g2,g2',g3,g4,h0,w,hi,hs2,hq,hq']
        · have hq' : c' < c:=by omega
          simp [h1,h1',h1'',h2,h3,h3',h3'',g1,w2,g2,g2',g3,g4,h0,w,hi,hs2,hq,hq']
      )
    (by simp [impl_SessionsValid_t_b0]) (k:=k) hk
  simp only [Int.natCast_zero,Int.ofNat_zero] at h
  simp only [impl_SessionsValid_t,a_lenL,h,a_obind_some,sesOk]
  cases (List.range l.length).all (sesAt l) <;> simp
/-! ### intervals -/
def inside (i : Itv) (s : List UInt8) : Bool:=!bless s i.1 && (decide (i.2.1 = []) || bless s i.2.1)
theorem inside_eq (k : Nat) (i : Itv) (s : List UInt8) : impl_inside_t A k (i,(s,())) () = some ((inside i s,()),()):=by
  have ht:=bless_total s i.1
  simp only [bless] at ht
  simp only [impl_inside_t,a_cndS,a_orB,a_lessS,a_eqS,inside,bless,ht,Bool.not_not]
  by_cases h : i.2.1 = [] <;> cases (Op.bytesLess i.1 s || decide (i.1 = s)) <;> simp [h]
theorem IntervalHas_eq (k : Nat) (hk : 10≤k) (i : Itv) (s : List UInt8) : spec_IntervalHas_t A k (i,(s,())) () = some (((itvOk i && (keyOk s && inside i s)),()),()):=by
  simp only [spec_IntervalHas_t,spec_IntervalValid_eq k hk,spec_KeyValid_eq k hk,a_obind_some,a_cndS,a_notB,a_lessS,a_eqS,inside,bless]
  cases itvOk i <;> cases keyOk s <;> cases Op.bytesLess s i.1 <;> by_cases h : i.2.1 = [] <;> simp [h]
abbrev itv0 : Itv:=([],([],()))
def cut (i : Itv) (s : List UInt8) : Itv × (Itv × (Bool × Unit)) :=
  if (itvOk i && (keyOk s && (itvOk (i.1,(s,())) && itvOk (s,(i.2.1,()))))) = true then ((i.1,(s,())),((s,(i.2.1,())),(true,()))) else (itv0,(itv0,(false,())))
theorem spec_IntervalCut_eq (k : Nat) (hk : 10≤k) (i : Itv) (s : List UInt8) : spec_IntervalCut_t A k (i,(s,())) () = some (cut i s,()):=by
  simp only [spec_IntervalCut_t,spec_IntervalValid_eq k hk,spec_KeyValid_eq k hk,a_obind_some,a_cndS,a_notB,cut]
  cases itvOk i <;> cases keyOk s <;> cases itvOk (i.1,(s,())) <;> cases itvOk (s,(i.2.1,())) <;> simp
theorem impl_IntervalCut_eq (k : Nat) (hk : 10≤k) (i : Itv) (s : List UInt8) : impl_IntervalCut_t A k (i,(s,())) () = some (cut i s,()):=by
  simp only [impl_IntervalCut_t,impl_IntervalValid_eq k hk,impl_KeyValid_eq k hk,a_obind_some,a_cndS,a_notB,cut]
  cases itvOk i <;> cases keyOk s <;> cases h3 : itvOk (i.1,(s,())) <;> cases h4 : itvOk (s,(i.2.1,())) <;> simp [h3,h4]
/-! ### states -/
def stOk (s : Stt) : Bool:=itvOk s.1 && (pairsOk s.2.1 && (sesOk s.2.2.1 && (s.2.1.all (fun p=>inside s.1 p.1) && (decide (s.2.2.2.2.1 = []) || (s.2.2.2.1 && (cut s.1 s.2.2.2.2.1).2.2.1)))))
theorem pairs_keys {l : List Pair} (h : pairsOk l = true) : l.length≤48∧∀ p ∈ l,keyOk p.1 = true:=by
  simp only [pairsOk,Bool.and_eq_true,decide_eq_true_eq] at h
  refine ⟨h.1,fun p hp=>?_⟩
  obtain ⟨i,hi,rfl⟩:=List.mem_iff_getElem.1 hp
  have:=range_all.1 h.2 i hi
  simp only [pairAt,Bool.and_eq_true] at this
  have:=this.1
  rwa [getD_lt hi] at this
theorem impl_StateValid_eq (k : Nat) (hk : 60≤k) (s : Stt) (hk2 : s.2.2.1.length < k) (hl : s.2.2.1.length≤1000000000) : impl_StateValid_t A k (s,()) () = some ((stOk s,()),()):=by
  obtain ⟨i,ps,ss,fz,ct,_⟩:=s
  simp only at hk2 hl
  simp only [impl_StateValid_t,impl_IntervalValid_eq k (by omega : 10≤k),impl_PairsValid_eq k hk,impl_SessionsValid_eq k ss hk2 hl,a_obind_some,a_cndS,a_notB,stOk]
  cases itvOk i with
  | false=>simp
  | true =>
    cases hp : pairsOk ps with
    | false=>simp
    | true =>
      obtain ⟨hp1,hp2⟩:=pairs_keys hp
      cases sesOk ss with
      | false=>simp
      | true =>
        have h:=iter_all (A:=A) (f:=impl_StateValid_t_b0 A k) (fun j=>(ps,((ps.length : Int),((j : Int),((i,(ps,(ss,(fz,(ct,()))))),()))))) ps.length (fun j=>inside i (ps.getD j (([] : List UInt8),((0 : Int),()))).1) (.inr ((false,()),())) (.inl ((i,(ps,(ss,(fz,(ct,()))))),()))
          (fun j hj=>by
            have w : A.wrapI .i64 ((j : Int) + 1) = (j : Int) + 1:=a_wrap (by omega) (by omega)
            simp [impl_StateValid_t_b0,hj,w,inside_eq]
            cases inside i ps[j].1 <;> simp)
          (by simp [impl_StateValid_t_b0]) (k:=k) (by omega)
        have e:=all_range (xs:=ps) (q:=fun p=>inside i p.1) (d:=(([] : List UInt8),((0 : Int),())))
        rw [e] at h
        simp only [Int.natCast_zero,Int.ofNat_zero] at h
        simp only [Bool.not_true,Bool.false_eq_true,if_false,a_sumE_inl,a_lenL,h,a_obind_some,Bool.true_and]
        cases ps.all (fun p=>inside i p.1) with
        | false=>simp
        | true =>
          by_cases hc : ct = []
          · simp [hc]
          · have hcut:=impl_IntervalCut_eq (A:=A) k (by omega : 10≤k) i ct
            cases fz <;> simp [hc,hcut]
theorem spec_StateValid_eq (k : Nat) (hk : 60≤k) (s : Stt) (hk2 : s.2.2.1.length < k) (hl : s.2.2.1.length≤1000000000) : spec_StateValid_t A k (s,()) () = some ((stOk s,()),()):=by
  obtain ⟨i,ps,ss,fz,ct,_⟩:=s
  simp only at hk2 hl
  simp only [spec_StateValid_t,spec_IntervalValid_eq k (by omega : 10≤k),spec_PairsValid_eq k hk,spec_SessionsValid_eq k ss hk2 hl,a_obind_some,a_cndS,a_notB,stOk]
  cases hi : itvOk i with
  | false=>simp
  | true =>
    cases hp : pairsOk ps with
    | false=>simp
    | true =>
      obtain ⟨hp1,hp2⟩:=pairs_keys hp
      cases sesOk ss with
      | false=>simp
      | true =>
        have h:=iter_all (A:=A) (f:=spec_StateValid_t_b0 A k) (fun j=>((j : Int),((i,(ps,(ss,(fz,(ct,()))))),()))) ps.length (fun j=>inside i (ps.getD j (([] : List UInt8),((0 : Int),()))).1) (.inr ((false,()),())) (.inl ((i,(ps,(ss,(fz,(ct,()))))),()))
          (fun j hj=>by
            have w : A.wrapI .i64 ((j : Int) + 1) = (j : Int) + 1:=a_wrap (by omega) (by omega)
            have hkey:=hp2 ps[j] (List.getElem_mem hj)
            simp [spec_StateValid_t_b0,hj,w,IntervalHas_eq k (by omega : 10≤k),hi,hkey]
            cases inside i ps[j].1 <;> simp)
          (by simp [spec_StateValid_t_b0]) (k:=k) (by omega)
        have e:=all_range (xs:=ps) (q:=fun p=>inside i p.1) (d:=(([] : List UInt8),((0 : Int),())))
        rw [e] at h
        simp only [Int.natCast_zero,Int.ofNat_zero] at h
        simp only [Bool.not_true,Bool.false_eq_true,if_false,a_sumE_inl,h,a_obind_some,Bool.true_and]
        cases ps.all (fun p=>inside i p.1) with
        | false=>simp
        | true =>
          have hcut:=spec_IntervalCut_eq (A:=A) k (by omega : 10≤k) i ct
          by_cases hc : ct = []
          · subst hc; simp [hcut]
          · cases fz <;> simp [hc,hcut]
end Go.Den.T

namespace Go.Den.T
set_option linter.unusedVariables false
set_option linter.unusedSimpArgs false
set_option linter.unusedSectionVars false
section
variable {A : Atoms} [IsReal A]
instance : DecidableEq Pair:=inferInstanceAs (DecidableEq (List UInt8 × (Int × Unit)))
instance : DecidableEq Ses:=inferInstanceAs (DecidableEq (Int × (Int × (Int × Unit))))
instance : DecidableEq Itv:=inferInstanceAs (DecidableEq (List UInt8 × (List UInt8 × Unit)))
set_option synthInstance.maxSize 2000 in
instance : DecidableEq Stt:=inferInstanceAs (DecidableEq (Itv × (List Pair × (List Ses × (Bool × (List UInt8 × Unit))))))
instance : DecidableEq Chk:=inferInstanceAs (DecidableEq (Int × (Stt × Unit)))
def StShort (s : Stt) : Prop:=s.2.1.length≤1048576∧s.2.2.1.length≤1048576
end
end Go.Den.T
