/- Marks on lists whose elements hold lists; bags as arguments of exact laws. -/
import Derived.Test.YtojleoiiijlhaaaXPm1
import Derived.Test.YtojleoiiijlhaaaXPm2
import Derived.Test.YtojleoiiijlhaaaXPm3

namespace Go.Den.T
set_option linter.unusedVariables false
set_option linter.unusedSimpArgs false
set_option linter.unusedSectionVars false
section
variable {A : Atoms} [IsReal A]
theorem markIntS_eq2 (k : Nat) (n : Int) (xs : List Int) (hk : xs.length < k) (hl : xs.length≤1000000000) (h0 : 0≤n) (h1 : n≤100000000000000) : laws_markIntS_t A k ((),(n,())) xs = some ((n + xs.length,()),marks n xs.length):=by
  have h:=iter_for (A:=A) (f:=laws_markIntS_t_b0 A k) (fun i=>(n + (i : Int),((i : Int),(marks n i ++ xs.drop i,())))) xs.length (n + (xs.length : Int),(marks n xs.length,()))
    (fun i hi=>by
      have e : i + (xs.length - i) = xs.length:=by omega
      have:=mark_step xs n i hi
      simp (disch:=omega) [laws_markIntS_t_b0,hi,a_wrap,e,this]
      omega)
    (by simp [laws_markIntS_t_b0]) hk
  have z : marks n 0 = []:=rfl
  simp [z] at h
  simp [laws_markIntS_t,h]
theorem heldIntS_eq2 (k : Nat) (n : Int) (m : Nat) (hk : m < k) (hl : m≤1000000000) (h0 : 0≤n) (h1 : n≤100000000000000) : laws_heldIntS_t A k (marks n m,(n,())) () = some ((n + m,()),()):=by
  have h:=iter_for (A:=A) (f:=laws_heldIntS_t_b0 A k) (fun i=>(marks n m,(n + (i : Int),((i : Int),())))) m (.inl (n + (m : Int),()))
    (fun i hi=>by
      have e:=marks_get (n:=n) hi
      have hx : (marks n m)[i]?.getD 0 = n + i:=by simpa [List.getD] using e
      simp (disch:=omega) [laws_heldIntS_t_b0,hi,a_wrap,hx]
      omega)
    (by simp [laws_heldIntS_t_b0]) hk
  simp at h
  simp [laws_heldIntS_t,h]
/-! marks, element by element -/
section
variable {α : Type} (mk : Int→α→α) (nx : Int→α→Int)
def marksG : Int→List α→List α
  | _,[]=>[]
  | n,x :: xs=>mk n x :: marksG (nx n x) xs
def endG : Int→List α→Int
  | n,[]=>n
  | n,x :: xs=>endG (nx n x) xs
theorem marksG_len (n : Int) (xs : List α) : (marksG mk nx n xs).length = xs.length:=by
  induction xs generalizing n with
  | nil=>rfl
  | cons x xs ih=>simp [marksG,ih]
theorem marksG_snoc (n : Int) (xs : List α) (x : α) : marksG mk nx n (xs ++ [x]) = marksG mk nx n xs ++ [mk (endG nx n xs) x]∧endG nx n (xs ++ [x]) = nx (endG nx n xs) x:=by
  induction xs generalizing n with
  | nil=>exact ⟨rfl,rfl⟩
  | cons v xs ih=>obtain ⟨h1,h2⟩:=ih (nx n v); exact ⟨by simp only [List.cons_append,marksG,endG,h1],by simp only [List.cons_append,endG,h2]⟩
theorem endG_take {xs : List α} {i : Nat} (n : Int) (hi : i < xs.length) : endG nx n (xs.take (i + 1)) = nx (endG nx n (xs.take i)) xs[i]:=by
  rw [List.take_succ_eq_append_getElem hi]; exact (marksG_snoc (fun _ x=>x) nx n _ _).2
theorem marksG_get {n : Int} {xs : List α} {i : Nat} (d : α) (hi : i < xs.length) : (marksG mk nx n xs).getD i d = mk (endG nx n (xs.take i)) xs[i]:=by
  induction xs generalizing n i with
  | nil=>simp at hi
  | cons v xs ih =>
    cases i with
    | zero=>rfl
    | succ i=>exact ih (n:=nx n v) (by simpa using hi)
theorem markG_set {xs : List α} {n : Int} {i : Nat} (h : i < xs.length) : (marksG mk nx n (xs.take i) ++ xs.drop i).set i (mk (endG nx n (xs.take i)) xs[i]) = marksG mk nx n (xs.take (i + 1)) ++ xs.drop (i + 1):=by
  have hl : (marksG mk nx n (xs.take i)).length = i:=by rw [marksG_len]; simp; omega
  rw [List.set_append_right _ _ (by omega),hl,Nat.sub_self]
  rw [List.drop_eq_getElem_cons h,List.set_cons_zero,List.take_succ_eq_append_getElem h,(marksG_snoc mk nx _ _ _).1]
  simp
theorem endG_bound {xs : List α} {C : Int} (hC : 0≤C) (hnx : ∀ n x,x ∈ xs→0≤n→n≤nx n x∧nx n x≤n + C) {n : Int} (h0 : 0≤n) : n≤endG nx n xs∧endG nx n xs≤n + C * xs.length:=by
  induction xs generalizing n with
  | nil=>simp [endG]
  | cons x xs ih =>
    obtain ⟨h1,h2⟩:=hnx n x (by simp) h0
    obtain ⟨h3,h4⟩:=ih (fun n y hy=>hnx n y (by simp [hy])) (n:=nx n x) (by omega)
    refine ⟨by simp only [endG]; omega,?_⟩
    simp only [endG,List.length_cons]
    have : C * ((xs.length + 1 : Nat) : Int) = C * xs.length + C:=by rw [Int.natCast_add,Int.mul_add]; simp
    omega
theorem mark_loop {f : Int × (Int × (List α × Unit))→Option ((Int × (Int × (List α × Unit))) ⊕ (Int × (List α × Unit)))} {k : Nat} (d : α) (xs : List α) (hk : xs.length < k) {n C : Int} (h0 : 0≤n) (hC : 0≤C)
    (hnx : ∀ n x,x ∈ xs→0≤n→n≤nx n x∧nx n x≤n + C)
    (hs : ∀ (i : Nat) (m : Int) (ys : List α) (hi : i < xs.length),ys.length = xs.length→ys.getD i d = xs[i]→0≤m→m≤n + C * xs.length→f (m,((i : Int),(ys,()))) = some (.inl (nx m xs[i],(((i + 1 : Nat) : Int),(ys.set i (mk m xs[i]),())))))
    (hd : ∀ (m : Int) (ys : List α),ys.length = xs.length→f (m,(((xs.length : Nat) : Int),(ys,()))) = some (.inr (m,(ys,())))) :
    A.iter k f (n,(0,(xs,()))) = some (endG nx n xs,(marksG mk nx n xs,())):=by
  have h:=iter_for (A:=A) (k:=k) (f:=f) (fun i=>(endG nx n (xs.take i),((i : Int),(marksG mk nx n (xs.take i) ++ xs.drop i,())))) xs.length (endG nx n xs,(marksG mk nx n xs,()))
    (fun i hi=>by
      have hb:=endG_bound nx hC (xs:=xs.take i) (fun n x hx=>hnx n x (List.mem_of_mem_take hx)) h0
      have hl : (marksG mk nx n (xs.take i)).length = i:=by rw [marksG_len]; simp; omega
      have hm : C * ((xs.take i).length : Int)≤C * xs.length:=Int.mul_le_mul_of_nonneg_left (by simp; omega) hC
      rw [hs i _ _ hi (by rw [List.length_append,hl]; simp; omega) (by simp [List.getD,List.getElem?_append_right (show (marksG mk nx n (xs.take i)).length≤i by omega),hl,hi]) (by omega) (by omega),markG_set mk nx hi,endG_take nx n hi])
    (by
      have:=hd (endG nx n xs) (marksG mk nx n xs) (marksG_len mk nx n xs)
      simpa using this) hk
  simpa [marksG,endG] using h
theorem held_loop {f : List α × (Int × (Int × Unit))→Option ((List α × (Int × (Int × Unit))) ⊕ ((Int × Unit) ⊕ ((Int × Unit) × Unit)))} {k : Nat} (d : α) (xs : List α) (hk : xs.length < k) {n C : Int} (h0 : 0≤n) (hC : 0≤C)
    (hnx : ∀ n x,x ∈ xs→0≤n→n≤nx n x∧nx n x≤n + C)
    (hs : ∀ (i : Nat) (m : Int) (ys : List α) (hi : i < xs.length),ys.length = xs.length→ys.getD i d = mk m xs[i]→0≤m→m≤n + C * xs.length→f (ys,(m,((i : Int),()))) = some (.inl (ys,(nx m xs[i],(((i + 1 : Nat) : Int),())))))
    (hd : ∀ (m : Int) (ys : List α),ys.length = xs.length→f (ys,(m,(((xs.length : Nat) : Int),()))) = some (.inr (.inl (m,())))) :
    A.iter k f (marksG mk nx n xs,(n,(0,()))) = some (.inl (endG nx n xs,())):=by
  have h:=iter_for (A:=A) (k:=k) (f:=f) (fun i=>(marksG mk nx n xs,(endG nx n (xs.take i),((i : Int),())))) xs.length (.inl (endG nx n xs,()))
    (fun i hi=>by
      have hb:=endG_bound nx hC (xs:=xs.take i) (fun n x hx=>hnx n x (List.mem_of_mem_take hx)) h0
      have hm : C * ((xs.take i).length : Int)≤C * xs.length:=Int.mul_le_mul_of_nonneg_left (by simp; omega) hC
      rw [hs i _ _ hi (marksG_len mk nx n xs) (marksG_get mk nx d hi) (by omega) (by omega),endG_take nx n hi])
    (by
      have:=hd (endG nx n xs) (marksG mk nx n xs) (marksG_len mk nx n xs)
      simpa using this) hk
  simpa [endG] using h
end
/-! messages -/
def nxM (n : Int) (m : Msg) : Int:=n + 5 + m.2.2.2.1.2.1.length + 6 * m.2.2.2.2.1.length
def mM (A : Atoms) (k : Nat) (n : Int) (m : Msg) : Msg :=
  (n,(n + 1,(n + 2,((n + 3,(marks (n + 4) m.2.2.2.1.2.1.length,(decide ((n + 4 + (m.2.2.2.1.2.1.length : Int)).tmod 3 = 0),m.2.2.2.1.2.2.2))),(marksE A k (n + 5 + (m.2.2.2.1.2.1.length : Int)) m.2.2.2.2.1.length,m.2.2.2.2.2)))))
theorem markM_step (k : Nat) (hk : 2000000≤k) (L : List Msg) (i : Nat) (hi : i < L.length) (hl : L.length≤1000000000) (m : Msg) (hm : L.getD i msg0 = m) (hz : MsgZ m) (n : Int) (h0 : 0≤n) (h1 : n≤80000000000000) :
    laws_markMessageS_t_b0 A k (n,((i : Int),(L,()))) = some (.inl (nxM n m,(((i + 1 : Nat) : Int),(L.set i (mM A k n m),())))):=by
  obtain ⟨z1,z2⟩:=hz
  have hi' : (i : Int) < (L.length : Int):=by omega
  have w1 : A.wrapI .i64 (n + 1) = n + 1:=a_wrap (by omega) (by omega)
  have w2 : A.wrapI .i64 (n + 1 + 1) = n + 2:=by rw [a_wrap (by omega) (by omega)]; omega
  have w3 : A.wrapI .i64 (n + 2 + 1) = n + 3:=by rw [a_wrap (by omega) (by omega)]; omega
  have w4 : A.wrapI .i64 (n + 3 + 1) = n + 4:=by rw [a_wrap (by omega) (by omega)]; omega
  have w5 : A.wrapI .i64 (n + 4 + (m.2.2.2.1.2.1.length : Int) + 1) = n + 5 + (m.2.2.2.1.2.1.length : Int):=by rw [a_wrap (by omega) (by omega)]; omega
  have w : A.wrapI .i64 ((i : Int) + 1) = ((i + 1 : Nat) : Int):=by rw [a_wrap (by omega) (by omega)]; rfl
  have ge : ∀ (M : List Msg) (x d : Msg),i < M.length→(M.set i x).getD i d = x:=fun M x d h=>by rw [getD_lt (by simpa using h)]; simp
  have ls : ∀ (M : List Msg) (x : Msg),(M.set i x).length = M.length:=fun M x=>by simp
  have h3 : ¬ (3 : Int) = 0:=by decide
  simp only [laws_markMessageS_t_b0,a_cndS,a_ltI,a_lenL,a_le0,a_andB,hi',Int.natCast_nonneg,decide_true,Bool.and_self,if_true,a_setL,a_atL,Int.toNat_natCast,a_obind_some,a_addI,w,w1,w2,w3,w4,w5,ls,ge,List.set_set,hm,hi,
    markIntS_eq2 k (n + 4) m.2.2.2.1.2.1 (by omega) (by omega) (by omega) (by omega),markEntryS_eq k (by omega) (n + 5 + (m.2.2.2.1.2.1.length : Int)) m.2.2.2.2.1 (by omega) (by omega) (by omega) (by omega),a_eqI,a_notB,a_remI,h3,decide_false,Bool.not_false]
  rfl
theorem heldM_step (k : Nat) (hk : 2000000≤k) (L : List Msg) (i : Nat) (hi : i < L.length) (hl : L.length≤1000000000) (m : Msg) (n : Int) (hm : L.getD i msg0 = mM A k n m) (hz : MsgZ m) (h0 : 0≤n) (h1 : n≤80000000000000) :
    laws_heldMessageS_t_b0 A k (L,(n,((i : Int),()))) = some (.inl (L,(nxM n m,(((i + 1 : Nat) : Int),())))):=by
  obtain ⟨z1,z2⟩:=hz
  have hi' : (i : Int) < (L.length : Int):=by omega
  have w1 : A.wrapI .i64 (n + 1) = n + 1:=a_wrap (by omega) (by omega)
  have w2 : A.wrapI .i64 (n + 1 + 1) = n + 2:=by rw [a_wrap (by omega) (by omega)]; omega
  have w3 : A.wrapI .i64 (n + 2 + 1) = n + 3:=by rw [a_wrap (by omega) (by omega)]; omega
  have w4 : A.wrapI .i64 (n + 3 + 1) = n + 4:=by rw [a_wrap (by omega) (by omega)]; omega
  have w5 : A.wrapI .i64 (n + 4 + (m.2.2.2.1.2.1.length : Int) + 1) = n + 5 + (m.2.2.2.1.2.1.length : Int):=by rw [a_wrap (by omega) (by omega)]; omega
  have w : A.wrapI .i64 ((i : Int) + 1) = ((i + 1 : Nat) : Int):=by rw [a_wrap (by omega) (by omega)]; rfl
  have h3 : ¬ (3 : Int) = 0:=by decide
  have hb : ∀ b : Bool,(!(b == b)) = false:=by decide
  have p1 : ¬ n + 4 + (m.2.2.2.1.2.1.length : Int) < 0:=by omega
  have p2 : ¬ n + 5 + (m.2.2.2.1.2.1.length : Int) + 6 * (m.2.2.2.2.1.length : Int) < 0:=by omega
  simp only [laws_heldMessageS_t_b0,a_cndS,a_ltI,a_lenL,a_le0,a_andB,hi',Int.natCast_nonneg,decide_true,Bool.and_self,if_true,a_atL,Int.toNat_natCast,a_obind_some,a_addI,w,w1,w2,w3,w4,w5,hm,mM,
    heldIntS_eq2 k (n + 4) m.2.2.2.1.2.1.length (by omega) (by omega) (by omega) (by omega),heldEntryS_eq k (by omega) (n + 5 + (m.2.2.2.1.2.1.length : Int)) m.2.2.2.2.1.length (by omega) (by omega) (by omega) (by omega),a_eqI,a_eqB,a_notB,a_remI,h3,decide_false,Bool.not_false,Bool.not_true,Bool.false_eq_true,if_false,p1,p2,hb]
  rfl
theorem nxM_bound (xs : List Msg) (hz : ∀ m ∈ xs,MsgZ m) : ∀ (n : Int) (x : Msg),x ∈ xs→0≤n→n≤nxM n x∧nxM n x≤n + 7340037:=fun n x hx h0=>by
  obtain ⟨z1,z2⟩:=hz x hx
  unfold nxM; omega
theorem markMessageS_eqn (k : Nat) (hk : 2000000≤k) (n : Int) (xs : List Msg) (hl : xs.length≤1048576) (hz : ∀ m ∈ xs,MsgZ m) (h0 : 0≤n) (h1 : n≤50000000000000) : laws_markMessageS_t A k ((),(n,())) xs = some ((endG nxM n xs,()),marksG (mM A k) nxM n xs):=by
  have h:=mark_loop (A:=A) (mM A k) nxM (f:=laws_markMessageS_t_b0 A k) (k:=k) msg0 xs (by omega) (n:=n) (C:=7340037) (by omega) (by omega) (nxM_bound xs hz)
    (fun i m ys hi hy hg h0 h1=>markM_step k hk ys i (by omega) (by omega) xs[i] hg (hz _ (List.getElem_mem hi)) m h0 (by omega))
    (fun m ys hy=>by simp [laws_markMessageS_t_b0,hy])
  simp only [laws_markMessageS_t,h,a_obind_some]
theorem heldMessageS_eqn (k : Nat) (hk : 2000000≤k) (n : Int) (xs : List Msg) (hl : xs.length≤1048576) (hz : ∀ m ∈ xs,MsgZ m) (h0 : 0≤n) (h1 : n≤50000000000000) : laws_heldMessageS_t A k (marksG (mM A k) nxM n xs,(n,())) () = some ((endG nxM n xs,()),()):=by
  have h:=held_loop (A:=A) (mM A k) nxM (f:=laws_heldMessageS_t_b0 A k) (k:=k) msg0 xs (by omega) (n:=n) (C:=7340037) (by omega) (by omega) (nxM_bound xs hz)
    (fun i m ys hi hy hg h0 h1=>heldM_step k hk ys i (by omega) (by omega) xs[i] m hg (hz _ (List.getElem_mem hi)) h0 (by omega))
    (fun m ys hy=>by simp [laws_heldMessageS_t_b0,hy])
  simp only [laws_heldMessageS_t,h,a_obind_some,a_sumE_inl]
end
end Go.Den.T

namespace Go.Den.T
end Go.Den.T

namespace Go.Den.T
set_option linter.unusedVariables false
set_option linter.unusedSimpArgs false
set_option linter.unusedSectionVars false
section
variable {A : Atoms} [IsReal A]
end
end Go.Den.T

namespace Go.Den.T
set_option linter.unusedVariables false
set_option linter.unusedSimpArgs false
set_option linter.unusedSectionVars false
section
variable {A : Atoms} [IsReal A]
end
end Go.Den.T

namespace Go.Den.T
set_option linter.unusedVariables false
set_option linter.unusedSimpArgs false
set_option linter.unusedSectionVars false
section
abbrev pair0 : Pair:=(([] : List UInt8),((0 : Int),()))
def ahead {α : Type} (lt : α→Bool) (l : List α) : Nat:=(l.takeWhile lt).length
theorem ahead_cons {α : Type} (lt : α→Bool) (x : α) (l : List α) : ahead lt (x :: l) = if lt x = true then ahead lt l + 1 else 0:=by
  unfold ahead
  rw [List.takeWhile_cons]
  split <;> simp
theorem ahead_eq {α : Type} {lt : α→Bool} {d : α} : ∀ {l : List α} {n : Nat},n≤l.length→(∀ i,i < n→lt (l.getD i d) = true)→(n < l.length→lt (l.getD n d) = false)→ahead lt l = n
  | [],n,h1,_,_=>by simp at h1; subst h1; rfl
  | x :: l,0,_,_,h3=>by
    have:=h3 (by simp)
    simp at this
    rw [ahead_cons,this]; rfl
  | x :: l,n + 1,h1,h2,h3=>by
    have h0:=h2 0 (by omega)
    simp at h0
    rw [ahead_cons,h0]
    simp only [if_true]
    rw [ahead_eq (l:=l) (n:=n) (d:=d) (by simpa using h1) (fun i hi=>by simpa using h2 (i + 1) (by omega)) (fun h=>by simpa using h3 (by simpa using h))]
def Mono {α : Type} (lt : α→Bool) (d : α) (l : List α) : Prop:=∀ i j,i < j→j < l.length→lt (l.getD j d) = true→lt (l.getD i d) = true
theorem chain_all {α : Type} {R : α→α→Prop} (ht : ∀ a b c,R a b→R b c→R a c) {l : List α} {d : α} (h : ∀ i,1≤i→i < l.length→R (l.getD (i - 1) d) (l.getD i d)) : ∀ i j,i < j→j < l.length→R (l.getD i d) (l.getD j d):=by
  intro i j hij
  induction j with
  | zero=>omega
  | succ j ih =>
    intro hj
    have h1:=h (j + 1) (by omega) hj
    simp only [Nat.add_sub_cancel] at h1
    by_cases e : i = j
    · subst e; exact h1
    · exact ht _ _ _ (ih (by omega) (by omega)) h1
theorem ses_sorted {l : List Ses} (h : sesOk l = true) : ∀ i j,i < j→j < l.length→(l.getD i ses0).1 < (l.getD j ses0).1:=by
  simp only [sesOk,range_all] at h
  refine chain_all (R:=fun a b : Ses=>a.1 < b.1) (fun a b c h1 h2=>by omega) (fun i hi hl=>?_)
  have:=h i hl
  simp only [sesAt,sesP,Bool.and_eq_true,Bool.or_eq_true,decide_eq_true_eq,Bool.not_eq_true',decide_eq_false_iff_not] at this
  rcases this.2.2.2 with h0 | h0
  · omega
  · show (l.getD (i - 1) ses0).1 < (l.getD i ses0).1
    have : ¬ (l.getD i ses0).1≤(l.getD (i - 1) ses0).1:=h0
    omega
def ltP (s : List UInt8) (p : Pair) : Bool:=bless p.1 s
def ltS (c : Int) (s : Ses) : Bool:=decide (s.1 < c)
def pp (l : List Pair) (s : List UInt8) : Nat:=ahead (ltP s) l
def sp (l : List Ses) (c : Int) : Nat:=ahead (ltS c) l
def sh (l : List Ses) (c : Int) : Bool:=decide (sp l c < l.length) && decide ((l.getD (sp l c) ses0).1 = c)
variable {A : Atoms} [IsReal A]
structure Halves {α : Type} (lt : α→Bool) (d : α) (l : List α) (i j : Nat) : Prop where
  le : i≤j
  len : j≤l.length
  below : ∀ t,t < i→lt (l.getD t d) = true
  above : ∀ t,j≤t→t < l.length→lt (l.getD t d) = false
theorem Halves.start {α : Type} (lt : α→Bool) (d : α) (l : List α) : Halves lt d l 0 l.length:=⟨by omega,Nat.le_refl _,fun t h=>by omega,fun t h1 h2=>by omega⟩
theorem Halves.up {α : Type} {lt : α→Bool} {d : α} {l : List α} {i j : Nat} (hm : Mono lt d l) (h : Halves lt d l i j) (hij : i < j) (ht : lt (l.getD ((i + j) / 2) d) = true) : Halves lt d l ((i + j) / 2 + 1) j :=
  ⟨by omega,h.len,fun t htl=>by
    rcases Nat.lt_or_ge t ((i + j) / 2) with h1 | h1
    · exact hm t _ h1 (by have:=h.len; omega) ht
    · have : t = (i + j) / 2:=by omega
      rw [this]; exact ht,h.above⟩
theorem Halves.done {α : Type} {lt : α→Bool} {d : α} {l : List α} {i : Nat} (h : Halves lt d l i i) : ahead lt l = i:=ahead_eq h.len h.below (fun hl=>h.above i (Nat.le_refl _) hl)
end
end Go.Den.T

namespace Go.Den.T
set_option linter.unusedVariables false
set_option linter.unusedSimpArgs false
set_option linter.unusedSectionVars false
section
variable {A : Atoms} [IsReal A]
theorem copyPair_eq (k : Nat) (l : List Pair) (hl : l.length≤1000000000) : impl_copyOf_Pair_t A k (l,()) () = some ((l,()),()):=by
  have : (l.length : Int) < 4294967296:=by omega
  simp [impl_copyOf_Pair_t,this]
theorem copySes_eq (k : Nat) (l : List Ses) (hl : l.length≤1000000000) : impl_copyOf_Session_t A k (l,()) () = some ((l,()),()):=by
  have : (l.length : Int) < 4294967296:=by omega
  simp [impl_copyOf_Session_t,this]
/-! ### pairs -/
theorem pairs_len {l : List Pair} (h : pairsOk l = true) : l.length≤48:=(pairs_keys h).1
end
end Go.Den.T

namespace Go.Den.T
set_option linter.unusedVariables false
set_option linter.unusedSimpArgs false
set_option linter.unusedSectionVars false
section
variable {A : Atoms} [IsReal A]
theorem ses_le4 {l : List Ses} (h : sesOk l = true) : l.length≤4:=by
  have hs:=ses_sorted h
  simp only [sesOk,range_all] at h
  rcases Nat.lt_or_ge 4 l.length with hl | hl
  · exfalso
    have r : ∀ i,i < l.length→0≤(l.getD i ses0).1∧(l.getD i ses0).1≤3:=fun i hi=>by
      have:=h i hi
      simp only [sesAt,sesP,Bool.and_eq_true,decide_eq_true_eq] at this
      exact this.1
    have a0:=(r 0 (by omega)).1
    have a4:=(r 4 (by omega)).2
    have b1:=hs 0 1 (by omega) (by omega)
    have b2:=hs 1 2 (by omega) (by omega)
    have b3:=hs 2 3 (by omega) (by omega)
    have b4:=hs 3 4 (by omega) (by omega)
    omega
  · exact hl
end
end Go.Den.T

namespace Go.Den.T
set_option linter.unusedVariables false
set_option linter.unusedSimpArgs false
set_option linter.unusedSectionVars false
section
variable {A : Atoms} [IsReal A]
/-! ### entries -/
abbrev stt0 : Stt:=(itv0,(([] : List Pair),(([] : List Ses),(false,(([] : List UInt8),())))))
def takes (s : Stt) (c : Cmd) : Bool:=if c.1 = 5 then (decide (c.2.1 = []) || (cut s.1 c.2.1).2.2.1) else inside s.1 c.2.1
theorem stOk_parts {s : Stt} (h : stOk s = true) : itvOk s.1 = true∧pairsOk s.2.1 = true∧sesOk s.2.2.1 = true∧s.2.1.all (fun p=>inside s.1 p.1) = true∧(s.2.2.2.2.1 = []∨(s.2.2.2.1 = true∧(cut s.1 s.2.2.2.2.1).2.2.1 = true)):=by
  simp only [stOk,Bool.and_eq_true,Bool.or_eq_true,decide_eq_true_eq] at h
  exact ⟨h.1,h.2.1,h.2.2.1,h.2.2.2.1,h.2.2.2.2⟩
theorem copyState_eq (k : Nat) (s : Stt) (h1 : s.2.1.length≤1000000000) (h2 : s.2.2.1.length≤1000000000) : impl_copyState_t A k (s,()) () = some ((s,()),()):=by
  simp only [impl_copyState_t,copyPair_eq k s.2.1 h1,copySes_eq k s.2.2.1 h2,a_obind_some]
theorem l10Copy_eq (k : Nat) (s : Stt) (h1 : s.2.1.length≤1000000000) (h2 : s.2.2.1.length≤1000000000) : spec_l10Copy_t A k (s,()) () = some ((s,()),()):=by
  have g1 : (s.2.1.length : Int) < 4294967296:=by omega
  have g2 : (s.2.2.1.length : Int) < 4294967296:=by omega
  simp only [spec_l10Copy_t,a_lenL,List.length_nil,Int.natCast_zero,Int.ofNat_zero,a_addI,Int.zero_add,a_ltI,a_big,g1,g2,decide_true,a_cndS,if_true,a_appL,List.nil_append]
/-! ### validity is kept -/
end
end Go.Den.T

namespace Go.Den.T
set_option linter.unusedVariables false
set_option linter.unusedSimpArgs false
set_option linter.unusedSectionVars false
section
variable {A : Atoms} [IsReal A]
theorem st_short {s : Stt} (h : stOk s = true) : s.2.1.length≤48∧s.2.2.1.length≤4:=by
  obtain ⟨_,p2,p3,_⟩:=stOk_parts h
  exact ⟨pairs_len p2,ses_le4 p3⟩
end
end Go.Den.T

namespace Go.Den.T
set_option linter.unusedVariables false
set_option linter.unusedSimpArgs false
set_option linter.unusedSectionVars false
section
variable {A : Atoms} [IsReal A]
end
end Go.Den.T

namespace Go.Den.T
set_option linter.unusedVariables false
set_option linter.unusedSimpArgs false
set_option linter.unusedSectionVars false
section
variable {A : Atoms} [IsReal A]
end
end Go.Den.T

namespace Go.Den.T
set_option linter.unusedVariables false
set_option linter.unusedSimpArgs false
set_option linter.unusedSectionVars false
section
variable {A : Atoms} [IsReal A]
end
end Go.Den.T

namespace Go.Den.T
set_option linter.unusedVariables false
set_option linter.unusedSimpArgs false
set_option linter.unusedSectionVars false
section
variable {A : Atoms} [IsReal A]
/-! ### marks -/
def mP (A : Atoms) (k : Nat) (n : Int) : Pair:=(mtx A k n,(n + 1,()))
def mS (n : Int) : Ses:=(n,(n + 1,(n + 2,())))
def marksP (A : Atoms) (k : Nat) (n : Int) (m : Nat) : List Pair:=(List.range m).map fun i : Nat=>mP A k (n + 2 * (i : Int))
def marksS (n : Int) (m : Nat) : List Ses:=(List.range m).map fun i : Nat=>mS (n + 3 * (i : Int))
@[simp] theorem marksP_len (k : Nat) (n : Int) (m : Nat) : (marksP A k n m).length = m:=by simp [marksP]
@[simp] theorem marksS_len (n : Int) (m : Nat) : (marksS n m).length = m:=by simp [marksS]
theorem marksP_get {k : Nat} {n : Int} {m i : Nat} (h : i < m) : (marksP A k n m).getD i pair0 = mP A k (n + 2 * (i : Int)):=by rw [getD_lt (by simpa using h)]; simp [marksP]
theorem marksS_get {n : Int} {m i : Nat} (h : i < m) : (marksS n m).getD i ses0 = mS (n + 3 * (i : Int)):=by rw [getD_lt (by simpa using h)]; simp [marksS]
theorem marksP_succ (k : Nat) (n : Int) (m : Nat) : marksP A k n (m + 1) = marksP A k n m ++ [mP A k (n + 2 * (m : Int))]:=by simp [marksP,List.range_succ]
theorem marksS_succ (n : Int) (m : Nat) : marksS n (m + 1) = marksS n m ++ [mS (n + 3 * (m : Int))]:=by simp [marksS,List.range_succ]
theorem markP_set (k : Nat) (xs : List Pair) (n : Int) (i : Nat) (h : i < xs.length) : (marksP A k n i ++ xs.drop i).set i (mP A k (n + 2 * (i : Int))) = marksP A k n (i + 1) ++ xs.drop (i + 1):=by
  rw [List.set_append_right _ _ (by simp)]
  simp only [marksP_len,Nat.sub_self]
  rw [List.drop_eq_getElem_cons h,List.set_cons_zero,marksP_succ]
  simp
theorem markS_set (xs : List Ses) (n : Int) (i : Nat) (h : i < xs.length) : (marksS n i ++ xs.drop i).set i (mS (n + 3 * (i : Int))) = marksS n (i + 1) ++ xs.drop (i + 1):=by
  rw [List.set_append_right _ _ (by simp)]
  simp only [marksS_len,Nat.sub_self]
  rw [List.drop_eq_getElem_cons h,List.set_cons_zero,marksS_succ]
  simp
theorem markP_step (k : Nat) (hk : 100≤k) (L : List Pair) (i : Nat) (hi : i < L.length) (hl : L.length≤1000000000) (n : Int) (h0 : 0≤n) (h1 : n≤100000000000000) :
    laws_markPairS_t_b0 A k (n,((i : Int),(L,()))) = some (.inl (n + 2,(((i + 1 : Nat) : Int),(L.set i (mP A k n),())))):=by
  have hi' : (i : Int) < (L.length : Int):=by omega
  have w1 : A.wrapI .i64 (n + 1) = n + 1:=a_wrap (by omega) (by omega)
  have w2 : A.wrapI .i64 (n + 1 + 1) = n + 2:=by rw [a_wrap (by omega) (by omega)]; omega
  have w : A.wrapI .i64 ((i : Int) + 1) = ((i + 1 : Nat) : Int):=by rw [a_wrap (by omega) (by omega)]; rfl
  have ge : ∀ (M : List Pair) (x d : Pair),i < M.length→(M.set i x).getD i d = x:=fun M x d h=>by rw [getD_lt (by simpa using h)]; simp
  have ls : ∀ (M : List Pair) (x : Pair),(M.set i x).length = M.length:=fun M x=>by simp
  simp only [laws_markPairS_t_b0,a_cndS,a_ltI,a_lenL,a_le0,a_andB,hi',Int.natCast_nonneg,decide_true,Bool.and_self,if_true,a_setL,a_atL,Int.toNat_natCast,a_obind_some,a_addI,w,w1,w2,ls,ge,List.set_set,markText_eq k hk n (by omega),hi]
  rfl
theorem markPairS_eq (k : Nat) (hk : 100≤k) (n : Int) (xs : List Pair) (hkx : xs.length < k) (hl : xs.length≤1000000000) (h0 : 0≤n) (h1 : n≤10000000000000) :
    laws_markPairS_t A k ((),(n,())) xs = some ((n + 2 * xs.length,()),marksP A k n xs.length):=by
  have h:=iter_for (A:=A) (f:=laws_markPairS_t_b0 A k) (fun i=>(n + 2 * (i : Int),((i : Int),(marksP A k n i ++ xs.drop i,())))) xs.length (n + 2 * (xs.length : Int),(marksP A k n xs.length,()))
    (fun i hi=>by
      rw [markP_step k hk _ i (by simp; omega) (by simp; omega) _ (by omega) (by omega),markP_set k xs n i hi]
      simp; omega)
    (by simp [laws_markPairS_t_b0]) hkx
  have z : marksP A k n 0 = []:=rfl
  simp [z] at h
  simp [laws_markPairS_t,h]
theorem heldPairS_eq (k : Nat) (hk : 100≤k) (n : Int) (m : Nat) (hkx : m < k) (hl : m≤1000000000) (h0 : 0≤n) (h1 : n≤10000000000000) : laws_heldPairS_t A k (marksP A k n m,(n,())) () = some ((n + 2 * (m : Int),()),()):=by
  have h:=iter_for (A:=A) (f:=laws_heldPairS_t_b0 A k) (fun i=>(marksP A k n m,(n + 2 * (i : Int),((i : Int),())))) m (.inl (n + 2 * (m : Int),()))
    (fun i hi=>by
      have e:=marksP_get (A:=A) (k:=k) (n:=n) hi
      have hi' : (i : Int) < (m : Int):=by omega
      generalize hq : n + 2 * (i : Int) = q at *
      have w1 : A.wrapI .i64 (q + 1) = q + 1:=a_wrap (by omega) (by omega)
      have w2 : A.wrapI .i64 (q + 1 + 1) = q + 2:=by rw [a_wrap (by omega) (by omega)]; omega
      have w : A.wrapI .i64 ((i : Int) + 1) = ((i + 1 : Nat) : Int):=by rw [a_wrap (by omega) (by omega)]; rfl
      simp only [laws_heldPairS_t_b0,a_cndS,a_ltI,a_lenL,a_le0,a_andB,marksP_len,hi',Int.natCast_nonneg,decide_true,Bool.and_self,if_true,a_atL,Int.toNat_natCast,e,mP,a_eqI,a_eqS,a_notB,Bool.not_true,Bool.false_eq_true,if_false,a_addI,w,w1,w2,markText_eq k hk q (by omega),a_obind_some]
      have : q + 2 = n + 2 * ((i + 1 : Nat) : Int):=by omega
      rw [this])
    (by simp [laws_heldPairS_t_b0]) hkx
  simp at h
  simp [laws_heldPairS_t,h]
theorem markS_step (k : Nat) (L : List Ses) (i : Nat) (hi : i < L.length) (hl : L.length≤1000000000) (n : Int) (h0 : 0≤n) (h1 : n≤100000000000000) :
    laws_markSessionS_t_b0 A k (n,((i : Int),(L,()))) = some (.inl (n + 3,(((i + 1 : Nat) : Int),(L.set i (mS n),())))):=by
  have hi' : (i : Int) < (L.length : Int):=by omega
  have w1 : A.wrapI .i64 (n + 1) = n + 1:=a_wrap (by omega) (by omega)
  have w2 : A.wrapI .i64 (n + 1 + 1) = n + 2:=by rw [a_wrap (by omega) (by omega)]; omega
  have w3 : A.wrapI .i64 (n + 2 + 1) = n + 3:=by rw [a_wrap (by omega) (by omega)]; omega
  have w : A.wrapI .i64 ((i : Int) + 1) = ((i + 1 : Nat) : Int):=by rw [a_wrap (by omega) (by omega)]; rfl
  have ge : ∀ (M : List Ses) (x d : Ses),i < M.length→(M.set i x).getD i d = x:=fun M x d h=>by rw [getD_lt (by simpa using h)]; simp
  have ls : ∀ (M : List Ses) (x : Ses),(M.set i x).length = M.length:=fun M x=>by simp
  simp only [laws_markSessionS_t_b0,a_cndS,a_ltI,a_lenL,a_le0,a_andB,hi',Int.natCast_nonneg,decide_true,Bool.and_self,if_true,a_setL,a_atL,Int.toNat_natCast,a_obind_some,a_addI,w,w1,w2,w3,ls,ge,List.set_set,hi]
  rfl
theorem markSessionS_eq (k : Nat) (n : Int) (xs : List Ses) (hkx : xs.length < k) (hl : xs.length≤1000000000) (h0 : 0≤n) (h1 : n≤10000000000000) :
    laws_markSessionS_t A k ((),(n,())) xs = some ((n + 3 * xs.length,()),marksS n xs.length):=by
  have h:=iter_for (A:=A) (f:=laws_markSessionS_t_b0 A k) (fun i=>(n + 3 * (i : Int),((i : Int),(marksS n i ++ xs.drop i,())))) xs.length (n + 3 * (xs.length : Int),(marksS n xs.length,()))
    (fun i hi=>by
      rw [markS_step k _ i (by simp; omega) (by simp; omega) _ (by omega) (by omega),markS_set xs n i hi]
      simp; omega)
    (by simp [laws_markSessionS_t_b0]) hkx
  have z : marksS n 0 = []:=rfl
  simp [z] at h
  simp [laws_markSessionS_t,h]
theorem heldSessionS_eq (k : Nat) (n : Int) (m : Nat) (hkx : m < k) (hl : m≤1000000000) (h0 : 0≤n) (h1 : n≤10000000000000) : laws_heldSessionS_t A k (marksS n m,(n,())) () = some ((n + 3 * (m : Int),()),()):=by
  have h:=iter_for (A:=A) (f:=laws_heldSessionS_t_b0 A k) (fun i=>(marksS n m,(n + 3 * (i : Int),((i : Int),())))) m (.inl (n + 3 * (m : Int),()))
    (fun i hi=>by
      have e:=marksS_get (n:=n) hi
      have hi' : (i : Int) < (m : Int):=by omega
      generalize hq : n + 3 * (i : Int) = q at *
      have w1 : A.wrapI .i64 (q + 1) = q + 1:=a_wrap (by omega) (by omega)
      have w2 : A.wrapI .i64 (q + 1 + 1) = q + 2:=by rw [a_wrap (by omega) (by omega)]; omega
      have w3 : A.wrapI .i64 (q + 2 + 1) = q + 3:=by rw [a_wrap (by omega) (by omega)]; omega
      have w : A.wrapI .i64 ((i : Int) + 1) = ((i + 1 : Nat) : Int):=by rw [a_wrap (by omega) (by omega)]; rfl
      simp only [laws_heldSessionS_t_b0,a_cndS,a_ltI,a_lenL,a_le0,a_andB,marksS_len,hi',Int.natCast_nonneg,decide_true,Bool.and_self,if_true,a_atL,Int.toNat_natCast,e,mS,a_eqI,a_notB,Bool.not_true,Bool.false_eq_true,if_false,a_addI,w,w1,w2,w3]
      have : q + 3 = n + 3 * ((i + 1 : Nat) : Int):=by omega
      rw [this])
    (by simp [laws_heldSessionS_t_b0]) hkx
  simp at h
  simp [laws_heldSessionS_t,h]
def mStt (A : Atoms) (k : Nat) (n : Int) (s : Stt) : Stt:=(s.1,(marksP A k n s.2.1.length,(marksS (n + 2 * s.2.1.length) s.2.2.1.length,s.2.2.2)))
theorem markState_eq (k : Nat) (hk : 2000000≤k) (n : Int) (s : Stt) (h : StShort s) (h0 : 0≤n) (hn : n≤100000000) :
    laws_markState_t A k ((),(n,())) s = some ((n + 2 * s.2.1.length + 3 * s.2.2.1.length,()),mStt A k n s):=by
  obtain ⟨h1,h2⟩:=h
  simp only [laws_markState_t,markPairS_eq k (by omega) n s.2.1 (by omega) (by omega) h0 (by omega),a_obind_some,markSessionS_eq k (n + 2 * s.2.1.length) s.2.2.1 (by omega) (by omega) (by omega) (by omega)]
  rfl
theorem heldState_eq (k : Nat) (hk : 2000000≤k) (n : Int) (s : Stt) (h : StShort s) (h0 : 0≤n) (hn : n≤100000000) :
    laws_heldState_t A k (mStt A k n s,(n,())) () = some ((n + 2 * s.2.1.length + 3 * s.2.2.1.length,()),()):=by
  obtain ⟨h1,h2⟩:=h
  have g1 : ¬ n + 2 * (s.2.1.length : Int) < 0:=by omega
  have g2 : ¬ n + 2 * (s.2.1.length : Int) + 3 * (s.2.2.1.length : Int) < 0:=by omega
  simp only [laws_heldState_t,mStt,heldPairS_eq k (by omega) n s.2.1.length (by omega) (by omega) h0 (by omega),a_obind_some,a_ltI,g1,decide_false,a_cndS,Bool.false_eq_true,if_false,heldSessionS_eq k (n + 2 * s.2.1.length) s.2.2.1.length (by omega) (by omega) (by omega) (by omega),g2]
end
end Go.Den.T
namespace Go.Den.T
set_option linter.unusedVariables false
set_option maxRecDepth 1000000
end Go.Den.T

namespace Go.Den.T
set_option linter.unusedVariables false
set_option linter.unusedSimpArgs false
set_option linter.unusedSectionVars false
section
variable {A : Atoms} [IsReal A]
def nxR (n : Int) (r : Rep) : Int:=n + 3 + r.1.2.1.length + 6 * r.2.2.1.length
def mR (A : Atoms) (k : Nat) (n : Int) (r : Rep) : Rep :=
  ((n,(marks (n + 1) r.1.2.1.length,(decide ((n + 1 + (r.1.2.1.length : Int)).tmod 3 = 0),r.1.2.2.2))),(decide ((n + 2 + (r.1.2.1.length : Int)).tmod 3 = 0),(marksE A k (n + 3 + (r.1.2.1.length : Int)) r.2.2.1.length,r.2.2.2)))
theorem markR_step (k : Nat) (hk : 2000000≤k) (L : List Rep) (i : Nat) (hi : i < L.length) (hl : L.length≤1000000000) (m : Rep) (hm : L.getD i rep0 = m) (hz : RepZ m) (n : Int) (h0 : 0≤n) (h1 : n≤80000000000000) :
    laws_markReplicaS_t_b0 A k (n,((i : Int),(L,()))) = some (.inl (nxR n m,(((i + 1 : Nat) : Int),(L.set i (mR A k n m),())))):=by
  obtain ⟨z1,z2⟩:=hz
  have hi' : (i : Int) < (L.length : Int):=by omega
  have w1 : A.wrapI .i64 (n + 1) = n + 1:=a_wrap (by omega) (by omega)
  have w4 : A.wrapI .i64 (n + 1 + (m.1.2.1.length : Int) + 1) = n + 2 + (m.1.2.1.length : Int):=by rw [a_wrap (by omega) (by omega)]; omega
  have w5 : A.wrapI .i64 (n + 2 + (m.1.2.1.length : Int) + 1) = n + 3 + (m.1.2.1.length : Int):=by rw [a_wrap (by omega) (by omega)]; omega
  have w : A.wrapI .i64 ((i : Int) + 1) = ((i + 1 : Nat) : Int):=by rw [a_wrap (by omega) (by omega)]; rfl
  have ge : ∀ (M : List Rep) (x d : Rep),i < M.length→(M.set i x).getD i d = x:=fun M x d h=>by rw [getD_lt (by simpa using h)]; simp
  have ls : ∀ (M : List Rep) (x : Rep),(M.set i x).length = M.length:=fun M x=>by simp
  have h3 : ¬ (3 : Int) = 0:=by decide
  simp only [laws_markReplicaS_t_b0,a_cndS,a_ltI,a_lenL,a_le0,a_andB,hi',Int.natCast_nonneg,decide_true,Bool.and_self,if_true,a_setL,a_atL,Int.toNat_natCast,a_obind_some,a_addI,w,w1,w4,w5,ls,ge,List.set_set,hm,hi,
    markIntS_eq2 k (n + 1) m.1.2.1 (by omega) (by omega) (by omega) (by omega),markEntryS_eq k (by omega) (n + 3 + (m.1.2.1.length : Int)) m.2.2.1 (by omega) (by omega) (by omega) (by omega),a_eqI,a_notB,a_remI,h3,decide_false,Bool.not_false]
  rfl
theorem nxR_bound (xs : List Rep) (hz : ∀ m ∈ xs,RepZ m) : ∀ (n : Int) (x : Rep),x ∈ xs→0≤n→n≤nxR n x∧nxR n x≤n + 7340037:=fun n x hx h0=>by
  obtain ⟨z1,z2⟩:=hz x hx
  unfold nxR; omega
theorem markReplicaS_eqn (k : Nat) (hk : 2000000≤k) (n : Int) (xs : List Rep) (hl : xs.length≤1048576) (hz : ∀ m ∈ xs,RepZ m) (h0 : 0≤n) (h1 : n≤50000000000000) : laws_markReplicaS_t A k ((),(n,())) xs = some ((endG nxR n xs,()),marksG (mR A k) nxR n xs):=by
  have h:=mark_loop (A:=A) (mR A k) nxR (f:=laws_markReplicaS_t_b0 A k) (k:=k) rep0 xs (by omega) (n:=n) (C:=7340037) (by omega) (by omega) (nxR_bound xs hz)
    (fun i m ys hi hy hg h0 h1=>markR_step k hk ys i (by omega) (by omega) xs[i] hg (hz _ (List.getElem_mem hi)) m h0 (by omega))
    (fun m ys hy=>by simp [laws_markReplicaS_t_b0,hy])
  simp only [laws_markReplicaS_t,h,a_obind_some]
def nxB (n : Int) (_ : Bool) : Int:=n + 1
def mB (n : Int) (_ : Bool) : Bool:=decide (n.tmod 3 = 0)
theorem nxB_bound (xs : List Bool) : ∀ (n : Int) (x : Bool),x ∈ xs→0≤n→n≤nxB n x∧nxB n x≤n + 1:=fun n x hx h0=>by unfold nxB; omega
theorem markBoolS_eqn (k : Nat) (hk : 2000000≤k) (n : Int) (xs : List Bool) (hl : xs.length≤1048576) (h0 : 0≤n) (h1 : n≤50000000000000) : laws_markBoolS_t A k ((),(n,())) xs = some ((endG nxB n xs,()),marksG mB nxB n xs):=by
  have h:=mark_loop (A:=A) mB nxB (f:=laws_markBoolS_t_b0 A k) (k:=k) false xs (by omega) (n:=n) (C:=1) (by omega) (by omega) (nxB_bound xs)
    (fun i m ys hi hy hg h0 h1=>by
      have hi' : (i : Int) < (ys.length : Int):=by omega
      have h3 : ¬ (3 : Int) = 0:=by decide
      have w1 : A.wrapI .i64 (m + 1) = m + 1:=a_wrap (by omega) (by omega)
      have w : A.wrapI .i64 ((i : Int) + 1) = ((i + 1 : Nat) : Int):=by rw [a_wrap (by omega) (by omega)]; rfl
      simp only [laws_markBoolS_t_b0,a_cndS,a_ltI,a_lenL,a_le0,a_andB,hi',Int.natCast_nonneg,decide_true,Bool.and_self,if_true,a_setL,Int.toNat_natCast,a_addI,w,w1,a_eqI,a_notB,a_remI,h3,decide_false,Bool.not_false]
      rfl)
    (fun m ys hy=>by simp [laws_markBoolS_t_b0,hy])
  simp only [laws_markBoolS_t,h,a_obind_some]
def nxA (n : Int) (_ : Ans) : Int:=n + 7
def mA (A : Atoms) (k : Nat) (n : Int) (a : Ans) : Ans:=(mE A k n,(n + 6,a.2.2))
theorem nxA_bound (xs : List Ans) : ∀ (n : Int) (x : Ans),x ∈ xs→0≤n→n≤nxA n x∧nxA n x≤n + 7:=fun n x hx h0=>by unfold nxA; omega
theorem markAnswerS_eqn (k : Nat) (hk : 2000000≤k) (n : Int) (xs : List Ans) (hl : xs.length≤1048576) (h0 : 0≤n) (h1 : n≤50000000000000) : laws_markAnswerS_t A k ((),(n,())) xs = some ((endG nxA n xs,()),marksG (mA A k) nxA n xs):=by
  have h:=mark_loop (A:=A) (mA A k) nxA (f:=laws_markAnswerS_t_b0 A k) (k:=k) ans0 xs (by omega) (n:=n) (C:=7) (by omega) (by omega) (nxA_bound xs)
    (fun i m L hi hy hg h0 h1=>by
      have hiL : i < L.length:=by omega
      have hi' : (i : Int) < (L.length : Int):=by omega
      have w1 : A.wrapI .i64 (m + 1) = m + 1:=a_wrap (by omega) (by omega)
      have w2 : A.wrapI .i64 (m + 1 + 1) = m + 2:=by rw [a_wrap (by omega) (by omega)]; omega
      have w3 : A.wrapI .i64 (m + 2 + 1) = m + 3:=by rw [a_wrap (by omega) (by omega)]; omega
      have w4 : A.wrapI .i64 (m + 3 + 1) = m + 4:=by rw [a_wrap (by omega) (by omega)]; omega
      have w5 : A.wrapI .i64 (m + 4 + 1) = m + 5:=by rw [a_wrap (by omega) (by omega)]; omega
      have w6 : A.wrapI .i64 (m + 5 + 1) = m + 6:=by rw [a_wrap (by omega) (by omega)]; omega
      have w7 : A.wrapI .i64 (m + 6 + 1) = m + 7:=by rw [a_wrap (by omega) (by omega)]; omega
      have w : A.wrapI .i64 ((i : Int) + 1) = ((i + 1 : Nat) : Int):=by rw [a_wrap (by omega) (by omega)]; rfl
      have ge : ∀ (M : List Ans) (x d : Ans),i < M.length→(M.set i x).getD i d = x:=fun M x d h=>by rw [getD_lt (by simpa using h)]; simp
      have ls : ∀ (M : List Ans) (x : Ans),(M.set i x).length = M.length:=fun M x=>by simp
      simp only [laws_markAnswerS_t_b0,a_cndS,a_ltI,a_lenL,a_le0,a_andB,hi',Int.natCast_nonneg,decide_true,Bool.and_self,if_true,a_setL,a_atL,Int.toNat_natCast,a_obind_some,a_addI,w,w1,w2,w3,w4,w5,w6,w7,ls,ge,List.set_set,hg,hiL,
        markText_eq k (show 100≤k by omega) (m + 3) (by omega)]
      rfl)
    (fun m ys hy=>by simp [laws_markAnswerS_t_b0,hy])
  simp only [laws_markAnswerS_t,h,a_obind_some]
theorem markConfig_eq2 (k : Nat) (n : Int) (c : Cfg) (hk : c.2.1.length < k) (hl : c.2.1.length≤1000000000) (h0 : 0≤n) (h1 : n≤100000000000000) : laws_markConfig_t A k ((),(n,())) c = some ((n + c.2.1.length,()),(c.1,(marks n c.2.1.length,c.2.2))):=by
  simp [laws_markConfig_t,markIntS_eq2 k n c.2.1 hk hl h0 h1]
def e1C (c : Chn) : Int:=1 + 2 * c.1.2.1.length + 3 * c.1.2.2.1.length
def e2C (c : Chn) : Int:=e1C c + c.2.1.2.1.length
def e3C (c : Chn) : Int:=endG nxR (e2C c) c.2.2.1
def e4C (c : Chn) : Int:=endG nxB (e3C c) c.2.2.2.1
def e5C (c : Chn) : Int:=endG nxM (e4C c) c.2.2.2.2.1
def e6C (c : Chn) : Int:=endG nxA (e5C c) c.2.2.2.2.2.1
theorem eC_bounds {c : Chn} (h : ChnZ c) : (0≤e1C c∧e1C c≤100000000)∧(0≤e2C c∧e2C c≤100000000)∧(0≤e3C c∧e3C c≤20000000000000)∧(0≤e4C c∧e4C c≤20000000000000)∧(0≤e5C c∧e5C c≤40000000000000)∧(0≤e6C c∧e6C c≤50000000000000):=by
  obtain ⟨⟨s1,s2⟩,h2,⟨h3,h4⟩,h5,⟨h6,h7⟩,h8⟩:=h
  have a1 : 0≤e1C c∧e1C c≤10000000:=by unfold e1C; omega
  have a2 : 0≤e2C c∧e2C c≤20000000:=by unfold e2C; omega
  have a3:=endG_bound nxR (C:=7340037) (by omega) (nxR_bound _ h4) (n:=e2C c) a2.1
  have a4:=endG_bound nxB (C:=1) (by omega) (nxB_bound c.2.2.2.1) (n:=e3C c) (by unfold e3C; omega)
  have a5:=endG_bound nxM (C:=7340037) (by omega) (nxM_bound _ h7) (n:=e4C c) (by unfold e4C; unfold e3C at *; omega)
  have a6:=endG_bound nxA (C:=7) (by omega) (nxA_bound c.2.2.2.2.2.1) (n:=e5C c) (by unfold e5C; unfold e4C e3C at *; omega)
  have b3 : e3C c = endG nxR (e2C c) c.2.2.1:=rfl
  have b4 : e4C c = endG nxB (e3C c) c.2.2.2.1:=rfl
  have b5 : e5C c = endG nxM (e4C c) c.2.2.2.2.1:=rfl
  have b6 : e6C c = endG nxA (e5C c) c.2.2.2.2.2.1:=rfl
  refine ⟨⟨by omega,by omega⟩,⟨by omega,by omega⟩,⟨by omega,by omega⟩,⟨by omega,by omega⟩,⟨by omega,by omega⟩,⟨by omega,by omega⟩⟩
def mC (A : Atoms) (k : Nat) (c : Chn) : Chn :=
  (mStt A k 1 c.1,((c.2.1.1,(marks (e1C c) c.2.1.2.1.length,c.2.1.2.2)),(marksG (mR A k) nxR (e2C c) c.2.2.1,(marksG mB nxB (e3C c) c.2.2.2.1,(marksG (mM A k) nxM (e4C c) c.2.2.2.2.1,(marksG (mA A k) nxA (e5C c) c.2.2.2.2.2.1,c.2.2.2.2.2.2))))))
theorem markChain_eq (k : Nat) (hk : 2000000≤k) (c : Chn) (h : ChnZ c) : laws_markChain_t A k ((),(1,())) c = some ((e6C c,()),mC A k c):=by
  obtain ⟨b1,b2,b3,b4,b5,b6⟩:=eC_bounds h
  obtain ⟨hs,h2,⟨h3,h4⟩,h5,⟨h6,h7⟩,h8⟩:=h
  have m1:=markState_eq (A:=A) k hk 1 c.1 hs (by omega) (by omega)
  have m2:=markConfig_eq2 (A:=A) k (e1C c) c.2.1 (by omega) (by omega) (by omega) (by omega)
  have m3:=markReplicaS_eqn (A:=A) k hk (e2C c) c.2.2.1 h3 h4 (by omega) (by omega)
  have m4:=markBoolS_eqn (A:=A) k hk (e3C c) c.2.2.2.1 h5 (by omega) (by omega)
  have m5:=markMessageS_eqn (A:=A) k hk (e4C c) c.2.2.2.2.1 h6 h7 (by omega) (by omega)
  have m6:=markAnswerS_eqn (A:=A) k hk (e5C c) c.2.2.2.2.2.1 h8 (by omega) (by omega)
  simp only [laws_markChain_t,m1,a_obind_some]
  rw [show (1 : Int) + 2 * (c.1.2.1.length : Int) + 3 * (c.1.2.2.1.length : Int) = e1C c from rfl,m2]
  simp only [a_obind_some]
  rw [show e1C c + (c.2.1.2.1.length : Int) = e2C c from rfl,m3]
  simp only [a_obind_some]
  rw [show endG nxR (e2C c) c.2.2.1 = e3C c from rfl,m4]
  simp only [a_obind_some]
  rw [show endG nxB (e3C c) c.2.2.2.1 = e4C c from rfl,m5]
  simp only [a_obind_some]
  rw [show endG nxM (e4C c) c.2.2.2.2.1 = e5C c from rfl,m6]
  simp only [a_obind_some]
  rfl
/-! the logs -/
end
end Go.Den.T

namespace Go.Den.T
set_option linter.unusedVariables false
set_option linter.unusedSimpArgs false
set_option linter.unusedSectionVars false
section
variable {A : Atoms} [IsReal A]
/-! what a new chain is -/
def newNode (c : Cfg) (i : Nat) : Rep:=if (i : Int) ∈ c.2.1 then (c,(true,([],()))) else rep0
def newNodes (c : Cfg) (n : Nat) : List Rep:=(List.range n).map (newNode c)
abbrev chn0 : Chn:=(stt0,((0,([],(false,()))),([],([],([],([],()))))))
def newC (s : Stt) (ms : List Int) : Chn:=if (stOk s && cfgOk (1,(ms,(false,())))) = true then (s,((1,(ms,(false,()))),(newNodes (1,(ms,(false,()))) 5,(List.replicate 5 true,([],([],())))))) else chn0
theorem spec_NewChain_eq (k : Nat) (hk : 2000000≤k) (s : Stt) (ms : List Int) (hs : StShort s) (hm : ms.length≤1048576) : spec_NewChain_t A k (s,(ms,())) () = some ((newC s ms,()),()):=by
  have h2:=hs.2
  have h1:=hs.1
  have g : (ms.length : Int) < 4294967296:=by omega
  have g' : ((([] : List Int).length : Nat) : Int) + (ms.length : Int) < 4294967296:=by simp; omega
  simp only [spec_NewChain_t,a_cndS,a_addI,a_lenL,a_big,a_ltI,g',decide_true,if_true,spec_StateValid_eq k (by omega : 60≤k) s (by omega) (by omega),a_obind_some,a_notB,a_appL,List.nil_append,spec_ConfigValid_eq k (by omega : 10≤k)]
  cases h3 : stOk s with
  | false=>simp [newC,h3]
  | true =>
    cases h4 : cfgOk (1,(ms,(false,()))) with
    | false=>simp [newC,h3,h4]
    | true =>
      have hl : ms.length≤4:=by
        have h4':=h4
        simp only [cfgOk,Bool.and_eq_true,decide_eq_true_eq] at h4'
        exact h4'.2.1.2
      simp only [Bool.not_true,Bool.false_eq_true,if_false,a_obind_some,a_sumE_inl,l10Copy_eq k s (by omega) (by omega)]
      have h:=iter_for (A:=A) (k:=k) (f:=spec_NewChain_t_b0 A k) (fun i=>((i : Int),(chn0,((1,(ms,(false,()))),((s,((1,(ms,(false,()))),(newNodes (1,(ms,(false,()))) i,(List.replicate i true,([],([],())))))),()))))) 5 (chn0,((s,((1,(ms,(false,()))),(newNodes (1,(ms,(false,()))) 5,(List.replicate 5 true,([],([],())))))),()))
        (fun i hi=>by
          have hi' : (i : Int) < 5:=by omega
          have w : A.wrapI .i64 ((i : Int) + 1) = ((i + 1 : Nat) : Int):=by rw [a_wrap (by omega) (by omega)]; rfl
          have ln : (newNodes (1,(ms,(false,()))) i).length = i:=by simp [newNodes]
          have sn : newNodes (1,(ms,(false,()))) (i + 1) = newNodes (1,(ms,(false,()))) i ++ [newNode (1,(ms,(false,()))) i]:=by simp [newNodes,List.range_succ]
          have sr : List.replicate (i + 1) true = List.replicate i true ++ [true]:=by rw [List.replicate_succ']
          have g1 : ((i : Nat) : Int) + ((1 : Nat) : Int) < 4294967296:=by omega
          simp only [spec_NewChain_t_b0,a_cndS,a_ltI,hi',decide_true,if_true,l16Index_eq k (1,(ms,(false,()))) (i : Int) (by show ms.length < k; omega) (by show ms.length≤_; omega),a_obind_some,a_leI,decide_eq_true_eq,l16Copy_eq k (1,(ms,(false,()))) (by show ms.length≤_; omega)]
          by_cases hin : (i : Int) ∈ ms
          · have:=idx_mem.2 hin
            have nn : newNode (1,(ms,(false,()))) i = ((1,(ms,(false,()))),(true,([],()))):=by simp [newNode,hin]
            simp only [this,if_true,a_obind_some,a_addI,a_lenL,ln,List.length_cons,List.length_nil,Nat.zero_add,a_big,g1,decide_true,List.length_replicate,w,a_appL,sn,sr,nn]
          · have : ¬ 0≤idx ms i:=fun h=>hin (idx_mem.1 h)
            have nn : newNode (1,(ms,(false,()))) i = rep0:=by simp [newNode,hin]
            simp only [this,if_false,a_obind_some,a_addI,a_lenL,ln,List.length_cons,List.length_nil,Nat.zero_add,a_big,g1,decide_true,if_true,List.length_replicate,w,a_appL,sn,sr,nn])
        (by simp [spec_NewChain_t_b0]) (by omega)
      have h' : A.iter k (spec_NewChain_t_b0 A k) ((0 : Int),(chn0,((1,(ms,(false,()))),((s,((1,(ms,(false,()))),(([] : List Rep),(([] : List Bool),(([] : List Msg),(([] : List Ans),())))))),())))) = _:=h
      rw [h',a_obind_some]
      simp [newC,h3,h4]
end
end Go.Den.T

namespace Go.Den.T
set_option linter.unusedVariables false
set_option linter.unusedSimpArgs false
set_option linter.unusedSectionVars false
section
variable {A : Atoms} [IsReal A]
theorem chn0_z : ChnZ chn0:=⟨⟨by simp,by simp⟩,by simp,⟨by simp,by simp⟩,by simp,⟨by simp,by simp⟩,by simp⟩
theorem newC_z (s : Stt) (ms : List Int) : ChnZ (newC s ms):=by
  unfold newC
  split
  · rename_i h
    simp only [Bool.and_eq_true] at h
    have h1:=st_short h.1
    have h2:=h.2
    simp only [cfgOk,Bool.and_eq_true,decide_eq_true_eq] at h2
    have hl : ms.length≤4:=h2.2.1.2
    refine ⟨⟨by show s.2.1.length≤_; omega,by show s.2.2.1.length≤_; omega⟩,by show ms.length≤_; omega,⟨by simp [newNodes],fun r hr=>?_⟩,by simp,⟨by simp,by simp⟩,by simp⟩
    have hr : r ∈ newNodes (1,(ms,(false,()))) 5:=hr
    simp only [newNodes,List.mem_map] at hr
    obtain ⟨i,_,rfl⟩:=hr
    unfold newNode
    split
    · exact ⟨by show ms.length≤_; omega,by simp⟩
    · exact ⟨by simp,by simp⟩
  · exact chn0_z
end
end Go.Den.T

namespace Go.Den.T
set_option linter.unusedVariables false
set_option linter.unusedSimpArgs false
set_option linter.unusedSectionVars false
section
variable {A : Atoms} [IsReal A]
def nodesI (c : Cfg) (i : Nat) : List Rep:=(List.range 5).map (fun j=>if j < i then newNode c j else rep0)
theorem nodesI_len (c : Cfg) (i : Nat) : (nodesI c i).length = 5:=by simp [nodesI]
theorem nodesI_succ (c : Cfg) (i : Nat) (hi : i < 5) : nodesI c (i + 1) = (nodesI c i).set i (newNode c i):=by
  apply List.ext_getElem
  · simp [nodesI]
  · intro j h1 h2
    simp only [nodesI,List.length_map,List.length_range] at h1
    rw [List.getElem_set]
    by_cases e : i = j
    · subst e; simp [nodesI]
    · have : (j < i + 1) = (j < i):=by simp; omega
      simp [nodesI,e,this]
theorem nodesI_same (c : Cfg) (i : Nat) (hi : i < 5) (h : newNode c i = rep0) : nodesI c (i + 1) = nodesI c i:=by
  rw [nodesI_succ c i hi]
  apply List.ext_getElem
  · simp
  · intro j h1 h2
    rw [List.getElem_set]
    by_cases e : i = j
    · subst e; rw [if_pos rfl,h]; simp [nodesI]
    · rw [if_neg e]
theorem nodesI_5 (c : Cfg) : nodesI c 5 = newNodes c 5:=by
  unfold nodesI newNodes
  apply List.map_congr_left
  intro j hj
  rw [if_pos (List.mem_range.1 hj)]
theorem nodesI_0 (c : Cfg) : nodesI c 0 = List.replicate 5 rep0:=by
  rw [List.eq_replicate_iff]
  refine ⟨by simp [nodesI],fun b hb=>?_⟩
  simp only [nodesI,List.mem_map] at hb
  obtain ⟨j,_,hj⟩:=hb
  rw [if_neg (by omega)] at hj; exact hj.symm
theorem impl_NewChain_eq (k : Nat) (hk : 2000000≤k) (s : Stt) (ms : List Int) (hs : StShort s) (hm : ms.length≤1048576) : impl_NewChain_t A k (s,(ms,())) () = some ((newC s ms,()),()):=by
  have h2:=hs.2
  have h1:=hs.1
  have q1:=impl_StateValid_eq (A:=A) k (by omega) s (by omega) (by omega)
  have q2:=impl_ConfigValid_eq (A:=A) k (by omega) (1,(ms,(false,())))
  rw [impl_NewChain_t,copyOf_int_eq k ms (by omega),a_obind_some,q1,a_obind_some]
  simp only [a_cndS,a_notB]
  cases h3 : stOk s with
  | false=>simp [newC,h3]
  | true =>
    simp only [Bool.not_true,Bool.false_eq_true,if_false,q2,a_obind_some]
    cases h4 : cfgOk (1,(ms,(false,()))) with
    | false=>simp [newC,h3,h4]
    | true =>
      have g5 : (5 : Int) < 4294967296:=by omega
      simp only [Bool.not_true,Bool.false_eq_true,if_false,a_obind_some,a_sumE_inl,copyState_eq k s (by omega) (by omega),a_le0,a_leI,a_ltI,a_big,a_andB,g5,a_repL,a_lenL]
      have h:=iter_for (A:=A) (k:=k) (f:=impl_NewChain_t_b0 A k) (fun i=>(ms,((5 : Int),((i : Int),(chn0,((s,((1,(ms,(false,()))),(nodesI (1,(ms,(false,()))) i,(List.replicate i true,([],([],())))))),())))))) 5 (chn0,((s,((1,(ms,(false,()))),(nodesI (1,(ms,(false,()))) 5,(List.replicate 5 true,([],([],())))))),()))
        (fun i hi=>by
          have hi' : (i : Int) < 5:=by omega
          have w : A.wrapI .i64 ((i : Int) + 1) = ((i + 1 : Nat) : Int):=by rw [a_wrap (by omega) (by omega)]; rfl
          have ln:=nodesI_len (1,(ms,(false,()))) i
          have sr : List.replicate (i + 1) true = List.replicate i true ++ [true]:=by rw [List.replicate_succ']
          have g1 : ((i : Nat) : Int) + ((1 : Nat) : Int) < 4294967296:=by omega
          simp only [impl_NewChain_t_b0,a_cndS,a_ltI,hi',decide_true,if_true,a_addI,a_lenL,List.length_replicate,List.length_cons,List.length_nil,Nat.zero_add,a_big,g1,slices_Contains_eq k ms (i : Int) (by omega) (by omega),a_obind_some]
          by_cases hin : (i : Int) ∈ ms
          · have nn : newNode (1,(ms,(false,()))) i = ((1,(ms,(false,()))),(true,([],()))):=by simp [newNode,hin]
            have hi5 : (i : Int) < ((5 : Nat) : Int):=by omega
            simp only [hin,decide_true,if_true,copyConfig_eq k (1,(ms,(false,()))) (by show ms.length≤_; omega),a_obind_some,a_le0,a_andB,Int.natCast_nonneg,ln,hi5,Bool.and_self,w,a_setL,Int.toNat_natCast,a_appL,sr,nodesI_succ (1,(ms,(false,()))) i hi,nn]
          · have nn : newNode (1,(ms,(false,()))) i = rep0:=by simp [newNode,hin]
            simp only [hin,decide_false,Bool.false_eq_true,if_false,w,a_appL,sr,nodesI_same (1,(ms,(false,()))) i hi nn])
        (by simp [impl_NewChain_t_b0]) (by omega)
      rw [nodesI_5] at h
      have h' : A.iter k (impl_NewChain_t_b0 A k) (ms,((5 : Int),((0 : Int),(chn0,((s,((1,(ms,(false,()))),(nodesI (1,(ms,(false,()))) 0,(([] : List Bool),(([] : List Msg),(([] : List Ans),())))))),()))))) = some (chn0,((s,((1,(ms,(false,()))),(newNodes (1,(ms,(false,()))) 5,(List.replicate 5 true,([],([],())))))),())):=h
      rw [nodesI_0] at h'
      simp only [show (0 : Int)≤5 from by omega,Int.le_refl,decide_true,Bool.and_self,if_true,show Int.toNat 5 = 5 from rfl]
      show A.obind (A.iter k (impl_NewChain_t_b0 A k) (ms,((5 : Int),((0 : Int),(chn0,((s,((1,(ms,(false,()))),(List.replicate 5 rep0,(([] : List Bool),(([] : List Msg),(([] : List Ans),())))))),())))))) _ = _
      rw [h',a_obind_some]
      simp [newC,h3,h4]
end
end Go.Den.T

namespace Go.Den.T
set_option linter.unusedVariables false
set_option linter.unusedSimpArgs false
set_option linter.unusedSectionVars false
section
variable {A : Atoms} [IsReal A]
theorem heldR_step (k : Nat) (hk : 2000000≤k) (L : List Rep) (i : Nat) (hi : i < L.length) (hl : L.length≤1000000000) (m : Rep) (n : Int) (hm : L.getD i rep0 = mR A k n m) (hz : RepZ m) (h0 : 0≤n) (h1 : n≤80000000000000) :
    laws_heldReplicaS_t_b0 A k (L,(n,((i : Int),()))) = some (.inl (L,(nxR n m,(((i + 1 : Nat) : Int),())))):=by
  obtain ⟨z1,z2⟩:=hz
  have hi' : (i : Int) < (L.length : Int):=by omega
  have w1 : A.wrapI .i64 (n + 1) = n + 1:=a_wrap (by omega) (by omega)
  have w2 : A.wrapI .i64 (n + 1 + (m.1.2.1.length : Int) + 1) = n + 2 + (m.1.2.1.length : Int):=by rw [a_wrap (by omega) (by omega)]; omega
  have w3 : A.wrapI .i64 (n + 2 + (m.1.2.1.length : Int) + 1) = n + 3 + (m.1.2.1.length : Int):=by rw [a_wrap (by omega) (by omega)]; omega
  have w : A.wrapI .i64 ((i : Int) + 1) = ((i + 1 : Nat) : Int):=by rw [a_wrap (by omega) (by omega)]; rfl
  have h3 : ¬ (3 : Int) = 0:=by decide
  have hb : ∀ b : Bool,(!(b == b)) = false:=by decide
  have p1 : ¬ n + 1 + (m.1.2.1.length : Int) < 0:=by omega
  have p2 : ¬ n + 3 + (m.1.2.1.length : Int) + 6 * (m.2.2.1.length : Int) < 0:=by omega
  simp only [laws_heldReplicaS_t_b0,a_cndS,a_ltI,a_lenL,a_le0,a_andB,hi',Int.natCast_nonneg,decide_true,Bool.and_self,if_true,a_atL,Int.toNat_natCast,a_obind_some,a_addI,w,w1,w2,w3,hm,mR,
    heldIntS_eq2 k (n + 1) m.1.2.1.length (by omega) (by omega) (by omega) (by omega),heldEntryS_eq k (by omega) (n + 3 + (m.1.2.1.length : Int)) m.2.2.1.length (by omega) (by omega) (by omega) (by omega),a_eqI,a_eqB,a_notB,a_remI,h3,decide_false,Bool.not_false,Bool.not_true,Bool.false_eq_true,if_false,p1,p2,hb]
  rfl
theorem heldReplicaS_eqn (k : Nat) (hk : 2000000≤k) (n : Int) (xs : List Rep) (hl : xs.length≤1048576) (hz : ∀ m ∈ xs,RepZ m) (h0 : 0≤n) (h1 : n≤50000000000000) : laws_heldReplicaS_t A k (marksG (mR A k) nxR n xs,(n,())) () = some ((endG nxR n xs,()),()):=by
  have h:=held_loop (A:=A) (mR A k) nxR (f:=laws_heldReplicaS_t_b0 A k) (k:=k) rep0 xs (by omega) (n:=n) (C:=7340037) (by omega) (by omega) (nxR_bound xs hz)
    (fun i m ys hi hy hg h0 h1=>heldR_step k hk ys i (by omega) (by omega) xs[i] m hg (hz _ (List.getElem_mem hi)) h0 (by omega))
    (fun m ys hy=>by simp [laws_heldReplicaS_t_b0,hy])
  simp only [laws_heldReplicaS_t,h,a_obind_some,a_sumE_inl]
theorem heldBoolS_eqn (k : Nat) (hk : 2000000≤k) (n : Int) (xs : List Bool) (hl : xs.length≤1048576) (h0 : 0≤n) (h1 : n≤50000000000000) : laws_heldBoolS_t A k (marksG mB nxB n xs,(n,())) () = some ((endG nxB n xs,()),()):=by
  have h:=held_loop (A:=A) mB nxB (f:=laws_heldBoolS_t_b0 A k) (k:=k) false xs (by omega) (n:=n) (C:=1) (by omega) (by omega) (nxB_bound xs)
    (fun i m ys hi hy hg h0 h1=>by
      have hi' : (i : Int) < (ys.length : Int):=by omega
      have h3 : ¬ (3 : Int) = 0:=by decide
      have hb : ∀ b : Bool,(!(b == b)) = false:=by decide
      have w1 : A.wrapI .i64 (m + 1) = m + 1:=a_wrap (by omega) (by omega)
      have w : A.wrapI .i64 ((i : Int) + 1) = ((i + 1 : Nat) : Int):=by rw [a_wrap (by omega) (by omega)]; rfl
      simp only [laws_heldBoolS_t_b0,a_cndS,a_ltI,a_lenL,a_le0,a_andB,hi',Int.natCast_nonneg,decide_true,Bool.and_self,if_true,a_atL,Int.toNat_natCast,a_obind_some,a_addI,w,w1,hg,mB,a_eqI,a_eqB,a_notB,a_remI,h3,decide_false,Bool.not_false,Bool.not_true,Bool.false_eq_true,if_false,hb]
      rfl)
    (fun m ys hy=>by simp [laws_heldBoolS_t_b0,hy])
  simp only [laws_heldBoolS_t,h,a_obind_some,a_sumE_inl]
theorem heldAnswerS_nil (k : Nat) (hk : 2000000≤k) (n : Int) : laws_heldAnswerS_t A k (([] : List Ans),(n,())) () = some ((n,()),()):=by
  have h:=iter_for (A:=A) (k:=k) (f:=laws_heldAnswerS_t_b0 A k) (fun i=>(([] : List Ans),(n,((i : Int),())))) 0 (.inl (n,())) (fun i hi=>by omega) (by simp [laws_heldAnswerS_t_b0]) (by omega)
  have h' : A.iter k (laws_heldAnswerS_t_b0 A k) (([] : List Ans),(n,((0 : Int),()))) = some (.inl (n,())):=h
  simp only [laws_heldAnswerS_t,h',a_obind_some,a_sumE_inl]
theorem heldChain_eq (k : Nat) (hk : 2000000≤k) (c : Chn) (h : ChnZ c) (h6 : c.2.2.2.2.2.1 = []) : laws_heldChain_t A k (mC A k c,(1,())) () = some ((e6C c,()),()):=by
  obtain ⟨b1,b2,b3,b4,b5,b6⟩:=eC_bounds h
  obtain ⟨hs,h2,⟨h3,h4⟩,h5,⟨h6',h7⟩,h8⟩:=h
  have m1:=heldState_eq (A:=A) k hk 1 c.1 hs (by omega) (by omega)
  have m2:=heldConfig_eq (A:=A) k (e1C c) c.2.1.1 c.2.1.2.1.length c.2.1.2.2 (by omega) (by omega) (by omega) (by omega)
  have m3:=heldReplicaS_eqn (A:=A) k hk (e2C c) c.2.2.1 h3 h4 (by omega) (by omega)
  have m4:=heldBoolS_eqn (A:=A) k hk (e3C c) c.2.2.2.1 h5 (by omega) (by omega)
  have m5:=heldMessageS_eqn (A:=A) k hk (e4C c) c.2.2.2.2.1 h6' h7 (by omega) (by omega)
  have m6:=heldAnswerS_nil (A:=A) k hk (e5C c)
  have e6 : e6C c = e5C c:=by unfold e6C; rw [h6]; rfl
  have p1 : ¬ e1C c < 0:=by omega
  have p2 : ¬ e2C c < 0:=by omega
  have p3 : ¬ e3C c < 0:=by omega
  have p4 : ¬ e4C c < 0:=by omega
  have p5 : ¬ e5C c < 0:=by omega
  rw [show (1 : Int) + 2 * (c.1.2.1.length : Int) + 3 * (c.1.2.2.1.length : Int) = e1C c from rfl] at m1
  rw [show e1C c + (c.2.1.2.1.length : Int) = e2C c from rfl] at m2
  rw [show endG nxR (e2C c) c.2.2.1 = e3C c from rfl] at m3
  rw [show endG nxB (e3C c) c.2.2.2.1 = e4C c from rfl] at m4
  rw [show endG nxM (e4C c) c.2.2.2.2.1 = e5C c from rfl] at m5
  have e0 : marksG (mA A k) nxA (e5C c) c.2.2.2.2.2.1 = []:=by rw [h6]; rfl
  simp only [laws_heldChain_t,mC,e0,m1,m2,m3,m4,m5,m6,a_obind_some,a_ltI,p1,p2,p3,p4,p5,decide_false,a_cndS,Bool.false_eq_true,if_false,e6]
theorem newC_ans (s : Stt) (ms : List Int) : (newC s ms).2.2.2.2.2.1 = []:=by
  unfold newC; split <;> rfl
theorem FnExactNewChain_true (k : Nat) (hk : 2000000≤k) (s : Stt) (ms : List Int) (hf : StFit s) : laws_FnExactNewChain_t A k (s,(ms,())) () = some ((true,()),()):=by
  rw [← ok_eq,laws_FnExactNewChain_t,ok_cndS]
  simp only [a_ltI,a_lenL,decide_eq_true_eq,decide_eq_false_iff_not]
  refine ⟨fun _=>ok_some.2 rfl,fun hm=>?_⟩
  have hm : ms.length≤1048576:=by omega
  refine (szState_ok k s hk hf).bind fun q hq=>?_
  rw [ok_cndS]
  simp only [decide_eq_true_eq,decide_eq_false_iff_not]
  refine ⟨fun _=>ok_some.2 rfl,fun hn=>?_⟩
  have hs:=hq.resolve_left hn
  have hz:=newC_z s ms
  obtain ⟨b1,b2,b3,b4,b5,b6⟩:=eC_bounds hz
  have i1:=impl_NewChain_eq (A:=A) k hk s ms hs hm
  have i2:=spec_NewChain_eq (A:=A) k hk s ms hs hm
  have t1:=toState_eq (A:=A) k hk s hs
  have t2:=toIntS_eq (A:=A) k ms (by omega) (by omega)
  have c1:=eqChain_eq (A:=A) k (newC s ms) (newC s ms) hk hz
  have c2:=eqState_eq (A:=A) k hk s s hs
  have c3:=eqIntS_eq (A:=A) k ms ms (by omega) (by omega)
  have m1:=markState_eq (A:=A) k hk 1 s hs (by omega) (by omega)
  have m2:=markIntS_eq (A:=A) k (1 + 2 * (s.2.1.length : Int) + 3 * (s.2.2.1.length : Int)) ms (by omega) (by omega) (by omega) (by have:=hs.1; have:=hs.2; omega)
  have m3:=markChain_eq (A:=A) k hk (newC s ms) hz
  have m4:=heldChain_eq (A:=A) k hk (newC s ms) hz (newC_ans s ms)
  have n1 : ¬ 1 + 2 * (s.2.1.length : Int) + 3 * (s.2.2.1.length : Int) + (ms.length : Int) < 0:=by omega
  have n2 : ¬ e6C (newC s ms) < 0:=by omega
  simp only [decide_true] at c1 c2 c3
  rw [ok_eq]
  simp only [t1,t2,i1,i2,c1,c2,c3,m1,m2,m3,m4,a_obind_some,a_notB,Bool.not_true,a_cndS,Bool.false_eq_true,if_false,n1,n2,decide_false,a_sumE_inl,a_eqI,decide_true]
end
theorem FnExactNewChain_pure (s : TStt.val) (h : InR TStt s) (ms : (Ty.slice (.int .i64)).val) (_ : InR (.slice (.int .i64)) ms) : ∃ k,laws_FnExactNewChain_t real k (s,(ms,())) () = some ((true,()),()) :=
  haveI:=isReal_real
  ⟨2000000,FnExactNewChain_true 2000000 (by omega) s ms (st_fit h)⟩
end Go.Den.T
