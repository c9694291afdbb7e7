/- Configurations: what the program's and the reference's functions come to. -/
import Derived.Test.YtojleoiiijlhaaaXDm4
import Derived.Test.YtojleoiiijlhaaaXPm1
import Derived.Test.YtojleoiiijlhaaaXPm2

namespace Go.Den.T
set_option linter.unusedVariables false
set_option linter.unusedSimpArgs false
variable {A : Atoms} [IsReal A]
abbrev Cfg:=Int × (List Int × (Bool × Unit))

theorem nodeValid_eq (k : Nat) (v : Int) : impl_nodeValid_t A k (v,()) () = some ((decide (0≤v∧v≤4),()),()):=by
  simp only [impl_nodeValid_t,a_cndS,a_leI,a_ltI,if_true,decide_eq_true_eq]
  by_cases h : 0≤v <;> simp [h]; omega
theorem l1In_eq (k : Nat) (v a b : Int) : spec_l1In_t A k (v,(a,(b,()))) () = some ((decide (a≤v∧v≤b),()),()):=by
  simp only [spec_l1In_t,a_cndS,a_leI,if_true,decide_eq_true_eq]
  by_cases h : a≤v <;> simp [h]

def idx (xs : List Int) (v : Int) : Int:=((List.range xs.length).findSome? fun i=>if v = xs.getD i 0 then some (i : Int) else none).getD (-1)
theorem idx_cases (xs : List Int) (v : Int) : (idx xs v = -1∧v ∉ xs)∨∃ i : Nat,idx xs v = i∧i < xs.length∧xs.getD i 0 = v∧∀ j,j < i→xs.getD j 0 ≠ v:=by
  rcases range_find (n:=xs.length) (f:=fun i=>if v = xs.getD i 0 then some (i : Int) else none) with ⟨e,h⟩ | ⟨i,x,h1,h2,h3,e⟩
  · refine .inl ⟨by rw [idx,e]; rfl,fun hm=>?_⟩
    obtain ⟨i,hi,rfl⟩:=List.mem_iff_getElem.1 hm
    have:=h i hi
    rw [getD_lt hi,if_pos rfl] at this; cases this
  · by_cases hv : v = xs.getD i 0
    · rw [if_pos hv] at h2; cases h2
      exact .inr ⟨i,by rw [idx,e]; rfl,h1,hv.symm,fun j hj hjv=>by have:=h3 j hj; rw [if_pos hjv.symm] at this; cases this⟩
    · rw [if_neg hv] at h2; cases h2
theorem idx_mem {xs : List Int} {v : Int} : 0≤idx xs v ↔ v ∈ xs:=by
  rcases idx_cases xs v with ⟨e,h⟩ | ⟨i,e,h1,h2,_⟩
  · simp [e,h]
  · rw [e]; simp only [Int.natCast_nonneg,true_iff]; rw [← h2,getD_lt h1]; exact List.getElem_mem h1
theorem slices_Index_eq (k : Nat) (xs : List Int) (v : Int) (hk : xs.length < k) (hl : xs.length≤1000000000000) : slices_Index_int_t A k (xs,(v,())) () = some ((idx xs v,()),()):=by
  have h:=iter_walk (A:=A) (f:=slices_Index_int_t_b0 A k) (fun i=>(xs,(v,((xs.length : Int),((i : Int),()))))) xs.length (fun i=>if v = xs.getD i 0 then some (.inr (((i : Int),()),())) else none) (.inl ())
    (fun i hi=>by
      simp (disch:=omega) [slices_Index_int_t_b0,hi,a_wrap]
      by_cases hv : v = xs[i] <;> simp [hv])
    (by simp [slices_Index_int_t_b0]) hk
  simp only [slices_Index_int_t,a_lenL]
  rw [show ((0 : Int)) = ((0 : Nat) : Int) from rfl,h,idx]
  rw [findSome_map (List.range xs.length) (fun i=>v = xs.getD i 0) (fun i=>(i : Int)) (fun i=>Sum.inr (α:=Unit) ((i,()),()))]
  cases (List.range xs.length).findSome? fun i=>if v = xs.getD i 0 then some (i : Int) else none <;> simp
theorem slices_Contains_eq (k : Nat) (xs : List Int) (v : Int) (hk : xs.length < k) (hl : xs.length≤1000000000000) : slices_Contains_int_t A k (xs,(v,())) () = some ((decide (v ∈ xs),()),()):=by
  simp [slices_Contains_int_t,slices_Index_eq k xs v hk hl,idx_mem]
theorem l16Index_eq (k : Nat) (c : Cfg) (v : Int) (hk : c.2.1.length < k) (hl : c.2.1.length≤1000000000000) : spec_l16Index_t A k (c,(v,())) () = some ((idx c.2.1 v,()),()):=by
  obtain ⟨ep,xs,fr,_⟩:=c
  simp only at hk hl
  have h:=iter_walk (A:=A) (f:=spec_l16Index_t_b0 A k) (fun i=>(v,((i : Int),((ep,(xs,(fr,()))),())))) xs.length (fun i=>if v = xs.getD i 0 then some (.inr (((i : Int),()),())) else none) (.inl ())
    (fun i hi=>by
      simp (disch:=omega) [spec_l16Index_t_b0,hi,a_wrap]
      by_cases hv : v = xs[i]
      · simp [hv]
      · simp [hv,Ne.symm hv])
    (by simp [spec_l16Index_t_b0]) hk
  simp only [spec_l16Index_t]
  rw [show ((0 : Int)) = ((0 : Nat) : Int) from rfl,h,idx]
  rw [findSome_map (List.range xs.length) (fun i=>v = xs.getD i 0) (fun i=>(i : Int)) (fun i=>Sum.inr (α:=Unit) ((i,()),()))]
  cases (List.range xs.length).findSome? fun i=>if v = xs.getD i 0 then some (i : Int) else none <;> simp

/-! ### valid configurations -/
def membersOk (xs : List Int) : Bool:=(List.range xs.length).all fun i=>decide (0≤xs.getD i 0∧xs.getD i 0≤4) && !decide (xs.getD i 0 ∈ xs.take i)
def cfgOk (c : Cfg) : Bool:=decide (1≤c.1∧c.1≤60) && (decide (1≤c.2.1.length∧c.2.1.length≤4) && (!(c.2.2.1 && decide (c.2.1.length < 2)) && membersOk c.2.1))

theorem impl_ConfigValid_eq (k : Nat) (hk : 10≤k) (c : Cfg) : impl_ConfigValid_t A k (c,()) () = some ((cfgOk c,()),()):=by
  obtain ⟨ep,xs,fr,_⟩:=c
  have h : xs.length≤4→A.iter k (impl_ConfigValid_t_b0 A k) (xs,((xs.length : Int),(((0 : Nat) : Int),((ep,(xs,(fr,()))),())))) = some (if membersOk xs = true then .inl () else .inr ((false,()),())):=fun hl =>
    iter_all (A:=A) (f:=impl_ConfigValid_t_b0 A k) (fun i=>(xs,((xs.length : Int),((i : Int),((ep,(xs,(fr,()))),()))))) xs.length (fun i=>decide (0≤xs.getD i 0∧xs.getD i 0≤4) && !decide (xs.getD i 0 ∈ xs.take i)) (.inr ((false,()),())) (.inl ())
    (fun i hi=>by
      have hle : (i : Int)≤(xs.length : Int):=by omega
      simp (disch:=omega) [impl_ConfigValid_t_b0,hi,hle,a_wrap,nodeValid_eq]
      rw [slices_Contains_eq k (xs.take i) xs[i] (by simp; omega) (by simp; omega)]
      by_cases h1 : 0≤xs[i]∧xs[i]≤4
      · by_cases h2 : xs[i] ∈ xs.take i <;> simp [h1,h2]
      · simp [h1])
    (by simp [impl_ConfigValid_t_b0]) (by omega)
  have h':=fun hl=>h hl
  simp only [Int.natCast_zero,Int.ofNat_zero] at h'
  simp only [impl_ConfigValid_t,cfgOk,a_cndS,a_ltI,a_lenL,decide_eq_true_eq,Bool.false_eq_true,if_true,if_false]
  by_cases h1 : ep < 1
  · simp [h1]; omega
  by_cases h2 : 60 < ep
  · simp [h1,h2]; omega
  by_cases h3 : (xs.length : Int) < 1
  · simp [h1,h2,h3]; omega
  by_cases h4 : (4 : Int) < (xs.length : Int)
  · simp [h1,h2,h3,h4]; omega
  have e1 : (1≤ep∧ep≤60):=by omega
  have e2 : (1≤xs.length∧xs.length≤4):=by omega
  by_cases h5 : fr = true
  · by_cases h6 : (xs.length : Int) < 2
    · have : xs.length < 2:=by omega
      simp [h1,h2,h3,h4,h5,h6,this]
    · have : ¬ xs.length < 2:=by omega
      subst h5
      simp [h1,h2,h3,h4,h6,this,e1,e2]
      rw [h' (by omega)]
      cases membersOk xs <;> simp
  · have h5 : fr = false:=by simpa using h5
    subst h5
    simp [h1,h2,h3,h4,e1,e2]
    rw [h' (by omega)]
    cases membersOk xs <;> simp
theorem not_mem_take {xs : List Int} {i : Nat} (hi : i < xs.length) {v : Int} : (List.range i).all (fun j=>!decide (xs.getD j 0 = v)) = !decide (v ∈ xs.take i):=by
  rw [Bool.eq_iff_iff,range_all]
  simp only [Bool.not_eq_true',decide_eq_false_iff_not]
  constructor
  · intro h hm
    obtain ⟨j,hj,he⟩:=List.mem_iff_getElem.1 hm
    simp at hj he
    exact h j (by omega) (by rw [getD_lt (by omega)]; exact he)
  · intro h j hj he
    refine h (List.mem_iff_getElem.2 ⟨j,by simp; omega,?_⟩)
    rw [getD_lt (by omega)] at he
    simpa using he
theorem spec_ConfigValid_eq (k : Nat) (hk : 10≤k) (c : Cfg) : spec_ConfigValid_t A k (c,()) () = some ((cfgOk c,()),()):=by
  obtain ⟨ep,xs,fr,_⟩:=c
  have h0 : xs.length≤4→∀ i,i < xs.length→A.iter k (spec_ConfigValid_t_b0 A k) ((i : Int),(((0 : Nat) : Int),((ep,(xs,(fr,()))),()))) = some (if (!decide (xs.getD i 0 ∈ xs.take i)) = true then .inl ((i : Int),((ep,(xs,(fr,()))),())) else .inr (.inr (.inr ((false,()),())))):=fun hl i hi=>by
    rw [← not_mem_take hi]
    exact iter_all (A:=A) (f:=spec_ConfigValid_t_b0 A k) (fun j=>((i : Int),((j : Int),((ep,(xs,(fr,()))),())))) i (fun j=>!decide (xs.getD j 0 = xs.getD i 0)) (.inr (.inr (.inr ((false,()),())))) (.inl ((i : Int),((ep,(xs,(fr,()))),())))
      (fun j hj=>by
        have h1 : j < xs.length:=by omega
        simp (disch:=omega) [spec_ConfigValid_t_b0,hi,hj,h1,a_wrap]
        by_cases hv : xs[j] = xs[i] <;> simp [hv])
      (by simp [spec_ConfigValid_t_b0]) (by omega)
  have h : xs.length≤4→A.iter k (spec_ConfigValid_t_b1 A k) (((0 : Nat) : Int),((ep,(xs,(fr,()))),())) = some (if membersOk xs = true then .inl () else .inr ((false,()),())):=fun hl =>
    iter_all (A:=A) (f:=spec_ConfigValid_t_b1 A k) (fun i=>((i : Int),((ep,(xs,(fr,()))),()))) xs.length (fun i=>decide (0≤xs.getD i 0∧xs.getD i 0≤4) && !decide (xs.getD i 0 ∈ xs.take i)) (.inr ((false,()),())) (.inl ())
    (fun i hi=>by
      have h0:=h0 hl i hi
      simp only [Int.ofNat_zero,Int.natCast_zero] at h0
      simp (disch:=omega) [spec_ConfigValid_t_b1,hi,a_wrap,l1In_eq]
      rw [h0]
      by_cases h1 : 0≤xs[i]∧xs[i]≤4
      · by_cases h2 : xs[i] ∈ xs.take i <;> simp (disch:=omega) [h1,h2,hi,a_wrap]
      · simp [h1])
    (by simp [spec_ConfigValid_t_b1]) (by omega)
  have h':=fun hl=>h hl
  simp only [Int.natCast_zero,Int.ofNat_zero] at h'
  simp only [spec_ConfigValid_t,cfgOk,l1In_eq,a_obind_some,a_cndS,a_ltI,a_lenL,a_notB,decide_eq_true_eq,Bool.false_eq_true,if_true,if_false,Bool.not_eq_true',decide_eq_false_iff_not]
  by_cases h1 : 1≤ep∧ep≤60
  case neg=>simp [h1]
  by_cases h2 : 1≤(xs.length : Int)∧(xs.length : Int)≤4
  case neg=>simp [h1,h2]; omega
  have e2 : (1≤xs.length∧xs.length≤4):=by omega
  by_cases h5 : fr = true
  · by_cases h6 : (xs.length : Int) < 2
    · have : xs.length < 2:=by omega
      simp [h1,h2,h5,h6,this]
    · have : ¬ xs.length < 2:=by omega
      subst h5
      simp [h1,h2,h6,this,e2]
      rw [h' (by omega)]
      cases membersOk xs <;> simp
  · have h5 : fr = false:=by simpa using h5
    subst h5
    simp [h1,h2,e2]
    rw [h' (by omega)]
    cases membersOk xs <;> simp

/-! ### the other functions -/
theorem l16Copy_eq (k : Nat) (c : Cfg) (h : c.2.1.length≤1000000000) : spec_l16Copy_t A k (c,()) () = some ((c,()),()):=by
  have : (c.2.1.length : Int) < 4294967296:=by omega
  simp [spec_l16Copy_t,this]
def without (c : Cfg) (i : Nat) : Cfg:=(c.1 + 1,(c.2.1.take i ++ c.2.1.drop (i + 1),((c.2.2.1 && !decide (i = c.2.1.length - 1)),())))
end Go.Den.T

namespace Go.Den.T
set_option linter.unusedVariables false
set_option linter.unusedSimpArgs false
variable {A : Atoms} [IsReal A]
theorem fill_step {α : Type} (xs : List α) (d e : α) (i n : Nat) (hn : n = xs.length) (h : i < n) : (xs.take i ++ List.replicate (n - i) d).set i (xs.getD i e) = xs.take (i + 1) ++ List.replicate (n - (i + 1)) d:=by
  subst hn
  rw [List.set_append_right _ _ (by simp; omega)]
  have e1 : i - (xs.take i).length = 0:=by simp; omega
  have e2 : xs.length - i = (xs.length - (i + 1)) + 1:=by omega
  rw [e1,e2,List.replicate_succ,List.set_cons_zero,List.take_succ_eq_append_getElem h,getD_lt h,List.append_assoc]
  rfl
theorem toIntS_eq (k : Nat) (xs : List Int) (hk : xs.length < k) (hl : xs.length≤1000000000) : laws_toIntS_t A k (xs,()) () = some ((xs,()),()):=by
  have h:=iter_for (A:=A) (f:=laws_toIntS_t_b0 A k) (fun i=>(xs,((i : Int),(xs.take i ++ List.replicate (xs.length - i) 0,())))) xs.length (xs,())
    (fun i hi=>by
      have e : min i xs.length + (xs.length - i) = xs.length:=by omega
      have:=fill_step xs 0 0 i xs.length rfl hi
      rw [getD_lt hi] at this
      simp (disch:=omega) [laws_toIntS_t_b0,hi,a_wrap,e,this])
    (by simp [laws_toIntS_t_b0]) hk
  have h1 : (xs.length : Int) < 4294967296:=by omega
  simp [laws_toIntS_t,h1]
  simp at h
  rw [h]; simp
theorem list_eq_iff {xs ys : List Int} (h : xs.length = ys.length) : (List.range xs.length).all (fun i=>decide (xs.getD i 0 = ys.getD i 0)) = decide (xs = ys):=by
  rw [Bool.eq_iff_iff,range_all,decide_eq_true_eq]
  constructor
  · intro hh
    refine List.ext_getElem h fun i h1 h2=>?_
    have:=hh i h1
    rw [getD_lt h1,getD_lt h2] at this; simpa using this
  · intro e i _; subst e; simp
theorem eqIntS_eq (k : Nat) (xs ys : List Int) (hk : xs.length < k) (hl : xs.length≤1000000000) : laws_eqIntS_t A k (xs,(ys,())) () = some ((decide (xs = ys),()),()):=by
  by_cases he : xs.length = ys.length
  · have h:=iter_all (A:=A) (f:=laws_eqIntS_t_b0 A k) (fun i=>(xs,(ys,((i : Int),())))) xs.length (fun i=>decide (xs.getD i 0 = ys.getD i 0)) (.inr ((false,()),())) (.inl ())
      (fun i hi=>by
        have hi' : i < ys.length:=by omega
        simp (disch:=omega) [laws_eqIntS_t_b0,hi,hi',a_wrap]
        by_cases hv : xs[i] = ys[i] <;> simp [hv])
      (by simp [laws_eqIntS_t_b0]) hk
    rw [list_eq_iff he] at h
    simp [laws_eqIntS_t,he]
    simp at h
    rw [h]
    by_cases hv : xs = ys <;> simp [hv]
  · have h2 : ¬ (xs.length : Int) = ys.length:=by omega
    have h3 : ¬ xs = ys:=fun e=>he (by rw [e])
    simp [laws_eqIntS_t,h2,h3]
theorem eqConfig_eq (k : Nat) (c d : Cfg) (hk : c.2.1.length < k) (hl : c.2.1.length≤1000000000) : laws_eqConfig_t A k (c,(d,())) () = some ((decide (c = d),()),()):=by
  obtain ⟨e1,xs,f1,_⟩:=c
  obtain ⟨e2,ys,f2,_⟩:=d
  simp only at hk hl
  simp [laws_eqConfig_t,eqIntS_eq k xs ys hk hl]
  by_cases h1 : e1 = e2
  · by_cases h2 : xs = ys
    · by_cases h3 : f1 = f2 <;> simp [h1,h2,h3]
    · simp [h1,h2]
  · simp [h1]
def marks (n : Int) (m : Nat) : List Int:=(List.range m).map fun i : Nat=>n + (i : Int)
@[simp] theorem marks_len (n : Int) (m : Nat) : (marks n m).length = m:=by simp [marks]
theorem marks_get {n : Int} {m i : Nat} (h : i < m) : (marks n m).getD i 0 = n + i:=by rw [getD_lt (by simpa using h)]; simp [marks]
theorem marks_succ (n : Int) (m : Nat) : marks n (m + 1) = marks n m ++ [n + m]:=by simp [marks,List.range_succ]
theorem mark_step (xs : List Int) (n : Int) (i : Nat) (h : i < xs.length) : (marks n i ++ xs.drop i).set i (n + i) = marks n (i + 1) ++ xs.drop (i + 1):=by
  rw [List.set_append_right _ _ (by simp)]
  simp only [marks_len,Nat.sub_self]
  rw [List.drop_eq_getElem_cons h,List.set_cons_zero,marks_succ]
  simp
theorem markIntS_eq (k : Nat) (n : Int) (xs : List Int) (hk : xs.length < k) (hl : xs.length≤1000000000) (h0 : 0≤n) (h1 : n≤1000000000000) : laws_markIntS_t A k ((),(n,())) xs = some ((n + xs.length,()),marks n xs.length):=by
  have h:=iter_for (A:=A) (f:=laws_markIntS_t_b0 A k) (fun i=>(n + (i : Int),((i : Int),(marks n i ++ xs.drop i,())))) xs.length (n + (xs.length : Int),(marks n xs.length,()))
    (fun i hi=>by
      have e : i + (xs.length - i) = xs.length:=by omega
      have:=mark_step xs n i hi
      simp (disch:=omega) [laws_markIntS_t_b0,hi,a_wrap,e,this]
      omega)
    (by simp [laws_markIntS_t_b0]) hk
  have z : marks n 0 = []:=rfl
  simp [z] at h
  simp [laws_markIntS_t,h]
theorem heldIntS_eq (k : Nat) (n : Int) (m : Nat) (hk : m < k) (hl : m≤1000000000) (h0 : 0≤n) (h1 : n≤1000000000000) : laws_heldIntS_t A k (marks n m,(n,())) () = some ((n + m,()),()):=by
  have h:=iter_for (A:=A) (f:=laws_heldIntS_t_b0 A k) (fun i=>(marks n m,(n + (i : Int),((i : Int),())))) m (.inl (n + (m : Int),()))
    (fun i hi=>by
      have e:=marks_get (n:=n) hi
      have hx : (marks n m)[i]?.getD 0 = n + i:=by simpa [List.getD] using e
      simp (disch:=omega) [laws_heldIntS_t_b0,hi,a_wrap,hx]
      omega)
    (by simp [laws_heldIntS_t_b0]) hk
  simp at h
  simp [laws_heldIntS_t,h]
theorem heldConfig_eq (k : Nat) (n ep : Int) (m : Nat) (q : Bool × Unit) (hk : m < k) (hl : m≤1000000000) (h0 : 0≤n) (h1 : n≤1000000000000) : laws_heldConfig_t A k ((ep,(marks n m,q)),(n,())) () = some ((n + m,()),()):=by
  have : ¬ n + (m : Int) < 0:=by omega
  simp [laws_heldConfig_t,heldIntS_eq k n m hk hl h0 h1,this]
end Go.Den.T

namespace Go.Den.T
set_option linter.unusedVariables false
set_option linter.unusedSimpArgs false
variable {A : Atoms} [IsReal A]
theorem copyOf_int_eq (k : Nat) (xs : List Int) (h : xs.length≤1000000000) : impl_copyOf_int_t A k (xs,()) () = some ((xs,()),()):=by
  have : (xs.length : Int) < 4294967296:=by omega
  simp [impl_copyOf_int_t,this]
theorem copyConfig_eq (k : Nat) (c : Cfg) (h : c.2.1.length≤1000000000) : impl_copyConfig_t A k (c,()) () = some ((c,()),()):=by
  simp [impl_copyConfig_t,copyOf_int_eq k c.2.1 h]
def after (c : Cfg) (n : Int) : Int:=if (cfgOk c && (decide (n ∈ c.2.1) && !decide (idx c.2.1 n = (c.2.1.length : Int) - 1))) = true then c.2.1.getD (idx c.2.1 n + 1).toNat 0 else -1
/-! ### a member taken away -/
/-! ### exact laws -/
end Go.Den.T

namespace Go.Den.T
set_option linter.unusedVariables false
set_option linter.unusedSimpArgs false
set_option linter.unusedSectionVars false
variable {A : Atoms} [IsReal A]
abbrev Cmd:=Int × (List UInt8 × (Int × (Int × Unit)))
abbrev Ent:=Int × (Int × (Cmd × Unit))
def letter (b : UInt8) : Bool:=decide (97≤b.toNat∧b.toNat≤122)
def keyOk (s : List UInt8) : Bool:=decide (1≤s.length∧s.length≤4) && s.all letter
theorem lettersOnly_eq : ∀ (k : Nat) (s : List UInt8),s.length < k→impl_lettersOnly_t A k (s,()) () = some ((s.all letter,()),())
  | 0,_,h=>by omega
  | k + 1,[],_=>by simp [impl_lettersOnly_t]
  | k + 1,b :: s,h=>by
    have ih:=lettersOnly_eq k s (by simpa using h)
    simp only [List.length_cons] at h
    have h1 : (0 : Int) < (s.length : Int) + 1:=by omega
    have h2 : (1 : Int)≤(s.length : Int) + 1:=by omega
    by_cases q1 : 97≤b.toNat
    · have q1' : (97 : Int)≤(b.toNat : Int):=by omega
      by_cases q2 : b.toNat≤122
      · have q2' : (b.toNat : Int)≤122:=by omega
        simp [impl_lettersOnly_t,h1,h2,q1,q1',q2,q2',ih,letter]
      · have q2' : ¬ (b.toNat : Int)≤122:=by omega
        simp [impl_lettersOnly_t,h1,h2,q1,q1',q2,q2',letter]
    · have q1' : ¬ (97 : Int)≤(b.toNat : Int):=by omega
      simp [impl_lettersOnly_t,h1,h2,q1,q1',letter]
theorem impl_KeyValid_eq (k : Nat) (hk : 10≤k) (s : List UInt8) : impl_KeyValid_t A k (s,()) () = some ((keyOk s,()),()):=by
  by_cases h1 : (s.length : Int) < 1
  · have : ¬ (1≤s.length∧s.length≤4):=by omega
    simp only [impl_KeyValid_t,a_cndS,a_ltI,a_lenL,h1,decide_true,if_true,keyOk,this,decide_false,Bool.false_and]
  · by_cases h2 : (4 : Int) < (s.length : Int)
    · have : ¬ (1≤s.length∧s.length≤4):=by omega
      simp only [impl_KeyValid_t,a_cndS,a_ltI,a_lenL,h1,h2,decide_true,decide_false,Bool.false_eq_true,if_true,if_false,keyOk,this,Bool.false_and]
    · have : (1≤s.length∧s.length≤4):=by omega
      simp only [impl_KeyValid_t,a_cndS,a_ltI,a_lenL,h1,h2,decide_true,decide_false,Bool.false_eq_true,if_true,if_false,keyOk,this,lettersOnly_eq k s (by omega),a_obind_some,Bool.true_and,and_self]
theorem spec_KeyValid_eq (k : Nat) (hk : 10≤k) (s : List UInt8) : spec_KeyValid_t A k (s,()) () = some ((keyOk s,()),()):=by
  have h : s.length≤4→A.iter k (spec_KeyValid_t_b0 A k) (s,(((0 : Nat) : Int),())) = some (if (List.range s.length).all (fun i=>letter (s.getD i 0)) = true then .inl () else .inr ((false,()),())):=fun hl =>
    iter_all (A:=A) (f:=spec_KeyValid_t_b0 A k) (fun i=>(s,((i : Int),()))) s.length (fun i=>letter (s.getD i 0)) (.inr ((false,()),())) (.inl ())
      (fun i hi=>by
        by_cases q1 : s[i].toNat < 97
        · have q1' : ¬ 97≤s[i].toNat:=by omega
          simp (disch:=omega) [spec_KeyValid_t_b0,hi,a_wrap,letter,q1,q1']
          omega
        · have q1' : 97≤s[i].toNat:=by omega
          have q3 : ¬ (s[i].toNat : Int) < 97:=by omega
          by_cases q2 : 122 < s[i].toNat
          · have q2' : ¬ s[i].toNat≤122:=by omega
            have q4 : (122 : Int) < (s[i].toNat : Int):=by omega
            simp (disch:=omega) [spec_KeyValid_t_b0,hi,a_wrap,letter,q1',q2',q3,q4]
          · have q2' : s[i].toNat≤122:=by omega
            have q4 : ¬ (122 : Int) < (s[i].toNat : Int):=by omega
            simp (disch:=omega) [spec_KeyValid_t_b0,hi,a_wrap,letter,q1',q2',q3,q4])
      (by simp [spec_KeyValid_t_b0]) (by omega)
  rw [all_range] at h
  simp only [Int.natCast_zero,Int.ofNat_zero] at h
  simp only [spec_KeyValid_t,l1In_eq,a_obind_some,a_cndS,a_notB,keyOk,a_lenL]
  by_cases hl : 1≤s.length∧s.length≤4
  · have hl' : (1 : Int)≤(s.length : Int)∧(s.length : Int)≤4:=by omega
    simp only [hl,hl',and_self,decide_true,Bool.not_true,Bool.false_eq_true,if_false,h hl.2,a_obind_some,Bool.true_and]
    cases s.all letter <;> simp
  · have hl' : ¬ ((1 : Int)≤(s.length : Int)∧(s.length : Int)≤4):=by omega
    simp only [hl,hl',decide_false,Bool.not_false,if_true,Bool.false_and]
theorem valueValid_eq (k : Nat) (v : Int) : impl_valueValid_t A k (v,()) () = some ((decide (0≤v∧v≤999),()),()):=by
  simp only [impl_valueValid_t,a_cndS,a_leI,if_true,decide_eq_true_eq]
  by_cases h : 0≤v <;> simp [h]
theorem seqValid_eq (k : Nat) (v : Int) : impl_seqValid_t A k (v,()) () = some ((decide (1≤v∧v≤999),()),()):=by
  simp only [impl_seqValid_t,a_cndS,a_leI,if_true,decide_eq_true_eq]
  by_cases h : 1≤v <;> simp [h]
/-! ### exact -/
end Go.Den.T

namespace Go.Den.T
set_option linter.unusedVariables false
set_option linter.unusedSimpArgs false
set_option linter.unusedSectionVars false
variable {A : Atoms} [IsReal A]
/-! ### loops over lists -/
theorem to_loop {α : Type} {f : List α × (Int × (List α × Unit))→Option ((List α × (Int × (List α × Unit))) ⊕ (List α × Unit))} {k : Nat} (d : α) (xs : List α) (hk : xs.length < k)
    (hs : ∀ (i : Nat) (ys : List α),i < xs.length→ys.length = xs.length→f (xs,((i : Int),(ys,()))) = some (.inl (xs,(((i + 1 : Nat) : Int),(ys.set i (xs.getD i d),())))))
    (hd : ∀ ys : List α,ys.length = xs.length→f (xs,(((xs.length : Nat) : Int),(ys,()))) = some (.inr (ys,()))) : A.iter k f (xs,(0,(List.replicate xs.length d,()))) = some (xs,()):=by
  have h:=iter_for (A:=A) (f:=f) (fun i=>(xs,((i : Int),(xs.take i ++ List.replicate (xs.length - i) d,())))) xs.length (xs,())
    (fun i hi=>by
      rw [hs i _ hi (by simp; omega),fill_step xs d d i xs.length rfl hi])
    (by rw [hd _ (by simp)]; simp) hk
  simpa using h
theorem eq_loop {α : Type} [DecidableEq α] {f : List α × (List α × (Int × Unit))→Option ((List α × (List α × (Int × Unit))) ⊕ (Unit ⊕ ((Bool × Unit) × Unit)))} {k : Nat} (d : α) (xs ys : List α) (hk : xs.length < k) (he : xs.length = ys.length)
    (hs : ∀ i : Nat,i < xs.length→f (xs,(ys,((i : Int),()))) = some (if (decide (xs.getD i d = ys.getD i d)) = true then .inl (xs,(ys,(((i + 1 : Nat) : Int),()))) else .inr (.inr ((false,()),()))))
    (hd : f (xs,(ys,(((xs.length : Nat) : Int),()))) = some (.inr (.inl ()))) : A.iter k f (xs,(ys,(0,()))) = some (if xs = ys then .inl () else .inr ((false,()),())):=by
  have h:=iter_all (A:=A) (f:=f) (fun i=>(xs,(ys,((i : Int),())))) xs.length (fun i=>decide (xs.getD i d = ys.getD i d)) (.inr ((false,()),())) (.inl ()) hs hd hk
  have e : (List.range xs.length).all (fun i=>decide (xs.getD i d = ys.getD i d)) = decide (xs = ys):=by
    rw [Bool.eq_iff_iff,range_all,decide_eq_true_eq]
    constructor
    · intro hh
      refine List.ext_getElem he fun i h1 h2=>?_
      have:=hh i h1
      rw [getD_lt h1,getD_lt h2] at this; simpa using this
    · intro e i _; subst e; simp
  rw [e] at h
  simpa using h
theorem sz_loop {α : Type} {f : List α × (Int × (Int × Unit))→Option ((List α × (Int × (Int × Unit))) ⊕ ((Int × Unit) ⊕ ((Int × Unit) × Unit)))} {k : Nat} (xs : List α) (n : Int) (hn : 0≤n) (hk : xs.length < k)
    (hs : ∀ (i : Nat) (m : Int),i < xs.length→0≤m→m≤n→Ok (f (xs,(m,((i : Int),())))) (fun r=>(∃ m',r = .inl (xs,(m',(((i + 1 : Nat) : Int),())))∧0≤m'∧m'≤m)∨r = .inr (.inr ((-1,()),()))))
    (hd : ∀ m,f (xs,(m,(((xs.length : Nat) : Int),()))) = some (.inr (.inl (m,())))) :
    Ok (A.iter k f (xs,(n,(0,())))) (fun r=>(∃ m,r = .inl (m,())∧0≤m∧m≤n)∨r = .inr ((-1,()),())):=by
  refine iter_ok (fun j s=>∃ (i : Nat) (m : Int),s = (xs,(m,((i : Int),())))∧i + j = xs.length∧0≤m∧m≤n) _ ?_ (n:=xs.length) hk ⟨0,n,rfl,by omega,hn,Int.le_refl _⟩
  rintro j s ⟨i,m,rfl,hij,h0,h1⟩
  by_cases hi : i < xs.length
  · refine (hs i m hi h0 h1).mono fun r hr=>?_
    rcases hr with ⟨m',rfl,h2,h3⟩ | rfl
    · exact ⟨fun s' e=>(by injection e with e; subst e; exact ⟨j - 1,by omega,i + 1,m',rfl,by omega,h2,by omega⟩),fun e he=>(by cases he)⟩
    · exact ⟨fun s' e=>(by cases e),fun e he=>(by injection he with he; subst he; exact .inr rfl)⟩
  · have : i = xs.length:=by omega
    subst this
    rw [hd m]
    exact ok_some.2 ⟨fun s' e=>(by cases e),fun e he=>(by injection he with he; subst he; exact .inl ⟨m,rfl,h0,h1⟩)⟩
/-! ### entries -/
instance : DecidableEq Cmd:=inferInstanceAs (DecidableEq (Int × (List UInt8 × (Int × (Int × Unit)))))
instance : DecidableEq Ent:=inferInstanceAs (DecidableEq (Int × (Int × (Cmd × Unit))))
abbrev ent0 : Ent:=(0,(0,((0,([],(0,(0,())))),())))
theorem eqCommand_eq (k : Nat) (c d : Cmd) : laws_eqCommand_t A k (c,(d,())) () = some ((decide (c = d),()),()):=by
  obtain ⟨a1,a2,a3,a4,_⟩:=c
  obtain ⟨b1,b2,b3,b4,_⟩:=d
  simp only [laws_eqCommand_t,a_cndS,a_notB,a_eqI,a_eqS]
  by_cases h1 : a1 = b1
  · by_cases h2 : a2 = b2
    · by_cases h3 : a3 = b3
      · by_cases h4 : a4 = b4 <;> simp [h1,h2,h3,h4]
      · simp [h1,h2,h3]
    · simp [h1,h2]
  · simp [h1]
theorem eqEntry_eq (k : Nat) (c d : Ent) : laws_eqEntry_t A k (c,(d,())) () = some ((decide (c = d),()),()):=by
  obtain ⟨a1,a2,a3,_⟩:=c
  obtain ⟨b1,b2,b3,_⟩:=d
  simp only [laws_eqEntry_t,eqCommand_eq,a_obind_some,a_cndS,a_notB,a_eqI]
  by_cases h1 : a1 = b1
  · by_cases h2 : a2 = b2
    · by_cases h3 : a3 = b3 <;> simp [h1,h2,h3]
    · simp [h1,h2]
  · simp [h1]
theorem eqEntryS_eq (k : Nat) (xs ys : List Ent) (hk : xs.length < k) (hl : xs.length≤1000000000) : laws_eqEntryS_t A k (xs,(ys,())) () = some ((decide (xs = ys),()),()):=by
  by_cases he : xs.length = ys.length
  · have h:=eq_loop (A:=A) (f:=laws_eqEntryS_t_b0 A k) ent0 xs ys hk he
      (fun i hi=>by
        have hi' : i < ys.length:=by omega
        simp (disch:=omega) [laws_eqEntryS_t_b0,hi,hi',a_wrap,eqEntry_eq]
        by_cases hv : xs[i] = ys[i] <;> simp [hv])
      (by simp [laws_eqEntryS_t_b0])
    simp only [laws_eqEntryS_t,a_lenL,he,a_eqI,decide_true,a_notB,Bool.not_true,a_cndS,Bool.false_eq_true,if_false,h]
    by_cases hv : xs = ys <;> simp [hv]
  · have h2 : ¬ (xs.length : Int) = ys.length:=by omega
    have h3 : ¬ xs = ys:=fun e=>he (by rw [e])
    simp [laws_eqEntryS_t,h2,h3]
/-! ### replicas -/
abbrev Rep:=Cfg × (Bool × (List Ent × Unit))
abbrev Msg:=Int × (Int × (Int × (Cfg × (List Ent × Unit))))
instance : DecidableEq Cfg:=inferInstanceAs (DecidableEq (Int × (List Int × (Bool × Unit))))
instance : DecidableEq Rep:=inferInstanceAs (DecidableEq (Cfg × (Bool × (List Ent × Unit))))
set_option synthInstance.maxSize 1000 in
instance : DecidableEq Msg:=inferInstanceAs (DecidableEq (Int × (Int × (Int × (Cfg × (List Ent × Unit))))))
theorem eqReplica_eq (k : Nat) (r s : Rep) (hk : 2000000≤k) (h1 : r.1.2.1.length≤1048576) (h2 : r.2.2.1.length≤1048576) : laws_eqReplica_t A k (r,(s,())) () = some ((decide (r = s),()),()):=by
  obtain ⟨a1,a2,a3,_⟩:=r
  obtain ⟨b1,b2,b3,_⟩:=s
  simp only at h1 h2
  simp only [laws_eqReplica_t,eqConfig_eq k a1 b1 (by omega) (by omega),eqEntryS_eq k a3 b3 (by omega) (by omega),a_obind_some,a_cndS,a_notB,a_eqB]
  by_cases h1 : a1 = b1
  · by_cases h2 : a2 = b2
    · by_cases h3 : a3 = b3 <;> simp [h1,h2,h3]
    · simp [h1,h2]
  · simp [h1]
end Go.Den.T

namespace Go.Den.T
abbrev TCmd : Ty:=.prod (.int .i64) (.prod .str (.prod (.int .i64) (.prod (.int .i64) .unit)))
abbrev TEnt : Ty:=.prod (.int .i64) (.prod (.int .i64) (.prod TCmd .unit))
end Go.Den.T

namespace Go.Den.T
set_option linter.unusedVariables false
set_option linter.unusedSimpArgs false
set_option linter.unusedSectionVars false
section
variable {A : Atoms} [IsReal A]
theorem eqMessage_eq (k : Nat) (r s : Msg) (hk : 2000000≤k) (h1 : r.2.2.2.1.2.1.length≤1048576) (h2 : r.2.2.2.2.1.length≤1048576) : laws_eqMessage_t A k (r,(s,())) () = some ((decide (r = s),()),()):=by
  obtain ⟨a1,a2,a3,a4,a5,_⟩:=r
  obtain ⟨b1,b2,b3,b4,b5,_⟩:=s
  simp only at h1 h2
  simp only [laws_eqMessage_t,eqConfig_eq k a4 b4 (by omega) (by omega),eqEntryS_eq k a5 b5 (by omega) (by omega),a_obind_some,a_cndS,a_notB,a_eqI]
  by_cases h1 : a1 = b1
  · by_cases h2 : a2 = b2
    · by_cases h3 : a3 = b3
      · by_cases h4 : a4 = b4
        · by_cases h5 : a5 = b5 <;> simp [h1,h2,h3,h4,h5]
        · simp [h1,h2,h3,h4]
      · simp [h1,h2,h3]
    · simp [h1,h2]
  · simp [h1]
end
abbrev TCfg' : Ty:=.prod (.int .i64) (.prod (.slice (.int .i64)) (.prod .bool .unit))
abbrev TRep : Ty:=.prod TCfg' (.prod .bool (.prod (.slice TEnt) .unit))
end Go.Den.T

namespace Go.Den.T
set_option linter.unusedVariables false
set_option linter.unusedSimpArgs false
variable {A : Atoms} [IsReal A]
abbrev Rd:=List Int × (Int × Unit)
def RdOk (N : Int) (r : Rd) : Prop:=(∀ x ∈ r.1,0≤x∧x≤255)∧r.1.length≤2000∧0≤r.2.1∧r.2.1≤N
theorem RdOk.le {N M : Int} {r : Rd} (h : RdOk N r) (hm : N≤M) : RdOk M r:=⟨h.1,h.2.1,h.2.2.1,Int.le_trans h.2.2.2 hm⟩
end Go.Den.T

namespace Go.Den.T
set_option linter.unusedVariables false
set_option linter.unusedSimpArgs false
variable {A : Atoms} [IsReal A]
def Short (c : Cfg) : Prop:=c.2.1.length≤100
end Go.Den.T

namespace Go.Den.T
set_option linter.unusedVariables false
set_option linter.unusedSimpArgs false
set_option linter.unusedSectionVars false
variable {A : Atoms} [IsReal A]
theorem at_ok {α : Type} {xs : List α} {d : α} {i : Int} {P : α→Prop} (h : ∀ x ∈ xs,P x) (h0 : 0≤i) (h1 : i < xs.length) : P (xs.getD i.toNat d):=by
  have : i.toNat < xs.length:=by omega
  rw [getD_lt this]; exact h _ (List.getElem_mem this)
def CmdS (c : Cmd) : Prop:=c.2.1.length≤8
def EntS (e : Ent) : Prop:=CmdS e.2.2.1
end Go.Den.T

namespace Go.Den.T
set_option linter.unusedVariables false
set_option linter.unusedSimpArgs false
set_option linter.unusedSectionVars false
variable {A : Atoms} [IsReal A]
def LogS (l : List Ent) : Prop:=l.length≤30∧∀ e ∈ l,EntS e
theorem LogS.get {l : List Ent} {i : Int} (h : ∀ e ∈ l,EntS e) (h0 : 0≤i) (h1 : i < l.length) : EntS (A.atL l i dfE):=by
  rw [a_atL]; exact at_ok (P:=EntS) h h0 h1
end Go.Den.T

namespace Go.Den.T
set_option linter.unusedVariables false
set_option linter.unusedSimpArgs false
variable {A : Atoms} [IsReal A]
end Go.Den.T

namespace Go.Den.T
set_option linter.unusedVariables false
set_option linter.unusedSimpArgs false
variable {A : Atoms} [IsReal A]
/-! ### a member taken away -/
end Go.Den.T

namespace Go.Den.T
end Go.Den.T

namespace Go.Den.T
set_option linter.unusedVariables false
set_option linter.unusedSimpArgs false
set_option linter.unusedSectionVars false
section
variable {A : Atoms} [IsReal A]
/-! ### a member added -/
end
end Go.Den.T

namespace Go.Den.T
set_option linter.unusedVariables false
set_option linter.unusedSimpArgs false
set_option linter.unusedSectionVars false
section
variable {A : Atoms} [IsReal A]
def MsgS (m : Msg) : Prop:=Short m.2.2.2.1∧LogS m.2.2.2.2.1
end
end Go.Den.T

namespace Go.Den.T
set_option linter.unusedVariables false
set_option linter.unusedSimpArgs false
set_option linter.unusedSectionVars false
section
variable {A : Atoms} [IsReal A]
def BagS (l : List Msg) : Prop:=l.length≤30∧∀ m ∈ l,MsgS m
end
end Go.Den.T

namespace Go.Den.T
set_option linter.unusedVariables false
set_option linter.unusedSimpArgs false
set_option linter.unusedSectionVars false
section
variable {A : Atoms} [IsReal A]
abbrev rep0 : Rep:=((0,([],(false,()))),(false,([],())))
end
end Go.Den.T

namespace Go.Den.T
set_option linter.unusedVariables false
set_option linter.unusedSimpArgs false
set_option linter.unusedSectionVars false
section
variable {A : Atoms} [IsReal A]
end
end Go.Den.T

namespace Go.Den.T
set_option linter.unusedVariables false
set_option linter.unusedSimpArgs false
set_option linter.unusedSectionVars false
section
variable {A : Atoms} [IsReal A]
abbrev msg0 : Msg:=(0,(0,(0,((0,([],(false,()))),([],())))))
def MsgF (m : Msg) : Prop:=m.2.2.2.1.2.1.length≤1000000000∧m.2.2.2.2.1.length≤1000000000
end
end Go.Den.T

namespace Go.Den.T
end Go.Den.T

namespace Go.Den.T
set_option linter.unusedVariables false
set_option linter.unusedSimpArgs false
set_option linter.unusedSectionVars false
section
variable {A : Atoms} [IsReal A]
def MsgZ (m : Msg) : Prop:=m.2.2.2.1.2.1.length≤1048576∧m.2.2.2.2.1.length≤1048576
theorem eqMessageS_eq (k : Nat) (xs ys : List Msg) (hk : 2000000≤k) (hl : xs.length≤1048576) (hz : ∀ m ∈ xs,MsgZ m) : laws_eqMessageS_t A k (xs,(ys,())) () = some ((decide (xs = ys),()),()):=by
  by_cases he : xs.length = ys.length
  · have h:=eq_loop (A:=A) (k:=k) (f:=laws_eqMessageS_t_b0 A k) msg0 xs ys (by omega) he
      (fun i hi=>by
        have hi' : i < ys.length:=by omega
        have hm:=hz xs[i] (List.getElem_mem hi)
        simp (disch:=omega) [laws_eqMessageS_t_b0,hi,hi',a_wrap,eqMessage_eq k xs[i] ys[i] hk hm.1 hm.2]
        by_cases hv : xs[i] = ys[i] <;> simp [hv])
      (by simp [laws_eqMessageS_t_b0])
    simp only [laws_eqMessageS_t,a_lenL,he,a_eqI,decide_true,a_notB,Bool.not_true,a_cndS,Bool.false_eq_true,if_false,h]
    by_cases hv : xs = ys <;> simp [hv]
  · have h2 : ¬ (xs.length : Int) = ys.length:=by omega
    have h3 : ¬ xs = ys:=fun e=>he (by rw [e])
    simp [laws_eqMessageS_t,h2,h3]
end
end Go.Den.T

namespace Go.Den.T
set_option linter.unusedVariables false
set_option linter.unusedSimpArgs false
set_option linter.unusedSectionVars false
variable {A : Atoms} [IsReal A]
abbrev Itv:=List UInt8 × (List UInt8 × Unit)
abbrev Pair:=List UInt8 × (Int × Unit)
abbrev Ses:=Int × (Int × (Int × Unit))
abbrev Stt:=Itv × (List Pair × (List Ses × (Bool × (List UInt8 × Unit))))
abbrev Chk:=Int × (Stt × Unit)
def keyOrNil (s : List UInt8) : Bool:=decide (s = []) || keyOk s
def bless (a b : List UInt8) : Bool:=Op.bytesLess a b
def lowest (s : List UInt8) : List UInt8:=if s = [] then [97] else s
def itvOk (i : Itv) : Bool:=keyOrNil i.1 && (keyOrNil i.2.1 && (decide (i.2.1 = []) || bless (lowest i.1) i.2.1))
theorem impl_IntervalValid_eq (k : Nat) (hk : 10≤k) (i : Itv) : impl_IntervalValid_t A k (i,()) () = some ((itvOk i,()),()):=by
  obtain ⟨a,b,_⟩:=i
  simp only [impl_IntervalValid_t,impl_KeyValid_eq k hk,a_obind_some,a_cndS,a_notB,a_eqS,itvOk,keyOrNil,lowest,bless]
  by_cases h1 : a = [] <;> by_cases h2 : b = []
  · simp [h1,h2]
  · cases h3 : keyOk b <;> simp [h1,h2,h3,impl_lowestKey_t]
  · cases h3 : keyOk a <;> simp [h1,h2,h3,impl_lowestKey_t]
  · cases h3 : keyOk a <;> cases h4 : keyOk b <;> simp [h1,h2,h3,h4,impl_lowestKey_t]
theorem bless_nil (b : List UInt8) : bless [] b = decide (b ≠ []):=by cases b <;> simp [bless,Op.bytesLess]
theorem bless_to_nil (a : List UInt8) : bless a [] = false:=by cases a <;> simp [bless,Op.bytesLess]
theorem bless_cons (x y : UInt8) (xs ys : List UInt8) : bless (x :: xs) (y :: ys) = (decide (x < y) || (x == y && bless xs ys)):=by simp [bless,Op.bytesLess]
theorem bless_total : ∀ a b : List UInt8,bless a b = !(bless b a || decide (b = a))
  | [],[]=>by simp [bless_nil]
  | [],y :: ys=>by simp [bless_nil,bless_to_nil]
  | x :: xs,[]=>by simp [bless_nil,bless_to_nil]
  | x :: xs,y :: ys=>by
    rw [bless_cons,bless_cons,bless_total xs ys]
    by_cases h : x = y
    · subst h
      have : ¬ x < x:=by rw [UInt8.lt_iff_toNat_lt]; omega
      simp [this]
    · have h' : ¬ y = x:=fun e=>h e.symm
      have hn : x.toNat ≠ y.toNat:=fun e=>h (UInt8.toNat_inj.1 e)
      by_cases hl : x < y
      · have : ¬ y < x:=by rw [UInt8.lt_iff_toNat_lt] at hl ⊢; omega
        simp [hl,this,h,h']
      · have : y < x:=by rw [UInt8.lt_iff_toNat_lt] at hl ⊢; omega
        simp [hl,this,h,h']
theorem less_a {b : List UInt8} (h : keyOk b = true) : bless [97] b = !decide (b = [97]):=by
  unfold keyOk at h
  simp only [Bool.and_eq_true,decide_eq_true_eq] at h
  obtain ⟨⟨h1,h2⟩,h3⟩:=h
  cases b with
  | nil=>simp at h1
  | cons c cs =>
    have hc : letter c = true:=by simp only [List.all_cons,Bool.and_eq_true] at h3; exact h3.1
    simp only [letter,decide_eq_true_eq] at hc
    rw [bless_cons,bless_nil]
    by_cases h : c = 97
    · subst h
      have : ¬ (97 : UInt8) < 97:=by decide
      simp [this]
    · have hn : c.toNat ≠ 97:=fun e=>h (UInt8.toNat_inj.1 (by rw [e]; rfl))
      have : (97 : UInt8) < c:=by rw [UInt8.lt_iff_toNat_lt]; show 97 < c.toNat; omega
      simp [this,h]
theorem spec_IntervalValid_eq (k : Nat) (hk : 10≤k) (i : Itv) : spec_IntervalValid_t A k (i,()) () = some ((itvOk i,()),()):=by
  obtain ⟨a,b,_⟩:=i
  simp only [spec_IntervalValid_t,spec_KeyValid_eq k hk,a_obind_some,a_cndS,a_notB,a_eqS,a_lessS,itvOk,keyOrNil,lowest]
  by_cases h1 : a = [] <;> by_cases h2 : b = []
  · simp [h1,h2]
  · cases h3 : keyOk b with
    | false=>simp [h1,h2,h3]
    | true =>
      have e1 : Op.bytesLess [] b = true:=by have:=bless_nil b; simp only [bless] at this; rw [this]; simp [h2]
      have e2:=less_a h3
      simp [h1,h2,h3,e1,e2]
  · cases h3 : keyOk a <;> simp [h1,h2,h3]
  · cases h3 : keyOk a <;> cases h4 : keyOk b <;> simp [h1,h2,h3,h4]
    simp only [bless]
    cases Op.bytesLess a b <;> simp
def valOk (v : Int) : Bool:=decide (0≤v∧v≤999)
abbrev ses0 : Ses:=(0,(0,(0,())))
def pairAt (l : List Pair) (i : Nat) : Bool:=keyOk (l.getD i (([] : List UInt8),((0 : Int),()))).1 && (valOk (l.getD i (([] : List UInt8),((0 : Int),()))).2.1 && (decide (i = 0) || bless (l.getD (i - 1) (([] : List UInt8),((0 : Int),()))).1 (l.getD i (([] : List UInt8),((0 : Int),()))).1))
def pairsOk (l : List Pair) : Bool:=decide (l.length≤48) && (List.range l.length).all (pairAt l)
theorem spec_PairsValid_eq (k : Nat) (hk : 60≤k) (l : List Pair) : spec_PairsValid_t A k (l,()) () = some ((pairsOk l,()),()):=by
  by_cases hl : (48 : Int) < l.length
  · have : ¬ l.length≤48:=by omega
    simp [spec_PairsValid_t,hl,pairsOk,this]
  · have hl' : l.length≤48:=by omega
    have h := iter_all (A := A) (f := spec_PairsValid_t_b0 A k) (fun i => (l, ((i : Int), ()))) l.length (pairAt l) (.inr ((false, ()), ())) (.inl ())
      (fun i hi=>by
        have hi' : (i : Int) < (l.length : Int):=by omega
        have w : A.wrapI .i64 ((i : Int) + 1) = (i : Int) + 1:=a_wrap (by omega) (by omega)
        simp only [spec_PairsValid_t_b0,a_cndS,a_ltI,a_lenL,a_le0,a_andB,hi',Int.natCast_nonneg,decide_true,Bool.and_self,if_true,a_atL,Int.toNat_natCast,spec_KeyValid_eq k (by omega : 10≤k),l1In_eq,a_obind_some,a_notB,a_addI,w,pairAt,valOk,a_subI,a_orB,a_lessS,a_eqS]
        rcases Bool.eq_false_or_eq_true (keyOk (l.getD i (([] : List UInt8),((0 : Int),()))).1) with hkk | hkk
        case inr=>simp only [hkk]; simp
        case inl =>
          by_cases hv : 0≤(l.getD i (([] : List UInt8),((0 : Int),()))).2.1∧(l.getD i (([] : List UInt8),((0 : Int),()))).2.1≤999
          · by_cases h0 : i = 0
            · subst h0; simp only [hkk,hv]; simp
            · have h1 : (0 : Int) < (i : Int):=by omega
              have w2 : A.wrapI .i64 ((i : Int) - 1) = (i : Int) - 1:=a_wrap (by omega) (by omega)
              have h2 : (0 : Int)≤(i : Int) - 1:=by omega
              have h3 : (i : Int) - 1 < (l.length : Int):=by omega
              have h4 : ((i : Int) - 1).toNat = i - 1:=by omega
              have ht:=bless_total (l.getD (i - 1) (([] : List UInt8),((0 : Int),()))).1 (l.getD i (([] : List UInt8),((0 : Int),()))).1
              simp only [bless] at ht
              simp only [hkk,hv,h1,w2,h2,h3,h4,h0,ht,bless,decide_true,decide_false,Bool.and_self,Bool.true_and,Bool.false_or,if_true,Bool.not_true,Bool.false_eq_true,if_false,and_self]
              rcases Bool.eq_false_or_eq_true (Op.bytesLess (l.getD i (([] : List UInt8),((0 : Int),()))).1 (l.getD (i - 1) (([] : List UInt8),((0 : Int),()))).1 || decide ((l.getD i (([] : List UInt8),((0 : Int),()))).1 = (l.getD (i - 1) (([] : List UInt8),((0 : Int),()))).1)) with hq | hq <;> simp only [hq] <;> simp
          · simp only [hkk,hv]; simp)
      (by simp [spec_PairsValid_t_b0]) (k:=k) (by omega)
    simp only [Int.natCast_zero,Int.ofNat_zero] at h
    simp only [spec_PairsValid_t,a_cndS,a_ltI,a_lenL,hl,decide_false,Bool.false_eq_true,if_false,h,a_obind_some,pairsOk,hl',decide_true,Bool.true_and]
    cases (List.range l.length).all (pairAt l) <;> simp
theorem impl_PairsValid_eq (k : Nat) (hk : 60≤k) (l : List Pair) : impl_PairsValid_t A k (l,()) () = some ((pairsOk l,()),()):=by
  by_cases hl : (48 : Int) < l.length
  · have : ¬ l.length≤48:=by omega
    simp [impl_PairsValid_t,hl,pairsOk,this]
  · have hl' : l.length≤48:=by omega
    have h := iter_all (A := A) (f := impl_PairsValid_t_b0 A k) (fun i => (l, (l, ((l.length : Int), ((i : Int), ()))))) l.length (pairAt l) (.inr ((false, ()), ())) (.inl ())
      (fun i hi=>by
        have hi' : (i : Int) < (l.length : Int):=by omega
        have w : A.wrapI .i64 ((i : Int) + 1) = (i : Int) + 1:=a_wrap (by omega) (by omega)
        simp only [impl_PairsValid_t_b0,a_cndS,a_ltI,a_lenL,a_le0,a_andB,hi',Int.natCast_nonneg,decide_true,Bool.and_self,if_true,a_atL,Int.toNat_natCast,impl_KeyValid_eq k (by omega : 10≤k),valueValid_eq,a_obind_some,a_notB,a_addI,pairAt,valOk,a_subI,a_lessS]
        rcases Bool.eq_false_or_eq_true (keyOk (l.getD i (([] : List UInt8),((0 : Int),()))).1) with hkk | hkk
        case inr=>simp only [hkk]; simp
        case inl =>
          by_cases hv : 0≤(l.getD i (([] : List UInt8),((0 : Int),()))).2.1∧(l.getD i (([] : List UInt8),((0 : Int),()))).2.1≤999
          · by_cases h0 : i = 0
            · subst h0; simp only [hkk,hv]; simp [w]; exact w
            · have h1 : (0 : Int) < (i : Int):=by omega
              have w2 : A.wrapI .i64 ((i : Int) - 1) = (i : Int) - 1:=a_wrap (by omega) (by omega)
              have h2 : (0 : Int)≤(i : Int) - 1:=by omega
              have h3 : (i : Int) - 1 < (l.length : Int):=by omega
              have h4 : ((i : Int) - 1).toNat = i - 1:=by omega
              simp only [hkk,hv,h1,w,w2,h2,h3,h4,h0,bless,decide_true,decide_false,Bool.and_self,Bool.true_and,Bool.false_or,if_true,Bool.not_true,Bool.false_eq_true,if_false,and_self,a_sumE_inl,a_obind_some]
              rcases Bool.eq_false_or_eq_true (Op.bytesLess (l.getD (i - 1) (([] : List UInt8),((0 : Int),()))).1 (l.getD i (([] : List UInt8),((0 : Int),()))).1) with hq | hq <;> simp only [hq] <;> simp
          · simp only [hkk,hv]; simp)
      (by simp [impl_PairsValid_t_b0]) (k:=k) (by omega)
    simp only [Int.natCast_zero,Int.ofNat_zero] at h
    simp only [impl_PairsValid_t,a_cndS,a_ltI,a_lenL,hl,decide_false,Bool.false_eq_true,if_false,h,a_obind_some,pairsOk,hl',decide_true,Bool.true_and]
    cases (List.range l.length).all (pairAt l) <;> simp
end Go.Den.T

namespace Go.Den.T
set_option linter.unusedVariables false
set_option linter.unusedSimpArgs false
set_option linter.unusedSectionVars false
variable {A : Atoms} [IsReal A]
def sesP (s q : Ses) (i : Nat) : Bool:=decide (0≤s.1∧s.1≤3) && (decide (1≤s.2.1∧s.2.1≤999) && (decide (-2≤s.2.2.1∧s.2.2.1≤999) && (decide (i = 0) || !decide (s.1≤q.1))))
def sesAt (l : List Ses) (i : Nat) : Bool:=sesP (l.getD i ((0 : Int),((0 : Int),((0 : Int),())))) (l.getD (i - 1) ((0 : Int),((0 : Int),((0 : Int),())))) i
def sesOk (l : List Ses) : Bool:=(List.range l.length).all (sesAt l)
theorem spec_SessionsValid_eq (k : Nat) (l : List Ses) (hk : l.length < k) (hl : l.length≤1000000000) : spec_SessionsValid_t A k (l,()) () = some ((sesOk l,()),()):=by
  have h:=iter_all (A:=A) (f:=spec_SessionsValid_t_b0 A k) (fun i=>(l,((i : Int),()))) l.length (sesAt l) (.inr ((false,()),())) (.inl ())
    (fun i hi=>by
      have hi' : (i : Int) < (l.length : Int):=by omega
      have w : A.wrapI .i64 ((i : Int) + 1) = (i : Int) + 1:=a_wrap (by omega) (by omega)
      rw [show sesAt l i = sesP (l.getD i ((0 : Int),((0 : Int),((0 : Int),())))) (l.getD (i - 1) ((0 : Int),((0 : Int),((0 : Int),())))) i from rfl]
      simp only [spec_SessionsValid_t_b0,a_atL,Int.toNat_natCast]
      by_cases h0 : i = 0
      · generalize l.getD i ((0 : Int),((0 : Int),((0 : Int),()))) = s
        subst h0
        obtain ⟨c,q,v,_⟩:=s
        simp only [sesP,l1In_eq,a_obind_some,a_cndS,a_ltI,a_lenL,a_le0,a_andB,hi',a_notB,a_addI,w]
        by_cases h1 : 0≤c∧c≤3 <;> by_cases h2 : 1≤q∧q≤999 <;> by_cases h3 : -2≤v∧v≤999 <;> simp [h1,h2,h3,hi]
      · have g1 : (0 : Int) < (i : Int):=by omega
        have w2 : A.wrapI .i64 (A.subI (i : Int) 1) = (i : Int) - 1:=by rw [a_subI]; exact a_wrap (by omega) (by omega)
        have g2 : (0 : Int)≤(i : Int) - 1:=by omega
        have g2' : (1 : Int)≤(i : Int):=by omega
        have g3 : (i : Int) - 1 < (l.length : Int):=by omega
        have g4 : ((i : Int) - 1).toNat = i - 1:=by omega
        simp only [w2,g4]
        generalize l.getD i ((0 : Int),((0 : Int),((0 : Int),()))) = s
        generalize l.getD (i - 1) ((0 : Int),((0 : Int),((0 : Int),()))) = s'
        obtain ⟨c,q,v,_⟩:=s
        obtain ⟨c',_⟩:=s'
        simp only [sesP,l1In_eq,a_obind_some,a_cndS,a_ltI,a_lenL,a_le0,a_andB,hi',a_notB,a_addI,w,a_leI]
        by_cases h1 : 0≤c∧c≤3 <;> by_cases h2 : 1≤q∧q≤999 <;> by_cases h3 : -2≤v∧v≤999 <;> by_cases h4 : c≤c' <;> simp [h1,h2,h3,h4,hi,g1,g2,g2',g3,h0] <;> omega)
    (by simp [spec_SessionsValid_t_b0]) (k:=k) hk
  simp only [Int.natCast_zero,Int.ofNat_zero] at h
  simp only [spec_SessionsValid_t,h,a_obind_some,sesOk]
  cases (List.range l.length).all (sesAt l) <;> simp
theorem impl_SessionsValid_eq (k : Nat) (l : List Ses) (hk : l.length < k) (hl : l.length≤1000000000) : impl_SessionsValid_t A k (l,()) () = some ((sesOk l,()),()):=by
  have h:=iter_all (A:=A) (f:=impl_SessionsValid_t_b0 A k) (fun i=>(l,(l,((l.length : Int),((i : Int),()))))) l.length (sesAt l) (.inr ((false,()),())) (.inl ())
    (fun i hi=>by
      have hi' : (i : Int) < (l.length : Int):=by omega
      have w : A.wrapI .i64 ((i : Int) + 1) = (i : Int) + 1:=a_wrap (by omega) (by omega)
      rw [show sesAt l i = sesP (l.getD i ((0 : Int),((0 : Int),((0 : Int),())))) (l.getD (i - 1) ((0 : Int),((0 : Int),((0 : Int),())))) i from rfl]
      simp only [impl_SessionsValid_t_b0,a_atL,Int.toNat_natCast]
      have hw : ∀ j : Int,A.wrapI .i64 (A.subI j 1) = A.wrapI .i64 (j - 1):=fun j=>by rw [a_subI]
      by_cases h0 : i = 0
      · generalize l.getD i ((0 : Int),((0 : Int),((0 : Int),()))) = s
        subst h0
        obtain ⟨c,q,v,_⟩:=s
        simp only [sesP,seqValid_eq,a_obind_some,a_cndS,a_ltI,a_leI,a_lenL,a_le0,a_andB,hi',a_notB]
        by_cases h1 : c < 0
        · have : ¬ (0≤c∧c≤3):=by omega
          simp [h1,this,hi]
        by_cases h1' : 4≤c
        · have : ¬ (0≤c∧c≤3):=by omega
          simp [h1,h1',this,hi]
        have h1'' : 0≤c∧c≤3:=by omega
        by_cases h2 : 1≤q∧q≤999
        case neg=>simp [h1,h1',h1'',h2,hi]
        by_cases h3 : v < -2
        · have : ¬ (-2≤v∧v≤999):=by omega
          simp [h1,h1',h1'',h2,h3,this,hi]
        by_cases h3' : 999 < v
        · have : ¬ (-2≤v∧v≤999):=by omega
          simp [h1,h1',h1'',h2,h3,h3',this,hi]
        have h3'' : -2≤v∧v≤999:=by omega
        simp [h1,h1',h1'',h2,h3,h3',h3'',hi]; exact w
      · have g1 : 0 < i:=by omega
        have w2 : A.wrapI .i64 ((i : Int) - 1) = (i : Int) - 1:=a_wrap (by omega) (by omega)
        have g2' : (1 : Int)≤(i : Int):=by omega
        have g2 : (0 : Int)≤(i : Int) - 1:=by omega
        have g3 : (i : Int) - 1 < (l.length : Int):=by omega
        have g4 : ((i : Int) - 1).toNat = i - 1:=by omega
        generalize hs : l.getD i ((0 : Int),((0 : Int),((0 : Int),()))) = s
        generalize hs' : l.getD (i - 1) ((0 : Int),((0 : Int),((0 : Int),()))) = s'
        obtain ⟨c,q,v,_⟩:=s
        obtain ⟨c',_⟩:=s'
        have hs2 : l[i - 1]?.getD ((0 : Int),((0 : Int),((0 : Int),()))) = (c',‹_›):=by simpa [List.getD] using hs'
        simp only [sesP,seqValid_eq,a_obind_some,a_cndS,a_ltI,a_leI,a_lenL,a_le0,a_andB,hi',a_notB]
        by_cases h1 : c < 0
        · have : ¬ (0≤c∧c≤3):=by omega
          simp [h1,this,hi]
        by_cases h1' : 4≤c
        · have : ¬ (0≤c∧c≤3):=by omega
          simp [h1,h1',this,hi]
        have h1'' : 0≤c∧c≤3:=by omega
        by_cases h2 : 1≤q∧q≤999
        case neg=>simp [h1,h1',h1'',h2,hi]
        by_cases h3 : v < -2
        · have : ¬ (-2≤v∧v≤999):=by omega
          simp [h1,h1',h1'',h2,h3,this,hi]
        by_cases h3' : 999 < v
        · have : ¬ (-2≤v∧v≤999):=by omega
          simp [h1,h1',h1'',h2,h3,h3',this,hi]
        have h3'' : -2≤v∧v≤999:=by omega
        by_cases hq : c≤c'
        · have hq' : ¬ c' < c:=by omega
          simp [h1,h1',h1'',h2,h3,h3',h3'',g1,w2,g2,g2',g3,g4,h0,w,hi,hs2,hq,hq']
        · have hq' : c' < c:=by omega
          simp [h1,h1',h1'',h2,h3,h3',h3'',g1,w2,g2,g2',g3,g4,h0,w,hi,hs2,hq,hq']
      )
    (by simp [impl_SessionsValid_t_b0]) (k:=k) hk
  simp only [Int.natCast_zero,Int.ofNat_zero] at h
  simp only [impl_SessionsValid_t,a_lenL,h,a_obind_some,sesOk]
  cases (List.range l.length).all (sesAt l) <;> simp
/-! ### intervals -/
def inside (i : Itv) (s : List UInt8) : Bool:=!bless s i.1 && (decide (i.2.1 = []) || bless s i.2.1)
theorem inside_eq (k : Nat) (i : Itv) (s : List UInt8) : impl_inside_t A k (i,(s,())) () = some ((inside i s,()),()):=by
  have ht:=bless_total s i.1
  simp only [bless] at ht
  simp only [impl_inside_t,a_cndS,a_orB,a_lessS,a_eqS,inside,bless,ht,Bool.not_not]
  by_cases h : i.2.1 = [] <;> cases (Op.bytesLess i.1 s || decide (i.1 = s)) <;> simp [h]
theorem IntervalHas_eq (k : Nat) (hk : 10≤k) (i : Itv) (s : List UInt8) : spec_IntervalHas_t A k (i,(s,())) () = some (((itvOk i && (keyOk s && inside i s)),()),()):=by
  simp only [spec_IntervalHas_t,spec_IntervalValid_eq k hk,spec_KeyValid_eq k hk,a_obind_some,a_cndS,a_notB,a_lessS,a_eqS,inside,bless]
  cases itvOk i <;> cases keyOk s <;> cases Op.bytesLess s i.1 <;> by_cases h : i.2.1 = [] <;> simp [h]
abbrev itv0 : Itv:=([],([],()))
def cut (i : Itv) (s : List UInt8) : Itv × (Itv × (Bool × Unit)) :=
  if (itvOk i && (keyOk s && (itvOk (i.1,(s,())) && itvOk (s,(i.2.1,()))))) = true then ((i.1,(s,())),((s,(i.2.1,())),(true,()))) else (itv0,(itv0,(false,())))
theorem spec_IntervalCut_eq (k : Nat) (hk : 10≤k) (i : Itv) (s : List UInt8) : spec_IntervalCut_t A k (i,(s,())) () = some (cut i s,()):=by
  simp only [spec_IntervalCut_t,spec_IntervalValid_eq k hk,spec_KeyValid_eq k hk,a_obind_some,a_cndS,a_notB,cut]
  cases itvOk i <;> cases keyOk s <;> cases itvOk (i.1,(s,())) <;> cases itvOk (s,(i.2.1,())) <;> simp
theorem impl_IntervalCut_eq (k : Nat) (hk : 10≤k) (i : Itv) (s : List UInt8) : impl_IntervalCut_t A k (i,(s,())) () = some (cut i s,()):=by
  simp only [impl_IntervalCut_t,impl_IntervalValid_eq k hk,impl_KeyValid_eq k hk,a_obind_some,a_cndS,a_notB,cut]
  cases itvOk i <;> cases keyOk s <;> cases h3 : itvOk (i.1,(s,())) <;> cases h4 : itvOk (s,(i.2.1,())) <;> simp [h3,h4]
/-! ### states -/
def stOk (s : Stt) : Bool:=itvOk s.1 && (pairsOk s.2.1 && (sesOk s.2.2.1 && (s.2.1.all (fun p=>inside s.1 p.1) && (decide (s.2.2.2.2.1 = []) || (s.2.2.2.1 && (cut s.1 s.2.2.2.2.1).2.2.1)))))
theorem pairs_keys {l : List Pair} (h : pairsOk l = true) : l.length≤48∧∀ p ∈ l,keyOk p.1 = true:=by
  simp only [pairsOk,Bool.and_eq_true,decide_eq_true_eq] at h
  refine ⟨h.1,fun p hp=>?_⟩
  obtain ⟨i,hi,rfl⟩:=List.mem_iff_getElem.1 hp
  have:=range_all.1 h.2 i hi
  simp only [pairAt,Bool.and_eq_true] at this
  have:=this.1
  rwa [getD_lt hi] at this
theorem impl_StateValid_eq (k : Nat) (hk : 60≤k) (s : Stt) (hk2 : s.2.2.1.length < k) (hl : s.2.2.1.length≤1000000000) : impl_StateValid_t A k (s,()) () = some ((stOk s,()),()):=by
  obtain ⟨i,ps,ss,fz,ct,_⟩:=s
  simp only at hk2 hl
  simp only [impl_StateValid_t,impl_IntervalValid_eq k (by omega : 10≤k),impl_PairsValid_eq k hk,impl_SessionsValid_eq k ss hk2 hl,a_obind_some,a_cndS,a_notB,stOk]
  cases itvOk i with
  | false=>simp
  | true =>
    cases hp : pairsOk ps with
    | false=>simp
    | true =>
      obtain ⟨hp1,hp2⟩:=pairs_keys hp
      cases sesOk ss with
      | false=>simp
      | true =>
        have h:=iter_all (A:=A) (f:=impl_StateValid_t_b0 A k) (fun j=>(ps,((ps.length : Int),((j : Int),((i,(ps,(ss,(fz,(ct,()))))),()))))) ps.length (fun j=>inside i (ps.getD j (([] : List UInt8),((0 : Int),()))).1) (.inr ((false,()),())) (.inl ((i,(ps,(ss,(fz,(ct,()))))),()))
          (fun j hj=>by
            have w : A.wrapI .i64 ((j : Int) + 1) = (j : Int) + 1:=a_wrap (by omega) (by omega)
            simp [impl_StateValid_t_b0,hj,w,inside_eq]
            cases inside i ps[j].1 <;> simp)
          (by simp [impl_StateValid_t_b0]) (k:=k) (by omega)
        have e:=all_range (xs:=ps) (q:=fun p=>inside i p.1) (d:=(([] : List UInt8),((0 : Int),())))
        rw [e] at h
        simp only [Int.natCast_zero,Int.ofNat_zero] at h
        simp only [Bool.not_true,Bool.false_eq_true,if_false,a_sumE_inl,a_lenL,h,a_obind_some,Bool.true_and]
        cases ps.all (fun p=>inside i p.1) with
        | false=>simp
        | true =>
          by_cases hc : ct = []
          · simp [hc]
          · have hcut:=impl_IntervalCut_eq (A:=A) k (by omega : 10≤k) i ct
            cases fz <;> simp [hc,hcut]
theorem spec_StateValid_eq (k : Nat) (hk : 60≤k) (s : Stt) (hk2 : s.2.2.1.length < k) (hl : s.2.2.1.length≤1000000000) : spec_StateValid_t A k (s,()) () = some ((stOk s,()),()):=by
  obtain ⟨i,ps,ss,fz,ct,_⟩:=s
  simp only at hk2 hl
  simp only [spec_StateValid_t,spec_IntervalValid_eq k (by omega : 10≤k),spec_PairsValid_eq k hk,spec_SessionsValid_eq k ss hk2 hl,a_obind_some,a_cndS,a_notB,stOk]
  cases hi : itvOk i with
  | false=>simp
  | true =>
    cases hp : pairsOk ps with
    | false=>simp
    | true =>
      obtain ⟨hp1,hp2⟩:=pairs_keys hp
      cases sesOk ss with
      | false=>simp
      | true =>
        have h:=iter_all (A:=A) (f:=spec_StateValid_t_b0 A k) (fun j=>((j : Int),((i,(ps,(ss,(fz,(ct,()))))),()))) ps.length (fun j=>inside i (ps.getD j (([] : List UInt8),((0 : Int),()))).1) (.inr ((false,()),())) (.inl ((i,(ps,(ss,(fz,(ct,()))))),()))
          (fun j hj=>by
            have w : A.wrapI .i64 ((j : Int) + 1) = (j : Int) + 1:=a_wrap (by omega) (by omega)
            have hkey:=hp2 ps[j] (List.getElem_mem hj)
            simp [spec_StateValid_t_b0,hj,w,IntervalHas_eq k (by omega : 10≤k),hi,hkey]
            cases inside i ps[j].1 <;> simp)
          (by simp [spec_StateValid_t_b0]) (k:=k) (by omega)
        have e:=all_range (xs:=ps) (q:=fun p=>inside i p.1) (d:=(([] : List UInt8),((0 : Int),())))
        rw [e] at h
        simp only [Int.natCast_zero,Int.ofNat_zero] at h
        simp only [Bool.not_true,Bool.false_eq_true,if_false,a_sumE_inl,h,a_obind_some,Bool.true_and]
        cases ps.all (fun p=>inside i p.1) with
        | false=>simp
        | true =>
          have hcut:=spec_IntervalCut_eq (A:=A) k (by omega : 10≤k) i ct
          by_cases hc : ct = []
          · subst hc; simp [hcut]
          · cases fz <;> simp [hc,hcut]
end Go.Den.T

namespace Go.Den.T
set_option linter.unusedVariables false
set_option linter.unusedSimpArgs false
set_option linter.unusedSectionVars false
section
variable {A : Atoms} [IsReal A]
theorem toPairS_eq (k : Nat) (xs : List Pair) (hk : xs.length < k) (hl : xs.length≤1000000000) : laws_toPairS_t A k (xs,()) () = some ((xs,()),()):=by
  have h:=to_loop (A:=A) (f:=laws_toPairS_t_b0 A k) (([] : List UInt8),((0 : Int),())) xs hk
    (fun i ys hi hy=>by
      have hi' : i < ys.length:=by omega
      simp (disch:=omega) [laws_toPairS_t_b0,hi,hi',hy,a_wrap,laws_toPair_t])
    (fun ys hy=>by simp [laws_toPairS_t_b0])
  have h1 : (xs.length : Int) < 4294967296:=by omega
  simp [laws_toPairS_t,h1,h]
theorem toSessionS_eq (k : Nat) (xs : List Ses) (hk : xs.length < k) (hl : xs.length≤1000000000) : laws_toSessionS_t A k (xs,()) () = some ((xs,()),()):=by
  have h:=to_loop (A:=A) (f:=laws_toSessionS_t_b0 A k) ((0 : Int),((0 : Int),((0 : Int),()))) xs hk
    (fun i ys hi hy=>by
      have hi' : i < ys.length:=by omega
      simp (disch:=omega) [laws_toSessionS_t_b0,hi,hi',hy,a_wrap,laws_toSession_t])
    (fun ys hy=>by simp [laws_toSessionS_t_b0])
  have h1 : (xs.length : Int) < 4294967296:=by omega
  simp [laws_toSessionS_t,h1,h]
instance : DecidableEq Pair:=inferInstanceAs (DecidableEq (List UInt8 × (Int × Unit)))
instance : DecidableEq Ses:=inferInstanceAs (DecidableEq (Int × (Int × (Int × Unit))))
instance : DecidableEq Itv:=inferInstanceAs (DecidableEq (List UInt8 × (List UInt8 × Unit)))
set_option synthInstance.maxSize 2000 in
instance : DecidableEq Stt:=inferInstanceAs (DecidableEq (Itv × (List Pair × (List Ses × (Bool × (List UInt8 × Unit))))))
instance : DecidableEq Chk:=inferInstanceAs (DecidableEq (Int × (Stt × Unit)))
theorem eqPair_eq (k : Nat) (c d : Pair) : laws_eqPair_t A k (c,(d,())) () = some ((decide (c = d),()),()):=by
  obtain ⟨a1,a2,_⟩:=c
  obtain ⟨b1,b2,_⟩:=d
  simp only [laws_eqPair_t,a_cndS,a_notB,a_eqI,a_eqS]
  by_cases h1 : a1 = b1 <;> by_cases h2 : a2 = b2 <;> simp [h1,h2]
theorem eqSession_eq (k : Nat) (c d : Ses) : laws_eqSession_t A k (c,(d,())) () = some ((decide (c = d),()),()):=by
  obtain ⟨a1,a2,a3,_⟩:=c
  obtain ⟨b1,b2,b3,_⟩:=d
  simp only [laws_eqSession_t,a_cndS,a_notB,a_eqI]
  by_cases h1 : a1 = b1 <;> by_cases h2 : a2 = b2 <;> by_cases h3 : a3 = b3 <;> simp [h1,h2,h3]
theorem eqPairS_eq (k : Nat) (xs ys : List Pair) (hk : xs.length < k) (hl : xs.length≤1000000000) : laws_eqPairS_t A k (xs,(ys,())) () = some ((decide (xs = ys),()),()):=by
  by_cases he : xs.length = ys.length
  · have h:=eq_loop (A:=A) (f:=laws_eqPairS_t_b0 A k) (([] : List UInt8),((0 : Int),())) xs ys hk he
      (fun i hi=>by
        have hi' : i < ys.length:=by omega
        simp (disch:=omega) [laws_eqPairS_t_b0,hi,hi',a_wrap,eqPair_eq]
        by_cases hv : xs[i] = ys[i] <;> simp [hv])
      (by simp [laws_eqPairS_t_b0])
    simp only [laws_eqPairS_t,a_lenL,he,a_eqI,decide_true,a_notB,Bool.not_true,a_cndS,Bool.false_eq_true,if_false,h]
    by_cases hv : xs = ys <;> simp [hv]
  · have h2 : ¬ (xs.length : Int) = ys.length:=by omega
    have h3 : ¬ xs = ys:=fun e=>he (by rw [e])
    simp [laws_eqPairS_t,h2,h3]
theorem eqSessionS_eq (k : Nat) (xs ys : List Ses) (hk : xs.length < k) (hl : xs.length≤1000000000) : laws_eqSessionS_t A k (xs,(ys,())) () = some ((decide (xs = ys),()),()):=by
  by_cases he : xs.length = ys.length
  · have h:=eq_loop (A:=A) (f:=laws_eqSessionS_t_b0 A k) ((0 : Int),((0 : Int),((0 : Int),()))) xs ys hk he
      (fun i hi=>by
        have hi' : i < ys.length:=by omega
        simp (disch:=omega) [laws_eqSessionS_t_b0,hi,hi',a_wrap,eqSession_eq]
        by_cases hv : xs[i] = ys[i] <;> simp [hv])
      (by simp [laws_eqSessionS_t_b0])
    simp only [laws_eqSessionS_t,a_lenL,he,a_eqI,decide_true,a_notB,Bool.not_true,a_cndS,Bool.false_eq_true,if_false,h]
    by_cases hv : xs = ys <;> simp [hv]
  · have h2 : ¬ (xs.length : Int) = ys.length:=by omega
    have h3 : ¬ xs = ys:=fun e=>he (by rw [e])
    simp [laws_eqSessionS_t,h2,h3]
def StShort (s : Stt) : Prop:=s.2.1.length≤1048576∧s.2.2.1.length≤1048576
theorem toState_eq (k : Nat) (hk : 2000000≤k) (s : Stt) (h : StShort s) : laws_toState_t A k (s,()) () = some ((s,()),()):=by
  simp [laws_toState_t,laws_toInterval_t,toPairS_eq k s.2.1 (by have:=h.1; omega) (by have:=h.1; omega),toSessionS_eq k s.2.2.1 (by have:=h.2; omega) (by have:=h.2; omega)]
theorem eqInterval_eq (k : Nat) (c d : Itv) : laws_eqInterval_t A k (c,(d,())) () = some ((decide (c = d),()),()):=by
  obtain ⟨a1,a2,_⟩:=c
  obtain ⟨b1,b2,_⟩:=d
  simp only [laws_eqInterval_t,a_cndS,a_notB,a_eqS]
  by_cases h1 : a1 = b1 <;> by_cases h2 : a2 = b2 <;> simp [h1,h2]
theorem eqState_eq (k : Nat) (hk : 2000000≤k) (c d : Stt) (h : StShort c) : laws_eqState_t A k (c,(d,())) () = some ((decide (c = d),()),()):=by
  obtain ⟨a1,a2,a3,a4,a5,_⟩:=c
  obtain ⟨b1,b2,b3,b4,b5,_⟩:=d
  have g1 : a2.length≤1048576:=h.1
  have g2 : a3.length≤1048576:=h.2
  simp only [laws_eqState_t,eqInterval_eq,eqPairS_eq k a2 b2 (by omega) (by omega),eqSessionS_eq k a3 b3 (by omega) (by omega),a_obind_some,a_cndS,a_notB,a_eqB,a_eqS]
  by_cases h1 : a1 = b1
  · by_cases h2 : a2 = b2
    · by_cases h3 : a3 = b3
      · by_cases h4 : a4 = b4 <;> by_cases h5 : a5 = b5 <;> simp [h1,h2,h3,h4,h5]
      · simp [h1,h2,h3]
    · simp [h1,h2]
  · simp [h1]
def StFit (s : Stt) : Prop:=s.1.1.length≤9223372036854775807∧s.1.2.1.length≤9223372036854775807∧s.2.1.length≤9223372036854775807∧(∀ p ∈ s.2.1,p.1.length≤9223372036854775807)∧s.2.2.1.length≤9223372036854775807∧s.2.2.2.2.1.length≤9223372036854775807
theorem szPairS_ok (k : Nat) (xs : List Pair) (n : Int) (hn : 0≤n) (hn1 : n≤1048576) (hk : 2000000≤k) (hl : xs.length≤9223372036854775807) (hs : ∀ p ∈ xs,p.1.length≤9223372036854775807) :
    Ok (laws_szPairS_t A k (xs,(n,())) ()) (fun q=>q.1.1 = -1∨(0≤q.1.1∧q.1.1≤n∧xs.length≤1048576)):=by
  have w : A.wrapI .i64 (n - (xs.length : Int)) = n - (xs.length : Int):=a_wrap (by omega) (by omega)
  rw [laws_szPairS_t,ok_cndS]
  simp only [a_lenL,a_subI,w,a_ltI,decide_eq_true_eq,decide_eq_false_iff_not]
  refine ⟨fun _=>ok_some.2 (.inl rfl),fun h=>?_⟩
  refine (sz_loop (A:=A) (f:=laws_szPairS_t_b0 A k) xs (n - xs.length) (by omega) (by omega) (fun i m hi h0 h1=>?_) (fun m=>by simp [laws_szPairS_t_b0])).bind fun r hr=>?_
  · have he:=hs xs[i] (List.getElem_mem hi)
    have w2 : A.wrapI .i64 (m - (xs[i].1.length : Int)) = m - (xs[i].1.length : Int):=a_wrap (by omega) (by omega)
    by_cases hm : m - (xs[i].1.length : Int) < 0
    · refine ⟨.inr (.inr ((-1,()),())),?_,.inr rfl⟩
      simp (disch:=omega) [laws_szPairS_t_b0,hi,a_wrap,laws_szPair_t,w2,hm]
    · refine ⟨.inl (xs,(m - (xs[i].1.length : Int),(((i + 1 : Nat) : Int),()))),?_,.inl ⟨_,rfl,by omega,by omega⟩⟩
      simp (disch:=omega) [laws_szPairS_t_b0,hi,a_wrap,laws_szPair_t,w2,hm]
  · rcases hr with ⟨m,rfl,h0,h1⟩ | rfl
    · rw [a_sumE_inl]; exact ok_some.2 (.inr ⟨h0,by show m≤n; omega,by omega⟩)
    · rw [a_sumE_inr]; exact ok_some.2 (.inl rfl)
theorem szState_ok (k : Nat) (s : Stt) (hk : 2000000≤k) (hf : StFit s) : Ok (laws_szState_t A k (s,(1048576,())) ()) (fun q=>q.1.1 < 0∨StShort s):=by
  obtain ⟨f1,f2,f3,f4,f5,f6⟩:=hf
  have w1 : A.wrapI .i64 (1048576 - (s.1.1.length : Int)) = 1048576 - (s.1.1.length : Int):=a_wrap (by omega) (by omega)
  have hi : Ok (laws_szInterval_t A k (s.1,(1048576,())) ()) (fun q=>q.1.1 = -1∨(0≤q.1.1∧q.1.1≤1048576)):=by
    rw [laws_szInterval_t,ok_cndS]
    simp only [a_lenL,a_subI,w1,a_ltI,decide_eq_true_eq,decide_eq_false_iff_not]
    refine ⟨fun _=>ok_some.2 (.inl rfl),fun h=>?_⟩
    have w2 : A.wrapI .i64 (1048576 - (s.1.1.length : Int) - (s.1.2.1.length : Int)) = 1048576 - (s.1.1.length : Int) - (s.1.2.1.length : Int):=a_wrap (by omega) (by omega)
    rw [ok_cndS]
    simp only [w2,decide_eq_true_eq,decide_eq_false_iff_not]
    exact ⟨fun _=>ok_some.2 (.inl rfl),fun h=>ok_some.2 (.inr ⟨by show (0 : Int)≤1048576 - (s.1.1.length : Int) - (s.1.2.1.length : Int); omega,by show (1048576 : Int) - (s.1.1.length : Int) - (s.1.2.1.length : Int)≤1048576; omega⟩)⟩
  rw [laws_szState_t]
  refine hi.bind fun q hq=>?_
  rw [ok_cndS]
  simp only [a_ltI,decide_eq_true_eq,decide_eq_false_iff_not]
  refine ⟨fun _=>ok_some.2 (.inl (by show (-1 : Int) < 0; omega)),fun h=>?_⟩
  have hq' : 0≤q.1.1∧q.1.1≤1048576:=hq.resolve_left (fun e=>h (by omega))
  refine (szPairS_ok k s.2.1 q.1.1 hq'.1 hq'.2 hk f3 f4).bind fun q1 hq1=>?_
  rw [ok_cndS]
  simp only [a_ltI,decide_eq_true_eq,decide_eq_false_iff_not]
  refine ⟨fun _=>ok_some.2 (.inl (by show (-1 : Int) < 0; omega)),fun h1=>?_⟩
  have hq1' : 0≤q1.1.1∧q1.1.1≤q.1.1∧s.2.1.length≤1048576:=hq1.resolve_left (fun e=>h1 (by omega))
  have w3 : A.wrapI .i64 (q1.1.1 - (s.2.2.1.length : Int)) = q1.1.1 - (s.2.2.1.length : Int):=a_wrap (by omega) (by omega)
  rw [laws_szSessionS_t]
  simp only [a_lenL,a_subI,w3,a_ltI]
  by_cases hs : q1.1.1 - (s.2.2.1.length : Int) < 0
  · simp [hs,ok_some]
  · have hsh : StShort s:=⟨hq1'.2.2,by omega⟩
    simp only [hs,a_cndS,decide_false,Bool.false_eq_true,if_false,a_obind_some]
    split
    · exact ok_some.2 (.inr hsh)
    · exact ok_some.2 (.inr hsh)
end
abbrev TItv : Ty:=.prod .str (.prod .str .unit)
abbrev TPair : Ty:=.prod .str (.prod (.int .i64) .unit)
abbrev TSes : Ty:=.prod (.int .i64) (.prod (.int .i64) (.prod (.int .i64) .unit))
abbrev TStt : Ty:=.prod TItv (.prod (.slice TPair) (.prod (.slice TSes) (.prod .bool (.prod .str .unit))))
theorem st_fit {s : TStt.val} (h : InR TStt s) : StFit s :=
  ⟨Nat.le_trans h.1.1 (by decide),Nat.le_trans h.1.2.1 (by decide),Nat.le_trans h.2.1.1 (by decide),fun p hp=>Nat.le_trans (h.2.1.2 p hp).1 (by decide),Nat.le_trans h.2.2.1.1 (by decide),Nat.le_trans h.2.2.2.2.1 (by decide)⟩
end Go.Den.T

namespace Go.Den.T
set_option linter.unusedVariables false
set_option linter.unusedSimpArgs false
set_option linter.unusedSectionVars false
abbrev Ans:=Ent × (Int × Unit)
abbrev Chn:=Stt × (Cfg × (List Rep × (List Bool × (List Msg × (List Ans × Unit)))))
instance : DecidableEq Msg:=inferInstanceAs (DecidableEq (Int × (Int × (Int × (Cfg × (List Ent × Unit))))))
instance : DecidableEq Stt:=inferInstanceAs (DecidableEq (Itv × (List Pair × (List Ses × (Bool × (List UInt8 × Unit))))))
instance : DecidableEq Ans:=inferInstanceAs (DecidableEq (Ent × (Int × Unit)))
instance decMsgAns : DecidableEq (List Msg × (List Ans × Unit)):=inferInstance
instance decReps : DecidableEq (List Rep × (List Bool × (List Msg × (List Ans × Unit)))):=inferInstance
instance decCfgs : DecidableEq (Cfg × (List Rep × (List Bool × (List Msg × (List Ans × Unit))))):=inferInstance
instance : DecidableEq Chn:=inferInstanceAs (DecidableEq (Stt × (Cfg × (List Rep × (List Bool × (List Msg × (List Ans × Unit)))))))
abbrev ans0 : Ans:=(ent0,(0,()))
section
variable {A : Atoms} [IsReal A]
/-! ### sizes -/
def RepZ (r : Rep) : Prop:=r.1.2.1.length≤1048576∧r.2.2.1.length≤1048576
def ChnZ (c : Chn) : Prop:=StShort c.1∧c.2.1.2.1.length≤1048576∧(c.2.2.1.length≤1048576∧∀ r ∈ c.2.2.1,RepZ r)∧c.2.2.2.1.length≤1048576∧(c.2.2.2.2.1.length≤1048576∧∀ m ∈ c.2.2.2.2.1,MsgZ m)∧c.2.2.2.2.2.1.length≤1048576
/-! ### copies and comparisons -/
theorem eqReplicaS_eq (k : Nat) (xs ys : List Rep) (hk : 2000000≤k) (hl : xs.length≤1048576) (hz : ∀ m ∈ xs,RepZ m) : laws_eqReplicaS_t A k (xs,(ys,())) () = some ((decide (xs = ys),()),()):=by
  by_cases he : xs.length = ys.length
  · have h:=eq_loop (A:=A) (k:=k) (f:=laws_eqReplicaS_t_b0 A k) rep0 xs ys (by omega) he
      (fun i hi=>by
        have hi' : i < ys.length:=by omega
        have hm:=hz xs[i] (List.getElem_mem hi)
        simp (disch:=omega) [laws_eqReplicaS_t_b0,hi,hi',a_wrap,eqReplica_eq k xs[i] ys[i] hk hm.1 hm.2]
        by_cases hv : xs[i] = ys[i] <;> simp [hv])
      (by simp [laws_eqReplicaS_t_b0])
    simp only [laws_eqReplicaS_t,a_lenL,he,a_eqI,decide_true,a_notB,Bool.not_true,a_cndS,Bool.false_eq_true,if_false,h]
    by_cases hv : xs = ys <;> simp [hv]
  · have h2 : ¬ (xs.length : Int) = ys.length:=by omega
    have h3 : ¬ xs = ys:=fun e=>he (by rw [e])
    simp [laws_eqReplicaS_t,h2,h3]
theorem eqBoolS_eq (k : Nat) (xs ys : List Bool) (hk : 2000000≤k) (hl : xs.length≤1048576) : laws_eqBoolS_t A k (xs,(ys,())) () = some ((decide (xs = ys),()),()):=by
  by_cases he : xs.length = ys.length
  · have h:=eq_loop (A:=A) (k:=k) (f:=laws_eqBoolS_t_b0 A k) false xs ys (by omega) he
      (fun i hi=>by
        have hi' : i < ys.length:=by omega
        simp (disch:=omega) [laws_eqBoolS_t_b0,hi,hi',a_wrap]
        by_cases hv : xs[i] = ys[i] <;> simp [hv])
      (by simp [laws_eqBoolS_t_b0])
    simp only [laws_eqBoolS_t,a_lenL,he,a_eqI,decide_true,a_notB,Bool.not_true,a_cndS,Bool.false_eq_true,if_false,h]
    by_cases hv : xs = ys <;> simp [hv]
  · have h2 : ¬ (xs.length : Int) = ys.length:=by omega
    have h3 : ¬ xs = ys:=fun e=>he (by rw [e])
    simp [laws_eqBoolS_t,h2,h3]
theorem eqAnswer_eq (k : Nat) (c d : Ans) : laws_eqAnswer_t A k (c,(d,())) () = some ((decide (c = d),()),()):=by
  obtain ⟨a1,a2,_⟩:=c
  obtain ⟨b1,b2,_⟩:=d
  simp only [laws_eqAnswer_t,eqEntry_eq,a_obind_some,a_cndS,a_notB,a_eqI]
  by_cases h1 : a1 = b1
  · by_cases h2 : a2 = b2 <;> simp [h1,h2]
  · simp [h1]
theorem eqAnswerS_eq (k : Nat) (xs ys : List Ans) (hk : 2000000≤k) (hl : xs.length≤1048576) : laws_eqAnswerS_t A k (xs,(ys,())) () = some ((decide (xs = ys),()),()):=by
  by_cases he : xs.length = ys.length
  · have h:=eq_loop (A:=A) (k:=k) (f:=laws_eqAnswerS_t_b0 A k) ans0 xs ys (by omega) he
      (fun i hi=>by
        have hi' : i < ys.length:=by omega
        simp (disch:=omega) [laws_eqAnswerS_t_b0,hi,hi',a_wrap,eqAnswer_eq]
        by_cases hv : xs[i] = ys[i] <;> simp [hv])
      (by simp [laws_eqAnswerS_t_b0])
    simp only [laws_eqAnswerS_t,a_lenL,he,a_eqI,decide_true,a_notB,Bool.not_true,a_cndS,Bool.false_eq_true,if_false,h]
    by_cases hv : xs = ys <;> simp [hv]
  · have h2 : ¬ (xs.length : Int) = ys.length:=by omega
    have h3 : ¬ xs = ys:=fun e=>he (by rw [e])
    simp [laws_eqAnswerS_t,h2,h3]
theorem eqChain_eq (k : Nat) (c d : Chn) (hk : 2000000≤k) (hz : ChnZ c) : laws_eqChain_t A k (c,(d,())) () = some ((decide (c = d),()),()):=by
  obtain ⟨h1,h2,h3,h4,h5,h6⟩:=hz
  obtain ⟨a1,a2,a3,a4,a5,a6,_⟩:=c
  obtain ⟨b1,b2,b3,b4,b5,b6,_⟩:=d
  simp only at h1 h2 h3 h4 h5 h6
  simp only [laws_eqChain_t,eqState_eq k hk a1 b1 h1,eqConfig_eq k a2 b2 (by omega) (by omega),eqReplicaS_eq k a3 b3 hk h3.1 h3.2,eqBoolS_eq k a4 b4 hk h4,eqMessageS_eq k a5 b5 hk h5.1 h5.2,eqAnswerS_eq k a6 b6 hk h6,a_obind_some,a_cndS,a_notB]
  by_cases e1 : a1 = b1
  · by_cases e2 : a2 = b2
    · by_cases e3 : a3 = b3
      · by_cases e4 : a4 = b4
        · by_cases e5 : a5 = b5
          · by_cases e6 : a6 = b6 <;> simp [e1,e2,e3,e4,e5,e6]
          · simp [e1,e2,e3,e4,e5]
        · simp [e1,e2,e3,e4]
      · simp [e1,e2,e3]
    · simp [e1,e2]
  · simp [e1]
/-! ### valid chains -/
end
end Go.Den.T

namespace Go.Den.T
set_option linter.unusedVariables false
set_option linter.unusedSimpArgs false
set_option linter.unusedSectionVars false
section
variable {A : Atoms} [IsReal A]
theorem markText_ok (k : Nat) (hk : 100≤k) (n : Int) (h1 : n≤1000000000000000) : Ok (laws_markText_t A k (n,()) ()) (fun q=>q.1.1.length≤30):=by
  rw [laws_markText_t,ok_cndS]
  refine ⟨fun _=>ok_some.2 (by simp),fun h=>?_⟩
  simp at h
  have e : (10 : Nat) ^ 17 = 100000000000000000:=by decide
  refine Ok.bind (P:=fun e : List UInt8 × Unit=>e.1.length≤20) (iter_ok (fun j (s : Int × (List UInt8 × Unit))=>∃ m : Nat,s.1 = (m : Int)∧m < 10 ^ j∧s.2.1.length + j≤17∧m≤1000000000000000) _ ?_ (n:=17) (by omega) ⟨n.toNat,by simp only; omega,by omega,by simp,by omega⟩) fun e he=>?_
  · rintro j ⟨x,l,_⟩ ⟨m,g1,g2,g3,g4⟩
    simp only at g1 g2 g3
    subst g1
    rw [laws_markText_t_b0,ok_cndS]
    simp only [a_ltI,decide_eq_true_eq,decide_eq_false_iff_not]
    refine ⟨fun hpos=>?_,fun _=>ok_some.2 ⟨fun s' e=>(by cases e),fun e he=>(by injection he with he; subst he; show l.length≤20; omega)⟩⟩
    have hj : j ≠ 0:=by rintro rfl; simp at g2; omega
    have hw : A.wrapI .i64 (A.quoI (m : Int) 10) = ((m / 10 : Nat) : Int):=by
      rw [a_quoI,show ((m : Int)).tdiv 10 = ((m / 10 : Nat) : Int) from rfl]
      exact a_wrap (by omega) (by omega)
    have g : 1 + (l.length : Int) < 4294967296:=by omega
    rw [hw]
    refine ⟨.inl (((m / 10 : Nat) : Int),(A.appL (A.byteList ((A.wrapI .u8 (A.wrapI .i64 (A.addI 48 (A.remI (m : Int) 10)))) :: ([] : List Int))) l,())),by simp [g],fun s' e=>?_,fun e he=>(by cases he)⟩
    injection e with e; subst e
    refine ⟨j - 1,by omega,m / 10,rfl,?_,by simp; omega,by omega⟩
    have : j - 1 + 1 = j:=by omega
    rw [← this,Nat.pow_succ] at g2
    exact Nat.div_lt_of_lt_mul (by rw [Nat.mul_comm]; exact g2)
  · rw [ok_cndS]
    refine ⟨fun _=>ok_some.2 (by simp; omega),fun hc=>?_⟩
    simp at hc; omega
def mtx (A : Atoms) (k : Nat) (n : Int) : List UInt8:=match laws_markText_t A k (n,()) () with
  | some r=>r.1.1
  | none=>[]
theorem markText_eq (k : Nat) (hk : 100≤k) (n : Int) (h1 : n≤1000000000000000) : laws_markText_t A k (n,()) () = some ((mtx A k n,()),()):=by
  obtain ⟨r,h,_⟩:=markText_ok (A:=A) k hk n h1
  rw [mtx,h]
def mE (A : Atoms) (k : Nat) (n : Int) : Ent:=(n,(n + 1,((n + 2,(mtx A k (n + 3),(n + 4,(n + 5,())))),())))
def marksE (A : Atoms) (k : Nat) (n : Int) (m : Nat) : List Ent:=(List.range m).map fun i : Nat=>mE A k (n + 6 * (i : Int))
@[simp] theorem marksE_len (k : Nat) (n : Int) (m : Nat) : (marksE A k n m).length = m:=by simp [marksE]
theorem marksE_get {k : Nat} {n : Int} {m i : Nat} (h : i < m) : (marksE A k n m).getD i ent0 = mE A k (n + 6 * (i : Int)):=by rw [getD_lt (by simpa using h)]; simp [marksE]
theorem marksE_succ (k : Nat) (n : Int) (m : Nat) : marksE A k n (m + 1) = marksE A k n m ++ [mE A k (n + 6 * (m : Int))]:=by simp [marksE,List.range_succ]
theorem markE_set (k : Nat) (xs : List Ent) (n : Int) (i : Nat) (h : i < xs.length) : (marksE A k n i ++ xs.drop i).set i (mE A k (n + 6 * (i : Int))) = marksE A k n (i + 1) ++ xs.drop (i + 1):=by
  rw [List.set_append_right _ _ (by simp)]
  simp only [marksE_len,Nat.sub_self]
  rw [List.drop_eq_getElem_cons h,List.set_cons_zero,marksE_succ]
  simp
theorem markE_step (k : Nat) (hk : 100≤k) (L : List Ent) (i : Nat) (hi : i < L.length) (hl : L.length≤1000000000) (n : Int) (h0 : 0≤n) (h1 : n≤100000000000000) :
    laws_markEntryS_t_b0 A k (n,((i : Int),(L,()))) = some (.inl (n + 6,(((i + 1 : Nat) : Int),(L.set i (mE A k n),())))):=by
  have hi' : (i : Int) < (L.length : Int):=by omega
  have w1 : A.wrapI .i64 (n + 1) = n + 1:=a_wrap (by omega) (by omega)
  have w2 : A.wrapI .i64 (n + 1 + 1) = n + 2:=by rw [a_wrap (by omega) (by omega)]; omega
  have w3 : A.wrapI .i64 (n + 2 + 1) = n + 3:=by rw [a_wrap (by omega) (by omega)]; omega
  have w4 : A.wrapI .i64 (n + 3 + 1) = n + 4:=by rw [a_wrap (by omega) (by omega)]; omega
  have w5 : A.wrapI .i64 (n + 4 + 1) = n + 5:=by rw [a_wrap (by omega) (by omega)]; omega
  have w6 : A.wrapI .i64 (n + 5 + 1) = n + 6:=by rw [a_wrap (by omega) (by omega)]; omega
  have w : A.wrapI .i64 ((i : Int) + 1) = ((i + 1 : Nat) : Int):=by rw [a_wrap (by omega) (by omega)]; rfl
  have ge : ∀ (M : List Ent) (x d : Ent),i < M.length→(M.set i x).getD i d = x:=fun M x d h=>by rw [getD_lt (by simpa using h)]; simp
  have ls : ∀ (M : List Ent) (x : Ent),(M.set i x).length = M.length:=fun M x=>by simp
  simp only [laws_markEntryS_t_b0,a_cndS,a_ltI,a_lenL,a_le0,a_andB,hi',Int.natCast_nonneg,decide_true,Bool.and_self,if_true,a_setL,a_atL,Int.toNat_natCast,a_obind_some,a_addI,w,w1,w2,w3,w4,w5,w6,ls,ge,List.set_set,markText_eq k hk (n + 3) (by omega),hi]
  rfl
theorem markEntryS_eq (k : Nat) (hk : 100≤k) (n : Int) (xs : List Ent) (hkx : xs.length < k) (hl : xs.length≤1000000000) (h0 : 0≤n) (h1 : n≤90000000000000) :
    laws_markEntryS_t A k ((),(n,())) xs = some ((n + 6 * xs.length,()),marksE A k n xs.length):=by
  have h:=iter_for (A:=A) (f:=laws_markEntryS_t_b0 A k) (fun i=>(n + 6 * (i : Int),((i : Int),(marksE A k n i ++ xs.drop i,())))) xs.length (n + 6 * (xs.length : Int),(marksE A k n xs.length,()))
    (fun i hi=>by
      rw [markE_step k hk _ i (by simp; omega) (by simp; omega) _ (by omega) (by omega),markE_set k xs n i hi]
      simp; omega)
    (by simp [laws_markEntryS_t_b0]) hkx
  have z : marksE A k n 0 = []:=rfl
  simp [z] at h
  simp [laws_markEntryS_t,h]
theorem heldEntryS_eq (k : Nat) (hk : 100≤k) (n : Int) (m : Nat) (hkx : m < k) (hl : m≤1000000000) (h0 : 0≤n) (h1 : n≤90000000000000) : laws_heldEntryS_t A k (marksE A k n m,(n,())) () = some ((n + 6 * (m : Int),()),()):=by
  have h:=iter_for (A:=A) (f:=laws_heldEntryS_t_b0 A k) (fun i=>(marksE A k n m,(n + 6 * (i : Int),((i : Int),())))) m (.inl (n + 6 * (m : Int),()))
    (fun i hi=>by
      have e:=marksE_get (A:=A) (k:=k) (n:=n) hi
      have hi' : (i : Int) < (m : Int):=by omega
      generalize hq : n + 6 * (i : Int) = q at *
      have hq0 : 0≤q:=by omega
      have hq1 : q≤100000000000000:=by omega
      have w1 : A.wrapI .i64 (q + 1) = q + 1:=a_wrap (by omega) (by omega)
      have w2 : A.wrapI .i64 (q + 1 + 1) = q + 2:=by rw [a_wrap (by omega) (by omega)]; omega
      have w3 : A.wrapI .i64 (q + 2 + 1) = q + 3:=by rw [a_wrap (by omega) (by omega)]; omega
      have w4 : A.wrapI .i64 (q + 3 + 1) = q + 4:=by rw [a_wrap (by omega) (by omega)]; omega
      have w5 : A.wrapI .i64 (q + 4 + 1) = q + 5:=by rw [a_wrap (by omega) (by omega)]; omega
      have w6 : A.wrapI .i64 (q + 5 + 1) = q + 6:=by rw [a_wrap (by omega) (by omega)]; omega
      have w : A.wrapI .i64 ((i : Int) + 1) = ((i + 1 : Nat) : Int):=by rw [a_wrap (by omega) (by omega)]; rfl
      simp only [laws_heldEntryS_t_b0,a_cndS,a_ltI,a_lenL,a_le0,a_andB,marksE_len,hi',Int.natCast_nonneg,decide_true,Bool.and_self,if_true,a_atL,Int.toNat_natCast,e,mE,a_eqI,a_eqS,a_notB,Bool.not_true,Bool.false_eq_true,if_false,a_addI,w,w1,w2,w3,w4,w5,w6,markText_eq k hk (q + 3) (by omega),a_obind_some]
      have : q + 6 = n + 6 * ((i + 1 : Nat) : Int):=by omega
      rw [this])
    (by simp [laws_heldEntryS_t_b0]) hkx
  simp at h
  simp [laws_heldEntryS_t,h]
end
end Go.Den.T

namespace Go.Den.T
set_option linter.unusedVariables false
set_option linter.unusedSimpArgs false
set_option linter.unusedSectionVars false
section
variable {A : Atoms} [IsReal A]
/-! ### compared -/
def MsgT (k : Nat) (m : Msg) : Prop:=m.2.2.2.1.2.1.length < k∧m.2.2.2.2.1.length < k∧MsgF m
/-! ### drawn -/
theorem BagS.t {k : Nat} {l : List Msg} (hk : 200≤k) (h : BagS l) : ∀ m ∈ l,MsgT k m:=fun m hm=>by
  have:=h.2 m hm
  have h1 : m.2.2.2.1.2.1.length≤100:=this.1
  have h2 : m.2.2.2.2.1.length≤30:=this.2.1
  exact ⟨by omega,by omega,by omega,by omega⟩
end
end Go.Den.T
