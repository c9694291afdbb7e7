/- Chains as arguments of exact laws: their size, copies and comparisons; which chains are valid. -/
import Derived.Test.YtojleoiiijlhaaaGreatXPm1
import Derived.Test.YtojleoiiijlhaaaGreatXPm2
import Derived.Test.YtojleoiiijlhaaaGreatXPm3

namespace Go.Den.T
set_option linter.unusedVariables false
set_option linter.unusedSimpArgs false
set_option linter.unusedSectionVars false
abbrev Ans:=Ent × (Int × Unit)
abbrev Chn:=Stt × (Cfg × (List Rep × (List Bool × (List Msg × (List Ans × Unit)))))
instance : DecidableEq Msg:=inferInstanceAs (DecidableEq (Int × (Int × (Int × (Cfg × (List Ent × Unit))))))
instance : DecidableEq Stt:=inferInstanceAs (DecidableEq (Itv × (List Pair × (List Ses × (Bool × (List UInt8 × Unit))))))
instance : DecidableEq Ans:=inferInstanceAs (DecidableEq (Ent × (Int × Unit)))
instance decMsgAns : DecidableEq (List Msg × (List Ans × Unit)):=inferInstance
instance decReps : DecidableEq (List Rep × (List Bool × (List Msg × (List Ans × Unit)))):=inferInstance
instance decCfgs : DecidableEq (Cfg × (List Rep × (List Bool × (List Msg × (List Ans × Unit))))):=inferInstance
instance : DecidableEq Chn:=inferInstanceAs (DecidableEq (Stt × (Cfg × (List Rep × (List Bool × (List Msg × (List Ans × Unit)))))))
abbrev ans0 : Ans:=(ent0,(0,()))
section
variable {A : Atoms} [IsReal A]
/-! ### sizes -/
def RepZ (r : Rep) : Prop:=r.1.2.1.length≤1048576∧r.2.2.1.length≤1048576
def ChnZ (c : Chn) : Prop:=StShort c.1∧c.2.1.2.1.length≤1048576∧(c.2.2.1.length≤1048576∧∀ r ∈ c.2.2.1,RepZ r)∧c.2.2.2.1.length≤1048576∧(c.2.2.2.2.1.length≤1048576∧∀ m ∈ c.2.2.2.2.1,MsgZ m)∧c.2.2.2.2.2.1.length≤1048576
/-! ### copies and comparisons -/
/-! ### valid chains -/
def ansOk (a : Ans) : Bool:=entOk a.1 && decide (-4≤a.2.1∧a.2.1≤999)
def chnOk (c : Chn) : Bool:=stOk c.1 && (cfgOk c.2.1 && (decide (c.2.2.1.length = 5) && (decide (c.2.2.2.1.length = 5) && (bagOk c.2.2.2.2.1 && (decide (c.2.2.2.2.2.1.length≤24) &&
  (c.2.2.1.all (fun r=>repOk r && decide (r.1.1≤c.2.1.1)) && (c.2.2.2.2.1.all (fun m=>decide (m.2.2.1≤c.2.1.1)) && c.2.2.2.2.2.1.all ansOk)))))))
theorem answersValid_eq (k : Nat) (hk : 2000000≤k) (l : List Ans) : impl_answersValid_t A k (l,()) () = some (((decide (l.length≤24) && l.all ansOk),()),()):=by
  rw [impl_answersValid_t]
  by_cases g6 : l.length≤24
  case neg =>
    have : (24 : Int) < (l.length : Int):=by omega
    simp [g6,this]
  have g6' : ¬ (24 : Int) < (l.length : Int):=by omega
  have l2 := iter_all (A := A) (f := impl_answersValid_t_b0 A k) (fun i => (l, ((l.length : Int), ((i : Int), ())))) l.length (fun i => ansOk (l.getD i ans0)) (.inr ((false, ()), ())) (.inl ())
    (fun i hi=>by
      have i5 : (i : Int) < (l.length : Int):=by omega
      have w : A.wrapI .i64 ((i : Int) + 1) = ((i + 1 : Nat) : Int):=by rw [a_wrap (by omega) (by omega)]; rfl
      have ha : A.atL l (i : Int) ans0 = l.getD i ans0:=by rw [a_atL]; rfl
      simp only [impl_answersValid_t_b0,a_cndS,a_ltI,i5,decide_true,if_true,a_lenL,a_le0,Int.natCast_nonneg,a_andB,Bool.and_self,ha,a_addI,w,impl_EntryValid_eq k (by omega),a_obind_some,a_notB]
      generalize l.getD i ans0 = r
      rcases Bool.eq_false_or_eq_true (entOk r.1) with v | v
      · by_cases u1 : r.2.1 < -4
        · have : ¬ (-4≤r.2.1∧r.2.1≤999):=by omega
          simp [ansOk,v,u1,this]
        · by_cases u2 : 999 < r.2.1
          · have : ¬ (-4≤r.2.1∧r.2.1≤999):=by omega
            simp [ansOk,v,u1,u2,this]
          · have : -4≤r.2.1∧r.2.1≤999:=by omega
            simp [ansOk,v,u1,u2,this]
      · simp [ansOk,v])
    (by simp [impl_answersValid_t_b0]) (k:=k) (by omega)
  rw [all_range (q:=ansOk)] at l2
  simp only [Int.natCast_zero,Int.ofNat_zero] at l2
  simp only [a_cndS,a_ltI,a_lenL,g6',decide_false,Bool.false_eq_true,if_false,l2,a_obind_some,g6,decide_true,Bool.true_and]
  cases l.all ansOk <;> simp
theorem impl_ChainValid_eq (k : Nat) (hk : 2000000≤k) (c : Chn) (hs : StShort c.1) : impl_ChainValid_t A k (c,()) () = some ((chnOk c,()),()):=by
  have hs2:=hs.2
  simp only [impl_ChainValid_t,impl_StateValid_eq k (by omega) c.1 (by omega) (by omega),impl_ConfigValid_eq k (by omega) c.2.1,impl_BagValid_eq k (by omega) c.2.2.2.2.1,a_obind_some,a_cndS,a_notB,a_eqI,a_lenL,chnOk]
  rcases Bool.eq_false_or_eq_true (stOk c.1) with g1 | g1
  case inr=>simp [g1]
  rcases Bool.eq_false_or_eq_true (cfgOk c.2.1) with g2 | g2
  case inr=>simp [g1,g2]
  by_cases g3 : c.2.2.1.length = 5
  case neg =>
    have : ¬ (c.2.2.1.length : Int) = 5:=by omega
    simp [g1,g2,g3,this]
  by_cases g4 : c.2.2.2.1.length = 5
  case neg =>
    have : ¬ (c.2.2.2.1.length : Int) = 5:=by omega
    simp [g1,g2,g3,g4,this]
  rcases Bool.eq_false_or_eq_true (bagOk c.2.2.2.2.1) with g5 | g5
  case inr=>simp [g1,g2,g3,g4,g5]
  have g3' : (c.2.2.1.length : Int) = 5:=by omega
  have g4' : (c.2.2.2.1.length : Int) = 5:=by omega
  have hb : c.2.2.2.2.1.length≤10:=by simp [bagOk] at g5; exact g5.1
  have l0 := iter_all (A := A) (f := impl_ChainValid_t_b0 A k) (fun i => (c.2.2.1, (((c.2.2.1.length : Nat) : Int), ((i : Int), (c, ()))))) c.2.2.1.length (fun i => repOk (c.2.2.1.getD i rep0) && decide ((c.2.2.1.getD i rep0).1.1 ≤ c.2.1.1)) (.inr ((false, ()), ())) (.inl (c, ()))
    (fun i hi=>by
      have i5 : (i : Int) < (c.2.2.1.length : Int):=by omega
      have w : A.wrapI .i64 ((i : Int) + 1) = ((i + 1 : Nat) : Int):=by rw [a_wrap (by omega) (by omega)]; rfl
      have ha : A.atL c.2.2.1 (i : Int) rep0 = c.2.2.1.getD i rep0:=by rw [a_atL]; rfl
      simp only [impl_ChainValid_t_b0,a_cndS,a_ltI,i5,decide_true,if_true,a_lenL,a_le0,Int.natCast_nonneg,a_andB,Bool.and_self,ha,impl_ReplicaValid_eq k (by omega),a_obind_some,a_notB,a_addI,w]
      generalize c.2.2.1.getD i rep0 = r
      rcases Bool.eq_false_or_eq_true (repOk r) with v | v
      · by_cases u : r.1.1≤c.2.1.1
        · have : ¬ c.2.1.1 < r.1.1:=by omega
          simp [v,u,this]
        · have : c.2.1.1 < r.1.1:=by omega
          simp [v,u,this]
      · simp [v])
    (by simp [impl_ChainValid_t_b0]) (k:=k) (by omega)
  have l1:=iter_all (A:=A) (f:=impl_ChainValid_t_b1 A k) (fun i=>(c.2.2.2.2.1,(((c.2.2.2.2.1.length : Nat) : Int),((i : Int),(c,()))))) c.2.2.2.2.1.length (fun i=>decide ((c.2.2.2.2.1.getD i msg0).2.2.1≤c.2.1.1)) (.inr ((false,()),())) (.inl (c,()))
    (fun i hi=>by
      have i5 : (i : Int) < (c.2.2.2.2.1.length : Int):=by omega
      have w : A.wrapI .i64 ((i : Int) + 1) = ((i + 1 : Nat) : Int):=by rw [a_wrap (by omega) (by omega)]; rfl
      have ha : A.atL c.2.2.2.2.1 (i : Int) msg0 = c.2.2.2.2.1.getD i msg0:=by rw [a_atL]; rfl
      simp only [impl_ChainValid_t_b1,a_cndS,a_ltI,i5,decide_true,if_true,a_lenL,a_le0,Int.natCast_nonneg,a_andB,Bool.and_self,ha,a_addI,w]
      generalize c.2.2.2.2.1.getD i msg0 = r
      by_cases u : r.2.2.1≤c.2.1.1
      · have : ¬ c.2.1.1 < r.2.2.1:=by omega
        simp [u,this]
      · have : c.2.1.1 < r.2.2.1:=by omega
        simp [u,this])
    (by simp [impl_ChainValid_t_b1]) (k:=k) (by omega)
  rw [all_range (q:=fun r : Rep=>repOk r && decide (r.1.1≤c.2.1.1))] at l0
  rw [all_range (q:=fun m : Msg=>decide (m.2.2.1≤c.2.1.1))] at l1
  simp only [Int.natCast_zero,Int.ofNat_zero] at l0 l1
  have e5 : ((5 : Nat) : Int) = 5:=rfl
  simp only [g1,g2,g3',g4',g5,g3,g4,e5,decide_true,decide_false,Bool.not_true,Bool.false_eq_true,if_false,a_sumE_inl,a_obind_some,Bool.true_and]
  rw [g3,e5] at l0
  simp only [l0,a_obind_some]
  cases c.2.2.1.all (fun r=>repOk r && decide (r.1.1≤c.2.1.1)) with
  | false=>simp
  | true =>
    simp only [if_true,a_sumE_inl,l1,a_obind_some,Bool.true_and]
    cases c.2.2.2.2.1.all (fun m=>decide (m.2.2.1≤c.2.1.1)) with
    | false=>simp
    | true=>simp only [if_true,a_sumE_inl,answersValid_eq k hk,a_obind_some,Bool.true_and]
end
end Go.Den.T

namespace Go.Den.T
set_option linter.unusedVariables false
set_option linter.unusedSimpArgs false
set_option linter.unusedSectionVars false
section
variable {A : Atoms} [IsReal A]
def mtx (A : Atoms) (k : Nat) (n : Int) : List UInt8:=match laws_markText_t A k (n,()) () with
  | some r=>r.1.1
  | none=>[]
def mE (A : Atoms) (k : Nat) (n : Int) : Ent:=(n,(n + 1,((n + 2,(mtx A k (n + 3),(n + 4,(n + 5,())))),())))
def marksE (A : Atoms) (k : Nat) (n : Int) (m : Nat) : List Ent:=(List.range m).map fun i : Nat=>mE A k (n + 6 * (i : Int))
@[simp] theorem marksE_len (k : Nat) (n : Int) (m : Nat) : (marksE A k n m).length = m:=by simp [marksE]
end
end Go.Den.T

namespace Go.Den.T
set_option linter.unusedVariables false
set_option linter.unusedSimpArgs false
set_option linter.unusedSectionVars false
section
variable {A : Atoms} [IsReal A]
/-! ### compared -/
theorem sameMessage_eq (k : Nat) (m q : Msg) (h1 : m.2.2.2.1.2.1.length < k) (h2 : m.2.2.2.2.1.length < k) (hf : MsgF m) : laws_sameMessage_t A k (m,(q,())) () = some ((decide (m = q),()),()):=by
  obtain ⟨a1,a2,a3,a4,a5,_⟩:=m
  obtain ⟨b1,b2,b3,b4,b5,_⟩:=q
  obtain ⟨f1,f2⟩:=hf
  simp only at h1 h2 f1 f2
  simp only [laws_sameMessage_t,sameConfig_eq k a4 b4 h1 f1,sameLog_eq k a5 b5 h2 f2,a_obind_some,a_cndS,a_eqI]
  by_cases g1 : a1 = b1
  · by_cases g2 : a2 = b2
    · by_cases g3 : a3 = b3
      · by_cases g4 : a4 = b4
        · by_cases g5 : a5 = b5 <;> simp [g1,g2,g3,g4,g5]
        · simp [g1,g2,g3,g4]
      · simp [g1,g2,g3]
    · simp [g1,g2]
  · simp [g1]
def MsgT (k : Nat) (m : Msg) : Prop:=m.2.2.2.1.2.1.length < k∧m.2.2.2.2.1.length < k∧MsgF m
theorem sameBag_eq (k : Nat) (xs ys : List Msg) (hk : xs.length < k) (hl : xs.length≤1000000000) (hf : ∀ m ∈ xs,MsgT k m) : laws_sameBag_t A k (xs,(ys,())) () = some ((decide (xs = ys),()),()):=by
  by_cases he : xs.length = ys.length
  · have h:=eq_loop (A:=A) (f:=laws_sameBag_t_b0 A k) msg0 xs ys hk he
      (fun i hi=>by
        have hi' : i < ys.length:=by omega
        have hx : (i : Int) < (xs.length : Int):=by omega
        have hy : (i : Int) < (ys.length : Int):=by omega
        have w : A.wrapI .i64 ((i : Int) + 1) = ((i + 1 : Nat) : Int):=by rw [a_wrap (by omega) (by omega)]; rfl
        have hm:=hf xs[i] (List.getElem_mem hi)
        simp only [laws_sameBag_t_b0,a_cndS,a_ltI,a_lenL,a_le0,a_andB,hx,hy,Int.natCast_nonneg,decide_true,Bool.and_self,if_true,a_atL,Int.toNat_natCast,getD_lt hi,getD_lt hi',sameMessage_eq k xs[i] ys[i] hm.1 hm.2.1 hm.2.2,a_obind_some,a_notB,a_addI,w]
        by_cases hv : xs[i] = ys[i]
        · simp only [hv]; simp
        · simp only [hv]; simp)
      (by simp [laws_sameBag_t_b0])
    simp only [laws_sameBag_t,a_lenL,he,a_eqI,decide_true,a_notB,Bool.not_true,a_cndS,Bool.false_eq_true,if_false,h]
    by_cases hv : xs = ys <;> simp [hv]
  · have h2 : ¬ (xs.length : Int) = ys.length:=by omega
    have h3 : ¬ xs = ys:=fun e=>he (by rw [e])
    simp [laws_sameBag_t,h2,h3]
/-! ### drawn -/
theorem BagS.t {k : Nat} {l : List Msg} (hk : 200≤k) (h : BagS l) : ∀ m ∈ l,MsgT k m:=fun m hm=>by
  have:=h.2 m hm
  have h1 : m.2.2.2.1.2.1.length≤100:=this.1
  have h2 : m.2.2.2.2.1.length≤30:=this.2.1
  exact ⟨by omega,by omega,by omega,by omega⟩
end
end Go.Den.T

namespace Go.Den.T
set_option linter.unusedVariables false
set_option linter.unusedSimpArgs false
set_option linter.unusedSectionVars false
section
variable {A : Atoms} [IsReal A]
/-! marks, element by element -/
section
variable {α : Type} (mk : Int→α→α) (nx : Int→α→Int)
end
/-! messages -/
end
end Go.Den.T

namespace Go.Den.T
end Go.Den.T

namespace Go.Den.T
set_option linter.unusedVariables false
set_option linter.unusedSimpArgs false
set_option linter.unusedSectionVars false
section
variable {A : Atoms} [IsReal A]
theorem in_bounds {α : Type} {l : List α} {i : Int} (h0 : 0≤i) (h1 : i < l.length) : A.andB (A.le0 i) (A.ltI i (A.lenL l)) = true:=by simp [h0,h1]
theorem in_bounds' {α : Type} {l : List α} {i : Int} (h0 : 0≤i) (h1 : i≤l.length) : A.andB (A.le0 i) (A.leI i (A.lenL l)) = true:=by simp [h0,h1]
theorem l4Place_ok (k : Nat) (l : List Pair) (s : List UInt8) (hk : l.length < k) (hl : l.length≤1000000000) : Ok (spec_l4Place_t A k (l,(s,())) ()) (fun q=>0≤q.1.1∧q.1.1≤l.length):=by
  rw [spec_l4Place_t]
  refine Ok.bind (P:=fun e : Int × Unit=>0≤e.1∧e.1≤l.length) (iter_ok (fun m (st : List Pair × (List UInt8 × (Int × Unit)))=>∃ i : Nat,st = (l,(s,((i : Int),())))∧i≤l.length∧m = l.length - i) _ ?_ (n:=l.length) (by omega) ⟨0,rfl,by omega,by omega⟩) fun e he=>ok_some.2 he
  rintro m st ⟨i,rfl,hi,rfl⟩
  have w : A.wrapI .i64 (A.addI (i : Int) 1) = ((i + 1 : Nat) : Int):=by rw [a_addI,a_wrap (by omega) (by omega)]; rfl
  rw [spec_l4Place_t_b0,ok_cndS]
  simp only [a_ltI,a_lenL,decide_eq_true_eq,decide_eq_false_iff_not]
  have stop : ∀ e : (List Pair × (List UInt8 × (Int × Unit))) ⊕ (Int × Unit),e = .inr ((i : Int),())→(∀ s',e = .inl s'→∃ m',m' < l.length - i∧∃ j : Nat,s' = (l,(s,((j : Int),())))∧j≤l.length∧m' = l.length - j)∧∀ r,e = .inr r→0≤r.1∧r.1≤(l.length : Int):=by
    rintro e rfl
    exact ⟨fun s' e=>(by cases e),fun r e=>(by injection e with e; subst e; exact ⟨by show (0 : Int)≤i; omega,by show (i : Int)≤_; omega⟩)⟩
  refine ⟨fun hlt=>?_,fun _=>ok_some.2 (stop _ rfl)⟩
  rw [ok_cndS]
  refine ⟨fun _=>?_,fun hc=>by simp [hlt] at hc⟩
  rw [ok_cndS]
  refine ⟨fun _=>ok_some.2 ⟨fun s' e=>?_,fun r e=>(by cases e)⟩,fun _=>ok_some.2 (stop _ rfl)⟩
  injection e with e; subst e
  rw [w]
  exact ⟨l.length - (i + 1),by omega,i + 1,rfl,by omega,rfl⟩
theorem PairPut_ok (k : Nat) (hk : 2000≤k) (l : List Pair) (s : List UInt8) (v : Int) : Ok (spec_PairPut_t A k (l,(s,(v,()))) ()) (fun q=>q.1.1.length≤l.length + 1):=by
  rw [spec_PairPut_t]
  refine Ok.bind (P:=fun t=>t = .inr ((([] : List Pair),(false,())),())∨(t = .inl (l,(s,(v,(([] : List Pair),()))))∧l.length≤48)) ?_ fun t ht=>?_
  · rw [spec_PairsValid_eq k (by omega),a_obind_some,ok_cndS]
    refine ⟨fun _=>ok_some.2 (.inl rfl),fun h=>?_⟩
    have hp : pairsOk l = true:=by simpa using h
    rw [spec_KeyValid_eq k (by omega),a_obind_some,ok_cndS]
    refine ⟨fun _=>ok_some.2 (.inl rfl),fun _=>?_⟩
    rw [l1In_eq,a_obind_some,ok_cndS]
    exact ⟨fun _=>ok_some.2 (.inl rfl),fun _=>ok_some.2 (.inr ⟨rfl,(pairs_keys hp).1⟩)⟩
  rcases ht with rfl | ⟨rfl,hl⟩
  · rw [a_sumE_inr]; exact ok_some.2 (by simp)
  rw [a_sumE_inl]
  refine (l4Place_ok k l s (by omega) (by omega)).bind fun q hq=>?_
  obtain ⟨⟨i,_⟩,_⟩:=q
  simp only at hq
  have big : (l.length : Int) < 4294967296:=by omega
  refine Ok.bind (P:=fun t=>(∃ r : (List Pair × (Bool × Unit)) × Unit,t = .inr r∧r.1.1.length≤l.length + 1)∨t = .inl (l,(s,(v,(([] : List Pair),(i,()))))))  ?_ fun t ht=>?_
  · rw [ok_cndS]
    refine ⟨fun h1=>?_,fun _=>ok_some.2 (.inr rfl)⟩
    have h1' : i < l.length:=by simpa using h1
    have hb:=in_bounds (A:=A) hq.1 h1'
    have hb2 : A.andB (A.eqI (A.lenL ([] : List Pair)) 0) (A.ltI (A.lenL l) A.big) = true:=by simp [big]
    rw [ok_cndS]
    refine ⟨fun _=>?_,fun hc=>(by rw [hb] at hc; cases hc)⟩
    rw [ok_cndS]
    refine ⟨fun _=>?_,fun _=>ok_some.2 (.inr rfl)⟩
    simp only [a_cndS (A:=A),hb,hb2,if_true]
    exact ok_some.2 (.inl ⟨_,rfl,by simp⟩)
  rcases ht with ⟨r,rfl,hr⟩ | rfl
  · rw [a_sumE_inr]; exact ok_some.2 hr
  rw [a_sumE_inl,ok_cndS]
  refine ⟨fun _=>?_,fun _=>?_⟩
  · rw [ok_cndS]
    exact ⟨fun _=>ok_some.2 (by simp),fun hc=>(by simp at hc; omega)⟩
  · have hb:=in_bounds' (A:=A) hq.1 hq.2
    have tl : (l.take i.toNat).length≤48:=by rw [List.length_take]; omega
    have dl : (l.drop i.toNat).length≤48:=by rw [List.length_drop]; omega
    have t1 : ((l.take i.toNat).length : Int) < 4294967296:=by omega
    have t2 : ((l.take i.toNat).length : Int) + 1 < 4294967296:=by omega
    have t3 : ((l.take i.toNat).length : Int) + 1 + ((l.drop i.toNat).length : Int) < 4294967296:=by omega
    have e : (l.take i.toNat).length + (l.drop i.toNat).length = l.length:=by rw [List.length_take,List.length_drop]; omega
    simp only [a_cndS (A:=A),a_le0,a_leI,a_andB,hq.1,hq.2,Bool.and_self,if_true,a_takeL,a_dropL,a_appL,a_lenL,a_addI,a_ltI,a_big,List.length_append,List.length_nil,List.length_cons,List.nil_append,Nat.zero_add,Int.natCast_add,Int.natCast_zero,Int.ofNat_zero,Int.zero_add,Int.natCast_one,Int.ofNat_one,t1,t2,t3,decide_true]
    refine ok_some.2 ?_
    simp only [List.length_append,List.length_cons,List.length_nil]
    omega
theorem l1Weight_ok (k : Nat) (i : Int) : Ok (spec_l1Weight_t A k (i,()) ()) (fun q=>q.1.1 ≠ 0):=by
  rw [spec_l1Weight_t]
  rw [ok_cndS]; refine ⟨fun _=>ok_some.2 (by simp),fun _=>?_⟩
  rw [ok_cndS]; refine ⟨fun _=>ok_some.2 (by simp),fun _=>?_⟩
  rw [ok_cndS]; exact ⟨fun _=>ok_some.2 (by simp),fun _=>ok_some.2 (by simp)⟩
theorem KeyAt_ok (k : Nat) (hk : 100≤k) (n : Int) : Ok (spec_KeyAt_t A k (n,()) ()) (fun _=>True):=by
  rw [spec_KeyAt_t,l1In_eq,a_obind_some,ok_cndS]
  refine ⟨fun _=>ok_some.2 trivial,fun _=>?_⟩
  refine Ok.bind (P:=fun _=>True) (iter_ok (fun m (st : Int × (List UInt8 × (Int × Unit)))=>∃ i : Nat,st.2.2.1 = (i : Int)∧i≤4∧m = 4 - i∧st.2.1.length = i) _ ?_ (n:=4) (by omega) ⟨0,rfl,by omega,rfl,rfl⟩) fun e _=>?_
  · rintro m ⟨x,out,j,_⟩ ⟨i,hj,hi,rfl,hlen⟩
    simp only at hj hlen
    subst hj
    have w : A.wrapI .i64 (A.addI (i : Int) 1) = ((i + 1 : Nat) : Int):=by rw [a_addI,a_wrap (by omega) (by omega)]; rfl
    rw [spec_KeyAt_t_b0,ok_cndS]
    refine ⟨fun h1=>?_,fun _=>ok_some.2 ⟨fun s' e=>(by cases e),fun r e=>trivial⟩⟩
    have h1' : i < 4 := by have : (i : Int) < 4 := by simpa using h1
                           omega
    refine (l1Weight_ok k _).bind fun q hq=>?_
    rw [ok_cndS]
    refine ⟨fun _=>?_,fun hc=>by simp [hq] at hc⟩
    rw [ok_cndS]
    refine ⟨fun _=>?_,fun hc=>by simp at hc; omega⟩
    refine (l1Weight_ok k _).bind fun q1 hq1=>?_
    rw [ok_cndS]
    refine ⟨fun _=>?_,fun hc=>by simp [hq1] at hc⟩
    rw [ok_cndS]
    refine ⟨fun _=>ok_some.2 ⟨fun s' e=>(by cases e),fun r e=>trivial⟩,fun _=>ok_some.2 ⟨fun s' e=>?_,fun r e=>(by cases e)⟩⟩
    injection e with e; subst e
    exact ⟨4 - (i + 1),by omega,i + 1,w,by omega,rfl,by simp [hlen]⟩
  · rw [ok_sumE]; exact ⟨fun _ _=>ok_some.2 trivial,fun _ _=>ok_some.2 trivial⟩
theorem PairScan_ok (k : Nat) (hk : 2000≤k) (l : List Pair) (iv : Itv) (n : Int) (hl : l.length≤1000) : Ok (spec_PairScan_t A k (l,(iv,(n,()))) ()) (fun q=>q.1.1.length≤l.length):=by
  rw [spec_PairScan_t]
  refine Ok.bind (P:=fun t=>t = .inr ((([] : List Pair),()),())∨t = .inl (l,(n,(([] : List Pair),(iv,()))))) ?_ fun t ht=>?_
  · rw [spec_PairsValid_eq k (by omega),a_obind_some,ok_cndS]
    refine ⟨fun _=>ok_some.2 (.inl rfl),fun h=>?_⟩
    rw [spec_IntervalValid_eq k (by omega),a_obind_some,ok_cndS]
    refine ⟨fun _=>ok_some.2 (.inl rfl),fun _=>?_⟩
    rw [l1In_eq,a_obind_some,ok_cndS]
    exact ⟨fun _=>ok_some.2 (.inl rfl),fun _=>ok_some.2 (.inr rfl)⟩
  rcases ht with rfl | rfl
  · rw [a_sumE_inr]; exact ok_some.2 (by simp)
  rw [a_sumE_inl]
  refine Ok.bind (P:=fun e : List Pair × Unit=>e.1.length≤l.length) (iter_ok (fun m (st : List Pair × (Int × (List Pair × (Int × (Itv × Unit)))))=>∃ (i : Nat) (out : List Pair),st = (l,(n,(out,((i : Int),(iv,())))))∧i≤l.length∧m = l.length - i∧out.length≤i) _ ?_ (n:=l.length) (by omega) ⟨0,[],rfl,by omega,by omega,by simp⟩) fun e he=>ok_some.2 he
  rintro m st ⟨i,out,rfl,hi,rfl,ho⟩
  have w : A.wrapI .i64 (A.addI (i : Int) 1) = ((i + 1 : Nat) : Int):=by rw [a_addI,a_wrap (by omega) (by omega)]; rfl
  rw [spec_PairScan_t_b0]
  refine Ok.bind (P:=fun t=>t = .inr (.inr (out,()))∨(t = .inl (l,(n,(out,((i : Int),(iv,())))))∧i < l.length)) ?_ fun t ht=>?_
  · rw [ok_cndS]
    refine ⟨fun h1=>?_,fun _=>ok_some.2 (.inl rfl)⟩
    rw [ok_cndS]
    refine ⟨fun _=>ok_some.2 (.inr ⟨rfl,?_⟩),fun _=>ok_some.2 (.inl rfl)⟩
    have : (i : Int) < l.length:=by simpa using h1
    omega
  rcases ht with rfl | ⟨rfl,hlt⟩
  · rw [a_sumE_inr]
    exact ok_some.2 ⟨fun s' e=>(by cases e),fun r e=>(by injection e with e; subst e; show out.length≤_; omega)⟩
  rw [a_sumE_inl]
  have hb:=in_bounds (A:=A) (l:=l) (i:=(i : Int)) (by omega) (by omega)
  rw [ok_cndS]
  refine ⟨fun _=>?_,fun hc=>(by rw [hb] at hc; cases hc)⟩
  rw [IntervalHas_eq k (by omega),a_obind_some,ok_cndS]
  refine ⟨fun _=>?_,fun _=>ok_some.2 ⟨fun s' e=>?_,fun r e=>(by cases e)⟩⟩
  · rw [ok_cndS]
    refine ⟨fun _=>?_,fun hc=>(by rw [hb] at hc; cases hc)⟩
    rw [ok_cndS]
    refine ⟨fun _=>ok_some.2 ⟨fun s' e=>?_,fun r e=>(by cases e)⟩,fun hc=>(by simp at hc; omega)⟩
    injection e with e; subst e
    exact ⟨l.length - (i + 1),by omega,i + 1,_,by rw [w],by omega,rfl,by simp; omega⟩
  · injection e with e; subst e
    exact ⟨l.length - (i + 1),by omega,i + 1,out,by rw [w],by omega,rfl,by omega⟩
theorem PairsIn_ok (k : Nat) (hk : 2000≤k) (l : List Pair) (iv : Itv) (hl : l.length≤1000) : Ok (spec_PairsIn_t A k (l,(iv,())) ()) (fun q=>q.1.1.length≤l.length):=by
  rw [spec_PairsIn_t]
  exact (PairScan_ok k hk l iv 48 hl).bind fun q hq=>ok_some.2 hq
theorem l20Span_ok (k : Nat) (hk : 100≤k) (n N : Int) (r : Rd) (h : RdOk N r) (hp : N≤800000000) (hn : n≤1000000000) : Ok (spec_l20Span_t A k ((),(n,())) r) (fun q=>RdOk (N + 40) q.2):=by
  rw [spec_l20Span_t]
  refine (odd_ok k n N r h (by omega) (by omega)).bind fun q hq=>?_
  rw [ok_cndS]
  refine ⟨fun _=>?_,fun _=>?_⟩
  · refine (pick_ok k 5 _ _ hq (by omega) (by omega)).bind fun q1 h1=>?_
    have b1:=h1.2.1
    have b2:=h1.2.2.2.1 (by omega)
    rw [ok_cndS]
    exact ⟨fun _=>ok_some.2 (h1.1.le (by omega)),fun hc=>(by simp at hc; omega)⟩
  · refine (l20Key_ok k hk 0 _ _ hq (by omega) (by omega)).bind fun q1 h1=>?_
    refine (l20Key_ok k hk 0 _ _ h1.1 (by omega) (by omega)).bind fun q2 h2=>?_
    refine Ok.bind (P:=fun t=>(∃ r,t = .inr r∧RdOk (N + 40) r.2)∨∃ s,t = .inl s∧RdOk (N + 40) s.2.2.2) ?_ fun t ht=>?_
    · refine (pick_ok k 6 _ _ h2.1 (by omega) (by omega)).bind fun q3 h3=>?_
      have h4:=h3.1.le (M:=N + 40) (by omega)
      rw [ok_cndS]; refine ⟨fun _=>ok_some.2 (.inl ⟨_,rfl,h4⟩),fun _=>?_⟩
      rw [ok_cndS]; refine ⟨fun _=>ok_some.2 (.inl ⟨_,rfl,h4⟩),fun _=>?_⟩
      rw [ok_cndS]; refine ⟨fun _=>?_,fun _=>ok_some.2 (.inr ⟨_,rfl,h4⟩)⟩
      rw [ok_cndS]; exact ⟨fun _=>ok_some.2 (.inl ⟨_,rfl,h4⟩),fun _=>ok_some.2 (.inr ⟨_,rfl,h4⟩)⟩
    rcases ht with ⟨r,rfl,hr⟩ | ⟨s,rfl,hs⟩
    · rw [a_sumE_inr]; exact ok_some.2 hr
    · rw [a_sumE_inl,ok_cndS]; refine ⟨fun _=>ok_some.2 hs,fun _=>?_⟩
      rw [ok_cndS]; exact ⟨fun _=>ok_some.2 hs,fun _=>ok_some.2 hs⟩
theorem l20Pairs_ok (k : Nat) (hk : 2000≤k) (n N : Int) (r : Rd) (h : RdOk N r) (hp : N≤800000000) (hn : n≤1000000000) : Ok (spec_l20Pairs_t A k ((),(n,())) r) (fun q=>RdOk (N + 300) q.2∧q.1.1.length≤60):=by
  rw [spec_l20Pairs_t]
  refine (pick_ok k 9 _ _ h (by omega) (by omega)).bind fun q0 h0=>?_
  have b1:=h0.2.1
  have b2:=h0.2.2.2.1 (by omega)
  refine Ok.bind (P:=fun e : Int × (List Pair × Rd)=>e.1 = n∧e.2.1.length≤8∧RdOk (N + 200) e.2.2) (iter_ok (fun j (s : Int × (List Pair × (Int × Rd)))=>s.1 = n∧s.2.2.1 = (j : Int)∧s.2.1.length + j≤8∧RdOk (N + 1 + 14 * (8 - (j : Int))) s.2.2.2) _ ?_ (n:=q0.1.1.toNat) (by omega) ⟨rfl,by show q0.1.1 = _; omega,by show ([] : List Pair).length + _≤8; simp; omega,h0.1.le (by omega)⟩) fun e he=>?_
  · rintro j ⟨n',l,x,rr⟩ ⟨g0,g1,g2,g3⟩
    simp only at g0 g1 g2 g3
    subst g0 g1
    rw [spec_l20Pairs_t_b0,ok_cndS]
    simp only [a_ltI,decide_eq_true_eq,decide_eq_false_iff_not]
    refine ⟨fun hpos=>?_,fun _=>ok_some.2 ⟨fun s' e=>(by cases e),fun e he=>(by injection he with he; subst he; exact ⟨rfl,by show l.length≤8; omega,g3.le (by omega)⟩)⟩⟩
    have w' : A.wrapI .i64 (A.subI (j : Int) 1) = ((j - 1 : Nat) : Int):=by rw [a_subI,a_wrap (by omega) (by omega)]; omega
    refine (l20Key_ok k (by omega) 0 _ _ g3 (by omega) (by omega)).bind fun q1 h1=>?_
    refine (l20Value_ok k 0 _ _ h1.1 (by omega) (by omega)).bind fun q2 h2=>?_
    refine (PairPut_ok k (by omega) l q1.1.1 q2.1.1).bind fun q3 h3=>?_
    refine ok_some.2 ⟨fun s' e=>?_,fun e he=>(by cases he)⟩
    injection e with e; subst e
    exact ⟨j - 1,by omega,rfl,w',by show q3.1.1.length + _≤8; omega,h2.1.le (by omega)⟩
  obtain ⟨n1,l1,r1⟩:=e
  obtain ⟨e1,e2,e3⟩:=he
  simp only at e1 e2 e3
  subst e1
  refine Ok.bind (P:=fun e : Int × (List Pair × Rd)=>e.1 = n1∧e.2.1.length≤48∧RdOk (N + 201) e.2.2) ?_ fun e he=>?_
  · refine (pick_ok k 16 _ _ e3 (by omega) (by omega)).bind fun q1 h1=>?_
    rw [ok_cndS]
    refine ⟨fun _=>?_,fun _=>ok_some.2 ⟨rfl,by show l1.length≤48; omega,h1.1.le (by omega)⟩⟩
    refine Ok.bind (P:=fun e : Int × (List Pair × Rd)=>e.1 = n1∧e.2.1.length≤48∧RdOk (N + 201) e.2.2) (iter_ok (fun m (s : Int × (List Pair × (Int × Rd)))=>∃ i : Nat,s.1 = n1∧s.2.2.1 = (i : Int)∧i≤200∧m = 200 - i∧s.2.1.length≤48∧RdOk (N + 201) s.2.2.2) _ ?_ (n:=200) (by omega) ⟨0,rfl,rfl,by omega,rfl,by show l1.length≤48; omega,h1.1.le (by omega)⟩) fun e he=>ok_some.2 he
    rintro m ⟨n',l,x,rr⟩ ⟨i,g0,g1,g2,rfl,g3,g4⟩
    simp only at g0 g1 g3 g4
    subst g0 g1
    rw [spec_l20Pairs_t_b1]
    refine Ok.bind (P:=fun t=>t = .inr (.inr (n',(l,rr)))∨(t = .inl (n',(l,((i : Int),rr)))∧l.length < 48∧i < 200)) ?_ fun t ht=>?_
    · rw [ok_cndS]
      refine ⟨fun c1=>?_,fun _=>ok_some.2 (.inl rfl)⟩
      rw [ok_cndS]
      refine ⟨fun c2=>ok_some.2 (.inr ⟨rfl,?_⟩),fun _=>ok_some.2 (.inl rfl)⟩
      have c1' : (l.length : Int) < 48:=by simpa using c1
      have c2' : (i : Int) < 200:=by simpa using c2
      omega
    rcases ht with rfl | ⟨rfl,hl,hi⟩
    · rw [a_sumE_inr]
      exact ok_some.2 ⟨fun s' e=>(by cases e),fun r e=>(by injection e with e; subst e; exact ⟨rfl,g3,g4⟩)⟩
    rw [a_sumE_inl]
    refine (KeyAt_ok k (by omega) _).bind fun q2 _=>?_
    refine (PairPut_ok k (by omega) l q2.1.1 _).bind fun q3 h3=>?_
    refine ok_some.2 ⟨fun s' e=>?_,fun e he=>(by cases he)⟩
    injection e with e; subst e
    have w : A.wrapI .i64 (A.addI (i : Int) 1) = ((i + 1 : Nat) : Int):=by rw [a_addI,a_wrap (by omega) (by omega)]; rfl
    exact ⟨200 - (i + 1),by omega,i + 1,rfl,w,by omega,rfl,by show q3.1.1.length≤48; omega,g4⟩
  obtain ⟨n2,l2,r2⟩:=e
  obtain ⟨f1,f2,f3⟩:=he
  simp only at f1 f2 f3
  subst f1
  refine (odd_ok k _ _ _ f3 (by omega) (by omega)).bind fun q4 h4=>?_
  rw [ok_cndS]
  refine ⟨fun _=>?_,fun _=>ok_some.2 ⟨h4.le (by omega),by show l2.length≤60; omega⟩⟩
  refine (pick_ok k 5 _ _ h4 (by omega) (by omega)).bind fun q5 h5=>?_
  have c1:=h5.2.1
  have c2:=h5.2.2.2.1 (by omega)
  rw [ok_cndS]
  refine ⟨fun _=>?_,fun hc=>(by simp at hc; omega)⟩
  rw [ok_cndS]
  exact ⟨fun _=>ok_some.2 ⟨h5.1.le (by omega),by simp; omega⟩,fun hc=>(by simp at hc; omega)⟩
end
end Go.Den.T

namespace Go.Den.T
set_option linter.unusedVariables false
set_option linter.unusedSimpArgs false
set_option linter.unusedSectionVars false
section
variable {A : Atoms} [IsReal A]
theorem l20Session_ok (k : Nat) (n N : Int) (r : Rd) (h : RdOk N r) (hp : N≤800000000) (hn : n≤1000000000) : Ok (spec_l20Session_t A k ((),(n,())) r) (fun q=>RdOk (N + 5) q.2):=by
  rw [spec_l20Session_t]
  refine (odd_ok k n N r h (by omega) (by omega)).bind fun q hq=>?_
  rw [ok_cndS]
  refine ⟨fun _=>?_,fun _=>?_⟩
  · refine (pick_ok k 6 _ _ hq (by omega) (by omega)).bind fun q1 h1=>?_
    have b1:=h1.2.1
    have b2:=h1.2.2.2.1 (by omega)
    rw [ok_cndS]
    exact ⟨fun _=>ok_some.2 (h1.1.le (by omega)),fun hc=>(by simp at hc; omega)⟩
  · refine (pick_ok k 4 _ _ hq (by omega) (by omega)).bind fun q1 h1=>?_
    refine (pick_ok k 6 _ _ h1.1 (by omega) (by omega)).bind fun q2 h2=>?_
    refine (pick_ok k 9 _ _ h2.1 (by omega) (by omega)).bind fun q3 h3=>?_
    exact ok_some.2 (h3.1.le (by omega))
theorem l9Find_ok (k : Nat) (l : List Ses) (v : Int) (hk : l.length < k) (hl : l.length≤1000000000) : Ok (spec_l9Find_t A k (l,(v,())) ()) (fun _=>True):=by
  rw [spec_l9Find_t]
  refine Ok.bind (P:=fun _=>True) (iter_ok (fun m (st : List Ses × (Int × (Int × (Ses × Unit))))=>∃ (i : Nat) (z : Ses),st = (l,(v,((i : Int),(z,()))))∧i≤l.length∧m = l.length - i) _ ?_ (n:=l.length) (by omega) ⟨0,_,rfl,by omega,by omega⟩) fun e _=>?_
  · rintro m st ⟨i,z,rfl,hi,rfl⟩
    have w : A.wrapI .i64 (A.addI (i : Int) 1) = ((i + 1 : Nat) : Int):=by rw [a_addI,a_wrap (by omega) (by omega)]; rfl
    rw [spec_l9Find_t_b0,ok_cndS]
    refine ⟨fun h1=>?_,fun _=>ok_some.2 ⟨fun s' e=>(by cases e),fun r e=>trivial⟩⟩
    have hlt : (i : Int) < l.length:=by simpa using h1
    have hb:=in_bounds (A:=A) (l:=l) (i:=(i : Int)) (by omega) hlt
    rw [ok_cndS]
    refine ⟨fun _=>?_,fun hc=>(by rw [hb] at hc; cases hc)⟩
    rw [ok_cndS]
    refine ⟨fun _=>?_,fun _=>ok_some.2 ⟨fun s' e=>?_,fun r e=>trivial⟩⟩
    · rw [ok_cndS]
      exact ⟨fun _=>ok_some.2 ⟨fun s' e=>(by cases e),fun r e=>trivial⟩,fun hc=>(by rw [hb] at hc; cases hc)⟩
    · injection e with e; subst e
      exact ⟨l.length - (i + 1),by omega,i + 1,z,by rw [w],by omega,rfl⟩
  · rw [ok_sumE]; exact ⟨fun _ _=>ok_some.2 trivial,fun _ _=>ok_some.2 trivial⟩
theorem SessionSeq_ok (k : Nat) (l : List Ses) (v : Int) (hk : l.length < k) (hl : l.length≤1000000000) : Ok (spec_SessionSeq_t A k (l,(v,())) ()) (fun _=>True):=by
  rw [spec_SessionSeq_t]
  refine Ok.bind (P:=fun t=>t = .inr (((-1 : Int),()),())∨t = .inl (l,(v,()))) ?_ fun t ht=>?_
  · rw [spec_SessionsValid_eq k l hk hl,a_obind_some,ok_cndS]
    refine ⟨fun _=>ok_some.2 (.inl rfl),fun h=>?_⟩
    rw [l1In_eq,a_obind_some,ok_cndS]
    exact ⟨fun _=>ok_some.2 (.inl rfl),fun _=>ok_some.2 (.inr rfl)⟩
  rcases ht with rfl | rfl
  · rw [a_sumE_inr]; exact ok_some.2 trivial
  · rw [a_sumE_inl]; exact (l9Find_ok k l v hk hl).bind fun q _=>ok_some.2 trivial
theorem SessionPut_ok (k : Nat) (hk : 2000≤k) (l : List Ses) (s : Ses) (hl : l.length≤1000) : Ok (spec_SessionPut_t A k (l,(s,())) ()) (fun q=>q.1.1.length≤l.length + 1):=by
  rw [spec_SessionPut_t]
  refine Ok.bind (P:=fun t=>t = .inr ((([] : List Ses),(false,())),())∨t = .inl (l,(([] : List Ses),(s,())))) ?_ fun t ht=>?_
  · rw [spec_SessionsValid_eq k l (by omega) (by omega),a_obind_some,ok_cndS]
    refine ⟨fun _=>ok_some.2 (.inl rfl),fun h=>?_⟩
    rw [spec_SessionsValid_eq k _ (by simp; omega) (by simp),a_obind_some,ok_cndS]
    exact ⟨fun _=>ok_some.2 (.inl rfl),fun _=>ok_some.2 (.inr rfl)⟩
  rcases ht with rfl | rfl
  · rw [a_sumE_inr]; exact ok_some.2 (by simp)
  rw [a_sumE_inl]
  refine (SessionSeq_ok k l s.1 (by omega) (by omega)).bind fun q _=>?_
  rw [ok_cndS]
  refine ⟨fun _=>?_,fun _=>?_⟩
  · rw [ok_cndS]
    exact ⟨fun _=>ok_some.2 (by simp),fun hc=>(by simp at hc; omega)⟩
  refine Ok.bind (P:=fun e : List Ses × (Bool × (Ses × Unit))=>(e.2.1 = false→e.1.length≤l.length)∧e.1.length≤l.length + 1) (iter_ok (fun m (st : List Ses × (List Ses × (Bool × (Int × (Ses × Unit)))))=>∃ (i : Nat) (out : List Ses) (b : Bool),st = (l,(out,(b,((i : Int),(s,())))))∧i≤l.length∧m = l.length - i∧(b = false→out.length≤i)∧out.length≤i + 1) _ ?_ (n:=l.length) (by omega) ⟨0,[],false,rfl,by omega,by omega,fun _=>by simp,by simp⟩) fun e he=>?_
  · rintro m st ⟨i,out,b,rfl,hi,rfl,ho1,ho2⟩
    have w : A.wrapI .i64 (A.addI (i : Int) 1) = ((i + 1 : Nat) : Int):=by rw [a_addI,a_wrap (by omega) (by omega)]; rfl
    rw [spec_SessionPut_t_b0,ok_cndS]
    refine ⟨fun h1=>?_,fun _=>ok_some.2 ⟨fun s' e=>(by cases e),fun r e=>(by injection e with e; subst e; exact ⟨fun h=>by have:=ho1 h; show out.length≤_; omega,by show out.length≤_; omega⟩)⟩⟩
    have hlt : (i : Int) < l.length:=by simpa using h1
    have hb:=in_bounds (A:=A) (l:=l) (i:=(i : Int)) (by omega) hlt
    refine Ok.bind (P:=fun t=>∃ (out' : List Ses) (b' : Bool),t = (l,(out',(b',((i : Int),(s,())))))∧(b' = false→out'.length≤i)∧out'.length≤i + 1) ?_ fun t ht=>?_
    · rw [ok_cndS]
      have same : ∃ (out' : List Ses) (b' : Bool),((l,(out,(b,((i : Int),(s,()))))) : List Ses × (List Ses × (Bool × (Int × (Ses × Unit))))) = (l,(out',(b',((i : Int),(s,())))))∧(b' = false→out'.length≤i)∧out'.length≤i + 1:=⟨out,b,rfl,ho1,ho2⟩
      refine ⟨fun hnb=>?_,fun _=>ok_some.2 same⟩
      have hbf : b = false:=by simpa using hnb
      have ho:=ho1 hbf
      rw [ok_cndS]
      refine ⟨fun _=>?_,fun hc=>(by rw [hb] at hc; cases hc)⟩
      rw [ok_cndS]
      refine ⟨fun _=>?_,fun _=>ok_some.2 same⟩
      rw [ok_cndS]
      exact ⟨fun _=>ok_some.2 ⟨out ++ [s],true,by rw [a_appL],fun h=>(by cases h),by simp; omega⟩,fun hc=>(by simp at hc; omega)⟩
    obtain ⟨out',b',rfl,k1,k2⟩:=ht
    rw [ok_cndS]
    refine ⟨fun _=>?_,fun hc=>(by rw [hb] at hc; cases hc)⟩
    rw [ok_cndS]
    refine ⟨fun _=>?_,fun _=>ok_some.2 ⟨fun s' e=>?_,fun r e=>(by cases e)⟩⟩
    · rw [ok_cndS]
      refine ⟨fun _=>?_,fun hc=>(by rw [hb] at hc; cases hc)⟩
      rw [ok_cndS]
      refine ⟨fun _=>ok_some.2 ⟨fun s' e=>?_,fun r e=>(by cases e)⟩,fun hc=>(by simp at hc; omega)⟩
      injection e with e; subst e
      exact ⟨l.length - (i + 1),by omega,i + 1,_,b',by rw [w],by omega,rfl,fun h=>by have:=k1 h; simp; omega,by simp; omega⟩
    · injection e with e; subst e
      exact ⟨l.length - (i + 1),by omega,i + 1,out',b',by rw [w],by omega,rfl,fun h=>by have:=k1 h; omega,by omega⟩
  · obtain ⟨out,b,s',_⟩:=e
    obtain ⟨h1,h2⟩:=he
    simp only at h1 h2
    rw [ok_cndS]
    refine ⟨fun hnb=>?_,fun _=>ok_some.2 h2⟩
    have hbf : b = false:=by simpa using hnb
    have ho:=h1 hbf
    rw [ok_cndS]
    exact ⟨fun _=>ok_some.2 (by simp; omega),fun hc=>(by simp at hc; omega)⟩
theorem l20Sessions_ok (k : Nat) (hk : 2000≤k) (n N : Int) (r : Rd) (h : RdOk N r) (hp : N≤790000000) (hn : n≤1000000000) : Ok (spec_l20Sessions_t A k ((),(n,())) r) (fun q=>RdOk (N + 60) q.2∧q.1.1.length≤20):=by
  rw [spec_l20Sessions_t]
  refine (pick_ok k 5 _ _ h (by omega) (by omega)).bind fun q0 h0=>?_
  have b1:=h0.2.1
  have b2:=h0.2.2.2.1 (by omega)
  refine Ok.bind (P:=fun e : Int × (List Ses × Rd)=>e.1 = n∧e.2.1.length≤4∧RdOk (N + 40) e.2.2) (iter_ok (fun j (s : Int × (List Ses × (Int × Rd)))=>s.1 = n∧s.2.2.1 = (j : Int)∧s.2.1.length + j≤4∧RdOk (N + 1 + 5 * (4 - (j : Int))) s.2.2.2) _ ?_ (n:=q0.1.1.toNat) (by omega) ⟨rfl,by show q0.1.1 = _; omega,by show ([] : List Ses).length + _≤4; simp; omega,h0.1.le (by omega)⟩) fun e he=>?_
  · rintro j ⟨n',l,x,rr⟩ ⟨g0,g1,g2,g3⟩
    simp only at g0 g1 g2 g3
    subst g0 g1
    rw [spec_l20Sessions_t_b0,ok_cndS]
    simp only [a_ltI,decide_eq_true_eq,decide_eq_false_iff_not]
    refine ⟨fun hpos=>?_,fun _=>ok_some.2 ⟨fun s' e=>(by cases e),fun e he=>(by injection he with he; subst he; exact ⟨rfl,by show l.length≤4; omega,g3.le (by omega)⟩)⟩⟩
    have w' : A.wrapI .i64 (A.subI (j : Int) 1) = ((j - 1 : Nat) : Int):=by rw [a_subI,a_wrap (by omega) (by omega)]; omega
    refine (l20Session_ok k 0 _ _ g3 (by omega) (by omega)).bind fun q1 h1=>?_
    refine (SessionPut_ok k (by omega) l q1.1.1 (by omega)).bind fun q3 h3=>?_
    refine ok_some.2 ⟨fun s' e=>?_,fun e he=>(by cases he)⟩
    injection e with e; subst e
    exact ⟨j - 1,by omega,rfl,w',by show q3.1.1.length + _≤4; omega,h1.le (by omega)⟩
  obtain ⟨n1,l1,r1⟩:=e
  obtain ⟨e1,e2,e3⟩:=he
  simp only at e1 e2 e3
  subst e1
  refine (odd_ok k _ _ _ e3 (by omega) (by omega)).bind fun q4 h4=>?_
  rw [ok_cndS]
  refine ⟨fun _=>?_,fun _=>ok_some.2 ⟨h4.le (by omega),by show l1.length≤20; omega⟩⟩
  refine (pick_ok k 2 _ _ h4 (by omega) (by omega)).bind fun q5 h5=>?_
  rw [ok_cndS]
  refine ⟨fun _=>?_,fun _=>?_⟩
  · rw [ok_cndS]
    exact ⟨fun _=>ok_some.2 ⟨h5.1.le (by omega),by simp; omega⟩,fun hc=>(by simp at hc; omega)⟩
  · refine (l20Session_ok k 1 _ _ h5.1 (by omega) (by omega)).bind fun q6 h6=>?_
    rw [ok_cndS]
    exact ⟨fun _=>ok_some.2 ⟨h6.le (by omega),by simp; omega⟩,fun hc=>(by simp at hc; omega)⟩
def StS (s : Stt) : Prop:=s.2.1.length≤60∧s.2.2.1.length≤20
theorem l20State_ok (k : Nat) (hk : 2000≤k) (n N : Int) (r : Rd) (h : RdOk N r) (hp : N≤700000000) (hn : n≤1000000000) : Ok (spec_l20State_t A k ((),(n,())) r) (fun q=>RdOk (N + 1000) q.2∧StS q.1.1):=by
  rw [spec_l20State_t]
  refine (l20Span_ok k (by omega) 0 _ _ h (by omega) (by omega)).bind fun q0 h0=>?_
  refine Ok.bind (P:=fun e : Int × (Stt × (Itv × Rd))=>e.1 = n∧RdOk (N + 41) e.2.2.2) ?_ fun t ht=>?_
  · refine (pick_ok k 2 _ _ h0 (by omega) (by omega)).bind fun q1 h1=>?_
    rw [ok_cndS]
    exact ⟨fun _=>ok_some.2 ⟨rfl,h1.1.le (by omega)⟩,fun _=>ok_some.2 ⟨rfl,h1.1.le (by omega)⟩⟩
  obtain ⟨n1,s1,iv,r1⟩:=t
  obtain ⟨e1,e2⟩:=ht
  simp only at e1 e2
  subst e1
  refine (l20Pairs_ok k hk 0 _ _ e2 (by omega) (by omega)).bind fun q3 h3=>?_
  refine (PairsIn_ok k hk q3.1.1 iv (by omega)).bind fun q4 h4=>?_
  refine (l20Sessions_ok k hk 0 _ _ h3.1 (by omega) (by omega)).bind fun q5 h5=>?_
  have h3l:=h3.2
  have h5l:=h5.2
  refine Ok.bind (P:=fun e : Int × (Stt × (Stt × Rd))=>e.1 = n1∧StS e.2.2.1∧RdOk (N + 450) e.2.2.2) ?_ fun t ht=>?_
  · refine (pick_ok k 5 _ _ h5.1 (by omega) (by omega)).bind fun q6 h6=>?_
    have s0 : ∀ (b : Bool) (x : List UInt8),StS ((iv,(q4.1.1,(q5.1.1,(b,(x,())))))):=fun b x=>⟨by show q4.1.1.length≤60; omega,h5l⟩
    rw [ok_cndS]
    refine ⟨fun _=>?_,fun _=>ok_some.2 ⟨rfl,s0 _ _,h6.1.le (by omega)⟩⟩
    rw [spec_IntervalCut_eq k (by omega),a_obind_some,ok_cndS]
    refine ⟨fun _=>?_,fun _=>ok_some.2 ⟨rfl,s0 _ _,h6.1.le (by omega)⟩⟩
    refine (pick_ok k 2 _ _ h6.1 (by omega) (by omega)).bind fun q7 h7=>?_
    rw [ok_cndS]
    exact ⟨fun _=>ok_some.2 ⟨rfl,s0 _ _,h7.1.le (by omega)⟩,fun _=>ok_some.2 ⟨rfl,s0 _ _,h7.1.le (by omega)⟩⟩
  obtain ⟨n2,s2,s3,r2⟩:=t
  obtain ⟨f1,f2,f3⟩:=ht
  simp only at f1 f2 f3
  subst f1
  refine (odd_ok k _ _ _ f3 (by omega) (by omega)).bind fun q8 h8=>?_
  rw [ok_cndS]
  refine ⟨fun _=>?_,fun _=>ok_some.2 ⟨h8.le (by omega),f2⟩⟩
  refine (pick_ok k 5 _ _ h8 (by omega) (by omega)).bind fun q9 h9=>?_
  rw [ok_cndS]
  refine ⟨fun _=>?_,fun _=>?_⟩
  · exact (l20Span_ok k (by omega) 1 _ _ h9.1 (by omega) (by omega)).bind fun q10 h10=>ok_some.2 ⟨h10.le (by omega),f2⟩
  rw [ok_cndS]
  refine ⟨fun _=>?_,fun _=>?_⟩
  · exact (l20Pairs_ok k hk 1 _ _ h9.1 (by omega) (by omega)).bind fun q10 h10=>ok_some.2 ⟨h10.1.le (by omega),h10.2,f2.2⟩
  rw [ok_cndS]
  refine ⟨fun _=>?_,fun _=>?_⟩
  · exact (l20Sessions_ok k hk 1 _ _ h9.1 (by omega) (by omega)).bind fun q10 h10=>ok_some.2 ⟨h10.1.le (by omega),f2.1,h10.2⟩
  rw [ok_cndS]
  exact ⟨fun _=>ok_some.2 ⟨h9.1.le (by omega),f2⟩,fun _=>ok_some.2 ⟨h9.1.le (by omega),by simp [StS]; exact f2.2⟩⟩
end
end Go.Den.T

namespace Go.Den.T
set_option linter.unusedVariables false
set_option linter.unusedSimpArgs false
set_option linter.unusedSectionVars false
section
abbrev pair0 : Pair:=(([] : List UInt8),((0 : Int),()))
def ahead {α : Type} (lt : α→Bool) (l : List α) : Nat:=(l.takeWhile lt).length
theorem ahead_cons {α : Type} (lt : α→Bool) (x : α) (l : List α) : ahead lt (x :: l) = if lt x = true then ahead lt l + 1 else 0:=by
  unfold ahead
  rw [List.takeWhile_cons]
  split <;> simp
theorem ahead_le {α : Type} (lt : α→Bool) : ∀ l : List α,ahead lt l≤l.length
  | []=>Nat.le_refl _
  | x :: l=>by rw [ahead_cons]; have:=ahead_le lt l; split <;> simp; omega
theorem ahead_eq {α : Type} {lt : α→Bool} {d : α} : ∀ {l : List α} {n : Nat},n≤l.length→(∀ i,i < n→lt (l.getD i d) = true)→(n < l.length→lt (l.getD n d) = false)→ahead lt l = n
  | [],n,h1,_,_=>by simp at h1; subst h1; rfl
  | x :: l,0,_,_,h3=>by
    have:=h3 (by simp)
    simp at this
    rw [ahead_cons,this]; rfl
  | x :: l,n + 1,h1,h2,h3=>by
    have h0:=h2 0 (by omega)
    simp at h0
    rw [ahead_cons,h0]
    simp only [if_true]
    rw [ahead_eq (l:=l) (n:=n) (d:=d) (by simpa using h1) (fun i hi=>by simpa using h2 (i + 1) (by omega)) (fun h=>by simpa using h3 (by simpa using h))]
theorem ahead_spec {α : Type} {lt : α→Bool} {d : α} : ∀ {l : List α},(∀ i,i < ahead lt l→lt (l.getD i d) = true)∧(ahead lt l < l.length→lt (l.getD (ahead lt l) d) = false)
  | []=>⟨fun i h=>by simp [ahead] at h,fun h=>by simp [ahead] at h⟩
  | x :: l=>by
    rw [ahead_cons]
    rcases Bool.eq_false_or_eq_true (lt x) with h | h
    · simp only [h,if_true]
      obtain ⟨k1,k2⟩:=ahead_spec (lt:=lt) (d:=d) (l:=l)
      refine ⟨fun i hi=>?_,fun hl=>by simpa using k2 (by simpa using hl)⟩
      cases i with
      | zero=>simpa using h
      | succ i=>simpa using k1 i (by omega)
    · simp only [h,Bool.false_eq_true,if_false]
      exact ⟨fun i hi=>by omega,fun _=>by simpa using h⟩
def Mono {α : Type} (lt : α→Bool) (d : α) (l : List α) : Prop:=∀ i j,i < j→j < l.length→lt (l.getD j d) = true→lt (l.getD i d) = true
theorem bless_trans : ∀ {a b c : List UInt8},bless a b = true→bless b c = true→bless a c = true
  | [],b,[],h1,h2=>by rw [bless_to_nil] at h2; cases h2
  | [],b,z :: c,h1,h2=>by simp [bless_nil]
  | x :: a,[],c,h1,h2=>by rw [bless_to_nil] at h1; cases h1
  | x :: a,y :: b,[],h1,h2=>by rw [bless_to_nil] at h2; cases h2
  | x :: a,y :: b,z :: c,h1,h2=>by
    simp only [bless_cons,Bool.or_eq_true,decide_eq_true_eq,Bool.and_eq_true,beq_iff_eq] at h1 h2 ⊢
    rcases h1 with h1 | ⟨rfl,h1⟩
    · rcases h2 with h2 | ⟨rfl,h2⟩
      · exact .inl (UInt8.lt_trans h1 h2)
      · exact .inl h1
    · rcases h2 with h2 | ⟨rfl,h2⟩
      · exact .inl h2
      · exact .inr ⟨rfl,bless_trans h1 h2⟩
theorem chain_all {α : Type} {R : α→α→Prop} (ht : ∀ a b c,R a b→R b c→R a c) {l : List α} {d : α} (h : ∀ i,1≤i→i < l.length→R (l.getD (i - 1) d) (l.getD i d)) : ∀ i j,i < j→j < l.length→R (l.getD i d) (l.getD j d):=by
  intro i j hij
  induction j with
  | zero=>omega
  | succ j ih =>
    intro hj
    have h1:=h (j + 1) (by omega) hj
    simp only [Nat.add_sub_cancel] at h1
    by_cases e : i = j
    · subst e; exact h1
    · exact ht _ _ _ (ih (by omega) (by omega)) h1
theorem pairs_sorted {l : List Pair} (h : pairsOk l = true) : ∀ i j,i < j→j < l.length→bless (l.getD i pair0).1 (l.getD j pair0).1 = true:=by
  simp only [pairsOk,Bool.and_eq_true,range_all] at h
  refine chain_all (R:=fun a b : Pair=>bless a.1 b.1 = true) (fun a b c=>bless_trans) (fun i hi hl=>?_)
  have:=h.2 i hl
  simp only [pairAt,Bool.and_eq_true,Bool.or_eq_true,decide_eq_true_eq] at this
  rcases this.2.2 with h0 | h0
  · omega
  · exact h0
theorem ses_sorted {l : List Ses} (h : sesOk l = true) : ∀ i j,i < j→j < l.length→(l.getD i ses0).1 < (l.getD j ses0).1:=by
  simp only [sesOk,range_all] at h
  refine chain_all (R:=fun a b : Ses=>a.1 < b.1) (fun a b c h1 h2=>by omega) (fun i hi hl=>?_)
  have:=h i hl
  simp only [sesAt,sesP,Bool.and_eq_true,Bool.or_eq_true,decide_eq_true_eq,Bool.not_eq_true',decide_eq_false_iff_not] at this
  rcases this.2.2.2 with h0 | h0
  · omega
  · show (l.getD (i - 1) ses0).1 < (l.getD i ses0).1
    have : ¬ (l.getD i ses0).1≤(l.getD (i - 1) ses0).1:=h0
    omega
def ltP (s : List UInt8) (p : Pair) : Bool:=bless p.1 s
def ltS (c : Int) (s : Ses) : Bool:=decide (s.1 < c)
theorem pairs_mono {l : List Pair} (h : pairsOk l = true) (s : List UInt8) : Mono (ltP s) pair0 l:=fun i j hij hj hl=>bless_trans (pairs_sorted h i j hij hj) hl
theorem ses_mono {l : List Ses} (h : sesOk l = true) (c : Int) : Mono (ltS c) ses0 l:=fun i j hij hj hl=>by
  have:=ses_sorted h i j hij hj
  simp only [ltS,decide_eq_true_eq] at hl ⊢
  omega
def pp (l : List Pair) (s : List UInt8) : Nat:=ahead (ltP s) l
def ph (l : List Pair) (s : List UInt8) : Bool:=decide (pp l s < l.length) && decide ((l.getD (pp l s) pair0).1 = s)
def sp (l : List Ses) (c : Int) : Nat:=ahead (ltS c) l
def sh (l : List Ses) (c : Int) : Bool:=decide (sp l c < l.length) && decide ((l.getD (sp l c) ses0).1 = c)
variable {A : Atoms} [IsReal A]
theorem l4Place_eq (k : Nat) (l : List Pair) (s : List UInt8) (hk : l.length < k) (hl : l.length≤1000000000) : spec_l4Place_t A k (l,(s,())) () = some (((pp l s : Int),()),()):=by
  rw [← ok_eq,spec_l4Place_t]
  refine Ok.bind (P:=fun e : Int × Unit=>e = ((pp l s : Int),())) (iter_ok (fun m (st : List Pair × (List UInt8 × (Int × Unit)))=>∃ i : Nat,st = (l,(s,((i : Int),())))∧i≤l.length∧m = l.length - i∧∀ t,t < i→ltP s (l.getD t pair0) = true) _ ?_ (n:=l.length) (by omega) ⟨0,rfl,by omega,by omega,fun t ht=>by omega⟩) fun e he=>ok_some.2 (by rw [he])
  rintro m st ⟨i,rfl,hi,rfl,ha⟩
  have w : A.wrapI .i64 (A.addI (i : Int) 1) = ((i + 1 : Nat) : Int):=by rw [a_addI,a_wrap (by omega) (by omega)]; rfl
  rw [spec_l4Place_t_b0,ok_cndS]
  refine ⟨fun h1=>?_,fun h1=>ok_some.2 ⟨fun s' e=>(by cases e),fun r e=>?_⟩⟩
  · have hlt : (i : Int) < l.length:=by simpa using h1
    have hb:=in_bounds (A:=A) (l:=l) (i:=(i : Int)) (by omega) hlt
    rw [ok_cndS]
    refine ⟨fun _=>?_,fun hc=>(by rw [hb] at hc; cases hc)⟩
    rw [ok_cndS]
    refine ⟨fun h2=>ok_some.2 ⟨fun s' e=>?_,fun r e=>(by cases e)⟩,fun h2=>ok_some.2 ⟨fun s' e=>(by cases e),fun r e=>?_⟩⟩
    · injection e with e; subst e
      have h2' : ltP s (l.getD i pair0) = true:=by simpa [ltP,bless] using h2
      exact ⟨l.length - (i + 1),by omega,i + 1,by rw [w],by omega,rfl,fun t ht=>by
        rcases Nat.lt_or_ge t i with h | h
        · exact ha t h
        · have : t = i:=by omega
          subst this; exact h2'⟩
    · injection e with e; subst e
      have h2' : ltP s (l.getD i pair0) = false:=by simpa [ltP,bless] using h2
      have : pp l s = i:=ahead_eq (d:=pair0) hi ha (fun _=>h2')
      rw [this]
  · injection e with e; subst e
    have hge : ¬ (i : Int) < l.length:=by simpa using h1
    have : pp l s = i:=ahead_eq (d:=pair0) hi ha (fun h=>by omega)
    rw [this]
def cmpS (a b : List UInt8) : Int:=if bless a b = true then -1 else if a = b then 0 else 1
theorem pairPlace_1_eq (k : Nat) (p : Pair) (s : List UInt8) : impl_pairPlace_1_t A k (p,(s,())) () = some ((cmpS p.1 s,()),()):=by
  simp only [impl_pairPlace_1_t,cmp_Compare_string_t,cmp_isNaN_string_t,a_eqS,decide_true,a_notB,Bool.not_true,a_obind_some,a_cndS,Bool.false_eq_true,if_false,a_lessS,a_orB,cmpS,bless]
  rcases Bool.eq_false_or_eq_true (Op.bytesLess p.1 s) with h | h
  · simp [h]
  · by_cases e : p.1 = s
    · rw [e] at h; simp [h,e]
    · simp [h,e]
def cmpI (a b : Int) : Int:=if a < b then -1 else if a = b then 0 else 1
theorem sessionPlace_1_eq (k : Nat) (p : Ses) (c : Int) : impl_sessionPlace_1_t A k (p,(c,())) () = some ((cmpI p.1 c,()),()):=by
  simp only [impl_sessionPlace_1_t,cmp_Compare_int_t,cmp_isNaN_int_t,a_eqI,decide_true,a_notB,Bool.not_true,a_obind_some,a_cndS,Bool.false_eq_true,if_false,a_ltI,cmpI,decide_eq_true_eq]
  by_cases h : p.1 < c
  · simp [h]
  · by_cases e : c < p.1
    · have : ¬ p.1 = c:=by omega
      simp [h,e,this]
    · have : p.1 = c:=by omega
      simp [this]
theorem half_eq {i j : Nat} (h : i + j≤4000000000) : A.wrapI .i64 (A.shrI (A.wrapI .u64 (A.wrapI .i64 (A.addI (i : Int) (j : Int)))) 1) = (((i + j) / 2 : Nat) : Int):=by
  have w1 : A.wrapI .i64 (A.addI (i : Int) (j : Int)) = (i : Int) + (j : Int):=by rw [a_addI]; exact a_wrap (by omega) (by omega)
  have w2 : A.wrapI .u64 ((i : Int) + (j : Int)) = (i : Int) + (j : Int):=by
    rw [a_wrapI]
    simp only [IntKind.wrap,IntKind.bits,IntKind.signed]
    simp
    omega
  have e : ((i : Int) + (j : Int)).fdiv (2 ^ (1 : Int).toNat) = (((i + j) / 2 : Nat) : Int):=by
    rw [Int.fdiv_eq_ediv_of_nonneg _ (by decide)]
    simp
  rw [w1,w2,a_shrI,e]
  exact a_wrap (by omega) (by omega)
structure Halves {α : Type} (lt : α→Bool) (d : α) (l : List α) (i j : Nat) : Prop where
  le : i≤j
  len : j≤l.length
  below : ∀ t,t < i→lt (l.getD t d) = true
  above : ∀ t,j≤t→t < l.length→lt (l.getD t d) = false
theorem Halves.start {α : Type} (lt : α→Bool) (d : α) (l : List α) : Halves lt d l 0 l.length:=⟨by omega,Nat.le_refl _,fun t h=>by omega,fun t h1 h2=>by omega⟩
theorem Halves.up {α : Type} {lt : α→Bool} {d : α} {l : List α} {i j : Nat} (hm : Mono lt d l) (h : Halves lt d l i j) (hij : i < j) (ht : lt (l.getD ((i + j) / 2) d) = true) : Halves lt d l ((i + j) / 2 + 1) j :=
  ⟨by omega,h.len,fun t htl=>by
    rcases Nat.lt_or_ge t ((i + j) / 2) with h1 | h1
    · exact hm t _ h1 (by have:=h.len; omega) ht
    · have : t = (i + j) / 2:=by omega
      rw [this]; exact ht,h.above⟩
theorem Halves.down {α : Type} {lt : α→Bool} {d : α} {l : List α} {i j : Nat} (hm : Mono lt d l) (h : Halves lt d l i j) (hij : i < j) (hf : lt (l.getD ((i + j) / 2) d) = false) : Halves lt d l i ((i + j) / 2) :=
  ⟨by omega,by have:=h.len; omega,h.below,fun t h1 h2=>by
    rcases Bool.eq_false_or_eq_true (lt (l.getD t d)) with hq | hq
    · rcases Nat.lt_or_ge ((i + j) / 2) t with h3 | h3
      · rw [hm _ t h3 h2 hq] at hf; cases hf
      · have : t = (i + j) / 2:=by omega
        rw [this] at hq; rw [hq] at hf; cases hf
    · exact hq⟩
theorem Halves.done {α : Type} {lt : α→Bool} {d : α} {l : List α} {i : Nat} (h : Halves lt d l i i) : ahead lt l = i:=ahead_eq h.len h.below (fun hl=>h.above i (Nat.le_refl _) hl)
theorem pairSearch_eq (k : Nat) (l : List Pair) (s : List UInt8) (hm : Mono (ltP s) pair0 l) (hk : l.length + 1 < k) (hl : l.length≤1000000000) : slices_BinarySearchFunc_string_t A k (l,(s,())) () = some (((pp l s : Int),(ph l s,())),()):=by
  rw [← ok_eq,slices_BinarySearchFunc_string_t]
  refine Ok.bind (P:=fun e : List Pair × (List UInt8 × (Int × (Int × Unit)))=>e = (l,(s,((l.length : Int),((pp l s : Int),()))))) (iter_ok (fun m (st : List Pair × (List UInt8 × (Int × (Int × (Int × Unit)))))=>∃ i j : Nat,st = (l,(s,((l.length : Int),((i : Int),((j : Int),())))))∧m = j - i∧Halves (ltP s) pair0 l i j) _ ?_ (n:=l.length) (by omega) ⟨0,l.length,by simp only [a_lenL]; rfl,by omega,Halves.start ..⟩) fun e he=>?_
  · rintro m st ⟨i,j,rfl,rfl,H⟩
    have hle:=H.le
    have hjl:=H.len
    rw [slices_BinarySearchFunc_string_t_b0]
    simp only [half_eq (A:=A) (show i + j≤4000000000 by omega)]
    rw [ok_cndS]
    refine ⟨fun h1=>?_,fun h1=>ok_some.2 ⟨fun s' e=>(by cases e),fun r e=>?_⟩⟩
    · have hij : i < j:=by
        have : (i : Int) < (j : Int):=by simpa using h1
        omega
      rw [ok_cndS]
      refine ⟨fun _=>?_,fun hc=>(by simp at hc)⟩
      have hb:=in_bounds (A:=A) (l:=l) (i:=(((i + j) / 2 : Nat) : Int)) (by omega) (by omega)
      rw [ok_cndS]
      refine ⟨fun _=>?_,fun hc=>(by rw [hb] at hc; cases hc)⟩
      rw [pairPlace_1_eq,a_obind_some,a_atL,Int.toNat_natCast,ok_cndS]
      have hw : A.wrapI .i64 (A.addI (((i + j) / 2 : Nat) : Int) 1) = (((i + j) / 2 + 1 : Nat) : Int):=by rw [a_addI,a_wrap (by omega) (by omega)]; rfl
      refine ⟨fun hlt=>ok_some.2 ⟨fun s' e=>?_,fun r e=>(by cases e)⟩,fun hge=>ok_some.2 ⟨fun s' e=>?_,fun r e=>(by cases e)⟩⟩
      · injection e with e; subst e
        have ht : ltP s (l.getD ((i + j) / 2) pair0) = true:=by
          have : cmpS (l.getD ((i + j) / 2) pair0).1 s < 0:=by simpa using hlt
          rcases Bool.eq_false_or_eq_true (bless (l.getD ((i + j) / 2) pair0).1 s) with h | h
          · exact h
          · simp only [cmpS,h,Bool.false_eq_true,if_false] at this; split at this <;> omega
        exact ⟨j - ((i + j) / 2 + 1),by omega,(i + j) / 2 + 1,j,by rw [hw],rfl,H.up hm hij ht⟩
      · injection e with e; subst e
        have hf : ltP s (l.getD ((i + j) / 2) pair0) = false:=by
          have : ¬ cmpS (l.getD ((i + j) / 2) pair0).1 s < 0:=by simpa using hge
          rcases Bool.eq_false_or_eq_true (bless (l.getD ((i + j) / 2) pair0).1 s) with h | h
          · simp only [cmpS,h,if_true] at this; omega
          · exact h
        exact ⟨(i + j) / 2 - i,by omega,i,(i + j) / 2,rfl,rfl,H.down hm hij hf⟩
    · injection e with e; subst e
      have hij : ¬ i < j:=by
        have : ¬ (i : Int) < (j : Int):=by simpa using h1
        omega
      have : i = j:=by omega
      subst this
      rw [pp,H.done]
  · subst he
    have hpl : pp l s≤l.length:=ahead_le ..
    rw [ok_cndS]
    simp only [a_ltI,decide_eq_true_eq,decide_eq_false_iff_not]
    refine ⟨fun h1=>?_,fun h1=>ok_some.2 ?_⟩
    · have hb:=in_bounds (A:=A) (l:=l) (i:=(pp l s : Int)) (by omega) h1
      simp only [a_ltI,a_lenL] at hb
      rw [ok_cndS]
      refine ⟨fun _=>?_,fun hc=>(by simp at hc; omega)⟩
      rw [pairPlace_1_eq,a_obind_some,a_atL,Int.toNat_natCast]
      refine ok_some.2 ?_
      have hlt : pp l s < l.length:=by omega
      have hnb : bless (l.getD (pp l s) pair0).1 s = false:=(ahead_spec (lt:=ltP s) (d:=pair0) (l:=l)).2 hlt
      simp only [a_cndS,if_true,a_eqI,ph,hlt,decide_true,Bool.true_and,cmpS,hnb,Bool.false_eq_true,if_false]
      by_cases he : (l.getD (pp l s) pair0).1 = s
      · rw [if_pos he,decide_eq_true he]; rfl
      · rw [if_neg he,decide_eq_false he]; rfl
    · have : ¬ pp l s < l.length:=by omega
      simp [ph,this]
theorem pairPlace_eq (k : Nat) (l : List Pair) (s : List UInt8) (hm : Mono (ltP s) pair0 l) (hk : l.length + 1 < k) (hl : l.length≤1000000000) : impl_pairPlace_t A k (l,(s,())) () = some (((pp l s : Int),(ph l s,())),()):=by
  simp only [impl_pairPlace_t,pairSearch_eq k l s hm hk hl,a_obind_some]
theorem sesSearch_eq (k : Nat) (l : List Ses) (s : Int) (hm : Mono (ltS s) ses0 l) (hk : l.length + 1 < k) (hl : l.length≤1000000000) : slices_BinarySearchFunc_int_t A k (l,(s,())) () = some (((sp l s : Int),(sh l s,())),()):=by
  rw [← ok_eq,slices_BinarySearchFunc_int_t]
  refine Ok.bind (P:=fun e : List Ses × (Int × (Int × (Int × Unit)))=>e = (l,(s,((l.length : Int),((sp l s : Int),()))))) (iter_ok (fun m (st : List Ses × (Int × (Int × (Int × (Int × Unit)))))=>∃ i j : Nat,st = (l,(s,((l.length : Int),((i : Int),((j : Int),())))))∧m = j - i∧Halves (ltS s) ses0 l i j) _ ?_ (n:=l.length) (by omega) ⟨0,l.length,by simp only [a_lenL]; rfl,by omega,Halves.start ..⟩) fun e he=>?_
  · rintro m st ⟨i,j,rfl,rfl,H⟩
    have hle:=H.le
    have hjl:=H.len
    rw [slices_BinarySearchFunc_int_t_b0]
    simp only [half_eq (A:=A) (show i + j≤4000000000 by omega)]
    rw [ok_cndS]
    refine ⟨fun h1=>?_,fun h1=>ok_some.2 ⟨fun s' e=>(by cases e),fun r e=>?_⟩⟩
    · have hij : i < j:=by
        have : (i : Int) < (j : Int):=by simpa using h1
        omega
      rw [ok_cndS]
      refine ⟨fun _=>?_,fun hc=>(by simp at hc)⟩
      have hb:=in_bounds (A:=A) (l:=l) (i:=(((i + j) / 2 : Nat) : Int)) (by omega) (by omega)
      rw [ok_cndS]
      refine ⟨fun _=>?_,fun hc=>(by rw [hb] at hc; cases hc)⟩
      rw [sessionPlace_1_eq,a_obind_some,a_atL,Int.toNat_natCast,ok_cndS]
      have hw : A.wrapI .i64 (A.addI (((i + j) / 2 : Nat) : Int) 1) = (((i + j) / 2 + 1 : Nat) : Int):=by rw [a_addI,a_wrap (by omega) (by omega)]; rfl
      refine ⟨fun hlt=>ok_some.2 ⟨fun s' e=>?_,fun r e=>(by cases e)⟩,fun hge=>ok_some.2 ⟨fun s' e=>?_,fun r e=>(by cases e)⟩⟩
      · injection e with e; subst e
        have ht : ltS s (l.getD ((i + j) / 2) ses0) = true:=by
          have : cmpI (l.getD ((i + j) / 2) ses0).1 s < 0:=by simpa using hlt
          by_cases h : (l.getD ((i + j) / 2) ses0).1 < s
          · simpa [ltS] using h
          · simp only [cmpI,h,if_false] at this; split at this <;> omega
        exact ⟨j - ((i + j) / 2 + 1),by omega,(i + j) / 2 + 1,j,by rw [hw],rfl,H.up hm hij ht⟩
      · injection e with e; subst e
        have hf : ltS s (l.getD ((i + j) / 2) ses0) = false:=by
          have : ¬ cmpI (l.getD ((i + j) / 2) ses0).1 s < 0:=by simpa using hge
          by_cases h : (l.getD ((i + j) / 2) ses0).1 < s
          · simp only [cmpI,h,if_true] at this; omega
          · simpa [ltS] using h
        exact ⟨(i + j) / 2 - i,by omega,i,(i + j) / 2,rfl,rfl,H.down hm hij hf⟩
    · injection e with e; subst e
      have hij : ¬ i < j:=by
        have : ¬ (i : Int) < (j : Int):=by simpa using h1
        omega
      have : i = j:=by omega
      subst this
      rw [sp,H.done]
  · subst he
    have hpl : sp l s≤l.length:=ahead_le ..
    rw [ok_cndS]
    simp only [a_ltI,decide_eq_true_eq,decide_eq_false_iff_not]
    refine ⟨fun h1=>?_,fun h1=>ok_some.2 ?_⟩
    · rw [ok_cndS]
      refine ⟨fun _=>?_,fun hc=>(by simp at hc; omega)⟩
      rw [sessionPlace_1_eq,a_obind_some,a_atL,Int.toNat_natCast]
      refine ok_some.2 ?_
      have hlt : sp l s < l.length:=by omega
      have hnb : ltS s (l.getD (sp l s) ses0) = false:=(ahead_spec (lt:=ltS s) (d:=ses0) (l:=l)).2 hlt
      have hnb : ¬ (l.getD (sp l s) ses0).1 < s:=by simpa [ltS] using hnb
      simp only [a_cndS,if_true,a_eqI,sh,hlt,decide_true,Bool.true_and,cmpI,hnb,if_false]
      by_cases he : (l.getD (sp l s) ses0).1 = s
      · rw [if_pos he,decide_eq_true he]; rfl
      · rw [if_neg he,decide_eq_false he]; rfl
    · have : ¬ sp l s < l.length:=by omega
      simp [sh,this]
theorem sessionPlace_eq (k : Nat) (l : List Ses) (s : Int) (hm : Mono (ltS s) ses0 l) (hk : l.length + 1 < k) (hl : l.length≤1000000000) : impl_sessionPlace_t A k (l,(s,())) () = some (((sp l s : Int),(sh l s,())),()):=by
  simp only [impl_sessionPlace_t,sesSearch_eq k l s hm hk hl,a_obind_some]
end
end Go.Den.T

namespace Go.Den.T
set_option linter.unusedVariables false
set_option linter.unusedSimpArgs false
set_option linter.unusedSectionVars false
section
variable {A : Atoms} [IsReal A]
theorem copyPair_eq (k : Nat) (l : List Pair) (hl : l.length≤1000000000) : impl_copyOf_Pair_t A k (l,()) () = some ((l,()),()):=by
  have : (l.length : Int) < 4294967296:=by omega
  simp [impl_copyOf_Pair_t,this]
theorem copySes_eq (k : Nat) (l : List Ses) (hl : l.length≤1000000000) : impl_copyOf_Session_t A k (l,()) () = some ((l,()),()):=by
  have : (l.length : Int) < 4294967296:=by omega
  simp [impl_copyOf_Session_t,this]
theorem replacedPair_eq (k : Nat) (l : List Pair) (i n : Nat) (x : List Pair) (hl : l.length≤1000000000) (hx : x.length≤1000000) (hi : i + n≤l.length) : impl_replaced_Pair_t A k (l,((i : Int),((n : Int),(x,())))) () = some ((l.take i ++ x ++ l.drop (i + n),()),()):=by
  have w1 : A.wrapI .i64 ((l.length : Int) - (n : Int)) = (l.length : Int) - (n : Int):=a_wrap (by omega) (by omega)
  have w2 : A.wrapI .i64 ((l.length : Int) - (n : Int) + (x.length : Int)) = (l.length : Int) - (n : Int) + (x.length : Int):=a_wrap (by omega) (by omega)
  have w3 : A.wrapI .i64 ((i : Int) + (n : Int)) = ((i + n : Nat) : Int):=by rw [a_wrap (by omega) (by omega)]; rfl
  have g1 : 0≤(l.length : Int) - (n : Int) + (x.length : Int):=by omega
  have g2 : (l.length : Int) - (n : Int) + (x.length : Int) < 4294967296:=by omega
  have g3 : (i : Int)≤(l.length : Int):=by omega
  have tl : (l.take i).length = i:=by rw [List.length_take]; omega
  have dl : (l.drop (i + n)).length = l.length - (i + n):=List.length_drop
  have g4 : (i : Int) < 4294967296:=by omega
  have g5 : (i : Int) + (x.length : Int) < 4294967296:=by omega
  have g6 : ((i + n : Nat) : Int)≤(l.length : Int):=by omega
  have g7 : (i : Int) + (x.length : Int) + ((l.length - (i + n) : Nat) : Int) < 4294967296:=by omega
  have g0 : (0 : Int)≤((i + n : Nat) : Int):=by omega
  simp only [impl_replaced_Pair_t,a_lenL,a_subI,w1,a_addI,w2,w3,a_le0,a_leI,a_ltI,a_big,a_andB,g1,g2,g3,decide_true,Bool.and_self,Int.natCast_nonneg,Int.le_refl,a_cndS,if_true,a_repL,Int.toNat_zero,List.replicate_zero,a_takeL,a_dropL,Int.toNat_natCast,a_appL,List.nil_append,List.length_nil,List.length_append,tl,dl,Int.natCast_zero,Int.ofNat_zero,Int.zero_add,Int.natCast_add,g4,g5]
  simp only [Int.natCast_add] at g6 g7 g0
  have en : ((i : Int) + (n : Int)).toNat = i + n:=by omega
  simp only [g0,g6,en,dl,g7,decide_true,Bool.and_self,if_true,List.append_assoc]
theorem replacedSes_eq (k : Nat) (l : List Ses) (i n : Nat) (x : List Ses) (hl : l.length≤1000000000) (hx : x.length≤1000000) (hi : i + n≤l.length) : impl_replaced_Session_t A k (l,((i : Int),((n : Int),(x,())))) () = some ((l.take i ++ x ++ l.drop (i + n),()),()):=by
  have w1 : A.wrapI .i64 ((l.length : Int) - (n : Int)) = (l.length : Int) - (n : Int):=a_wrap (by omega) (by omega)
  have w2 : A.wrapI .i64 ((l.length : Int) - (n : Int) + (x.length : Int)) = (l.length : Int) - (n : Int) + (x.length : Int):=a_wrap (by omega) (by omega)
  have w3 : A.wrapI .i64 ((i : Int) + (n : Int)) = ((i + n : Nat) : Int):=by rw [a_wrap (by omega) (by omega)]; rfl
  have g1 : 0≤(l.length : Int) - (n : Int) + (x.length : Int):=by omega
  have g2 : (l.length : Int) - (n : Int) + (x.length : Int) < 4294967296:=by omega
  have g3 : (i : Int)≤(l.length : Int):=by omega
  have tl : (l.take i).length = i:=by rw [List.length_take]; omega
  have dl : (l.drop (i + n)).length = l.length - (i + n):=List.length_drop
  have g4 : (i : Int) < 4294967296:=by omega
  have g5 : (i : Int) + (x.length : Int) < 4294967296:=by omega
  have g6 : ((i + n : Nat) : Int)≤(l.length : Int):=by omega
  have g7 : (i : Int) + (x.length : Int) + ((l.length - (i + n) : Nat) : Int) < 4294967296:=by omega
  have g0 : (0 : Int)≤((i + n : Nat) : Int):=by omega
  simp only [impl_replaced_Session_t,a_lenL,a_subI,w1,a_addI,w2,w3,a_le0,a_leI,a_ltI,a_big,a_andB,g1,g2,g3,decide_true,Bool.and_self,Int.natCast_nonneg,Int.le_refl,a_cndS,if_true,a_repL,Int.toNat_zero,List.replicate_zero,a_takeL,a_dropL,Int.toNat_natCast,a_appL,List.nil_append,List.length_nil,List.length_append,tl,dl,Int.natCast_zero,Int.ofNat_zero,Int.zero_add,Int.natCast_add,g4,g5]
  simp only [Int.natCast_add] at g6 g7 g0
  have en : ((i : Int) + (n : Int)).toNat = i + n:=by omega
  simp only [g0,g6,en,dl,g7,decide_true,Bool.and_self,if_true,List.append_assoc]
/-! ### pairs -/
def pget (l : List Pair) (s : List UInt8) : Int:=if (pairsOk l && ph l s) = true then (l.getD (pp l s) pair0).2.1 else -1
def pdrop (l : List Pair) (s : List UInt8) : List Pair × (Bool × Unit):=if pairsOk l = true then (if ph l s = true then (l.take (pp l s) ++ l.drop (pp l s + 1),(true,())) else (l,(false,()))) else ([],(false,()))
def pput (l : List Pair) (s : List UInt8) (v : Int) : List Pair × (Bool × Unit) :=
  if (pairsOk l && (keyOk s && valOk v)) = true then (if ph l s = true then (l.take (pp l s) ++ [(s,(v,()))] ++ l.drop (pp l s + 1),(true,())) else if 48≤l.length then (l,(false,())) else (l.take (pp l s) ++ [(s,(v,()))] ++ l.drop (pp l s),(true,()))) else ([],(false,()))
theorem ph_lt {l : List Pair} {s : List UInt8} (h : ph l s = true) : pp l s < l.length∧(l.getD (pp l s) pair0).1 = s:=by
  simpa [ph] using h
theorem pp_le (l : List Pair) (s : List UInt8) : pp l s≤l.length:=ahead_le ..
theorem pairs_len {l : List Pair} (h : pairsOk l = true) : l.length≤48:=(pairs_keys h).1
theorem impl_PairGet_eq (k : Nat) (hk : 100≤k) (l : List Pair) (s : List UInt8) : impl_PairGet_t A k (l,(s,())) () = some ((pget l s,()),()):=by
  simp only [impl_PairGet_t,impl_PairsValid_eq k (by omega : 60≤k),a_obind_some,a_cndS,a_notB,pget]
  rcases Bool.eq_false_or_eq_true (pairsOk l) with hp | hp
  case inr=>simp [hp]
  have hl:=pairs_len hp
  simp only [hp,pairPlace_eq k l s (pairs_mono hp s) (by omega) (by omega),a_obind_some,Bool.not_true,Bool.false_eq_true,if_false,Bool.true_and]
  rcases Bool.eq_false_or_eq_true (ph l s) with h | h
  · obtain ⟨h1,h2⟩:=ph_lt h
    have h1' : (pp l s : Int) < l.length:=by omega
    simp [h,h1',h1]
  · simp [h]
theorem impl_PairDrop_eq (k : Nat) (hk : 100≤k) (l : List Pair) (s : List UInt8) : impl_PairDrop_t A k (l,(s,())) () = some (pdrop l s,()):=by
  simp only [impl_PairDrop_t,impl_PairsValid_eq k (by omega : 60≤k),a_obind_some,a_cndS,a_notB,pdrop]
  rcases Bool.eq_false_or_eq_true (pairsOk l) with hp | hp
  case inr=>simp [hp]
  have hl:=pairs_len hp
  simp only [hp,pairPlace_eq k l s (pairs_mono hp s) (by omega) (by omega),a_obind_some,Bool.not_true,Bool.false_eq_true,if_false,if_true]
  rcases Bool.eq_false_or_eq_true (ph l s) with h | h
  · obtain ⟨h1,h2⟩:=ph_lt h
    have hr:=replacedPair_eq (A:=A) k l (pp l s) 1 [] (by omega) (by simp) (by omega)
    simp only [Int.natCast_one,Int.ofNat_one] at hr
    simp [h,hr]
  · simp [h,copyPair_eq k l (by omega)]
theorem impl_PairPut_eq (k : Nat) (hk : 100≤k) (l : List Pair) (s : List UInt8) (v : Int) : impl_PairPut_t A k (l,(s,(v,()))) () = some (pput l s v,()):=by
  simp only [impl_PairPut_t,impl_PairsValid_eq k (by omega : 60≤k),impl_KeyValid_eq k (by omega : 10≤k),valueValid_eq,a_obind_some,a_cndS,a_notB,pput]
  rcases Bool.eq_false_or_eq_true (pairsOk l) with hp | hp
  case inr=>simp [hp]
  rcases Bool.eq_false_or_eq_true (keyOk s) with hs | hs
  case inr=>simp [hp,hs]
  rcases Bool.eq_false_or_eq_true (valOk v) with hv | hv
  case inr =>
    have hv' : ¬ (0≤v∧v≤999):=by simpa [valOk] using hv
    simp [hp,hs,hv,hv']
  have hv' : 0≤v∧v≤999:=by simpa [valOk] using hv
  have hl:=pairs_len hp
  simp only [hp,hs,hv,hv',and_self,decide_true,pairPlace_eq k l s (pairs_mono hp s) (by omega) (by omega),a_obind_some,a_sumE_inl,Bool.not_true,Bool.false_eq_true,if_false,if_true,Bool.and_self]
  rcases Bool.eq_false_or_eq_true (ph l s) with h | h
  · obtain ⟨h1,h2⟩:=ph_lt h
    have hr:=replacedPair_eq (A:=A) k l (pp l s) 1 [(s,(v,()))] (by omega) (by simp) (by omega)
    simp only [Int.natCast_one,Int.ofNat_one] at hr
    simp only [h,if_true,hr,a_obind_some]
  · have hr:=replacedPair_eq (A:=A) k l (pp l s) 0 [(s,(v,()))] (by omega) (by simp) (by have:=pp_le l s; omega)
    simp only [Int.natCast_zero,Int.ofNat_zero,Nat.add_zero] at hr
    simp only [h,Bool.false_eq_true,if_false,a_leI,a_lenL]
    by_cases h48 : 48≤l.length
    · have : (48 : Int)≤l.length:=by omega
      simp [this,h48,copyPair_eq k l (by omega)]
    · have : ¬ (48 : Int)≤l.length:=by omega
      simp only [this,h48,decide_false,Bool.false_eq_true,if_false,hr,a_obind_some]
theorem spec_PairPut_eq (k : Nat) (hk : 100≤k) (l : List Pair) (s : List UInt8) (v : Int) : spec_PairPut_t A k (l,(s,(v,()))) () = some (pput l s v,()):=by
  have hle:=pp_le l s
  simp only [spec_PairPut_t,spec_PairsValid_eq k (by omega : 60≤k),spec_KeyValid_eq k (by omega : 10≤k),l1In_eq,a_obind_some,a_cndS,a_notB,pput]
  rcases Bool.eq_false_or_eq_true (pairsOk l) with hp | hp
  case inr=>simp [hp]
  rcases Bool.eq_false_or_eq_true (keyOk s) with hs | hs
  case inr=>simp [hp,hs]
  rcases Bool.eq_false_or_eq_true (valOk v) with hv | hv
  case inr =>
    have hv' : ¬ (0≤v∧v≤999):=by simpa [valOk] using hv
    simp [hp,hs,hv,hv']
  have hv' : 0≤v∧v≤999:=by simpa [valOk] using hv
  have hl:=pairs_len hp
  have hb : (l.length : Int) < 4294967296:=by omega
  simp only [hp,hs,hv,hv',and_self,decide_true,l4Place_eq k l s (by omega) (by omega),a_obind_some,a_sumE_inl,Bool.not_true,Bool.false_eq_true,if_false,if_true,Bool.and_self]
  by_cases he : pp l s < l.length∧(l.getD (pp l s) pair0).1 = s
  · obtain ⟨h1,hq⟩:=he
    have h1' : (pp l s : Int) < l.length:=by omega
    have hph : ph l s = true:=by simp only [ph,h1,hq,decide_true,Bool.and_self]
    simp only [hph,a_ltI,a_lenL,h1',decide_true,if_true,a_le0,Int.natCast_nonneg,a_andB,Bool.and_self,a_atL,Int.toNat_natCast,a_eqS,hq,a_eqI,List.length_nil,Int.natCast_zero,Int.ofNat_zero,a_big,hb,a_setL,a_obind_some,a_sumE_inr]
    rw [List.set_eq_take_append_cons_drop,if_pos h1]
    simp
  · have hph : ph l s = false:=by
      simp only [ph]
      by_cases h1 : pp l s < l.length
      · have : ¬ (l.getD (pp l s) pair0).1 = s:=fun hq=>he ⟨h1,hq⟩
        simp only [this,decide_false,Bool.and_false]
      · simp [h1]
    have g1 : (pp l s : Int)≤l.length:=by omega
    have tl : (l.take (pp l s)).length = pp l s:=by rw [List.length_take]; omega
    have dl : (l.drop (pp l s)).length = l.length - pp l s:=List.length_drop
    have g3 : (pp l s : Int) < 4294967296:=by omega
    have g4 : (pp l s : Int) + 1 < 4294967296:=by omega
    have g5 : (pp l s : Int) + 1 + ((l.length - pp l s : Nat) : Int) < 4294967296:=by omega
    have fin : (if decide ((48 : Int)≤(l.length : Int)) = true then (if decide ((l.length : Int) < 4294967296) = true then some ((l,(false,())),()) else none) else some ((l.take (pp l s) ++ [(s,(v,()))] ++ l.drop (pp l s),(true,())),()) : Option ((List Pair × (Bool × Unit)) × Unit)) = some ((if ph l s = true then (l.take (pp l s) ++ [(s,(v,()))] ++ l.drop (pp l s + 1),(true,())) else if 48≤l.length then (l,(false,())) else (l.take (pp l s) ++ [(s,(v,()))] ++ l.drop (pp l s),(true,()))),()):=by
      by_cases h48 : 48≤l.length
      · have : (48 : Int)≤l.length:=by omega
        simp [hph,h48,this,hb]
      · have : ¬ (48 : Int)≤l.length:=by omega
        simp [hph,h48,this]
    by_cases h1 : pp l s < l.length
    · have h1' : (pp l s : Int) < l.length:=by omega
      have hq : ¬ (l.getD (pp l s) pair0).1 = s:=fun hq=>he ⟨h1,hq⟩
      simp only [a_ltI,a_lenL,h1',decide_true,if_true,a_le0,Int.natCast_nonneg,a_andB,Bool.and_self,a_atL,Int.toNat_natCast,a_eqS,hq,decide_false,Bool.false_eq_true,if_false,a_obind_some,a_sumE_inl,a_leI,List.length_nil,Int.natCast_zero,Int.ofNat_zero,a_addI,Int.zero_add,a_big,a_appL,List.nil_append,g1,a_takeL,a_dropL,tl,dl,g3,List.length_cons,Nat.zero_add,Int.natCast_one,Int.ofNat_one,g4,List.length_append,Int.natCast_add,g5]
      exact fin
    · have h1' : ¬ (pp l s : Int) < l.length:=by omega
      simp only [a_ltI,a_lenL,h1',decide_true,if_true,a_le0,Int.natCast_nonneg,a_andB,Bool.and_self,a_atL,Int.toNat_natCast,a_eqS,decide_false,Bool.false_eq_true,if_false,a_obind_some,a_sumE_inl,a_leI,List.length_nil,Int.natCast_zero,Int.ofNat_zero,a_addI,Int.zero_add,a_big,a_appL,List.nil_append,g1,a_takeL,a_dropL,tl,dl,g3,List.length_cons,Nat.zero_add,Int.natCast_one,Int.ofNat_one,g4,List.length_append,Int.natCast_add,g5]
      exact fin
end
end Go.Den.T

namespace Go.Den.T
set_option linter.unusedVariables false
set_option linter.unusedSimpArgs false
set_option linter.unusedSectionVars false
section
variable {A : Atoms} [IsReal A]
theorem ses_le4 {l : List Ses} (h : sesOk l = true) : l.length≤4:=by
  have hs:=ses_sorted h
  simp only [sesOk,range_all] at h
  rcases Nat.lt_or_ge 4 l.length with hl | hl
  · exfalso
    have r : ∀ i,i < l.length→0≤(l.getD i ses0).1∧(l.getD i ses0).1≤3:=fun i hi=>by
      have:=h i hi
      simp only [sesAt,sesP,Bool.and_eq_true,decide_eq_true_eq] at this
      exact this.1
    have a0:=(r 0 (by omega)).1
    have a4:=(r 4 (by omega)).2
    have b1:=hs 0 1 (by omega) (by omega)
    have b2:=hs 1 2 (by omega) (by omega)
    have b3:=hs 2 3 (by omega) (by omega)
    have b4:=hs 3 4 (by omega) (by omega)
    omega
  · exact hl
def sfind (l : List Ses) (c : Int) : Ses:=if sh l c = true then l.getD (sp l c) ses0 else ses0
theorem sp_le (l : List Ses) (c : Int) : sp l c≤l.length:=ahead_le ..
theorem sh_lt {l : List Ses} {c : Int} (h : sh l c = true) : sp l c < l.length∧(l.getD (sp l c) ses0).1 = c:=by simpa [sh] using h
theorem ses_at {l : List Ses} (h : sesOk l = true) {c : Int} {i : Nat} (hi : i < l.length) : (l.getD i ses0).1 = c ↔ sh l c = true∧i = sp l c:=by
  have hsort:=ses_sorted h
  have hsp:=ahead_spec (lt:=ltS c) (d:=ses0) (l:=l)
  constructor
  · intro e
    have h1 : ¬ i < sp l c:=fun hlt=>by
      have:=hsp.1 i hlt
      simp only [ltS,decide_eq_true_eq] at this
      omega
    have h2 : ¬ sp l c < i:=fun hlt=>by
      have:=hsp.2 (show sp l c < l.length by omega)
      simp only [ltS,decide_eq_false_iff_not] at this
      have:=hsort _ i hlt hi
      have : (l.getD (sp l c) ses0).1 < (l.getD i ses0).1:=this
      have h3 : ¬ (l.getD (sp l c) ses0).1 < c:=by assumption
      omega
    have e2 : sp l c = i:=by omega
    exact ⟨by simp only [sh,e2,hi,e,decide_true,Bool.and_self],e2.symm⟩
  · rintro ⟨h1,rfl⟩
    exact (sh_lt h1).2
theorem l9Find_eq (k : Nat) (l : List Ses) (c : Int) (h : sesOk l = true) (hk : l.length < k) : spec_l9Find_t A k (l,(c,())) () = some ((sfind l c,()),()):=by
  have hl:=ses_le4 h
  rw [← ok_eq,spec_l9Find_t]
  refine Ok.bind (P:=fun e : (Ses × Unit) ⊕ ((Ses × Unit) × Unit)=>(e = .inr ((sfind l c,()),()))∨(∃ z,e = .inl z∧sfind l c = ses0)) (iter_ok (fun m (st : List Ses × (Int × (Int × (Ses × Unit))))=>∃ i : Nat,st = (l,(c,((i : Int),(ses0,()))))∧i≤l.length∧m = l.length - i∧∀ t,t < i→(l.getD t ses0).1 ≠ c) _ ?_ (n:=l.length) (by omega) ⟨0,rfl,by omega,by omega,fun t ht=>by omega⟩) fun e he=>?_
  · rintro m st ⟨i,rfl,hi,rfl,ha⟩
    have w : A.wrapI .i64 (A.addI (i : Int) 1) = ((i + 1 : Nat) : Int):=by rw [a_addI,a_wrap (by omega) (by omega)]; rfl
    rw [spec_l9Find_t_b0,ok_cndS]
    refine ⟨fun h1=>?_,fun h1=>ok_some.2 ⟨fun s' e=>(by cases e),fun r e=>?_⟩⟩
    · have hlt : (i : Int) < l.length:=by simpa using h1
      have hb:=in_bounds (A:=A) (l:=l) (i:=(i : Int)) (by omega) hlt
      rw [ok_cndS]
      refine ⟨fun _=>?_,fun hc=>(by rw [hb] at hc; cases hc)⟩
      rw [ok_cndS]
      simp only [a_eqI,a_atL,Int.toNat_natCast,decide_eq_true_eq,decide_eq_false_iff_not]
      refine ⟨fun he=>?_,fun hne=>ok_some.2 ⟨fun s' e=>?_,fun r e=>(by cases e)⟩⟩
      · rw [ok_cndS]
        refine ⟨fun _=>ok_some.2 ⟨fun s' e=>(by cases e),fun r e=>?_⟩,fun hc=>(by rw [hb] at hc; cases hc)⟩
        injection e with e; subst e
        obtain ⟨k1,k2⟩:=(ses_at h (show i < l.length by omega)).1 he
        left
        simp only [sfind,k1,if_true,← k2]
      · injection e with e; subst e
        exact ⟨l.length - (i + 1),by omega,i + 1,by rw [w],by omega,rfl,fun t ht=>by
          rcases Nat.lt_or_ge t i with h2 | h2
          · exact ha t h2
          · have : t = i:=by omega
            subst this; exact hne⟩
    · injection e with e; subst e
      have hge : ¬ (i : Int) < l.length:=by simpa using h1
      right
      refine ⟨_,rfl,?_⟩
      rcases Bool.eq_false_or_eq_true (sh l c) with hq | hq
      · obtain ⟨q1,q2⟩:=sh_lt hq
        exact absurd q2 (ha _ (by omega))
      · simp only [sfind,hq,Bool.false_eq_true,if_false]
  · rcases he with rfl | ⟨z,rfl,hz⟩
    · rw [a_sumE_inr]; exact ok_some.2 rfl
    · rw [a_sumE_inl]; exact ok_some.2 (by rw [hz])
def sput (l : List Ses) (s : Ses) : List Ses × (Bool × Unit) :=
  if (sesOk l && sesOk [s]) = true then (if sh l s.1 = true then (if s.2.1≤(l.getD (sp l s.1) ses0).2.1 then (l,(false,())) else (l.take (sp l s.1) ++ [s] ++ l.drop (sp l s.1 + 1),(true,()))) else (l.take (sp l s.1) ++ [s] ++ l.drop (sp l s.1),(true,()))) else ([],(false,()))
theorem impl_SessionPut_eq (k : Nat) (hk : 100≤k) (l : List Ses) (s : Ses) (hkl : l.length < k) (hl : l.length≤1000000000) : impl_SessionPut_t A k (l,(s,())) () = some (sput l s,()):=by
  simp only [impl_SessionPut_t,impl_SessionsValid_eq k l hkl hl,impl_SessionsValid_eq k [s] (by simp; omega) (by simp),a_obind_some,a_cndS,a_notB,sput]
  rcases Bool.eq_false_or_eq_true (sesOk l) with h1 | h1
  case inr=>simp [h1]
  rcases Bool.eq_false_or_eq_true (sesOk [s]) with h2 | h2
  case inr=>simp [h1,h2]
  have h4:=ses_le4 h1
  simp only [h1,h2,Bool.not_true,Bool.false_eq_true,if_false,if_true,Bool.and_self,a_obind_some,a_sumE_inl,sessionPlace_eq k l s.1 (ses_mono h1 s.1) (by omega) (by omega)]
  rcases Bool.eq_false_or_eq_true (sh l s.1) with h | h
  · obtain ⟨q1,q2⟩:=sh_lt h
    have q1' : (sp l s.1 : Int) < l.length:=by omega
    have hr:=replacedSes_eq (A:=A) k l (sp l s.1) 1 [s] (by omega) (by simp) (by omega)
    simp only [Int.natCast_one,Int.ofNat_one] at hr
    simp only [h,Bool.not_true,Bool.false_eq_true,if_false,if_true,a_le0,Int.natCast_nonneg,a_ltI,a_lenL,q1',decide_true,a_andB,Bool.and_self,a_leI,a_atL,Int.toNat_natCast,copySes_eq k l (by omega),hr,a_obind_some]
    by_cases hq : s.2.1≤(l.getD (sp l s.1) ses0).2.1
    · rw [if_pos hq,decide_eq_true hq]; simp
    · rw [if_neg hq,decide_eq_false hq]; simp
  · have hr:=replacedSes_eq (A:=A) k l (sp l s.1) 0 [s] (by omega) (by simp) (by have:=sp_le l s.1; omega)
    simp only [Int.natCast_zero,Int.ofNat_zero,Nat.add_zero] at hr
    simp only [h,Bool.not_false,Bool.false_eq_true,if_false,if_true,hr,a_obind_some]
def walked (l : List Ses) (s : Ses) (i : Nat) : List Ses:=if i≤sp l s.1 then l.take i else l.take (sp l s.1) ++ [s] ++ (l.take i).drop (sp l s.1 + (if sh l s.1 = true then 1 else 0))
theorem spec_SessionPut_eq (k : Nat) (hk : 100≤k) (l : List Ses) (s : Ses) (hkl : l.length < k) (hl : l.length≤1000000000) : spec_SessionPut_t A k (l,(s,())) () = some (sput l s,()):=by
  simp only [spec_SessionPut_t,spec_SessionsValid_eq k l hkl hl,spec_SessionsValid_eq k [s] (by simp; omega) (by simp),a_obind_some,a_cndS,a_notB,sput]
  rcases Bool.eq_false_or_eq_true (sesOk l) with h1 | h1
  case inr=>simp [h1]
  rcases Bool.eq_false_or_eq_true (sesOk [s]) with h2 | h2
  case inr=>simp [h1,h2]
  have h4:=ses_le4 h1
  have hs : (0≤s.1∧s.1≤3)∧1≤s.2.1:=by
    have:=(range_all.1 h2) 0 (by simp)
    simp only [sesAt,sesP,Bool.and_eq_true,decide_eq_true_eq] at this
    exact ⟨this.1,this.2.1.1⟩
  have hb : (l.length : Int) < 4294967296:=by omega
  have hseq : spec_SessionSeq_t A k (l,(s.1,())) () = some (((sfind l s.1).2.1,()),()):=by
    simp only [spec_SessionSeq_t,spec_SessionsValid_eq k l hkl hl,h1,l1In_eq,hs.1,and_self,decide_true,a_notB,Bool.not_true,a_cndS,Bool.false_eq_true,if_false,a_obind_some,a_sumE_inl,l9Find_eq k l s.1 h1 hkl]
  simp only [h1,h2,Bool.not_true,Bool.false_eq_true,if_false,if_true,Bool.and_self,a_obind_some,a_sumE_inl,hseq,a_leI]
  have hsort:=ses_sorted h1
  have hsp : (∀ i,i < sp l s.1→ltS s.1 (l.getD i ses0) = true)∧(sp l s.1 < l.length→ltS s.1 (l.getD (sp l s.1) ses0) = false):=ahead_spec (lt:=ltS s.1) (d:=ses0) (l:=l)
  have hle:=sp_le l s.1
  have hloop : A.iter k (spec_SessionPut_t_b0 A k) (l,(([] : List Ses),(false,((0 : Int),(s,()))))) = some (walked l s l.length,(decide (sp l s.1 < l.length),(s,()))):=by
    rw [← ok_eq]
    refine iter_ok (fun m (st : List Ses × (List Ses × (Bool × (Int × (Ses × Unit)))))=>∃ i : Nat,st = (l,(walked l s i,(decide (sp l s.1 < i),((i : Int),(s,())))))∧i≤l.length∧m = l.length - i) _ ?_ (n:=l.length) (by omega) ⟨0,by simp [walked],by omega,by omega⟩
    rintro m st ⟨i,rfl,hi,rfl⟩
    have w : A.wrapI .i64 (A.addI (i : Int) 1) = ((i + 1 : Nat) : Int):=by rw [a_addI,a_wrap (by omega) (by omega)]; rfl
    rw [spec_SessionPut_t_b0,ok_cndS]
    refine ⟨fun q1=>?_,fun q1=>ok_some.2 ⟨fun s' e=>(by cases e),fun r e=>?_⟩⟩
    · have hlt' : (i : Int) < l.length:=by simpa using q1
      have hlt : i < l.length:=by omega
      have hb2:=in_bounds (A:=A) (l:=l) (i:=(i : Int)) (by omega) hlt'
      have hbi : A.ltI (A.addI (A.lenL (walked l s i)) (A.lenL (s :: ([] : List Ses)))) A.big = true:=by
        have : (walked l s i).length≤l.length + 1:=by
          unfold walked; split
          · rw [List.length_take]; omega
          · simp; omega
        simp; omega
      have hw : ∀ x : Ses,A.ltI (A.addI (A.lenL (walked l s i ++ [s])) (A.lenL (x :: ([] : List Ses)))) A.big = true:=fun x=>by
        have : (walked l s i).length≤l.length + 1:=by
          unfold walked; split
          · rw [List.length_take]; omega
          · simp; omega
        simp; omega
      have hw2 : ∀ x : Ses,A.ltI (A.addI (A.lenL (walked l s i)) (A.lenL (x :: ([] : List Ses)))) A.big = true:=fun x=>by
        have : (walked l s i).length≤l.length + 1:=by
          unfold walked; split
          · rw [List.length_take]; omega
          · simp; omega
        simp; omega
      have hgo : l.take (i + 1) = l.take i ++ [l.getD i ses0]:=by rw [List.take_succ_eq_append_getElem hlt,getD_lt hlt]
      -- three kinds of rounds
      rcases Nat.lt_trichotomy i (sp l s.1) with hk1 | hk1 | hk1
      · have ht : (l.getD i ses0).1 < s.1:=by simpa [ltS] using hsp.1 i hk1
        have n1 : ¬ sp l s.1 < i:=by omega
        have n2 : ¬ s.1≤(l.getD i ses0).1:=by omega
        have n3 : ¬ (l.getD i ses0).1 = s.1:=by omega
        have n4 : ¬ sp l s.1 < i + 1:=by omega
        have e1 : walked l s i = l.take i:=by unfold walked; rw [if_pos (by omega)]
        have e2 : walked l s (i + 1) = l.take i ++ [l.getD i ses0]:=by unfold walked; rw [if_pos (by omega),hgo]
        have hw2':=hw2 (l.getD i ses0)
        rw [e1] at hw2'
        simp only [e1,n1,decide_false,a_notB,Bool.not_false,a_cndS,if_true,hb2,a_leI,a_atL,Int.toNat_natCast,n2,Bool.false_eq_true,if_false,a_obind_some,a_eqI,n3,hw2',a_appL,w]
        exact ok_some.2 ⟨fun s' e=>(by injection e with e; subst e; exact ⟨l.length - (i + 1),by omega,i + 1,by rw [e2,decide_eq_false n4],by omega,rfl⟩),fun r e=>(by cases e)⟩
      · have ht : ¬ (l.getD i ses0).1 < s.1:=by
          have:=hsp.2 (show sp l s.1 < l.length by omega)
          rw [hk1]; simpa [ltS] using this
        have n1 : ¬ sp l s.1 < i:=by omega
        have n2 : s.1≤(l.getD i ses0).1:=by omega
        have n4 : sp l s.1 < i + 1:=by omega
        have e1 : walked l s i = l.take i:=by unfold walked; rw [if_pos (by omega)]
        have e2 : walked l s (i + 1) = l.take i ++ [s] ++ (if (l.getD i ses0).1 = s.1 then [] else [l.getD i ses0]):=by
          unfold walked; rw [if_neg (by omega),hgo,← hk1]
          congr 1
          have tl : (l.take i).length = i:=by rw [List.length_take]; omega
          by_cases he : (l.getD i ses0).1 = s.1
          · have hh : sh l s.1 = true:=((ses_at h1 hlt).1 he).1
            rw [hh,if_pos rfl,if_pos he,List.drop_of_length_le (by simp; omega)]
          · have hh : ¬ sh l s.1 = true:=fun hh=>he ((ses_at h1 hlt).2 ⟨hh,hk1⟩)
            rw [if_neg hh,if_neg he,Nat.add_zero]
            conv=>lhs; rw [← tl]
            rw [tl]
            rw [List.drop_append_of_le_length (by omega)]
            rw [List.drop_of_length_le (by omega),List.nil_append]
        have hbi':=hbi
        rw [e1] at hbi'
        simp only [e1,n1,decide_false,a_notB,Bool.not_false,a_cndS,if_true,hb2,a_leI,a_atL,Int.toNat_natCast,n2,decide_true,hbi',a_appL,a_obind_some,a_eqI]
        by_cases he : (l.getD i ses0).1 = s.1
        · simp only [he,decide_true,Bool.not_true,Bool.false_eq_true,if_false,w]
          exact ok_some.2 ⟨fun s' e=>(by injection e with e; subst e; exact ⟨l.length - (i + 1),by omega,i + 1,by rw [e2,decide_eq_true n4,if_pos he,List.append_nil],by omega,rfl⟩),fun r e=>(by cases e)⟩
        · have hw':=hw (l.getD i ses0)
          rw [e1] at hw'
          simp only [he,decide_false,Bool.not_false,if_true,hw',w]
          exact ok_some.2 ⟨fun s' e=>(by injection e with e; subst e; exact ⟨l.length - (i + 1),by omega,i + 1,by rw [e2,decide_eq_true n4,if_neg he],by omega,rfl⟩),fun r e=>(by cases e)⟩
      · have ht : s.1 < (l.getD i ses0).1:=by
          have q2:=hsort _ i hk1 hlt
          have q3:=hsp.2 (show sp l s.1 < l.length by omega)
          simp only [ltS,decide_eq_false_iff_not] at q3
          have q3 : ¬ (l.getD (sp l s.1) ses0).1 < s.1:=q3
          omega
        have n3 : ¬ (l.getD i ses0).1 = s.1:=by omega
        have n4 : sp l s.1 < i + 1:=by omega
        have e2 : walked l s (i + 1) = walked l s i ++ [l.getD i ses0]:=by
          obtain ⟨z,hz1,hz2⟩ : ∃ z,(if sh l s.1 = true then 1 else 0) = z∧z≤1:=⟨_,rfl,by split <;> omega⟩
          have tl : (l.take i).length = i:=by rw [List.length_take]; omega
          simp only [walked,hz1]
          rw [if_neg (show ¬ i + 1≤sp l s.1 by omega),if_neg (show ¬ i≤sp l s.1 by omega),hgo,List.drop_append_of_le_length (by omega)]
          simp only [List.append_assoc]
        simp only [hk1,decide_true,a_notB,Bool.not_true,a_cndS,Bool.false_eq_true,if_false,a_obind_some,hb2,if_true,a_eqI,a_atL,Int.toNat_natCast,n3,decide_false,Bool.not_false,hw2 (l.getD i ses0),a_appL,w]
        exact ok_some.2 ⟨fun s' e=>(by injection e with e; subst e; exact ⟨l.length - (i + 1),by omega,i + 1,by rw [e2,decide_eq_true n4],by omega,rfl⟩),fun r e=>(by cases e)⟩
    · injection e with e; subst e
      have hge : ¬ (i : Int) < l.length:=by simpa using q1
      have : i = l.length:=by omega
      subst this; rfl
  rcases Bool.eq_false_or_eq_true (sh l s.1) with h | h
  · obtain ⟨q1,q2⟩:=sh_lt h
    have e1 : sfind l s.1 = l.getD (sp l s.1) ses0:=by simp only [sfind,h,if_true]
    have e2 : walked l s l.length = l.take (sp l s.1) ++ [s] ++ l.drop (sp l s.1 + 1):=by
      unfold walked; rw [if_neg (by omega),h,if_pos rfl,List.take_length]
    rw [e1]
    by_cases hq : s.2.1≤(l.getD (sp l s.1) ses0).2.1
    · rw [if_pos hq,decide_eq_true hq]
      simp [h,hb]
    · rw [if_neg hq,decide_eq_false hq]
      simp only [Bool.false_eq_true,if_false,hloop,a_obind_some,q1,decide_true,Bool.not_true,h,if_true,e2]
  · have e1 : sfind l s.1 = ses0:=by simp only [sfind,h,Bool.false_eq_true,if_false]
    have n1 : ¬ s.2.1≤0:=by omega
    rw [e1]
    simp only [n1,decide_false,Bool.false_eq_true,if_false,hloop,a_obind_some,h]
    by_cases hq : sp l s.1 < l.length
    · have e2 : walked l s l.length = l.take (sp l s.1) ++ [s] ++ l.drop (sp l s.1):=by
        unfold walked; rw [if_neg (by omega),h,List.take_length]; simp
      simp only [hq,decide_true,Bool.not_true,Bool.false_eq_true,if_false,e2]
    · have e3 : sp l s.1 = l.length:=by omega
      have e2 : walked l s l.length = l:=by unfold walked; rw [if_pos (by omega),List.take_length]
      have hb3 : (l.length : Int) + 1 < 4294967296:=by omega
      simp [e2,e3,hb3]
end
end Go.Den.T
