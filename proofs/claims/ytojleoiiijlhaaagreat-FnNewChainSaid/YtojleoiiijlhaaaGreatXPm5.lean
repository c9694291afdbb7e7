/- Commands, entries, logs applied: both sides in one form. -/
import Derived.Test.YtojleoiiijlhaaaGreatXPm2
import Derived.Test.YtojleoiiijlhaaaGreatXPm3
import Derived.Test.YtojleoiiijlhaaaGreatXPm4

namespace Go.Den.T
set_option linter.unusedVariables false
set_option linter.unusedSimpArgs false
set_option linter.unusedSectionVars false
section
variable {A : Atoms} [IsReal A]
theorem pget_cases (l : List Pair) (s : List UInt8) : pget l s = -1∨(0≤pget l s∧pget l s≤999):=by
  unfold pget
  split
  · rename_i h
    simp only [Bool.and_eq_true] at h
    obtain ⟨h1,h2⟩:=ph_lt h.2
    have:=h.1
    simp only [pairsOk,Bool.and_eq_true,range_all] at this
    have:=this.2 _ h1
    simp only [pairAt,valOk,Bool.and_eq_true,decide_eq_true_eq] at this
    exact .inr this.2.1
  · exact .inl rfl
def appC (l : List Pair) (c : Cmd) : List Pair × (Int × Unit) :=
  if (pairsOk l && cmdOk c) = true∧c.1 ≠ 5 then
    (if c.1 = 3 then ((pdrop l c.2.1).1,(pget l c.2.1,())) else if c.1 = 1∨(c.1 = 4∧c.2.2.2.1 ≠ pget l c.2.1) then (l,(pget l c.2.1,()))
      else if pget l c.2.1 = -1∧8≤l.length then (l,(-2,())) else ((pput l c.2.1 c.2.2.1).1,(pget l c.2.1,())))
  else ([],(-3,()))
theorem impl_ApplyCommand_eq (k : Nat) (hk : 100≤k) (l : List Pair) (c : Cmd) : impl_ApplyCommand_t A k (l,(c,())) () = some (appC l c,()):=by
  obtain ⟨kd,key,val,old,_⟩:=c
  simp only [impl_ApplyCommand_t,impl_PairsValid_eq k (by omega : 60≤k),impl_CommandValid_eq k (by omega : 10≤k),a_obind_some,a_cndS,a_notB,a_eqI,appC]
  rcases Bool.eq_false_or_eq_true (pairsOk l) with h1 | h1
  case inr=>simp [h1]
  rcases Bool.eq_false_or_eq_true (cmdOk (kd,(key,(val,(old,()))))) with h2 | h2
  case inr=>simp [h1,h2]
  have hl:=pairs_len h1
  by_cases h5 : kd = 5
  · simp [h1,h2,h5]
  simp only [h1,h2,h5,decide_false,Bool.not_true,Bool.false_eq_true,if_false,a_sumE_inl,a_obind_some,impl_PairGet_eq k hk,impl_PairDrop_eq k hk,impl_PairPut_eq k hk,copyPair_eq k l (show l.length≤1000000000 by omega),Bool.and_self,ne_eq,not_false_eq_true,and_self,if_true]
  generalize pget l key = g
  by_cases h3 : kd = 3
  · simp [h3]
  by_cases h11 : kd = 1
  · simp [h3,h11]
  by_cases h4 : kd = 4
  · subst h4
    by_cases ho : old = g
    · by_cases hg : g = -1
      · by_cases h8 : 8≤l.length
        · have : (8 : Int)≤l.length:=by omega
          simp [ho,hg,h8,this,copyPair_eq k l (show l.length≤1000000000 by omega)]
        · have : ¬ (8 : Int)≤l.length:=by omega
          simp [ho,hg,h8,this]
      · simp [ho,hg]
    · simp [ho]
  · by_cases hg : g = -1
    · by_cases h8 : 8≤l.length
      · have : (8 : Int)≤l.length:=by omega
        simp [h3,h11,h4,hg,h8,this,copyPair_eq k l (show l.length≤1000000000 by omega)]
      · have : ¬ (8 : Int)≤l.length:=by omega
        simp [h3,h11,h4,hg,h8,this]
    · simp [h3,h11,h4,hg]
/-! ### entries -/
abbrev stt0 : Stt:=(itv0,(([] : List Pair),(([] : List Ses),(false,(([] : List UInt8),())))))
def takes (s : Stt) (c : Cmd) : Bool:=if c.1 = 5 then (decide (c.2.1 = []) || (cut s.1 c.2.1).2.2.1) else inside s.1 c.2.1
def apE (s : Stt) (e : Ent) : Stt × (Int × Unit) :=
  if (stOk s && entOk e) = true then
    (if (sfind s.2.2.1 e.1).2.1 = e.2.1 then (s,((sfind s.2.2.1 e.1).2.2.1,())) else if e.2.1 < (sfind s.2.2.1 e.1).2.1 then (s,(-4,()))
     else if (s.2.2.2.1 || !takes s e.2.2.1) = true then (s,(-3,()))
     else if e.2.2.1.1 = 5 then ((s.1,(s.2.1,((sput s.2.2.1 (e.1,(e.2.1,(0,())))).1,(true,(e.2.2.1.2.1,()))))),(0,()))
     else ((s.1,((appC s.2.1 e.2.2.1).1,((sput s.2.2.1 (e.1,(e.2.1,((appC s.2.1 e.2.2.1).2.1,())))).1,s.2.2.2))),((appC s.2.1 e.2.2.1).2.1,())))
  else (stt0,(-3,()))
theorem stOk_parts {s : Stt} (h : stOk s = true) : itvOk s.1 = true∧pairsOk s.2.1 = true∧sesOk s.2.2.1 = true∧s.2.1.all (fun p=>inside s.1 p.1) = true∧(s.2.2.2.2.1 = []∨(s.2.2.2.1 = true∧(cut s.1 s.2.2.2.2.1).2.2.1 = true)):=by
  simp only [stOk,Bool.and_eq_true,Bool.or_eq_true,decide_eq_true_eq] at h
  exact ⟨h.1,h.2.1,h.2.2.1,h.2.2.2.1,h.2.2.2.2⟩
theorem entOk_parts {e : Ent} (h : entOk e = true) : (0≤e.1∧e.1≤3)∧(1≤e.2.1∧e.2.1≤999)∧cmdOk e.2.2.1 = true:=by
  simp only [entOk,Bool.and_eq_true,decide_eq_true_eq] at h
  exact ⟨h.1,h.2.1,h.2.2⟩
theorem cmd_key {c : Cmd} (h : cmdOk c = true) : keyOk c.2.1 = true∨(c.1 = 5∧c.2.1 = []):=by
  simp only [cmdOk,Bool.and_eq_true,Bool.or_eq_true,decide_eq_true_eq] at h
  exact h.1
theorem copyState_eq (k : Nat) (s : Stt) (h1 : s.2.1.length≤1000000000) (h2 : s.2.2.1.length≤1000000000) : impl_copyState_t A k (s,()) () = some ((s,()),()):=by
  simp only [impl_copyState_t,copyPair_eq k s.2.1 h1,copySes_eq k s.2.2.1 h2,a_obind_some]
theorem l10Copy_eq (k : Nat) (s : Stt) (h1 : s.2.1.length≤1000000000) (h2 : s.2.2.1.length≤1000000000) : spec_l10Copy_t A k (s,()) () = some ((s,()),()):=by
  have g1 : (s.2.1.length : Int) < 4294967296:=by omega
  have g2 : (s.2.2.1.length : Int) < 4294967296:=by omega
  simp only [spec_l10Copy_t,a_lenL,List.length_nil,Int.natCast_zero,Int.ofNat_zero,a_addI,Int.zero_add,a_ltI,a_big,g1,g2,decide_true,a_cndS,if_true,a_appL,List.nil_append]
theorem stateTakes_eq (k : Nat) (hk : 10≤k) (s : Stt) (c : Cmd) : impl_stateTakes_t A k (s,(c,())) () = some ((takes s c,()),()):=by
  simp only [impl_stateTakes_t,inside_eq,impl_IntervalCut_eq k hk,a_obind_some,a_cndS,a_notB,a_eqI,a_eqS,takes]
  by_cases h5 : c.1 = 5
  · by_cases hn : c.2.1 = [] <;> simp [h5,hn]
  · simp [h5]
theorem impl_ApplyEntry_eq (k : Nat) (hk : 100≤k) (s : Stt) (e : Ent) (hk2 : s.2.2.1.length < k) (hl : s.2.2.1.length≤1000000000) : impl_ApplyEntry_t A k (s,(e,())) () = some (apE s e,()):=by
  simp only [impl_ApplyEntry_t,impl_StateValid_eq k (by omega : 60≤k) s hk2 hl,impl_EntryValid_eq k (by omega : 10≤k),a_obind_some,a_cndS,a_notB,apE]
  rcases Bool.eq_false_or_eq_true (stOk s) with h1 | h1
  case inr=>simp [h1]
  rcases Bool.eq_false_or_eq_true (entOk e) with h2 | h2
  case inr=>simp [h1,h2]
  obtain ⟨p1,p2,p3,p4,p5⟩:=stOk_parts h1
  obtain ⟨q1,q2,q3⟩:=entOk_parts h2
  have l1:=pairs_len p2
  have l2:=ses_le4 p3
  simp only [h1,h2,Bool.not_true,Bool.false_eq_true,if_false,if_true,a_sumE_inl,a_obind_some,Bool.and_self,copyState_eq k s (show s.2.1.length≤1000000000 by omega) hl,sessionPlace_eq k s.2.2.1 e.1 (ses_mono p3 e.1) (by omega) hl]
  rcases Bool.eq_false_or_eq_true (sh s.2.2.1 e.1) with hh | hh
  · obtain ⟨m1,m2⟩:=sh_lt hh
    have m1' : (sp s.2.2.1 e.1 : Int) < s.2.2.1.length:=by omega
    have ef : sfind s.2.2.1 e.1 = s.2.2.1.getD (sp s.2.2.1 e.1) ses0:=by simp only [sfind,hh,if_true]
    rw [ef]
    simp only [hh,if_true,a_le0,Int.natCast_nonneg,a_ltI,a_lenL,m1',decide_true,a_andB,Bool.and_self,a_atL,Int.toNat_natCast,a_leI,a_eqI]
    by_cases c1 : e.2.1 = (s.2.2.1.getD (sp s.2.2.1 e.1) ses0).2.1
    · have c2 : e.2.1≤(s.2.2.1.getD (sp s.2.2.1 e.1) ses0).2.1:=by omega
      rw [if_pos c1.symm,decide_eq_true c1,decide_eq_true c2]
      simp only [if_true,a_obind_some,a_sumE_inr]
    · have c1' : ¬ (s.2.2.1.getD (sp s.2.2.1 e.1) ses0).2.1 = e.2.1:=fun h=>c1 h.symm
      rw [if_neg c1',decide_eq_false c1]
      by_cases c2 : e.2.1≤(s.2.2.1.getD (sp s.2.2.1 e.1) ses0).2.1
      · have c3 : e.2.1 < (s.2.2.1.getD (sp s.2.2.1 e.1) ses0).2.1:=by omega
        rw [if_pos c3,decide_eq_true c2]
        simp only [if_true,Bool.false_eq_true,if_false,a_obind_some,a_sumE_inr]
      · have c3 : ¬ e.2.1 < (s.2.2.1.getD (sp s.2.2.1 e.1) ses0).2.1:=by omega
        rw [if_neg c3,decide_eq_false c2]
        simp only [Bool.false_eq_true,if_false,a_obind_some,a_sumE_inl]
        simp only [stateTakes_eq k (by omega : 10≤k),a_obind_some,a_cndS,a_notB,a_eqI]
        rcases Bool.eq_false_or_eq_true s.2.2.2.1 with hz | hz
        · simp [hz]
        rcases Bool.eq_false_or_eq_true (takes s e.2.2.1) with ht | ht
        case inr=>simp [hz,ht]
        by_cases h5 : e.2.2.1.1 = 5
        · simp [hz,ht,h5,impl_SessionPut_eq k hk s.2.2.1 _ hk2 hl]
        · simp [hz,ht,h5,impl_SessionPut_eq k hk s.2.2.1 _ hk2 hl,impl_ApplyCommand_eq k hk]
  · have ef : sfind s.2.2.1 e.1 = ses0:=by simp only [sfind,hh,Bool.false_eq_true,if_false]
    have c1 : ¬ (0 : Int) = e.2.1:=by omega
    have c2 : ¬ e.2.1 < 0:=by omega
    rw [ef]
    simp only [hh,Bool.false_eq_true,if_false,a_obind_some,a_sumE_inl,c1,c2]
    simp only [stateTakes_eq k (by omega : 10≤k),a_obind_some,a_cndS,a_notB,a_eqI]
    rcases Bool.eq_false_or_eq_true s.2.2.2.1 with hz | hz
    · simp [hz]
    rcases Bool.eq_false_or_eq_true (takes s e.2.2.1) with ht | ht
    case inr=>simp [hz,ht]
    by_cases h5 : e.2.2.1.1 = 5
    · simp [hz,ht,h5,impl_SessionPut_eq k hk s.2.2.1 _ hk2 hl]
    · simp [hz,ht,h5,impl_SessionPut_eq k hk s.2.2.1 _ hk2 hl,impl_ApplyCommand_eq k hk]
/-! ### validity is kept -/
theorem pairsOk_iff {l : List Pair} : pairsOk l = true ↔ l.length≤48∧(∀ p ∈ l,keyOk p.1 = true∧valOk p.2.1 = true)∧l.Pairwise (fun a b=>bless a.1 b.1 = true):=by
  constructor
  · intro h
    have hs:=pairs_sorted h
    refine ⟨pairs_len h,fun p hp=>?_,?_⟩
    · obtain ⟨i,hi,rfl⟩:=List.mem_iff_getElem.1 hp
      simp only [pairsOk,Bool.and_eq_true,range_all] at h
      have:=h.2 i hi
      simp only [pairAt,Bool.and_eq_true] at this
      rw [getD_lt hi] at this
      exact ⟨this.1,this.2.1⟩
    · rw [List.pairwise_iff_getElem]
      intro i j hi hj hij
      have:=hs i j hij hj
      rwa [getD_lt hi,getD_lt hj] at this
  · rintro ⟨h1,h2,h3⟩
    rw [List.pairwise_iff_getElem] at h3
    simp only [pairsOk,Bool.and_eq_true,range_all,decide_eq_true_eq]
    refine ⟨h1,fun i hi=>?_⟩
    have h4:=h2 l[i] (List.getElem_mem hi)
    simp only [pairAt,Bool.and_eq_true,Bool.or_eq_true,decide_eq_true_eq]
    rw [getD_lt hi]
    refine ⟨h4.1,h4.2,?_⟩
    by_cases h0 : i = 0
    · exact .inl h0
    · have hi1 : i - 1 < l.length:=by omega
      rw [getD_lt hi1]
      exact .inr (h3 (i - 1) i hi1 hi (by omega))
theorem sesOk_iff {l : List Ses} : sesOk l = true ↔ (∀ p ∈ l,(0≤p.1∧p.1≤3)∧(1≤p.2.1∧p.2.1≤999)∧-2≤p.2.2.1∧p.2.2.1≤999)∧l.Pairwise (fun a b=>a.1 < b.1):=by
  constructor
  · intro h
    have hs:=ses_sorted h
    refine ⟨fun p hp=>?_,?_⟩
    · obtain ⟨i,hi,rfl⟩:=List.mem_iff_getElem.1 hp
      simp only [sesOk,range_all] at h
      have:=h i hi
      simp only [sesAt,sesP,Bool.and_eq_true,decide_eq_true_eq] at this
      rw [getD_lt hi] at this
      exact ⟨this.1,this.2.1,this.2.2.1⟩
    · rw [List.pairwise_iff_getElem]
      intro i j hi hj hij
      have:=hs i j hij hj
      rwa [getD_lt hi,getD_lt hj] at this
  · rintro ⟨h2,h3⟩
    rw [List.pairwise_iff_getElem] at h3
    simp only [sesOk,range_all]
    intro i hi
    have h4:=h2 l[i] (List.getElem_mem hi)
    simp only [sesAt,sesP,Bool.and_eq_true,Bool.or_eq_true,decide_eq_true_eq,Bool.not_eq_true',decide_eq_false_iff_not]
    rw [getD_lt hi]
    refine ⟨h4.1,h4.2.1,h4.2.2,?_⟩
    by_cases h0 : i = 0
    · exact .inl h0
    · have hi1 : i - 1 < l.length:=by omega
      rw [getD_lt hi1]
      have:=h3 (i - 1) i hi1 hi (by omega)
      exact .inr (by omega)
theorem pdrop_ok {l : List Pair} (h : pairsOk l = true) (s : List UInt8) : pairsOk (pdrop l s).1 = true∧∀ p ∈ (pdrop l s).1,p ∈ l:=by
  unfold pdrop
  rw [if_pos h]
  split
  · have hsub : List.Sublist (l.take (pp l s) ++ l.drop (pp l s + 1)) l:=by
      conv=>rhs; rw [← List.take_append_drop (pp l s) l]
      exact List.Sublist.append (List.Sublist.refl _) (by rw [← List.drop_drop]; exact List.drop_sublist 1 _)
    rw [pairsOk_iff] at h
    refine ⟨pairsOk_iff.2 ⟨Nat.le_trans hsub.length_le h.1,fun p hp=>h.2.1 p (hsub.subset hp),h.2.2.sublist hsub⟩,fun p hp=>hsub.subset hp⟩
  · exact ⟨h,fun p hp=>hp⟩
theorem place_order {l : List Pair} (h : pairsOk l = true) (s : List UInt8) : (∀ p ∈ l.take (pp l s),bless p.1 s = true)∧(ph l s = true→∀ p ∈ l.drop (pp l s + 1),bless s p.1 = true)∧(ph l s = false→∀ p ∈ l.drop (pp l s),bless s p.1 = true):=by
  have hs:=pairs_sorted h
  have hsp : (∀ i,i < pp l s→ltP s (l.getD i pair0) = true)∧(pp l s < l.length→ltP s (l.getD (pp l s) pair0) = false):=ahead_spec (lt:=ltP s) (d:=pair0) (l:=l)
  refine ⟨fun p hp=>?_,fun hh p hp=>?_,fun hh p hp=>?_⟩
  · obtain ⟨i,hi,rfl⟩:=List.mem_iff_getElem.1 hp
    rw [List.length_take] at hi
    have:=hsp.1 i (by omega)
    rw [getD_lt (show i < l.length by omega)] at this
    rw [List.getElem_take]; exact this
  · obtain ⟨q1,q2⟩:=ph_lt hh
    obtain ⟨i,hi,rfl⟩:=List.mem_iff_getElem.1 hp
    rw [List.length_drop] at hi
    have:=hs (pp l s) (pp l s + 1 + i) (by omega) (by omega)
    rw [q2,getD_lt (show pp l s + 1 + i < l.length by omega)] at this
    rw [List.getElem_drop]; exact this
  · obtain ⟨i,hi,rfl⟩:=List.mem_iff_getElem.1 hp
    rw [List.length_drop] at hi
    have hlt : pp l s < l.length:=by omega
    have hne : ¬ (l.getD (pp l s) pair0).1 = s:=fun e=>by
      have : ph l s = true:=by simp only [ph,hlt,e,decide_true,Bool.and_self]
      rw [this] at hh; cases hh
    have h0 : bless s (l.getD (pp l s) pair0).1 = true:=by
      have h1:=hsp.2 hlt
      have h2:=bless_total s (l.getD (pp l s) pair0).1
      have h1 : bless (l.getD (pp l s) pair0).1 s = false:=h1
      rw [h1,decide_eq_false hne] at h2
      exact h2
    rw [List.getElem_drop]
    by_cases hi0 : i = 0
    · subst hi0
      rw [getD_lt hlt] at h0
      simpa using h0
    · have:=hs (pp l s) (pp l s + i) (by omega) (by omega)
      rw [getD_lt (show pp l s + i < l.length by omega)] at this
      exact bless_trans h0 this
theorem pput_ok {l : List Pair} (h : pairsOk l = true) {s : List UInt8} {v : Int} (hs : keyOk s = true) (hv : valOk v = true) : pairsOk (pput l s v).1 = true∧∀ p ∈ (pput l s v).1,p ∈ l∨p = (s,(v,())):=by
  obtain ⟨o1,o2,o3⟩:=place_order h s
  have hle:=pp_le l s
  have hq:=h
  rw [pairsOk_iff] at hq
  obtain ⟨q1,q2,q3⟩:=hq
  unfold pput
  rw [if_pos (by simp [h,hs,hv])]
  have gen : ∀ d : List Pair,List.Sublist d (l.drop (pp l s))→(∀ p ∈ d,bless s p.1 = true)→(pp l s + 1 + d.length≤48)→pairsOk (l.take (pp l s) ++ [(s,(v,()))] ++ d) = true∧∀ p ∈ l.take (pp l s) ++ [(s,(v,()))] ++ d,p ∈ l∨p = (s,(v,())):=by
    intro d hd ho hn
    have mem : ∀ p ∈ l.take (pp l s) ++ [(s,(v,()))] ++ d,p ∈ l∨p = (s,(v,())):=by
      intro p hp
      rcases List.mem_append.1 hp with hp | hp
      · rcases List.mem_append.1 hp with hp | hp
        · exact .inl (List.mem_of_mem_take hp)
        · exact .inr (by simpa using hp)
      · exact .inl (List.mem_of_mem_drop (hd.subset hp))
    have hsub : List.Sublist (l.take (pp l s) ++ d) l:=by
      conv=>rhs; rw [← List.take_append_drop (pp l s) l]
      exact List.Sublist.append (List.Sublist.refl _) hd
    have hpw:=q3.sublist hsub
    rw [List.pairwise_append] at hpw
    refine ⟨pairsOk_iff.2 ⟨by simp only [List.length_append,List.length_take,List.length_cons,List.length_nil]; omega,fun p hp=>?_,?_⟩,mem⟩
    · rcases mem p hp with hp | rfl
      · exact q2 p hp
      · exact ⟨hs,hv⟩
    · rw [List.append_assoc,List.pairwise_append]
      refine ⟨hpw.1,?_,fun a ha b hb=>?_⟩
      · rw [List.singleton_append,List.pairwise_cons]
        exact ⟨fun a ha=>ho a ha,hpw.2.1⟩
      · rcases List.mem_append.1 hb with hb | hb
        · have : b = (s,(v,())):=by simpa using hb
          rw [this]; exact o1 a ha
        · exact hpw.2.2 a ha b hb
  rcases Bool.eq_false_or_eq_true (ph l s) with hh | hh
  · rw [if_pos hh]
    exact gen _ (by rw [← List.drop_drop]; exact List.drop_sublist 1 _) (o2 hh) (by have:=(ph_lt hh).1; rw [List.length_drop]; omega)
  · rw [if_neg (by rw [hh]; simp)]
    split
    · exact ⟨h,fun p hp=>.inl hp⟩
    · exact gen _ (List.Sublist.refl _) (o3 hh) (by rw [List.length_drop]; omega)
theorem sput_ok {l : List Ses} (h : sesOk l = true) {s : Ses} (hs : (0≤s.1∧s.1≤3)∧(1≤s.2.1∧s.2.1≤999)∧-2≤s.2.2.1∧s.2.2.1≤999) : sesOk (sput l s).1 = true:=by
  have hsort:=ses_sorted h
  have hsp : (∀ i,i < sp l s.1→ltS s.1 (l.getD i ses0) = true)∧(sp l s.1 < l.length→ltS s.1 (l.getD (sp l s.1) ses0) = false):=ahead_spec (lt:=ltS s.1) (d:=ses0) (l:=l)
  have hq:=h
  rw [sesOk_iff] at hq
  obtain ⟨q2,q3⟩:=hq
  have h1 : sesOk [s] = true:=sesOk_iff.2 ⟨fun p hp=>by simp at hp; subst hp; exact hs,by simp⟩
  have o1 : ∀ p ∈ l.take (sp l s.1),p.1 < s.1:=fun p hp=>by
    obtain ⟨i,hi,rfl⟩:=List.mem_iff_getElem.1 hp
    rw [List.length_take] at hi
    have:=hsp.1 i (by omega)
    rw [getD_lt (show i < l.length by omega)] at this
    rw [List.getElem_take]; simpa [ltS] using this
  unfold sput
  rw [if_pos (by simp [h,h1])]
  have gen : ∀ d : List Ses,List.Sublist d (l.drop (sp l s.1))→(∀ p ∈ d,s.1 < p.1)→sesOk (l.take (sp l s.1) ++ [s] ++ d) = true:=by
    intro d hd ho
    have hsub : List.Sublist (l.take (sp l s.1) ++ d) l:=by
      conv=>rhs; rw [← List.take_append_drop (sp l s.1) l]
      exact List.Sublist.append (List.Sublist.refl _) hd
    have hpw:=q3.sublist hsub
    rw [List.pairwise_append] at hpw
    refine sesOk_iff.2 ⟨fun p hp=>?_,?_⟩
    · rcases List.mem_append.1 hp with hp | hp
      · rcases List.mem_append.1 hp with hp | hp
        · exact q2 p (List.mem_of_mem_take hp)
        · simp at hp; subst hp; exact hs
      · exact q2 p (List.mem_of_mem_drop (hd.subset hp))
    · rw [List.append_assoc,List.pairwise_append]
      refine ⟨hpw.1,?_,fun a ha b hb=>?_⟩
      · rw [List.singleton_append,List.pairwise_cons]
        exact ⟨fun a ha=>ho a ha,hpw.2.1⟩
      · rcases List.mem_append.1 hb with hb | hb
        · have : b = s:=by simpa using hb
          rw [this]; exact o1 a ha
        · exact hpw.2.2 a ha b hb
  rcases Bool.eq_false_or_eq_true (sh l s.1) with hh | hh
  · rw [if_pos hh]
    obtain ⟨m1,m2⟩:=sh_lt hh
    split
    · exact h
    · refine gen _ (by rw [← List.drop_drop]; exact List.drop_sublist 1 _) (fun p hp=>?_)
      obtain ⟨i,hi,rfl⟩:=List.mem_iff_getElem.1 hp
      rw [List.length_drop] at hi
      have:=hsort (sp l s.1) (sp l s.1 + 1 + i) (by omega) (by omega)
      rw [m2,getD_lt (show sp l s.1 + 1 + i < l.length by omega)] at this
      rw [List.getElem_drop]; exact this
  · rw [if_neg (by rw [hh]; simp)]
    refine gen _ (List.Sublist.refl _) (fun p hp=>?_)
    obtain ⟨i,hi,rfl⟩:=List.mem_iff_getElem.1 hp
    rw [List.length_drop] at hi
    have hlt : sp l s.1 < l.length:=by omega
    have hne : ¬ (l.getD (sp l s.1) ses0).1 = s.1:=fun e=>by
      have : sh l s.1 = true:=by simp only [sh,hlt,e,decide_true,Bool.and_self]
      rw [this] at hh; cases hh
    have h0 : s.1 < (l.getD (sp l s.1) ses0).1:=by
      have h1:=hsp.2 hlt
      simp only [ltS,decide_eq_false_iff_not] at h1
      omega
    rw [List.getElem_drop]
    by_cases hi0 : i = 0
    · subst hi0
      rw [getD_lt hlt] at h0
      simpa using h0
    · have:=hsort (sp l s.1) (sp l s.1 + i) (by omega) (by omega)
      rw [getD_lt (show sp l s.1 + i < l.length by omega)] at this
      omega
end
end Go.Den.T

namespace Go.Den.T
set_option linter.unusedVariables false
set_option linter.unusedSimpArgs false
set_option linter.unusedSectionVars false
section
variable {A : Atoms} [IsReal A]
theorem logOk_iff' {l : List Ent} : logOk l = true ↔ l.length≤24∧∀ e ∈ l,entOk e = true:=by
  simp only [logOk,Bool.and_eq_true,decide_eq_true_eq,List.all_eq_true]
theorem cmd_val {c : Cmd} (h : cmdOk c = true) (h5 : c.1 ≠ 5) (h1 : c.1 ≠ 1) (h3 : c.1 ≠ 3) : valOk c.2.2.1 = true:=by
  simp only [cmdOk,Bool.and_eq_true] at h
  have h:=h.2
  rw [if_neg (by simp [h1,h3,h5])] at h
  split at h
  · simp only [decide_eq_true_eq] at h
    simp [valOk,h.1]
  · split at h
    · simp only [decide_eq_true_eq] at h
      simp [valOk,h.1]
    · cases h
theorem appC_ok {l : List Pair} (h : pairsOk l = true) {c : Cmd} (hc : cmdOk c = true) (h5 : c.1 ≠ 5) : pairsOk (appC l c).1 = true∧(∀ p ∈ (appC l c).1,p ∈ l∨p.1 = c.2.1)∧-2≤(appC l c).2.1∧(appC l c).2.1≤999:=by
  have hg:=pget_cases l c.2.1
  have hkey : keyOk c.2.1 = true:=by
    rcases cmd_key hc with h | h
    · exact h
    · exact absurd h.1 h5
  unfold appC
  rw [if_pos ⟨by simp [h,hc],h5⟩]
  split
  · obtain ⟨k1,k2⟩:=pdrop_ok h c.2.1
    exact ⟨k1,fun p hp=>.inl (k2 p hp),by show -2≤pget l c.2.1; omega,by show pget l c.2.1≤999; omega⟩
  · rename_i h3
    split
    · exact ⟨h,fun p hp=>.inl hp,by show -2≤pget l c.2.1; omega,by show pget l c.2.1≤999; omega⟩
    · rename_i h1
      have h1 : c.1 ≠ 1:=fun e=>h1 (.inl e)
      split
      · exact ⟨h,fun p hp=>.inl hp,by simp,by simp⟩
      · obtain ⟨k1,k2⟩:=pput_ok h hkey (cmd_val hc h5 h1 h3)
        exact ⟨k1,fun p hp=>(k2 p hp).imp id (fun e=>by rw [e]),by show -2≤pget l c.2.1; omega,by show pget l c.2.1≤999; omega⟩
theorem apE_ok {s : Stt} (h : stOk s = true) {e : Ent} (he : entOk e = true) : stOk (apE s e).1 = true:=by
  obtain ⟨p1,p2,p3,p4,p5⟩:=stOk_parts h
  obtain ⟨q1,q2,q3⟩:=entOk_parts he
  unfold apE
  rw [if_pos (by simp [h,he])]
  split
  · exact h
  split
  · exact h
  split
  · exact h
  rename_i hm
  simp only [Bool.or_eq_true,Bool.not_eq_true',not_or,Bool.not_eq_true,Bool.not_eq_false] at hm
  obtain ⟨hz,ht⟩:=hm
  split
  · rename_i h5
    have hs:=sput_ok p3 (s:=(e.1,(e.2.1,(0,())))) ⟨q1,q2,by simp,by simp⟩
    have hcut : e.2.2.1.2.1 = []∨(cut s.1 e.2.2.1.2.1).2.2.1 = true:=by
      simp only [takes,h5,if_true,Bool.or_eq_true,decide_eq_true_eq] at ht
      exact ht
    simp only [stOk,p1,p2,hs,p4,Bool.true_and,Bool.or_eq_true,decide_eq_true_eq]
    exact hcut
  · rename_i h5
    obtain ⟨k1,k2,k3,k4⟩:=appC_ok p2 q3 h5
    have hs:=sput_ok p3 (s:=(e.1,(e.2.1,((appC s.2.1 e.2.2.1).2.1,())))) ⟨q1,q2,k3,k4⟩
    have hin : inside s.1 e.2.2.1.2.1 = true:=by simpa only [takes,h5,if_false] using ht
    have hall : (appC s.2.1 e.2.2.1).1.all (fun p=>inside s.1 p.1) = true:=by
      rw [List.all_eq_true]
      intro p hp
      rcases k2 p hp with hp | hp
      · exact (List.all_eq_true.1 p4) p hp
      · rw [hp]; exact hin
    simp only [stOk,p1,k1,hs,hall,Bool.true_and,Bool.or_eq_true,decide_eq_true_eq,Bool.and_eq_true]
    exact p5
def rep (s : Stt) : List Ent→Stt × List Int
  | []=>(s,[])
  | e :: l=>((rep (apE s e).1 l).1,(apE s e).2.1 :: (rep (apE s e).1 l).2)
theorem rep_append (s : Stt) : ∀ (l m : List Ent),rep s (l ++ m) = ((rep (rep s l).1 m).1,(rep s l).2 ++ (rep (rep s l).1 m).2)∧(rep s l).2.length = l.length:=by
  intro l
  induction l generalizing s with
  | nil=>intro m; exact ⟨rfl,rfl⟩
  | cons e l ih =>
    intro m
    obtain ⟨h1,h2⟩:=ih (apE s e).1 m
    exact ⟨by simp only [List.cons_append,rep,h1],by simp only [rep,List.length_cons,h2]⟩
theorem rep_snoc (s : Stt) (l : List Ent) (e : Ent) : rep s (l ++ [e]) = ((apE (rep s l).1 e).1,(rep s l).2 ++ [(apE (rep s l).1 e).2.1]):=(rep_append s l [e]).1
theorem rep_ok {s : Stt} (h : stOk s = true) : ∀ {l : List Ent},(∀ e ∈ l,entOk e = true)→stOk (rep s l).1 = true:=by
  intro l
  induction l generalizing s with
  | nil=>intro _; exact h
  | cons e l ih=>intro hl; exact ih (apE_ok h (hl e (by simp))) (fun x hx=>hl x (by simp [hx]))
def replay (s : Stt) (l : List Ent) : Stt × (List Int × Unit):=if (stOk s && logOk l) = true then ((rep s l).1,((rep s l).2,())) else (stt0,([],()))
theorem st_short {s : Stt} (h : stOk s = true) : s.2.1.length≤48∧s.2.2.1.length≤4:=by
  obtain ⟨_,p2,p3,_⟩:=stOk_parts h
  exact ⟨pairs_len p2,ses_le4 p3⟩
theorem impl_Replay_eq (k : Nat) (hk : 100≤k) (s : Stt) (l : List Ent) (hk2 : s.2.2.1.length < k) (hl : s.2.2.1.length≤1000000000) : impl_Replay_t A k (s,(l,())) () = some (replay s l,()):=by
  simp only [impl_Replay_t,impl_StateValid_eq k (by omega : 60≤k) s hk2 hl,entriesValid_eq k (by omega : 30≤k),a_obind_some,a_cndS,a_notB,replay]
  rcases Bool.eq_false_or_eq_true (stOk s) with h1 | h1
  case inr=>simp [h1]
  rcases Bool.eq_false_or_eq_true (logOk l) with h2 | h2
  case inr=>simp [h1,h2]
  obtain ⟨g1,g2⟩:=st_short h1
  obtain ⟨m1,m2⟩:=logOk_iff'.1 h2
  have hloop : A.iter k (impl_Replay_t_b0 A k) (([] : List Int),(l,((l.length : Int),((0 : Int),(stt0,(s,())))))) = some ((rep s l).2,(stt0,((rep s l).1,()))):=by
    rw [← ok_eq]
    refine iter_ok (fun m (st : List Int × (List Ent × (Int × (Int × (Stt × (Stt × Unit))))))=>∃ i : Nat,st = ((rep s (l.take i)).2,(l,((l.length : Int),((i : Int),(stt0,((rep s (l.take i)).1,()))))))∧i≤l.length∧m = l.length - i) _ ?_ (n:=l.length) (by omega) ⟨0,by simp [rep],by omega,by omega⟩
    rintro m st ⟨i,rfl,hi,rfl⟩
    have w : A.wrapI .i64 (A.addI (i : Int) 1) = ((i + 1 : Nat) : Int):=by rw [a_addI,a_wrap (by omega) (by omega)]; rfl
    have hv:=rep_ok h1 (l:=l.take i) (fun e he=>m2 e (List.mem_of_mem_take he))
    obtain ⟨v1,v2⟩:=st_short hv
    have hrl : (rep s (l.take i)).2.length = i:=by rw [(rep_append s (l.take i) []).2,List.length_take]; omega
    rw [impl_Replay_t_b0,ok_cndS]
    refine ⟨fun q1=>?_,fun q1=>ok_some.2 ⟨fun s' e=>(by cases e),fun r e=>?_⟩⟩
    · have hlt' : (i : Int) < l.length:=by simpa using q1
      have hlt : i < l.length:=by omega
      have hb:=in_bounds (A:=A) (l:=l) (i:=(i : Int)) (by omega) hlt'
      have hgo : l.take (i + 1) = l.take i ++ [l.getD i ent0]:=by rw [List.take_succ_eq_append_getElem hlt,getD_lt hlt]
      rw [ok_cndS]
      refine ⟨fun _=>?_,fun hc=>(by rw [hb] at hc; cases hc)⟩
      rw [a_atL,Int.toNat_natCast,impl_ApplyEntry_eq k hk (rep s (l.take i)).1 _ (by omega) (by omega),a_obind_some,ok_cndS]
      refine ⟨fun _=>ok_some.2 ⟨fun s' e=>?_,fun r e=>(by cases e)⟩,fun hc=>(by simp [hrl] at hc; omega)⟩
      injection e with e; subst e
      exact ⟨l.length - (i + 1),by omega,i + 1,by rw [hgo,rep_snoc,w,a_appL],by omega,rfl⟩
    · injection e with e; subst e
      have hge : ¬ (i : Int) < l.length:=by simpa using q1
      have : i = l.length:=by omega
      subst this
      rw [List.take_length]
  simp only [h1,h2,Bool.not_true,Bool.false_eq_true,if_false,if_true,a_sumE_inl,a_obind_some,copyState_eq k s (show s.2.1.length≤1000000000 by omega) hl,a_lenL,hloop,Bool.and_self]
end
end Go.Den.T

namespace Go.Den.T
set_option linter.unusedVariables false
set_option linter.unusedSimpArgs false
set_option linter.unusedSectionVars false
section
variable {A : Atoms} [IsReal A]
theorem pair_eq (x y : Pair) : (decide (x.1 = y.1) && (decide (x.2.1 = y.2.1) && true)) = decide (x = y):=by
  obtain ⟨a,b,_⟩:=x
  obtain ⟨c,d,_⟩:=y
  by_cases h1 : a = c <;> by_cases h2 : b = d <;> simp [h1,h2]
theorem ses_eq (x y : Ses) : (decide (x.1 = y.1) && (decide (x.2.1 = y.2.1) && (decide (x.2.2.1 = y.2.2.1) && true))) = decide (x = y):=by
  obtain ⟨a,b,c,_⟩:=x
  obtain ⟨d,e,f,_⟩:=y
  by_cases h1 : a = d <;> by_cases h2 : b = e <;> by_cases h3 : c = f <;> simp [h1,h2,h3]
theorem samePairs_eq (k : Nat) (xs ys : List Pair) (hk : xs.length < k) (hl : xs.length≤1000000000) : laws_samePairs_t A k (xs,(ys,())) () = some ((decide (xs = ys),()),()):=by
  by_cases he : xs.length = ys.length
  · have h:=eq_loop (A:=A) (f:=laws_samePairs_t_b0 A k) pair0 xs ys hk he
      (fun i hi=>by
        have hi' : i < ys.length:=by omega
        have hx : (i : Int) < (xs.length : Int):=by omega
        have hy : (i : Int) < (ys.length : Int):=by omega
        have w : A.wrapI .i64 ((i : Int) + 1) = (i : Int) + 1:=a_wrap (by omega) (by omega)
        have e:=pair_eq (xs.getD i pair0) (ys.getD i pair0)
        simp only [laws_samePairs_t_b0,a_cndS,a_ltI,a_lenL,a_le0,a_andB,hx,hy,Int.natCast_nonneg,decide_true,Bool.and_self,if_true,a_atL,Int.toNat_natCast,a_eqI,a_eqS,a_notB,a_addI,w,e]
        by_cases hv : xs.getD i pair0 = ys.getD i pair0
        · simp only [hv]; simp
        · simp only [hv]; simp)
      (by simp [laws_samePairs_t_b0])
    simp only [laws_samePairs_t,a_lenL,he,a_eqI,decide_true,a_notB,Bool.not_true,a_cndS,Bool.false_eq_true,if_false,h]
    by_cases hv : xs = ys <;> simp [hv]
  · have h2 : ¬ (xs.length : Int) = ys.length:=by omega
    have h3 : ¬ xs = ys:=fun e=>he (by rw [e])
    simp [laws_samePairs_t,h2,h3]
theorem sameSessions_eq (k : Nat) (xs ys : List Ses) (hk : xs.length < k) (hl : xs.length≤1000000000) : laws_sameSessions_t A k (xs,(ys,())) () = some ((decide (xs = ys),()),()):=by
  by_cases he : xs.length = ys.length
  · have h:=eq_loop (A:=A) (f:=laws_sameSessions_t_b0 A k) ses0 xs ys hk he
      (fun i hi=>by
        have hi' : i < ys.length:=by omega
        have hx : (i : Int) < (xs.length : Int):=by omega
        have hy : (i : Int) < (ys.length : Int):=by omega
        have w : A.wrapI .i64 ((i : Int) + 1) = (i : Int) + 1:=a_wrap (by omega) (by omega)
        have e:=ses_eq (xs.getD i ses0) (ys.getD i ses0)
        simp only [laws_sameSessions_t_b0,a_cndS,a_ltI,a_lenL,a_le0,a_andB,hx,hy,Int.natCast_nonneg,decide_true,Bool.and_self,if_true,a_atL,Int.toNat_natCast,a_eqI,a_eqS,a_notB,a_addI,w,e]
        by_cases hv : xs.getD i ses0 = ys.getD i ses0
        · simp only [hv]; simp
        · simp only [hv]; simp)
      (by simp [laws_sameSessions_t_b0])
    simp only [laws_sameSessions_t,a_lenL,he,a_eqI,decide_true,a_notB,Bool.not_true,a_cndS,Bool.false_eq_true,if_false,h]
    by_cases hv : xs = ys <;> simp [hv]
  · have h2 : ¬ (xs.length : Int) = ys.length:=by omega
    have h3 : ¬ xs = ys:=fun e=>he (by rw [e])
    simp [laws_sameSessions_t,h2,h3]
theorem sameState_eq (k : Nat) (c d : Stt) (h1 : c.2.1.length < k) (h2 : c.2.2.1.length < k) (h1' : c.2.1.length≤1000000000) (h2' : c.2.2.1.length≤1000000000) : laws_sameState_t A k (c,(d,())) () = some ((decide (c = d),()),()):=by
  obtain ⟨⟨a1,a1',_⟩,a2,a3,a4,a5,_⟩:=c
  obtain ⟨⟨b1,b1',_⟩,b2,b3,b4,b5,_⟩:=d
  simp only at h1 h2 h1' h2'
  simp only [laws_sameState_t,samePairs_eq k a2 b2 h1 h1',sameSessions_eq k a3 b3 h2 h2',a_obind_some,a_cndS,a_eqS,a_eqB,a_andB]
  by_cases g1 : a1 = b1
  · by_cases g1' : a1' = b1'
    · by_cases g2 : a2 = b2
      · by_cases g3 : a3 = b3
        · by_cases g4 : a4 = b4 <;> by_cases g5 : a5 = b5 <;> simp [g1,g1',g2,g3,g4,g5]
        · simp [g1,g1',g2,g3]
      · simp [g1,g1',g2]
    · simp [g1,g1']
  · simp [g1]
end
end Go.Den.T

namespace Go.Den.T
set_option linter.unusedVariables false
set_option linter.unusedSimpArgs false
set_option linter.unusedSectionVars false
section
variable {A : Atoms} [IsReal A]
end
end Go.Den.T

namespace Go.Den.T
set_option linter.unusedVariables false
set_option linter.unusedSimpArgs false
set_option linter.unusedSectionVars false
section
variable {A : Atoms} [IsReal A]
end
end Go.Den.T

namespace Go.Den.T
set_option linter.unusedVariables false
set_option linter.unusedSimpArgs false
set_option linter.unusedSectionVars false
section
variable {A : Atoms} [IsReal A]
/-! ### marks -/
def mP (A : Atoms) (k : Nat) (n : Int) : Pair:=(mtx A k n,(n + 1,()))
def mS (n : Int) : Ses:=(n,(n + 1,(n + 2,())))
def marksP (A : Atoms) (k : Nat) (n : Int) (m : Nat) : List Pair:=(List.range m).map fun i : Nat=>mP A k (n + 2 * (i : Int))
def marksS (n : Int) (m : Nat) : List Ses:=(List.range m).map fun i : Nat=>mS (n + 3 * (i : Int))
@[simp] theorem marksP_len (k : Nat) (n : Int) (m : Nat) : (marksP A k n m).length = m:=by simp [marksP]
@[simp] theorem marksS_len (n : Int) (m : Nat) : (marksS n m).length = m:=by simp [marksS]
end
end Go.Den.T

namespace Go.Den.T
set_option linter.unusedVariables false
set_option linter.unusedSimpArgs false
set_option linter.unusedSectionVars false
section
variable {A : Atoms} [IsReal A]
/-! the logs -/
def ansLog (c : Chn) : List Ent:=if chnOk c = true then c.2.2.2.2.2.1.map (·.1) else []
theorem askedOf_eq (k : Nat) (l : List Ans) (hk : l.length < k) (hl : l.length≤1000000000) : impl_askedOf_t A k (l,()) () = some ((l.map (·.1),()),()):=by
  have h:=iter_for (A:=A) (k:=k) (f:=impl_askedOf_t_b0 A k) (fun i=>((l.take i).map (·.1),(l,((l.length : Int),((i : Int),()))))) l.length (l.map (·.1),())
    (fun i hi=>by
      have hi' : (i : Int) < (l.length : Int):=by omega
      have w : A.wrapI .i64 ((i : Int) + 1) = ((i + 1 : Nat) : Int):=by rw [a_wrap (by omega) (by omega)]; rfl
      have g : (((l.take i).map (·.1)).length : Int) + ((1 : Nat) : Int) < 4294967296:=by simp; omega
      have e : (l.take (i + 1)).map (·.1) = (l.take i).map (·.1) ++ [l[i].1]:=by rw [List.take_succ_eq_append_getElem hi,List.map_append]; rfl
      simp only [impl_askedOf_t_b0,a_cndS,a_ltI,a_lenL,a_le0,a_andB,hi',Int.natCast_nonneg,decide_true,Bool.and_self,if_true,a_atL,Int.toNat_natCast,getD_lt hi,a_addI,a_big,List.length_cons,List.length_nil,w,a_appL,e,Nat.zero_add,g])
    (by simp [impl_askedOf_t_b0]) hk
  simp only [List.take_zero,List.map_nil,Int.natCast_zero,Int.ofNat_zero] at h
  simp only [impl_askedOf_t,a_lenL]
  have h' : A.iter k (impl_askedOf_t_b0 A k) (([] : List Ent),(l,((l.length : Int),((0 : Int),())))) = _:=h
  rw [h',a_obind_some]
theorem repOk_log {r : Rep} (h : repOk r = true) : r.2.2.1.length≤24:=by
  unfold repOk at h
  split at h
  · simp only [Bool.and_eq_true,decide_eq_true_eq] at h; omega
  · simp only [Bool.and_eq_true] at h
    exact (logOk_iff'.1 h.2.1).1
theorem chnOk_parts {c : Chn} (h : chnOk c = true) : stOk c.1 = true∧cfgOk c.2.1 = true∧c.2.2.1.length = 5∧c.2.2.2.1.length = 5∧bagOk c.2.2.2.2.1 = true∧c.2.2.2.2.2.1.length≤24∧(∀ r ∈ c.2.2.1,repOk r = true)∧∀ a ∈ c.2.2.2.2.2.1,ansOk a = true:=by
  simp only [chnOk,Bool.and_eq_true,decide_eq_true_eq,List.all_eq_true] at h
  obtain ⟨h1,h2,h3,h4,h5,h6,h7,_,h8⟩:=h
  exact ⟨h1,h2,h3,h4,h5,h6,fun r hr=>(h7 r hr).1,h8⟩
theorem cfgOk_head {c : Cfg} (h : cfgOk c = true) : 0 < c.2.1.length∧0≤c.2.1.getD 0 0∧c.2.1.getD 0 0≤4:=by
  simp only [cfgOk,Bool.and_eq_true,decide_eq_true_eq] at h
  obtain ⟨_,⟨h1,_⟩,_,hm⟩:=h
  have h0 : 0 < c.2.1.length:=by omega
  rw [membersOk,range_all] at hm
  have:=hm 0 h0
  simp only [Bool.and_eq_true,decide_eq_true_eq] at this
  exact ⟨h0,this.1⟩
def offLog (c : Chn) : List Ent:=if chnOk c = true then (c.2.2.1.getD (c.2.1.2.1.getD 0 0).toNat rep0).2.2.1 else []
theorem offLog_len (c : Chn) : (offLog c).length≤24:=by
  unfold offLog
  split
  · rename_i h
    obtain ⟨_,h2,h3,_,_,_,h7,_⟩:=chnOk_parts h
    obtain ⟨_,m1,m2⟩:=cfgOk_head h2
    have hl : (c.2.1.2.1.getD 0 0).toNat < c.2.2.1.length:=by omega
    rw [getD_lt hl]
    exact repOk_log (h7 _ (List.getElem_mem hl))
  · simp
theorem impl_OfficialLog_eq (k : Nat) (hk : 2000000≤k) (c : Chn) (h : ChnZ c) : impl_OfficialLog_t A k (c,()) () = some ((offLog c,()),()):=by
  simp only [impl_OfficialLog_t,impl_ChainValid_eq k hk c h.1,a_obind_some,a_notB,a_cndS]
  cases hc : chnOk c with
  | false=>simp [offLog,hc]
  | true =>
    have hl:=offLog_len c
    obtain ⟨_,h2,h3,_⟩:=chnOk_parts hc
    obtain ⟨m0,m1,m2⟩:=cfgOk_head h2
    have hv : offLog c = (c.2.2.1.getD (c.2.1.2.1.getD 0 0).toNat rep0).2.2.1:=by simp [offLog,hc]
    have e0 : (0 : Int) < (c.2.1.2.1.length : Int):=by omega
    have e1 : c.2.1.2.1.getD 0 0 < (c.2.2.1.length : Int):=by omega
    simp only [impl_headLog_t,a_cndS,a_andB,a_le0,a_ltI,a_lenL,a_atL,Int.toNat_zero,e0,e1,m1,Int.le_refl,decide_true,Bool.and_self,if_true,a_obind_some,Bool.not_true,Bool.false_eq_true,if_false]
    rw [← hv]
    generalize offLog c = l at hl
    have hb : (l.length : Int) < 4294967296:=by omega
    simp [impl_copyOf_Entry_t,hb]
def ansState (c : Chn) : Stt:=if chnOk c = true then (replay c.1 (ansLog c)).1 else stt0
theorem impl_AnsweredState_eq (k : Nat) (hk : 2000000≤k) (c : Chn) (h : ChnZ c) : impl_AnsweredState_t A k (c,()) () = some ((ansState c,()),()):=by
  have hs:=h.1.2
  have h8:=h.2.2.2.2.2
  simp only [impl_AnsweredState_t,impl_ChainValid_eq k hk c h.1,a_obind_some,a_notB,a_cndS,askedOf_eq k c.2.2.2.2.2.1 (by omega) (by omega),impl_Replay_eq k (by omega) c.1 _ (by omega) (by omega)]
  cases hc : chnOk c <;> simp [ansState,ansLog,hc]
end
end Go.Den.T

namespace Go.Den.T
set_option linter.unusedVariables false
set_option linter.unusedSimpArgs false
set_option linter.unusedSectionVars false
section
variable {A : Atoms} [IsReal A]
theorem spec_NewState_ok' (k : Nat) (hk : 10≤k) (i : Itv) : Ok (spec_NewState_t A k (i,()) ()) (fun q=>StS q.1.1):=by
  rw [spec_NewState_t,spec_IntervalValid_eq k hk,a_obind_some,ok_cndS]
  exact ⟨fun _=>ok_some.2 ⟨by simp,by simp⟩,fun _=>ok_some.2 ⟨by simp,by simp⟩⟩
theorem l20Base_ok (k : Nat) (hk : 2000≤k) (N : Int) (r : Rd) (h : RdOk N r) (hp : N≤600000000) : Ok (spec_l20Base_t A k ((),()) r) (fun q=>RdOk (N + 2000) q.2∧StS q.1.1):=by
  rw [spec_l20Base_t]
  refine (pick_ok k 2 _ _ h (by omega) (by omega)).bind fun q hq=>?_
  rw [ok_cndS]
  refine ⟨fun _=>?_,fun _=>?_⟩
  · refine (spec_NewState_ok' k (by omega) _).bind fun q1 h1=>ok_some.2 ⟨hq.1.le (by omega),h1⟩
  · refine (l20State_ok k hk 0 (N + 1) _ hq.1 (by omega) (by omega)).bind fun q1 h1=>ok_some.2 ⟨h1.1.le (by omega),h1.2⟩
def MemS (l : List Int) : Prop:=l.length≤5∧∀ x ∈ l,0≤x∧x≤5
theorem l20Members_ok (k : Nat) (hk : 2000≤k) (n N : Int) (r : Rd) (h : RdOk N r) (hp : N≤600000000) (hn : n≤1000000000) : Ok (spec_l20Members_t A k ((),(n,())) r) (fun q=>RdOk (N + 100) q.2∧MemS q.1.1):=by
  rw [spec_l20Members_t]
  refine (pick_ok k 5 _ _ h (by omega) (by omega)).bind fun q0 h0=>?_
  refine (pick_ok k 4 _ _ h0.1 (by omega) (by omega)).bind fun q1 h1=>?_
  refine (pick_ok k 4 _ _ h1.1 (by omega) (by omega)).bind fun q2 h2=>?_
  have w1 : A.wrapI .i64 (A.addI 1 q1.1.1) = 1 + q1.1.1:=by rw [a_addI]; exact a_wrap (by have:=h1.2.1; omega) (by have:=h1.2.2.1; omega)
  have w2 : A.wrapI .i64 (A.addI 1 q2.1.1) = 1 + q2.1.1:=by rw [a_addI]; exact a_wrap (by have:=h2.2.1; omega) (by have:=h2.2.2.1; omega)
  rw [w1,w2]
  have c0:=h0.2.1
  have d0:=h0.2.2.2.1 (by omega)
  have c1:=h1.2.1
  have d1:=h1.2.2.2.1 (by omega)
  have c2:=h2.2.1
  have d2:=h2.2.2.2.1 (by omega)
  have loop : Ok (A.iter k (spec_l20Members_t_b0 A k) (n,(([] : List Int),(q0.1.1,(1 + q1.1.1,(1 + q2.1.1,q2.2)))))) (fun e=>e.1 = n∧MemS e.2.1∧e.2.2 = q2.2):=by
    refine iter_ok (fun j s=>s.1 = n∧(s.2.1.length : Int) + s.2.2.2.2.1≤4∧(∀ x ∈ s.2.1,0≤x∧x≤5)∧(0≤s.2.2.1∧s.2.2.1≤4)∧s.2.2.2.1 = 1 + q1.1.1∧(0≤s.2.2.2.2.1∧s.2.2.2.2.1≤((j : Nat) : Int))∧s.2.2.2.2.2 = q2.2) _ ?_ (n:=4) (by omega)
      ⟨rfl,by show ((0 : Nat) : Int) + (1 + q2.1.1)≤4; omega,by simp,⟨c0,by show q0.1.1≤4; omega⟩,rfl,⟨by show 0≤1 + q2.1.1; omega,by show 1 + q2.1.1≤((4 : Nat) : Int); omega⟩,rfl⟩
    rintro j ⟨s1,l,x,st,m,rr⟩ ⟨e1,e2,e3,⟨e4,e5⟩,e6,⟨e7,e8⟩,e9⟩
    simp only at e1 e2 e3 e4 e5 e6 e7 e8 e9
    subst e1; subst e6; subst e9
    rw [spec_l20Members_t_b0,ok_cndS]
    simp only [a_ltI,decide_eq_true_eq,decide_eq_false_iff_not]
    refine ⟨fun hm=>?_,fun hm=>?_⟩
    · have g1 : ((l.length : Nat) : Int) + ((1 : Nat) : Int) < 4294967296:=by omega
      have w3 : A.wrapI .i64 (x + (1 + q1.1.1)) = x + (1 + q1.1.1):=a_wrap (by omega) (by omega)
      have w4 : A.wrapI .i64 (m - 1) = m - 1:=a_wrap (by omega) (by omega)
      have h5 : ¬ (5 : Int) = 0:=by decide
      simp only [a_cndS,a_addI,a_lenL,List.length_cons,List.length_nil,Nat.zero_add,a_big,g1,decide_true,if_true,a_notB,a_eqI,h5,decide_false,Bool.not_false,a_appL,a_remI,w3,a_subI,w4]
      refine ok_some.2 ⟨fun s' e=>?_,fun e he=>(by cases he)⟩
      injection e with e; subst e
      refine ⟨j - 1,by omega,rfl,?_,?_,?_,rfl,?_,rfl⟩
      · show (((l ++ [x]).length : Nat) : Int) + (m - 1)≤4
        rw [List.length_append]; simp; omega
      · intro y hy
        rcases List.mem_append.1 hy with hy | hy
        · exact e3 y hy
        · simp at hy; subst hy; omega
      · have t0 : 0≤x + (1 + q1.1.1):=by omega
        show 0≤(x + (1 + q1.1.1)).tmod 5∧(x + (1 + q1.1.1)).tmod 5≤4
        rw [Int.tmod_eq_emod_of_nonneg t0]
        omega
      · show 0≤m - 1∧m - 1≤((j - 1 : Nat) : Int)
        omega
    · refine ok_some.2 ⟨fun s' e=>(by cases e),fun e he=>?_⟩
      injection he with he; subst he
      exact ⟨rfl,⟨by show l.length≤5; omega,e3⟩,rfl⟩
  refine loop.bind fun e he=>?_
  obtain ⟨f1,f2,f3⟩:=he
  rw [f1,f3]
  refine (odd_ok k n _ _ h2.1 (by omega) hn).bind fun q4 h4=>?_
  rw [ok_cndS]
  refine ⟨fun _=>?_,fun _=>ok_some.2 ⟨h4.le (by omega),f2⟩⟩
  refine (pick_ok k 4 _ _ h4 (by omega) (by omega)).bind fun q5 h5=>?_
  have b1:=h5.2.1
  have b2:=h5.2.2.2.1 (by omega)
  rw [ok_cndS]
  refine ⟨fun _=>ok_some.2 ⟨h5.1.le (by omega),?_⟩,fun hc=>?_⟩
  · rw [a_atL]
    have : ∀ i : Nat,i < 4→MemS (([[],[5],[1,1],[0,1,2,3,4]] : List (List Int)).getD i []):=by
      intro i hi
      rcases i with _ | _ | _ | _ | i <;> simp [MemS]
    exact this _ (by omega)
  · simp at hc; omega
theorem DrawNewChain_ok (k : Nat) (hk : 2000≤k) (a : List Int) (hb : ∀ x ∈ a,0≤x∧x≤255) : Ok (spec_DrawNewChain_t A k (a,()) ()) (fun q=>StS q.1.1∧MemS q.1.2.1):=by
  rw [spec_DrawNewChain_t]
  refine (open_ok k a hb).bind fun q hq=>?_
  refine (pick_ok k 12 _ _ hq (by omega) (by omega)).bind fun q1 h1=>?_
  rw [ok_cndS]
  refine ⟨fun _=>?_,fun _=>?_⟩
  · refine (l20State_ok k hk 1 _ _ h1.1 (by omega) (by omega)).bind fun q2 h2=>?_
    refine (l20Members_ok k hk 0 _ _ h2.1 (by omega) (by omega)).bind fun q3 h3=>ok_some.2 ⟨h2.2,h3.2⟩
  · refine (l20Base_ok k hk _ _ h1.1 (by omega)).bind fun q2 h2=>?_
    refine (l20Members_ok k hk 9 _ _ h2.1 (by omega) (by omega)).bind fun q3 h3=>ok_some.2 ⟨h2.2,h3.2⟩
/-! what a new chain is -/
def newNode (c : Cfg) (i : Nat) : Rep:=if (i : Int) ∈ c.2.1 then (c,(true,([],()))) else rep0
def newNodes (c : Cfg) (n : Nat) : List Rep:=(List.range n).map (newNode c)
abbrev chn0 : Chn:=(stt0,((0,([],(false,()))),([],([],([],([],()))))))
def newC (s : Stt) (ms : List Int) : Chn:=if (stOk s && cfgOk (1,(ms,(false,())))) = true then (s,((1,(ms,(false,()))),(newNodes (1,(ms,(false,()))) 5,(List.replicate 5 true,([],([],())))))) else chn0
theorem spec_NewChain_eq (k : Nat) (hk : 2000000≤k) (s : Stt) (ms : List Int) (hs : StShort s) (hm : ms.length≤1048576) : spec_NewChain_t A k (s,(ms,())) () = some ((newC s ms,()),()):=by
  have h2:=hs.2
  have h1:=hs.1
  have g : (ms.length : Int) < 4294967296:=by omega
  have g' : ((([] : List Int).length : Nat) : Int) + (ms.length : Int) < 4294967296:=by simp; omega
  simp only [spec_NewChain_t,a_cndS,a_addI,a_lenL,a_big,a_ltI,g',decide_true,if_true,spec_StateValid_eq k (by omega : 60≤k) s (by omega) (by omega),a_obind_some,a_notB,a_appL,List.nil_append,spec_ConfigValid_eq k (by omega : 10≤k)]
  cases h3 : stOk s with
  | false=>simp [newC,h3]
  | true =>
    cases h4 : cfgOk (1,(ms,(false,()))) with
    | false=>simp [newC,h3,h4]
    | true =>
      have hl : ms.length≤4:=by
        have h4':=h4
        simp only [cfgOk,Bool.and_eq_true,decide_eq_true_eq] at h4'
        exact h4'.2.1.2
      simp only [Bool.not_true,Bool.false_eq_true,if_false,a_obind_some,a_sumE_inl,l10Copy_eq k s (by omega) (by omega)]
      have h:=iter_for (A:=A) (k:=k) (f:=spec_NewChain_t_b0 A k) (fun i=>((i : Int),(chn0,((1,(ms,(false,()))),((s,((1,(ms,(false,()))),(newNodes (1,(ms,(false,()))) i,(List.replicate i true,([],([],())))))),()))))) 5 (chn0,((s,((1,(ms,(false,()))),(newNodes (1,(ms,(false,()))) 5,(List.replicate 5 true,([],([],())))))),()))
        (fun i hi=>by
          have hi' : (i : Int) < 5:=by omega
          have w : A.wrapI .i64 ((i : Int) + 1) = ((i + 1 : Nat) : Int):=by rw [a_wrap (by omega) (by omega)]; rfl
          have ln : (newNodes (1,(ms,(false,()))) i).length = i:=by simp [newNodes]
          have sn : newNodes (1,(ms,(false,()))) (i + 1) = newNodes (1,(ms,(false,()))) i ++ [newNode (1,(ms,(false,()))) i]:=by simp [newNodes,List.range_succ]
          have sr : List.replicate (i + 1) true = List.replicate i true ++ [true]:=by rw [List.replicate_succ']
          have g1 : ((i : Nat) : Int) + ((1 : Nat) : Int) < 4294967296:=by omega
          simp only [spec_NewChain_t_b0,a_cndS,a_ltI,hi',decide_true,if_true,l16Index_eq k (1,(ms,(false,()))) (i : Int) (by show ms.length < k; omega) (by show ms.length≤_; omega),a_obind_some,a_leI,decide_eq_true_eq,l16Copy_eq k (1,(ms,(false,()))) (by show ms.length≤_; omega)]
          by_cases hin : (i : Int) ∈ ms
          · have:=idx_mem.2 hin
            have nn : newNode (1,(ms,(false,()))) i = ((1,(ms,(false,()))),(true,([],()))):=by simp [newNode,hin]
            simp only [this,if_true,a_obind_some,a_addI,a_lenL,ln,List.length_cons,List.length_nil,Nat.zero_add,a_big,g1,decide_true,List.length_replicate,w,a_appL,sn,sr,nn]
          · have : ¬ 0≤idx ms i:=fun h=>hin (idx_mem.1 h)
            have nn : newNode (1,(ms,(false,()))) i = rep0:=by simp [newNode,hin]
            simp only [this,if_false,a_obind_some,a_addI,a_lenL,ln,List.length_cons,List.length_nil,Nat.zero_add,a_big,g1,decide_true,if_true,List.length_replicate,w,a_appL,sn,sr,nn])
        (by simp [spec_NewChain_t_b0]) (by omega)
      have h' : A.iter k (spec_NewChain_t_b0 A k) ((0 : Int),(chn0,((1,(ms,(false,()))),((s,((1,(ms,(false,()))),(([] : List Rep),(([] : List Bool),(([] : List Msg),(([] : List Ans),())))))),())))) = _:=h
      rw [h',a_obind_some]
      simp [newC,h3,h4]
end
end Go.Den.T

namespace Go.Den.T
set_option linter.unusedVariables false
set_option linter.unusedSimpArgs false
set_option linter.unusedSectionVars false
section
variable {A : Atoms} [IsReal A]
theorem sameAnswers_eq (k : Nat) (xs ys : List Ans) (hk : xs.length < k) (hl : xs.length≤1000000000) : laws_sameAnswers_t A k (xs,(ys,())) () = some ((decide (xs = ys),()),()):=by
  by_cases he : xs.length = ys.length
  · have h:=eq_loop (A:=A) (f:=laws_sameAnswers_t_b0 A k) ans0 xs ys hk he
      (fun i hi=>by
        have hi' : i < ys.length:=by omega
        have hx : (i : Int) < (xs.length : Int):=by omega
        have hy : (i : Int) < (ys.length : Int):=by omega
        have w : A.wrapI .i64 ((i : Int) + 1) = ((i + 1 : Nat) : Int):=by rw [a_wrap (by omega) (by omega)]; rfl
        have e:=ent_eq (xs.getD i ans0).1 (ys.getD i ans0).1
        have e2 : (decide ((xs.getD i ans0).1 = (ys.getD i ans0).1) && (decide ((xs.getD i ans0).2.1 = (ys.getD i ans0).2.1) && true)) = decide (xs.getD i ans0 = ys.getD i ans0):=by
          rw [Bool.eq_iff_iff]
          generalize xs.getD i ans0 = a
          generalize ys.getD i ans0 = b
          obtain ⟨a1,a2,_⟩:=a
          obtain ⟨b1,b2,_⟩:=b
          simp
        simp only [laws_sameAnswers_t_b0,a_cndS,a_ltI,a_lenL,a_le0,a_andB,hx,hy,Int.natCast_nonneg,decide_true,Bool.and_self,if_true,a_atL,Int.toNat_natCast,a_eqI,a_eqS,a_notB,a_addI,w,e,e2]
        by_cases hv : xs.getD i ans0 = ys.getD i ans0
        · simp only [hv]; simp
        · simp only [hv]; simp)
      (by simp [laws_sameAnswers_t_b0])
    simp only [laws_sameAnswers_t,a_lenL,he,a_eqI,decide_true,a_notB,Bool.not_true,a_cndS,Bool.false_eq_true,if_false,h]
    by_cases hv : xs = ys <;> simp [hv]
  · have h2 : ¬ (xs.length : Int) = ys.length:=by omega
    have h3 : ¬ xs = ys:=fun e=>he (by rw [e])
    simp [laws_sameAnswers_t,h2,h3]
theorem all_eq {α : Type} [DecidableEq α] (d : α) {xs ys : List α} (he : xs.length = ys.length) : (List.range xs.length).all (fun i=>decide (xs.getD i d = ys.getD i d)) = decide (xs = ys):=by
  rw [Bool.eq_iff_iff,range_all,decide_eq_true_eq]
  constructor
  · intro hh
    refine List.ext_getElem he fun i h1 h2=>?_
    have:=hh i h1
    rw [getD_lt h1,getD_lt h2] at this; simpa using this
  · intro e i _; subst e; simp
theorem sameChain_eq (k : Nat) (hk : 2000000≤k) (c d : Chn) (h : ChnZ c) : laws_sameChain_t A k (c,(d,())) () = some ((decide (c = d),()),()):=by
  obtain ⟨⟨s1,s2⟩,h2,⟨h3,h4⟩,h5,⟨h6,h7⟩,h8⟩:=h
  have q1:=sameState_eq (A:=A) k c.1 d.1 (by omega) (by omega) (by omega) (by omega)
  have q2:=sameConfig_eq (A:=A) k c.2.1 d.2.1 (by omega) (by omega)
  have q3:=sameBag_eq (A:=A) k c.2.2.2.2.1 d.2.2.2.2.1 (by omega) (by omega) (fun m hm=>by have:=h7 m hm; exact ⟨by have:=this.1; omega,by have:=this.2; omega,by have:=this.1; omega,by have:=this.2; omega⟩)
  have q4:=sameAnswers_eq (A:=A) k c.2.2.2.2.2.1 d.2.2.2.2.2.1 (by omega) (by omega)
  obtain ⟨c1,c2,c3,c4,c5,c6,_⟩:=c
  obtain ⟨d1,d2,d3,d4,d5,d6,_⟩:=d
  simp only at s1 s2 h2 h3 h4 h5 h6 h7 h8 q1 q2 q3 q4
  by_cases e1 : c1 = d1
  · by_cases e2 : c2 = d2
    · by_cases l3 : c3.length = d3.length
      · by_cases l4 : c4.length = d4.length
        · by_cases e5 : c5 = d5
          · by_cases e6 : c6 = d6
            · subst e1; subst e2; subst e5; subst e6
              have b0:=iter_all (A:=A) (k:=k) (f:=laws_sameChain_t_b0 A k) (fun i=>((i : Int),((c1,(c2,(c3,(c4,(c5,(c6,())))))),((c1,(c2,(d3,(d4,(c5,(c6,())))))),())))) c3.length (fun i=>decide (c3.getD i rep0 = d3.getD i rep0)) (.inr ((false,()),())) (.inl ((c1,(c2,(c3,(c4,(c5,(c6,())))))),((c1,(c2,(d3,(d4,(c5,(c6,())))))),())))
                (fun i hi=>by
                  have hi' : i < d3.length:=by omega
                  have hx : (i : Int) < (c3.length : Int):=by omega
                  have hy : (i : Int) < (d3.length : Int):=by omega
                  have w : A.wrapI .i64 ((i : Int) + 1) = ((i + 1 : Nat) : Int):=by rw [a_wrap (by omega) (by omega)]; rfl
                  have hm:=h4 c3[i] (List.getElem_mem hi)
                  have z1:=hm.1
                  have z2:=hm.2
                  simp only [laws_sameChain_t_b0,a_cndS,a_ltI,a_lenL,a_le0,a_andB,hx,hy,Int.natCast_nonneg,decide_true,Bool.and_self,if_true,a_atL,Int.toNat_natCast,getD_lt hi,getD_lt hi',sameReplica_eq k c3[i] d3[i] (by omega) (by omega) (by omega) (by omega),a_obind_some,a_notB,a_addI,w]
                  by_cases hv : c3[i] = d3[i]
                  · simp only [hv]; simp
                  · simp only [hv]; simp)
                (by simp [laws_sameChain_t_b0]) (by omega)
              have b1:=iter_all (A:=A) (k:=k) (f:=laws_sameChain_t_b1 A k) (fun i=>((i : Int),((c1,(c2,(c3,(c4,(c5,(c6,())))))),((c1,(c2,(d3,(d4,(c5,(c6,())))))),())))) c4.length (fun i=>decide (c4.getD i false = d4.getD i false)) (.inr ((false,()),())) (.inl ())
                (fun i hi=>by
                  have hi' : i < d4.length:=by omega
                  have hx : (i : Int) < (c4.length : Int):=by omega
                  have hy : (i : Int) < (d4.length : Int):=by omega
                  have w : A.wrapI .i64 ((i : Int) + 1) = ((i + 1 : Nat) : Int):=by rw [a_wrap (by omega) (by omega)]; rfl
                  simp only [laws_sameChain_t_b1,a_cndS,a_ltI,a_lenL,a_le0,a_andB,hx,hy,Int.natCast_nonneg,decide_true,Bool.and_self,if_true,a_atL,Int.toNat_natCast,getD_lt hi,getD_lt hi',a_eqB,a_notB,a_addI,w]
                  by_cases hv : c4[i] = d4[i]
                  · simp only [hv]; simp
                  · have : (c4[i] == d4[i]) = false:=by simpa using hv
                    simp only [this,hv]; simp)
                (by simp [laws_sameChain_t_b1]) (by omega)
              rw [all_eq rep0 l3] at b0
              rw [all_eq false l4] at b1
              have b0 : A.iter k (laws_sameChain_t_b0 A k) ((0 : Int),((c1,(c2,(c3,(c4,(c5,(c6,())))))),((c1,(c2,(d3,(d4,(c5,(c6,())))))),()))) = _:=b0
              have b1 : A.iter k (laws_sameChain_t_b1 A k) ((0 : Int),((c1,(c2,(c3,(c4,(c5,(c6,())))))),((c1,(c2,(d3,(d4,(c5,(c6,())))))),()))) = _:=b1
              by_cases e3 : c3 = d3
              · subst e3
                by_cases e4 : c4 = d4
                · subst e4; simp [laws_sameChain_t,q1,q2,q3,q4,b0,b1]
                · simp [laws_sameChain_t,q1,q2,q3,q4,l4,b0,b1,e4]
              · simp [laws_sameChain_t,q1,q2,q3,q4,l3,l4,b0,e3]
            · subst e1; subst e2; subst e5; simp [laws_sameChain_t,q1,q2,q3,q4,l3,l4,e6]
          · subst e1; subst e2; simp [laws_sameChain_t,q1,q2,q3,q4,l3,l4,e5]
        · have l4' : ¬ (c4.length : Int) = d4.length:=by omega
          have e4 : ¬ c4 = d4:=fun e=>l4 (by rw [e])
          subst e1; subst e2; simp [laws_sameChain_t,q1,q2,q3,q4,l3,l4',e4]
      · have l3' : ¬ (c3.length : Int) = d3.length:=by omega
        have e3 : ¬ c3 = d3:=fun e=>l3 (by rw [e])
        subst e1; subst e2; simp [laws_sameChain_t,q1,q2,q3,q4,l3',e3]
    · subst e1; simp [laws_sameChain_t,q1,q2,q3,q4,e2]
  · simp [laws_sameChain_t,q1,e1]
theorem chn0_z : ChnZ chn0:=⟨⟨by simp,by simp⟩,by simp,⟨by simp,by simp⟩,by simp,⟨by simp,by simp⟩,by simp⟩
theorem newC_z (s : Stt) (ms : List Int) : ChnZ (newC s ms):=by
  unfold newC
  split
  · rename_i h
    simp only [Bool.and_eq_true] at h
    have h1:=st_short h.1
    have h2:=h.2
    simp only [cfgOk,Bool.and_eq_true,decide_eq_true_eq] at h2
    have hl : ms.length≤4:=h2.2.1.2
    refine ⟨⟨by show s.2.1.length≤_; omega,by show s.2.2.1.length≤_; omega⟩,by show ms.length≤_; omega,⟨by simp [newNodes],fun r hr=>?_⟩,by simp,⟨by simp,by simp⟩,by simp⟩
    have hr : r ∈ newNodes (1,(ms,(false,()))) 5:=hr
    simp only [newNodes,List.mem_map] at hr
    obtain ⟨i,_,rfl⟩:=hr
    unfold newNode
    split
    · exact ⟨by show ms.length≤_; omega,by simp⟩
    · exact ⟨by simp,by simp⟩
  · exact chn0_z
end
end Go.Den.T

namespace Go.Den.T
set_option linter.unusedVariables false
set_option linter.unusedSimpArgs false
set_option linter.unusedSectionVars false
section
variable {A : Atoms} [IsReal A]
def nodesI (c : Cfg) (i : Nat) : List Rep:=(List.range 5).map (fun j=>if j < i then newNode c j else rep0)
theorem nodesI_len (c : Cfg) (i : Nat) : (nodesI c i).length = 5:=by simp [nodesI]
theorem nodesI_succ (c : Cfg) (i : Nat) (hi : i < 5) : nodesI c (i + 1) = (nodesI c i).set i (newNode c i):=by
  apply List.ext_getElem
  · simp [nodesI]
  · intro j h1 h2
    simp only [nodesI,List.length_map,List.length_range] at h1
    rw [List.getElem_set]
    by_cases e : i = j
    · subst e; simp [nodesI]
    · have : (j < i + 1) = (j < i):=by simp; omega
      simp [nodesI,e,this]
theorem nodesI_same (c : Cfg) (i : Nat) (hi : i < 5) (h : newNode c i = rep0) : nodesI c (i + 1) = nodesI c i:=by
  rw [nodesI_succ c i hi]
  apply List.ext_getElem
  · simp
  · intro j h1 h2
    rw [List.getElem_set]
    by_cases e : i = j
    · subst e; rw [if_pos rfl,h]; simp [nodesI]
    · rw [if_neg e]
theorem nodesI_5 (c : Cfg) : nodesI c 5 = newNodes c 5:=by
  unfold nodesI newNodes
  apply List.map_congr_left
  intro j hj
  rw [if_pos (List.mem_range.1 hj)]
theorem nodesI_0 (c : Cfg) : nodesI c 0 = List.replicate 5 rep0:=by
  rw [List.eq_replicate_iff]
  refine ⟨by simp [nodesI],fun b hb=>?_⟩
  simp only [nodesI,List.mem_map] at hb
  obtain ⟨j,_,hj⟩:=hb
  rw [if_neg (by omega)] at hj; exact hj.symm
theorem impl_NewChain_eq (k : Nat) (hk : 2000000≤k) (s : Stt) (ms : List Int) (hs : StShort s) (hm : ms.length≤1048576) : impl_NewChain_t A k (s,(ms,())) () = some ((newC s ms,()),()):=by
  have h2:=hs.2
  have h1:=hs.1
  have q1:=impl_StateValid_eq (A:=A) k (by omega) s (by omega) (by omega)
  have q2:=impl_ConfigValid_eq (A:=A) k (by omega) (1,(ms,(false,())))
  rw [impl_NewChain_t,copyOf_int_eq k ms (by omega),a_obind_some,q1,a_obind_some]
  simp only [a_cndS,a_notB]
  cases h3 : stOk s with
  | false=>simp [newC,h3]
  | true =>
    simp only [Bool.not_true,Bool.false_eq_true,if_false,q2,a_obind_some]
    cases h4 : cfgOk (1,(ms,(false,()))) with
    | false=>simp [newC,h3,h4]
    | true =>
      have g5 : (5 : Int) < 4294967296:=by omega
      simp only [Bool.not_true,Bool.false_eq_true,if_false,a_obind_some,a_sumE_inl,copyState_eq k s (by omega) (by omega),a_le0,a_leI,a_ltI,a_big,a_andB,g5,a_repL,a_lenL]
      have h:=iter_for (A:=A) (k:=k) (f:=impl_NewChain_t_b0 A k) (fun i=>(ms,((5 : Int),((i : Int),(chn0,((s,((1,(ms,(false,()))),(nodesI (1,(ms,(false,()))) i,(List.replicate i true,([],([],())))))),())))))) 5 (chn0,((s,((1,(ms,(false,()))),(nodesI (1,(ms,(false,()))) 5,(List.replicate 5 true,([],([],())))))),()))
        (fun i hi=>by
          have hi' : (i : Int) < 5:=by omega
          have w : A.wrapI .i64 ((i : Int) + 1) = ((i + 1 : Nat) : Int):=by rw [a_wrap (by omega) (by omega)]; rfl
          have ln:=nodesI_len (1,(ms,(false,()))) i
          have sr : List.replicate (i + 1) true = List.replicate i true ++ [true]:=by rw [List.replicate_succ']
          have g1 : ((i : Nat) : Int) + ((1 : Nat) : Int) < 4294967296:=by omega
          simp only [impl_NewChain_t_b0,a_cndS,a_ltI,hi',decide_true,if_true,a_addI,a_lenL,List.length_replicate,List.length_cons,List.length_nil,Nat.zero_add,a_big,g1,slices_Contains_eq k ms (i : Int) (by omega) (by omega),a_obind_some]
          by_cases hin : (i : Int) ∈ ms
          · have nn : newNode (1,(ms,(false,()))) i = ((1,(ms,(false,()))),(true,([],()))):=by simp [newNode,hin]
            have hi5 : (i : Int) < ((5 : Nat) : Int):=by omega
            simp only [hin,decide_true,if_true,copyConfig_eq k (1,(ms,(false,()))) (by show ms.length≤_; omega),a_obind_some,a_le0,a_andB,Int.natCast_nonneg,ln,hi5,Bool.and_self,w,a_setL,Int.toNat_natCast,a_appL,sr,nodesI_succ (1,(ms,(false,()))) i hi,nn]
          · have nn : newNode (1,(ms,(false,()))) i = rep0:=by simp [newNode,hin]
            simp only [hin,decide_false,Bool.false_eq_true,if_false,w,a_appL,sr,nodesI_same (1,(ms,(false,()))) i hi nn])
        (by simp [impl_NewChain_t_b0]) (by omega)
      rw [nodesI_5] at h
      have h' : A.iter k (impl_NewChain_t_b0 A k) (ms,((5 : Int),((0 : Int),(chn0,((s,((1,(ms,(false,()))),(nodesI (1,(ms,(false,()))) 0,(([] : List Bool),(([] : List Msg),(([] : List Ans),())))))),()))))) = some (chn0,((s,((1,(ms,(false,()))),(newNodes (1,(ms,(false,()))) 5,(List.replicate 5 true,([],([],())))))),())):=h
      rw [nodesI_0] at h'
      simp only [show (0 : Int)≤5 from by omega,Int.le_refl,decide_true,Bool.and_self,if_true,show Int.toNat 5 = 5 from rfl]
      show A.obind (A.iter k (impl_NewChain_t_b0 A k) (ms,((5 : Int),((0 : Int),(chn0,((s,((1,(ms,(false,()))),(List.replicate 5 rep0,(([] : List Bool),(([] : List Msg),(([] : List Ans),())))))),())))))) _ = _
      rw [h',a_obind_some]
      simp [newC,h3,h4]
end
end Go.Den.T

namespace Go.Den.T
set_option linter.unusedVariables false
set_option linter.unusedSimpArgs false
set_option linter.unusedSectionVars false
section
variable {A : Atoms} [IsReal A]
theorem logOk_nil : logOk [] = true:=by simp [logOk]
theorem newNode_log (c : Cfg) (i : Nat) : (newNode c i).2.2.1 = []:=by
  unfold newNode; split <;> rfl
theorem newC_ok {s : Stt} {ms : List Int} (h : (stOk s && cfgOk (1,(ms,(false,())))) = true) : chnOk (newC s ms) = true:=by
  have h':=h
  simp only [Bool.and_eq_true] at h'
  obtain ⟨h1,h2⟩:=h'
  have e : newC s ms = (s,((1,(ms,(false,()))),(newNodes (1,(ms,(false,()))) 5,(List.replicate 5 true,([],([],())))))):=by unfold newC; rw [if_pos h]
  have hn : ∀ i,(repOk (newNode (1,(ms,(false,()))) i) && decide ((newNode (1,(ms,(false,()))) i).1.1≤1)) = true:=by
    intro i
    unfold newNode
    split
    · have : noCfg (1,(ms,(false,()))) = false:=by simp [noCfg]
      simp [repOk,this,h2,logOk_nil]
    · simp [repOk,noCfg]
  have hall : (newNodes (1,(ms,(false,()))) 5).all (fun r=>repOk r && decide (r.1.1≤1)) = true:=by
    rw [List.all_eq_true]
    intro r hr
    simp only [newNodes,List.mem_map] at hr
    obtain ⟨i,_,rfl⟩:=hr
    exact hn i
  rw [e]
  simp only [chnOk,h1,h2,hall,Bool.true_and]
  simp [newNodes,bagOk]
theorem chn0_bad : chnOk chn0 = false:=by simp [chnOk,cfgOk]
theorem FnNewChain_true (k : Nat) (hk : 2000000≤k) (a : List Int) (hb : ∀ x ∈ a,0≤x∧x≤255) : laws_FnNewChain_t A k (a,()) () = some ((true,()),()):=by
  rw [← ok_eq,laws_FnNewChain_t,ok_cndS]
  refine ⟨fun _=>ok_some.2 rfl,fun _=>?_⟩
  refine (DrawNewChain_ok k (by omega) a hb).bind fun q hq=>?_
  obtain ⟨⟨s,ms,_⟩,_⟩:=q
  obtain ⟨⟨s1,s2⟩,hm,_⟩:=hq
  simp only at s1 s2 hm
  have hs : StShort s:=⟨by omega,by omega⟩
  have hz:=newC_z s ms
  have i1:=impl_NewChain_eq (A:=A) k hk s ms hs (by omega)
  have i2:=spec_NewChain_eq (A:=A) k hk s ms hs (by omega)
  have i3:=sameChain_eq (A:=A) k hk (newC s ms) (newC s ms) hz
  have i4:=impl_ChainValid_eq (A:=A) k hk (newC s ms) hz.1
  have al:=alive_eq (A:=A) k (by omega : 10≤k)
  simp only [decide_true] at i3
  rw [ok_eq]
  simp only [i1,i2,i3,i4,a_obind_some,a_notB,Bool.not_true,a_cndS,Bool.false_eq_true,if_false]
  rcases Bool.eq_false_or_eq_true (stOk s && cfgOk (1,(ms,(false,())))) with h | h
  · have hv:=newC_ok h
    have h':=h
    simp only [Bool.and_eq_true] at h'
    obtain ⟨h1,h2⟩:=h'
    have e : newC s ms = (s,((1,(ms,(false,()))),(newNodes (1,(ms,(false,()))) 5,(List.replicate 5 true,([],([],())))))):=by unfold newC; rw [if_pos h]
    have j1:=impl_CompleteMembers_eq (A:=A) k (by omega) (newC s ms).2.1
    have hco : completeOr (newC s ms).2.1 = ms:=by rw [e]; simp [completeOr,h2,complete]
    rw [hco] at j1
    have j2:=sameInts_eq (A:=A) k ms ms (by omega) (by omega)
    have j3:=impl_OfficialLog_eq (A:=A) k hk (newC s ms) hz
    have hof : offLog (newC s ms) = []:=by
      unfold offLog
      rw [if_pos hv,e]
      simp only []
      rw [List.getD_eq_getElem?_getD]
      cases hg : (newNodes (1,(ms,(false,()))) 5)[((ms.getD 0 0).toNat)]? with
      | none=>rfl
      | some r =>
        have hr:=List.mem_of_getElem? hg
        simp only [newNodes,List.mem_map] at hr
        obtain ⟨i,_,rfl⟩:=hr
        exact newNode_log _ _
    rw [hof] at j3
    have j4:=impl_AnsweredState_eq (A:=A) k hk (newC s ms) hz
    have has : ansState (newC s ms) = s:=by
      unfold ansState
      rw [if_pos hv]
      have : ansLog (newC s ms) = []:=by unfold ansLog; rw [if_pos hv,e]; rfl
      rw [this,e]
      simp [replay,h1,logOk_nil,rep]
    rw [has] at j4
    have j5:=sameState_eq (A:=A) k s s (by omega) (by omega) (by omega) (by omega)
    have z1 : (newC s ms).2.2.2.2.1 = []:=by rw [e]
    have z2 : (newC s ms).2.2.2.2.2.1 = []:=by rw [e]
    simp only [decide_true] at j2 j5
    simp only [hv,Bool.not_true,Bool.false_eq_true,if_false,j1,j2,j3,j4,j5,a_obind_some,if_true,a_lenL,List.length_nil,z1,z2,a_eqI]
    simp
  · have e : newC s ms = chn0:=by unfold newC; rw [if_neg (by rw [h]; simp)]
    have n1 : laws_noChain_t A k (chn0,()) () = some ((true,()),()):=by
      have:=sameChain_eq (A:=A) k hk chn0 chn0 chn0_z
      simp only [decide_true] at this
      have this : laws_sameChain_t A k (chn0,(chn0,())) () = some ((true,()),()):=this
      unfold laws_noChain_t
      rw [this,a_obind_some]
    have j1:=impl_StateValid_eq (A:=A) k (by omega) s (by omega) (by omega)
    have j2:=impl_ConfigValid_eq (A:=A) k (by omega) (1,(ms,(false,())))
    rw [e,chn0_bad]
    simp only [Bool.not_false,if_true,n1,a_obind_some,j1,j2,al]
    cases h1 : stOk s with
    | false=>simp
    | true =>
      have h2 : cfgOk (1,(ms,(false,()))) = false:=by rw [h1] at h; simpa using h
      simp [h2]
end
theorem FnNewChain_pure (a : List Int) (h : InR (.slice (.int .u8)) a) : ∃ k,laws_FnNewChain_t real k (a,()) () = some ((true,()),()) :=
  haveI:=isReal_real
  ⟨2000000,FnNewChain_true 2000000 (by omega) a (code_bytes h)⟩
end Go.Den.T
