/- The laws on chains drawn: official logs. -/
import Derived.Test.YtgababfidcmdcabGreatXPm8

namespace Go.Den.T
set_option linter.unusedVariables false
set_option linter.unusedSimpArgs false
set_option linter.unusedSectionVars false
section
variable {A:Atoms} [IsReal A]
theorem complete_head {c:Cfg} (h:cfgOk c=true):0<(complete c).length∧(complete c).getD 0 0=c.2.1.getD 0 0:=by
 have hl:=zay h
 unfold complete
 split
 ·rename_i hf
  have h2:=hl.2.2.2.2 (by simpa using hf)
  refine ⟨by simp;omega,?_⟩
  rw [zar (by simp;omega),zar (by omega)]
  simp
 ·exact ⟨by omega,rfl⟩
theorem DrawOfficialLog_ok (k:Nat) (hk:2000000≤k) (a:List Int) (hb : ∀x∈a,0≤x∧x≤255):Ok (zd1 A k (a,()) ()) (fun q=>ChnZ q.1.1):=by
 rw [zd1]
 refine (open_ok k a hb).bind fun q hq=>?_
 exact (l20Chain_ok k hk 6 0 _ hq (by omega) (by omega)).bind fun q1 h1=>zac.2 h1
theorem FnOfficialLog_true (k:Nat) (hk:2000000≤k) (a:List Int) (hb : ∀x∈a,0≤x∧x≤255):ze7 A k (a,()) ()=some ((true,()),()):=by
 rw [←ok_eq,ze7,zad]
 refine ⟨fun _=>zac.2 rfl,fun _=>?_⟩
 refine (DrawOfficialLog_ok k hk a hb).bind fun q hz=>?_
 obtain ⟨⟨c,_⟩,_⟩:=q
 have hz:ChnZ c:=hz
 have hl:=offLog_len c
 have i1:=zje (A:=A) k hk c hz
 have i2:=zja (A:=A) k hk c hz
 have i3:=sameLog_eq (A:=A) k (offLog c) (offLog c) (by omega) (by omega)
 have i4:=zgz (A:=A) k hk c hz.1
 have i5:=zfv (A:=A) k (by omega) c.2.1
 have al:=alive_eq (A:=A) k (by omega:10≤k)
 simp only [decide_true] at i3
 rw [ok_eq]
 simp only [i1,i2,i3,i4,i5,a_obind_some,a_notB,Bool.not_true,a_cndS,Bool.false_eq_true,if_false,al,a_eqI,a_lenL,if_true]
 rcases Bool.eq_false_or_eq_true (chnOk c) with h|h
 ·have hc:=cv_iff.1 h
  obtain ⟨p1,p2⟩:=complete_head hc.cfg
  have hco:completeOr c.2.1=complete c.2.1:=by simp [completeOr,hc.cfg]
  have hm:=cfg_mem hc.cfg (i:=0) (by omega) (by have:=(zay hc.cfg).2.2.1;omega)
  have hm:0≤c.2.1.2.1.getD 0 0∧c.2.1.2.1.getD 0 0≤4:=by simpa using hm
  have hn5:=hc.n5
  have e1 : ¬((complete c.2.1).length:Int)=0:=by omega
  have e2:(0:Int)<((complete c.2.1).length:Int):=by omega
  have e3 : ¬c.2.1.2.1.getD 0 0<0:=by omega
  have e4 : ¬(c.2.2.1.length:Int)≤c.2.1.2.1.getD 0 0:=by omega
  have e5:c.2.1.2.1.getD 0 0<(c.2.2.1.length:Int):=by omega
  have ho:offLog c=(c.2.2.1.getD (c.2.1.2.1.getD 0 0).toNat rep0).2.2.1:=by unfold offLog;rw [if_pos h]
  have i6:=sameLog_eq (A:=A) k (offLog c) (c.2.2.1.getD (c.2.1.2.1.getD 0 0).toNat rep0).2.2.1 (by omega) (by omega)
  rw [←ho] at i6
  simp only [decide_true] at i6
  simp only [h,hco,Bool.not_true,Bool.false_eq_true,if_false,if_true,e1,e2,decide_true,decide_false,a_andB,a_le0,a_ltI,a_lenL,Bool.and_self,Int.le_refl,a_atL,Int.toNat_zero,p2,e3,a_leI,e4,e5,a_obind_some,a_sumE_inl,hm.1,←ho,i6]
 ·have ho:offLog c=[]:=by unfold offLog;rw [if_neg (by rw [h];decide)]
  simp [h,ho]
end
theorem FnOfficialLog_pure (a:List Int) (h:InR (.slice (.int .u8)) a) : ∃k,ze7 real k (a,()) ()=some ((true,()),()):=
 haveI:=isReal_real
 ⟨2000000,FnOfficialLog_true 2000000 (by omega) a (code_bytes h)⟩
end Go.Den.T
