/- Functions that write the arrays of their first argument. -/
import Derived.Test.YtbfndjfjkkfaeaaXDenX
set_option linter.unusedVariables false
set_option linter.unusedSimpArgs false
namespace Go.Den
section
variable {P : Program} {tab : Tab} {G : Gam}

theorem start_mut {b rdty : Ty} {w : World} {lim : Lim} {x : b.val} {rd : rdty.val} {vs : List Value} {cs : List Value} {B : Nat → Prop} (m : Nat) (hf : flatT rdty = true) (hX : XRep w rdty rd cs B) (hB : ∀ g, B g → lim g = some 0) (hargs : ArgsRep w lim none b x vs) :
    Sim { w with X := B, mu := true, V0 := wrapV rdty cs } lim none ((wrapV rdty cs :: vs).toArray ++ Array.replicate (m - (wrapV rdty cs :: vs).toArray.size) undef).size (startMut b rdty x rd)
      { tmps := (wrapV rdty cs :: vs).toArray ++ Array.replicate (m - (wrapV rdty cs :: vs).toArray.size) undef, defers := [] } w lim ⟨fun _ => 0, fun _ => 0, fun _ => wrapV rdty cs, fun _ => B⟩ := by
  obtain ⟨q1, q2, q3, q4⟩ := putArgs_rest (t := b) (x := x) (i := 1)
  obtain ⟨t1, t2⟩ := putArgs_trees (t := b) (x := x) (i := 1)
  have henv := putArgs_env (i := 1) hargs
  have hcr : CRep w (fun _ => none) rdty rd cs := hX.crep hf (fun _ _ => rfl)
  have hfl : flatV (wrapV rdty cs) = cs := flat_wrap hcr
  have he : ∀ t, (startMut b rdty x rd).env t = cnd (Nat.beq t 0) ⟨.xf 0 [], none⟩ ((putArgs b x 1).env t) := fun _ => rfl
  have hio : ∀ r d, (startMut b rdty x rd).io r = some d → r = 0 ∧ d = ⟨rdty, rd⟩ := by
    intro r d hr
    have hr : cnd (Nat.beq r 0) (some (⟨rdty, rd⟩ : Dat)) none = some d := hr
    cases hq : Nat.beq r 0 with
    | true => rw [hq] at hr; injection hr with hr; exact ⟨nbeq hq, hr.symm⟩
    | false => rw [hq] at hr; cases hr
  have hxb : ∀ k, (startMut b rdty x rd).xb k = none := fun k => t2 k
  have hbx : ∀ k, (startMut b rdty x rd).box k = none := fun k => q2 k
  have hown : ∀ l, (startMut b rdty x rd).own l = false := by
    intro l
    cases l with
    | box c p => exact q3 _
    | tmp u p =>
      have : (startMut b rdty x rd).own (.tmp u p) = cnd (Nat.beq u 0) (inPaths p []) ((putArgs b x 1).own (.tmp u p)) := rfl
      rw [this]
      cases Nat.beq u 0 with
      | true => rfl
      | false => exact q3 _
  refine ⟨rfl, rfl, ⟨rfl, rfl, rfl, Nat.le_refl _, fun _ _ _ _ => rfl⟩, fun _ _ => rfl, fun t => ?_, fun k d hk => (by rw [hbx] at hk; cases hk), fun k c d d' hk => (by rw [hbx] at hk; cases hk), fun l hl => (by rw [hown] at hl; cases hl),
    fun l l' v v' g hl => (by rw [hown] at hl; cases hl), fun t l hl => ?_, fun d hd => ?_, ?_⟩
  · rw [he]
    cases hq : Nat.beq t 0 with
    | true =>
      have := nbeq hq; subst this
      refine ⟨⟨rdty, rd⟩, rdty, rfl, by cases rdty <;> rfl, ?_⟩
      simp only [offs_nil, List.drop_zero, hfl]
      rw [← hX.length, List.take_length]
      simp only [tmpOf]
      rw [Array.getD_eq_getD_getElem?, Array.getElem?_append_left (by simp)]
      simp
    | false =>
      simp only [cnd_false]
      rcases henv t with h1 | ⟨k, v, h1, h2, h3⟩
      · rw [h1]; trivial
      · rcases h3 with ⟨c, y, h3, h4⟩ | ⟨_, g, h4, _⟩
        · have hv : tmpOf { tmps := (wrapV rdty cs :: vs).toArray ++ Array.replicate (m - (wrapV rdty cs :: vs).toArray.size) undef, defers := [] } t = v := by
            have hk := (List.getElem?_eq_some_iff.1 h2).1
            subst h1
            simp only [tmpOf]
            rw [Array.getD_eq_getD_getElem?, Array.getElem?_append_left (by simp; omega)]
            simp [Nat.add_comm 1 k, h2]
          rw [hv, h3]; exact h4
        · cases h4
  · rw [he] at hl
    cases hq : Nat.beq t 0 with
    | true => rw [hq] at hl; cases hl
    | false => rw [hq] at hl; simp only [cnd_false, q1] at hl; cases hl
  · have hd : (putArgs b x 1).rd = some d := hd
    rw [q4] at hd; cases hd
  · refine ⟨fun r d hr => ?_, fun r d g hr hg => ?_, fun r d g hr hg c d' hc => (by rw [hbx] at hc; cases hc), fun r d g hr hg l v hl => (by rw [hown] at hl; cases hl), fun r d r' d' g hr hr' hg hg' => ?_, fun k t o hk => (by rw [hxb] at hk; cases hk), fun k t o hk => (by rw [hxb] at hk; cases hk),
      fun k c t o t' o' hk => (by rw [hxb] at hk; cases hk), fun d hd _ => ⟨rfl, rfl⟩⟩
    · obtain ⟨e1, e2⟩ := hio r d hr
      subst e2
      exact ⟨hf, by simp only [hfl]; exact hX⟩
    · exact ⟨.inr hg, by simp, hB g hg⟩
    · rw [(hio r d hr).1, (hio r' d' hr').1]

/-- A FUNCTION THAT WRITES: what the reading gives, a call does. -/
theorem mut_ok (hT : TabOk P tab) (hG : GamOk P G) (hm : P.follows .mixedOrders = true) {f : FuncId} {fn : Func} {c : Code} (hf : P.funcs[f]? = some fn) (hname : (fn.name == "runtime.NumGoroutine") = false) (hb : fn.body = some c)
    (b rdty rty : Ty) (one : Bool) (g : (Ty.prod .unit b).val → rdty.val → Option (rty.val × rdty.val)) (hone : Nat.beq fn.results.toList.length 1 = one) {ann : Ann} {fuel : Nat}
    (hfn : ∀ x rd r, g ((), x) rd = some r → evalMut tab G ann fuel fn b rdty rty x rd = some r) :
    FnOk P f { aty := .prod .unit b, rdty := rdty, usesRd := true, rty := rty, one := one, own := [], opens := false, muts := true, fn := g } := by
  refine ⟨fun args w => ?_, fun _ h => (by cases h), fun h => (by cases h), fun _ x rd r hr w lim vals B hargs hB => ?_⟩
  · have h1 : fn.name ≠ "runtime.NumGoroutine" := by simpa using hname
    simp [callFunc, hf, h1, hb]
  · obtain ⟨⟨⟩, x⟩ := x
    have he := hfn x rd r hr
    cases vals with
    | nil => exact hargs.elim
    | cons v0 vs =>
    obtain ⟨hflat, ⟨cs, hv0, hX⟩, hrest⟩ := hargs
    subst hv0
    unfold evalMut at he
    rw [hb] at he
    simp only [] at he
    cases hdst : dstsOk fn.ntmps c with
    | false => rw [hdst] at he; cases he
    | true =>
    rw [hdst] at he
    simp only [cnd_true] at he
    refine calls_of_wp hf hb ?_
    have hsim := start_mut fn.ntmps hflat hX hB hrest
    have hcr : CRep w (fun _ => none) rdty rd cs := hX.crep hflat (fun _ _ => rfl)
    have hfl : flatV (wrapV rdty cs) = cs := flat_wrap hcr
    have hend : ∀ st', finMut tab fn.results.toList rdty rty st' = some r → ∀ a' w' lim' β', Sim { w with X := B, mu := true, V0 := wrapV rdty cs } lim none ((wrapV rdty cs :: vs).toArray ++ Array.replicate (fn.ntmps - (wrapV rdty cs :: vs).toArray.size) undef).size st' a' w' lim' β' →
        a'.defers = [] ∧ ∃ v, (results fn a'.tmps).run P w' = .ok v w' ∧ MutOk w { aty := .prod .unit b, rdty := rdty, usesRd := true, rty := rty, one := one, own := [], opens := false, muts := true, fn := g } r B (wrapV rdty cs :: vs) (.returned v) w' := by
      intro st' hfin a' w' lim' β' hs
      refine ⟨hs.defers, ?_⟩
      unfold finMut at hfin
      cases h1 : resVals tab st' rty fn.results.toList with
      | none => rw [h1] at hfin; cases hfin
      | some y =>
        cases h2 : st'.io 0 with
        | none => rw [h1, h2] at hfin; cases hfin
        | some d =>
          rw [h1, h2] at hfin; simp only [] at hfin
          cases h3 : Ty.cast d.1 rdty d.2 with
          | none => rw [h3] at hfin; cases hfin
          | some z =>
            rw [h3] at hfin; injection hfin with hfin; subst hfin
            obtain ⟨vals', m1, m2, m3, _⟩ := resVals_ok hT hs h1
            have hrun : (results fn a'.tmps).run P w' = .ok (if h : vals'.toArray.size = 1 then vals'.toArray[0] else .tuple vals'.toArray) w' := by
              unfold results
              rw [show fn.results = fn.results.toList.toArray by simp, List.mapM_toArray]
              simp only [Sem.run_bind, Sem.run_map]
              rw [m1]
              · simp
              · intro u; rfl
              · intro c t; rfl
            obtain ⟨e1, e2⟩ := cast_some h3
            obtain ⟨dt, dv⟩ := d
            simp only at e1 e2
            subst e1
            obtain ⟨k1, k2⟩ := hs.xs.fix _ h2 rfl
            have hXe := (hs.xs.io 0 _ h2).2
            rw [k1, k2] at hXe
            have hXe : XRep w' dt dv (flatV (wrapV dt cs)) B := hXe
            rw [hfl] at hXe
            refine ⟨_, hrun, _, rfl, hs.grow.os, hs.grow.tape, hs.grow.output, hs.grow.size, fun k hk hn => hs.grow.block k hk (by simp) hn, ?_, cs, rfl, by show XRep w' dt z cs B; rw [e2]; exact hXe⟩
            have hext : Ext w' lim' w' (fun _ => none) := ⟨Nat.le_refl _, fun _ _ _ _ _ h => h, fun _ _ _ _ k hk => by cases hk⟩
            cases one with
            | true =>
              have hl := nbeq hone
              obtain ⟨v, rfl⟩ := List.length_eq_one_iff.1 (m3.trans hl)
              have : ERep st00 w' (fun _ => none) mp0 none (resAV rty true y) v := one_rep (m2.mono hext)
              simpa using this
            | false =>
              have hl : fn.results.toList.length ≠ 1 := fun e => by rw [e] at hone; cases hone
              rw [dif_neg (by simp only [List.size_toArray]; rw [m3]; exact hl)]
              have : resAV rty false y = .tup rty y := by unfold resAV; split <;> simp_all
              show ERep st00 w' (fun _ => none) mp0 none (resAV rty false y) _
              rw [this]
              exact ⟨vals', rfl, m2.mono hext⟩
    refine eval_sound (m := fn.ntmps) hT hG hm (fun k hk => by cases hk) (by simp; omega) c _ _ _ _ _ r hdst he _ _ _ _ _ hsim (fun st' hk a' w' lim' β' hs => hend st' hk a' w' lim' β' hs) (fun st' hk a' w' lim' β' hs => hend st' hk a' w' lim' β' hs) (fun i st' hk => by cases hk)
end
end Go.Den
