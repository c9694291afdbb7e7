/- For every argument, laws.FnExactBagRepeat answers true, and what was handed in reads as before; no condition. -/
import Derived.Below
import Derived.Carry
import Derived.ChangeOld
import Derived.OpenShut
import Derived.ProofKit
import Derived.Test.YtkgmjndeeljpjaaRows
import Derived.Test.YtkgmjndeeljpjaaXFinFnExactBagRepeat
import Derived.Test.YtkgmjndeeljpjaaXN4
import Derived.WalkKit
set_option linter.unusedSimpArgs false
namespace Go.Proofs.Ytkgmjndeeljpjaa
namespace fnExactBagRepeat
open Go.ChangeShapes Go.WideShapes Go.ChangeAt Go.RowKit
open Go.Den Go.Den.T
set_option linter.unusedVariables false
theorem own : ownKnob Try.prog.godebug = none := by kernel_rfl
theorem laidOut : laidOutB Try.prog = true := by kernel_rfl
set_option maxRecDepth 100000 in
theorem lifted (os : Os) (started : os.Started) (H : Type) (enc : TypeId × Value → H) :
    ReturnsInHanded {} Try.checked os 13 .any (Rows.fnExactBagRepeatSpec.pre6 enc Try.prog Try.f13 Rows.fnExactBagRepeatRow.domain false) (Rows.fnExactBagRepeatSpec.post enc Try.prog Try.f13 false true false false) := by
  refine returnsInHanded_of_change (C := Try.checked) own started (by kernel_rfl) Try.func13
    (ChangeSpec.witness6 (enc := enc) (C := Try.checked) false ⟨#[], #[(wrapV ((.slice T62) : Ty) (zeroCells ((.slice T62) : Ty))), (wrapV ((.int .i64) : Ty) (zeroCells ((.int .i64) : Ty)))], []⟩ 64 (by kernel_rfl) (by kernel_rfl) (by kernel_rfl) (by kernel_rfl)) ?_
  intro W base args ds gs before hval0 hW hcnd _
  have hval : ∀ (j : Nat) t v, Try.f13.params[j]? = some t → args[j]? = some v → Value.okWide Try.prog W .any base t v := hval0
  have hW' := hW
  obtain ⟨p, q, hA0, hV, rfl, hfz, hnd⟩ := hW
  have hA : DataW.TrodAll enc Try.prog W 0 (fun _ => true) true Try.f13.params.toList args.toList ds p := hA0
  rw [Try.params13] at hA hval
  obtain ⟨v0, vs0, d0, ds0, p0, q0, hargs, rfl, rfl, h0, r0⟩ := trodAll_cons hA
  obtain ⟨v1, vs1, d1, ds1, p1, q1, rfl, rfl, rfl, h1, r1⟩ := trodAll_cons r0
  obtain ⟨rfl, rfl, rfl⟩ := trodAll_nil r1
  obtain rfl : args = #[v0, v1] := by cases args; simp_all
  obtain ⟨rfl, rfl⟩ := trodVars_none hV
  have lt0 : ∀ x ∈ p0, x.block < W.heap.size := by obtain ⟨m, hm⟩ := h0; exact DataW.trod_lt m _ _ _ hm
  obtain ⟨y0, t0, g0⟩ := arg_rep tab_ok (t := 75) (ty := (.slice T62)) (by kernel_rfl) (by kernel_rfl) (hval 0 75 v0 rfl rfl) h0
  have lt1 : ∀ x ∈ p1, x.block < W.heap.size := by obtain ⟨m, hm⟩ := h1; exact DataW.trod_lt m _ _ _ hm
  obtain ⟨y1, t1, g1⟩ := arg_rep tab_ok (t := 3) (ty := (.int .i64)) (by kernel_rfl) (by kernel_rfl) (hval 1 3 v1 rfl rfl) h1
  clear hA0 hval0
  obtain ⟨k, hx⟩ := FnExactBagRepeat_pure y0 g0 y1 g1
  refine (law_calls (laws_FnExactBagRepeat_ok k) hx (vals := [v0, v1]) ⟨.inl ⟨fun e => (by cases e), t0⟩, ⟨.inl ⟨fun e => (by cases e), t1⟩, trivial⟩⟩).mono fun e W' ⟨he, bel⟩ => ?_
  subst he
  exact ⟨_, rfl, _, _, _, [], _, [], hW', trodAll_mk1 (shut_bool Try.underlying4 _), (trodAll_cons_mk (Below.trod laidOut (by kernel_rfl) (of_decide_eq_true (by kernel_rfl)) h0 bel lt0) (trodAll_cons_mk (Below.trod laidOut (by kernel_rfl) (of_decide_eq_true (by kernel_rfl)) h1 bel lt1) trodAll_mk0)), rfl, bel.frame _, fun h => (by cases h)⟩
theorem named : Try.pinned.checked.prog.funcNamed Rows.fnExactBagRepeatRow.func = some 13 := by kernel_rfl
theorem joined : joinedFacts Try.pinned.checked.prog 13 Try.f13 Rows.fnExactBagRepeatSpec Rows.fnExactBagRepeatRow = true := by kernel_rfl
theorem inst : Try.f13.isInstance Try.pinned.checked.prog Rows.fnExactBagRepeatRow.origin Rows.fnExactBagRepeatRow.targs := of_decide_eq_true (by kernel_rfl)
theorem wrap : Try.f13.isWrapper Try.pinned.checked.prog Rows.fnExactBagRepeatRow.wrapper Rows.fnExactBagRepeatRow.mainSum := by
  unfold Func.isWrapper; first | (rw [if_pos (by decide +kernel)]; kernel_rfl) | (rw [if_neg (by decide +kernel)]; exact ⟨rfl, rfl⟩)
theorem over : Rows.fnExactBagRepeatRow.holds Try.pinned (OpenSpec.ofChange Rows.fnExactBagRepeatSpec) :=
  OpenClaim.holds_of_wide 13 Try.f13 rfl rfl rfl rfl rfl rfl rfl ⟨rfl, rfl, rfl, rfl, rfl⟩ rfl rfl rfl rfl rfl named Try.func13 joined inst wrap
    (fun os started H enc _ => lifted os started H enc)
end fnExactBagRepeat
theorem fnExactBagRepeat_holds : Rows.FnExactBagRepeatSaid := fnExactBagRepeat.over
#print axioms fnExactBagRepeat_holds
end Go.Proofs.Ytkgmjndeeljpjaa
