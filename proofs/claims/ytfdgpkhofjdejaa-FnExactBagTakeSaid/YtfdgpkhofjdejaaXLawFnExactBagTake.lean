/- For every argument, laws.FnExactBagTake answers true, and what was handed in reads as before; no condition. -/
import Derived.Below
import Derived.Carry
import Derived.ChangeOld
import Derived.OpenShut
import Derived.ProofKit
import Derived.Test.YtfdgpkhofjdejaaRows
import Derived.Test.YtfdgpkhofjdejaaXFinFnExactBagTake
import Derived.Test.YtfdgpkhofjdejaaXPm3
import Derived.WalkKit
set_option linter.unusedSimpArgs false
namespace Go.Proofs.Ytfdgpkhofjdejaa
namespace fnExactBagTake
open Go.ChangeShapes Go.WideShapes Go.ChangeAt Go.RowKit
open Go.Den Go.Den.T
set_option linter.unusedVariables false
theorem own : ownKnob Try.prog.godebug = none := by kernel_rfl
theorem laidOut : laidOutB Try.prog = true := by kernel_rfl
set_option maxRecDepth 100000 in
theorem lifted (os : Os) (started : os.Started) (H : Type) (enc : TypeId × Value → H) :
    ReturnsInHanded {} Try.checked os 3 .any (Rows.fnExactBagTakeSpec.pre6 enc Try.prog Try.f3 Rows.fnExactBagTakeRow.domain false) (Rows.fnExactBagTakeSpec.post enc Try.prog Try.f3 false true false false) := by
  refine returnsInHanded_of_change (C := Try.checked) own started (by kernel_rfl) Try.func3
    (ChangeSpec.witness6 (enc := enc) (C := Try.checked) false ⟨#[], #[(wrapV ((.slice T28) : Ty) (zeroCells ((.slice T28) : Ty))), (wrapV ((.int .i64) : Ty) (zeroCells ((.int .i64) : Ty)))], []⟩ 64 (by kernel_rfl) (by kernel_rfl) (by kernel_rfl) (by kernel_rfl)) ?_
  intro W base args ds gs before hval0 hW hcnd _
  have hval : ∀ (j : Nat) t v, Try.f3.params[j]? = some t → args[j]? = some v → Value.okWide Try.prog W .any base t v := hval0
  have hW' := hW
  obtain ⟨p, q, hA0, hV, rfl, hfz, hnd⟩ := hW
  have hA : DataW.TrodAll enc Try.prog W 0 (fun _ => true) true Try.f3.params.toList args.toList ds p := hA0
  rw [Try.params3] at hA hval
  obtain ⟨v0, vs0, d0, ds0, p0, q0, hargs, rfl, rfl, h0, r0⟩ := trodAll_cons hA
  obtain ⟨v1, vs1, d1, ds1, p1, q1, rfl, rfl, rfl, h1, r1⟩ := trodAll_cons r0
  obtain ⟨rfl, rfl, rfl⟩ := trodAll_nil r1
  obtain rfl : args = #[v0, v1] := by cases args; simp_all
  obtain ⟨rfl, rfl⟩ := trodVars_none hV
  have lt0 : ∀ x ∈ p0, x.block < W.heap.size := by obtain ⟨m, hm⟩ := h0; exact DataW.trod_lt m _ _ _ hm
  obtain ⟨y0, t0, g0⟩ := arg_rep tab_ok (t := 22) (ty := (.slice T28)) (by kernel_rfl) (by kernel_rfl) (hval 0 22 v0 rfl rfl) h0
  have lt1 : ∀ x ∈ p1, x.block < W.heap.size := by obtain ⟨m, hm⟩ := h1; exact DataW.trod_lt m _ _ _ hm
  obtain ⟨y1, t1, g1⟩ := arg_rep tab_ok (t := 3) (ty := (.int .i64)) (by kernel_rfl) (by kernel_rfl) (hval 1 3 v1 rfl rfl) h1
  clear hA0 hval0
  obtain ⟨k, hx⟩ := FnExactBagTake_pure y0 g0 y1 g1
  refine (law_calls (laws_FnExactBagTake_ok k) hx (vals := [v0, v1]) ⟨.inl ⟨fun e => (by cases e), t0⟩, ⟨.inl ⟨fun e => (by cases e), t1⟩, trivial⟩⟩).mono fun e W' ⟨he, bel⟩ => ?_
  subst he
  exact ⟨_, rfl, _, _, _, [], _, [], hW', trodAll_mk1 (shut_bool Try.underlying4 _), (trodAll_cons_mk (Below.trod laidOut (by kernel_rfl) (of_decide_eq_true (by kernel_rfl)) h0 bel lt0) (trodAll_cons_mk (Below.trod laidOut (by kernel_rfl) (of_decide_eq_true (by kernel_rfl)) h1 bel lt1) trodAll_mk0)), rfl, bel.frame _, fun h => (by cases h)⟩
theorem named : Try.pinned.checked.prog.funcNamed Rows.fnExactBagTakeRow.func = some 3 := by kernel_rfl
theorem joined : joinedFacts Try.pinned.checked.prog 3 Try.f3 Rows.fnExactBagTakeSpec Rows.fnExactBagTakeRow = true := by kernel_rfl
theorem inst : Try.f3.isInstance Try.pinned.checked.prog Rows.fnExactBagTakeRow.origin Rows.fnExactBagTakeRow.targs := of_decide_eq_true (by kernel_rfl)
theorem wrap : Try.f3.isWrapper Try.pinned.checked.prog Rows.fnExactBagTakeRow.wrapper Rows.fnExactBagTakeRow.mainSum := by
  unfold Func.isWrapper; first | (rw [if_pos (by decide +kernel)]; kernel_rfl) | (rw [if_neg (by decide +kernel)]; exact ⟨rfl, rfl⟩)
theorem over : Rows.fnExactBagTakeRow.holds Try.pinned (OpenSpec.ofChange Rows.fnExactBagTakeSpec) :=
  OpenClaim.holds_of_wide 3 Try.f3 rfl rfl rfl rfl rfl rfl rfl ⟨rfl, rfl, rfl, rfl, rfl⟩ rfl rfl rfl rfl rfl named Try.func3 joined inst wrap
    (fun os started H enc _ => lifted os started H enc)
end fnExactBagTake
theorem fnExactBagTake_holds : Rows.FnExactBagTakeSaid := fnExactBagTake.over
#print axioms fnExactBagTake_holds
end Go.Proofs.Ytfdgpkhofjdejaa
