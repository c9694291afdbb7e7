/- For every argument, laws.FnExactChainValid answers true, and what was handed in reads as before; no condition. -/
import Derived.Below
import Derived.Carry
import Derived.ChangeOld
import Derived.OpenShut
import Derived.ProofKit
import Derived.Test.YtojleoiiijlhaaaRows
import Derived.Test.YtojleoiiijlhaaaXFinFnExactChainValid
import Derived.Test.YtojleoiiijlhaaaXN2
import Derived.WalkKit
set_option linter.unusedSimpArgs false
namespace Go.Proofs.Ytojleoiiijlhaaa
namespace fnExactChainValid
open Go.ChangeShapes Go.WideShapes Go.ChangeAt Go.RowKit
open Go.Den Go.Den.T
set_option linter.unusedVariables false
theorem own : ownKnob Try.prog.godebug = none := by kernel_rfl
theorem laidOut : laidOutB Try.prog = true := by kernel_rfl
set_option maxRecDepth 100000 in
theorem lifted (os : Os) (started : os.Started) (H : Type) (enc : TypeId × Value → H) :
    ReturnsInHanded {} Try.checked os 4 .any (Rows.fnExactChainValidSpec.pre6 enc Try.prog Try.f4 Rows.fnExactChainValidRow.domain false) (Rows.fnExactChainValidSpec.post enc Try.prog Try.f4 false true false false) := by
  refine returnsInHanded_of_change (C := Try.checked) own started (by kernel_rfl) Try.func4
    (ChangeSpec.witness6 (enc := enc) (C := Try.checked) false ⟨#[], #[(wrapV (T41 : Ty) (zeroCells (T41 : Ty)))], []⟩ 64 (by kernel_rfl) (by kernel_rfl) (by kernel_rfl) (by kernel_rfl)) ?_
  intro W base args ds gs before hval0 hW hcnd _
  have hval : ∀ (j : Nat) t v, Try.f4.params[j]? = some t → args[j]? = some v → Value.okWide Try.prog W .any base t v := hval0
  have hW' := hW
  obtain ⟨p, q, hA0, hV, rfl, hfz, hnd⟩ := hW
  have hA : DataW.TrodAll enc Try.prog W 0 (fun _ => true) true Try.f4.params.toList args.toList ds p := hA0
  rw [Try.params4] at hA hval
  obtain ⟨v0, vs0, d0, ds0, p0, q0, hargs, rfl, rfl, h0, r0⟩ := trodAll_cons hA
  obtain ⟨rfl, rfl, rfl⟩ := trodAll_nil r0
  obtain rfl : args = #[v0] := by cases args; simp_all
  obtain ⟨rfl, rfl⟩ := trodVars_none hV
  have lt0 : ∀ x ∈ p0, x.block < W.heap.size := by obtain ⟨m, hm⟩ := h0; exact DataW.trod_lt m _ _ _ hm
  obtain ⟨y0, t0, g0⟩ := arg_rep tab_ok (t := 58) (ty := T41) (by kernel_rfl) (by kernel_rfl) (hval 0 58 v0 rfl rfl) h0
  clear hA0 hval0
  obtain ⟨k, hx⟩ := FnExactChainValid_pure y0 g0
  refine (law_calls (laws_FnExactChainValid_ok k) hx (vals := [v0]) ⟨.inl ⟨fun e => (by cases e), t0⟩, trivial⟩).mono fun e W' ⟨he, bel⟩ => ?_
  subst he
  exact ⟨_, rfl, _, _, _, [], _, [], hW', trodAll_mk1 (shut_bool Try.underlying4 _), (trodAll_cons_mk (Below.trod laidOut (by kernel_rfl) (of_decide_eq_true (by kernel_rfl)) h0 bel lt0) trodAll_mk0), rfl, bel.frame _, fun h => (by cases h)⟩
theorem named : Try.pinned.checked.prog.funcNamed Rows.fnExactChainValidRow.func = some 4 := by kernel_rfl
theorem joined : joinedFacts Try.pinned.checked.prog 4 Try.f4 Rows.fnExactChainValidSpec Rows.fnExactChainValidRow = true := by kernel_rfl
theorem inst : Try.f4.isInstance Try.pinned.checked.prog Rows.fnExactChainValidRow.origin Rows.fnExactChainValidRow.targs := of_decide_eq_true (by kernel_rfl)
theorem wrap : Try.f4.isWrapper Try.pinned.checked.prog Rows.fnExactChainValidRow.wrapper Rows.fnExactChainValidRow.mainSum := by
  unfold Func.isWrapper; first | (rw [if_pos (by decide +kernel)]; kernel_rfl) | (rw [if_neg (by decide +kernel)]; exact ⟨rfl, rfl⟩)
theorem over : Rows.fnExactChainValidRow.holds Try.pinned (OpenSpec.ofChange Rows.fnExactChainValidSpec) :=
  OpenClaim.holds_of_wide 4 Try.f4 rfl rfl rfl rfl rfl rfl rfl ⟨rfl, rfl, rfl, rfl, rfl⟩ rfl rfl rfl rfl rfl named Try.func4 joined inst wrap
    (fun os started H enc _ => lifted os started H enc)
end fnExactChainValid
theorem fnExactChainValid_holds : Rows.FnExactChainValidSaid := fnExactChainValid.over
#print axioms fnExactChainValid_holds
end Go.Proofs.Ytojleoiiijlhaaa
