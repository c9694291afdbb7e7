/- For every code, laws.FnChainValid answers true, and what was handed in reads as before; no condition. -/
import Derived.Below
import Derived.Carry
import Derived.ChangeOld
import Derived.OpenShut
import Derived.ProofKit
import Derived.Test.YtgababfidcmdcacGreatRows
import Derived.Test.YtgababfidcmdcacGreatXFinFnChainValid
import Derived.Test.YtgababfidcmdcacGreatXPm8
import Derived.WalkKit
set_option linter.unusedSimpArgs false
namespace Go.Proofs.YtgababfidcmdcacGreat
namespace fnChainValid
open Go.ChangeShapes Go.WideShapes Go.ChangeAt Go.RowKit
open Go.Den Go.Den.T
set_option linter.unusedVariables false
theorem own : ownKnob Tryz.prog.godebug = none := by kernel_rfl
theorem laidOut : laidOutB Tryz.prog = true := by kernel_rfl
set_option maxRecDepth 100000 in
theorem lifted (os : Os) (started : os.Started) (H : Type) (enc : TypeId × Value → H) :
    ReturnsInHanded {} Tryz.checked os 3 .any (Rows.fnChainValidSpec.pre6 enc Tryz.prog Tryz.f3 Rows.fnChainValidRow.domain false) (Rows.fnChainValidSpec.post enc Tryz.prog Tryz.f3 false true false false) := by
  refine returnsInHanded_of_change (C := Tryz.checked) own started (by kernel_rfl) Tryz.func3
    (ChangeSpec.witness6 (enc := enc) (C := Tryz.checked) false ⟨#[], #[(wrapV ((.slice (.int .u8)) : Ty) (zeroCells ((.slice (.int .u8)) : Ty)))], []⟩ 64 (by kernel_rfl) (by kernel_rfl) (by kernel_rfl) (by kernel_rfl)) ?_
  intro W base args ds gs before hval0 hW hcnd _
  have hval : ∀ (j : Nat) t v, Tryz.f3.params[j]? = some t → args[j]? = some v → Value.okWide Tryz.prog W .any base t v := hval0
  have hW' := hW
  obtain ⟨p, q, hA0, hV, rfl, hfz, hnd⟩ := hW
  have hA : DataW.TrodAll enc Tryz.prog W 0 (fun _ => true) true Tryz.f3.params.toList args.toList ds p := hA0
  rw [Tryz.params3] at hA hval
  obtain ⟨v0, vs0, d0, ds0, p0, q0, hargs, rfl, rfl, h0, r0⟩ := trodAll_cons hA
  obtain ⟨rfl, rfl, rfl⟩ := trodAll_nil r0
  obtain rfl : args = #[v0] := by cases args; simp_all
  obtain ⟨rfl, rfl⟩ := trodVars_none hV
  have lt0 : ∀ x ∈ p0, x.block < W.heap.size := by obtain ⟨m, hm⟩ := h0; exact DataW.trod_lt m _ _ _ hm
  obtain ⟨y0, t0, g0⟩ := arg_rep zah (t := 22) (ty := (.slice (.int .u8))) (by kernel_rfl) (by kernel_rfl) (hval 0 22 v0 rfl rfl) h0
  clear hA0 hval0
  obtain ⟨k, hx⟩ := FnChainValid_pure y0 g0
  refine (law_calls (laws_FnChainValid_ok k) hx (vals := [v0]) ⟨.inl ⟨fun e => (by cases e), t0⟩, trivial⟩).mono fun e W' ⟨he, bel⟩ => ?_
  subst he
  exact ⟨_, rfl, _, _, _, [], _, [], hW', trodAll_mk1 (shut_bool Tryz.underlying4 _), (trodAll_cons_mk (Below.trod laidOut (by kernel_rfl) (of_decide_eq_true (by kernel_rfl)) h0 bel lt0) trodAll_mk0), rfl, bel.frame _, fun h => (by cases h)⟩
theorem named : Tryz.pinned.checked.prog.funcNamed Rows.fnChainValidRow.func = some 3 := by kernel_rfl
theorem joined : joinedFacts Tryz.pinned.checked.prog 3 Tryz.f3 Rows.fnChainValidSpec Rows.fnChainValidRow = true := by kernel_rfl
theorem inst : Tryz.f3.isInstance Tryz.pinned.checked.prog Rows.fnChainValidRow.origin Rows.fnChainValidRow.targs := of_decide_eq_true (by kernel_rfl)
theorem wrap : Tryz.f3.isWrapper Tryz.pinned.checked.prog Rows.fnChainValidRow.wrapper Rows.fnChainValidRow.mainSum := by
  unfold Func.isWrapper; first | (rw [if_pos (by decide +kernel)]; kernel_rfl) | (rw [if_neg (by decide +kernel)]; exact ⟨rfl, rfl⟩)
theorem over : Rows.fnChainValidRow.holds Tryz.pinned (OpenSpec.ofChange Rows.fnChainValidSpec) :=
  OpenClaim.holds_of_wide 3 Tryz.f3 rfl rfl rfl rfl rfl rfl rfl ⟨rfl, rfl, rfl, rfl, rfl⟩ rfl rfl rfl rfl rfl named Tryz.func3 joined inst wrap
    (fun os started H enc _ => lifted os started H enc)
end fnChainValid
theorem fnChainValid_holds : Rows.FnChainValidSaid := fnChainValid.over
#print axioms fnChainValid_holds
end Go.Proofs.YtgababfidcmdcacGreat
