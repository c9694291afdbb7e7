/- For every argument, laws.FnExactRestoreCheckpoint answers true, and what was handed in reads as before; no condition. -/
import Derived.Below
import Derived.Carry
import Derived.ChangeOld
import Derived.OpenShut
import Derived.ProofKit
import Derived.Test.YtdmlbmedihjdmaaGreatRows
import Derived.Test.YtdmlbmedihjdmaaGreatXFinFnExactRestoreCheckpoint
import Derived.Test.YtdmlbmedihjdmaaGreatXP11
import Derived.WalkKit
set_option linter.unusedSimpArgs false
namespace Go.Proofs.YtdmlbmedihjdmaaGreat
namespace fnExactRestoreCheckpoint
open Go.ChangeShapes Go.WideShapes Go.ChangeAt Go.RowKit
open Go.Den Go.Den.T
set_option linter.unusedVariables false
theorem own : ownKnob Tryz.prog.godebug = none := by kernel_rfl
theorem laidOut : laidOutB Tryz.prog = true := by kernel_rfl
set_option maxRecDepth 100000 in
theorem lifted (os : Os) (started : os.Started) (H : Type) (enc : TypeId × Value → H) :
    ReturnsInHanded {} Tryz.checked os 4 .any (Rows.fnExactRestoreCheckpointSpec.pre6 enc Tryz.prog Tryz.f4 Rows.fnExactRestoreCheckpointRow.domain false) (Rows.fnExactRestoreCheckpointSpec.post enc Tryz.prog Tryz.f4 false true false false) := by
  refine returnsInHanded_of_change (C := Tryz.checked) own started (by kernel_rfl) Tryz.func4
    (ChangeSpec.witness6 (enc := enc) (C := Tryz.checked) false ⟨#[], #[(wrapV (T56 : Ty) (zeroCells (T56 : Ty))), (wrapV ((.slice T109) : Ty) (zeroCells ((.slice T109) : Ty)))], []⟩ 64 (by kernel_rfl) (by kernel_rfl) (by kernel_rfl) (by kernel_rfl)) ?_
  intro W base args ds gs before hval0 hW hcnd _
  have hval : ∀ (j : Nat) t v, Tryz.f4.params[j]? = some t → args[j]? = some v → Value.okWide Tryz.prog W .any base t v := hval0
  have hW' := hW
  obtain ⟨p, q, hA0, hV, rfl, hfz, hnd⟩ := hW
  have hA : DataW.TrodAll enc Tryz.prog W 0 (fun _ => true) true Tryz.f4.params.toList args.toList ds p := hA0
  rw [Tryz.params4] at hA hval
  obtain ⟨v0, vs0, d0, ds0, p0, q0, hargs, rfl, rfl, h0, r0⟩ := trodAll_cons hA
  obtain ⟨v1, vs1, d1, ds1, p1, q1, rfl, rfl, rfl, h1, r1⟩ := trodAll_cons r0
  obtain ⟨rfl, rfl, rfl⟩ := trodAll_nil r1
  obtain rfl : args = #[v0, v1] := by cases args; simp_all
  obtain ⟨rfl, rfl⟩ := trodVars_none hV
  have lt0 : ∀ x ∈ p0, x.block < W.heap.size := by obtain ⟨m, hm⟩ := h0; exact DataW.trod_lt m _ _ _ hm
  obtain ⟨y0, t0, g0⟩ := arg_rep tab_ok (t := 57) (ty := T56) (by kernel_rfl) (by kernel_rfl) (hval 0 57 v0 rfl rfl) h0
  have lt1 : ∀ x ∈ p1, x.block < W.heap.size := by obtain ⟨m, hm⟩ := h1; exact DataW.trod_lt m _ _ _ hm
  obtain ⟨y1, t1, g1⟩ := arg_rep tab_ok (t := 58) (ty := (.slice T109)) (by kernel_rfl) (by kernel_rfl) (hval 1 58 v1 rfl rfl) h1
  clear hA0 hval0
  obtain ⟨k, hx⟩ := FnExactRestoreCheckpoint_pure y0 g0 y1 g1
  refine (law_calls (laws_FnExactRestoreCheckpoint_ok k) hx (vals := [v0, v1]) ⟨.inl ⟨fun e => (by cases e), t0⟩, ⟨.inl ⟨fun e => (by cases e), t1⟩, trivial⟩⟩).mono fun e W' ⟨he, bel⟩ => ?_
  subst he
  exact ⟨_, rfl, _, _, _, [], _, [], hW', trodAll_mk1 (shut_bool Tryz.underlying4 _), (trodAll_cons_mk (Below.trod laidOut (by kernel_rfl) (of_decide_eq_true (by kernel_rfl)) h0 bel lt0) (trodAll_cons_mk (Below.trod laidOut (by kernel_rfl) (of_decide_eq_true (by kernel_rfl)) h1 bel lt1) trodAll_mk0)), rfl, bel.frame _, fun h => (by cases h)⟩
theorem named : Tryz.pinned.checked.prog.funcNamed Rows.fnExactRestoreCheckpointRow.func = some 4 := by kernel_rfl
theorem joined : joinedFacts Tryz.pinned.checked.prog 4 Tryz.f4 Rows.fnExactRestoreCheckpointSpec Rows.fnExactRestoreCheckpointRow = true := by kernel_rfl
theorem inst : Tryz.f4.isInstance Tryz.pinned.checked.prog Rows.fnExactRestoreCheckpointRow.origin Rows.fnExactRestoreCheckpointRow.targs := of_decide_eq_true (by kernel_rfl)
theorem wrap : Tryz.f4.isWrapper Tryz.pinned.checked.prog Rows.fnExactRestoreCheckpointRow.wrapper Rows.fnExactRestoreCheckpointRow.mainSum := by
  unfold Func.isWrapper; first | (rw [if_pos (by decide +kernel)]; kernel_rfl) | (rw [if_neg (by decide +kernel)]; exact ⟨rfl, rfl⟩)
theorem over : Rows.fnExactRestoreCheckpointRow.holds Tryz.pinned (OpenSpec.ofChange Rows.fnExactRestoreCheckpointSpec) :=
  OpenClaim.holds_of_wide 4 Tryz.f4 rfl rfl rfl rfl rfl rfl rfl ⟨rfl, rfl, rfl, rfl, rfl⟩ rfl rfl rfl rfl rfl named Tryz.func4 joined inst wrap
    (fun os started H enc _ => lifted os started H enc)
end fnExactRestoreCheckpoint
theorem fnExactRestoreCheckpoint_holds : Rows.FnExactRestoreCheckpointSaid := fnExactRestoreCheckpoint.over
#print axioms fnExactRestoreCheckpoint_holds
end Go.Proofs.YtdmlbmedihjdmaaGreat
