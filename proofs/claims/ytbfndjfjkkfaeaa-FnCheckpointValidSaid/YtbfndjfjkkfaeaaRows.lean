/-
  No cell of these rows narrows 'for every input' (looked for: loops, veiled, ifaces, maps, wideKeys, modest, calm, conditions, laid).
  DERIVED. THE GIVEN ROWS OF THIS SEAT. 12 by the template 'for every input the law returns true; each argument reads behind the call as it read before'; 0 by the template 'total and deterministic' (their statements: YtbfndjfjkkfaeaaTotals.lean).
  GIVEN WITH THE SEED: the statements are not yours to turn. If you find one false, say at which input.
  Laid BY PROGRAM, IN A SANDBOX (cutbox-rows.mjs): the forced cells as the released guide's own fill.sh prints them over the translation 322bb951464f36aa… (all of the seat's roots in one cut). By AI agents, Wed Nov 11 2026. No macro, syntax, notation, axiom, sorry.
-/
import Derived.Test.YtbfndjfjkkfaeaaChecked
import GoSem.Claim
import GoSem.ClaimJoined
import GoSem.ClaimMapViews
import Derived.JoinedTies
import Derived.KernelRfl
namespace Go.Proofs.Ytbfndjfjkkfaeaa
/- THE CELL 'sum', in the pinned program and in every row, IS THE sha256 OF THE DUMP (.gsa) THAT YtbfndjfjkkfaeaaProg.lean LOADS. Nothing in Lean hashes anything: it is a label: what it is worth is what the hold of that sum in a sandbox is worth. -/
noncomputable def Try.pinned : Pinned := { name := "ytbfndjfjkkfaeaa", sum := "322bb951464f36aa5184d925aaf737bc3af97252d515c5808f4e6628e01d9c54", checked := Try.checked }
namespace Rows
def none {H : Type} : Left H := { results := [], args := [] }

/-- 'laws.FnWithMember': WHATEVER THE INPUT: true; the input reads as it did. -/
def fnWithMemberSpec : ChangeSpec := { name := "fnWithMember", fn := fun _ => fun
  | [d] => { results := [.lit (.bool true)], args := [d] }
  | _ => none }
def fnWithMemberRow : OpenClaim := { program := "ytbfndjfjkkfaeaa", sum := "322bb951464f36aa5184d925aaf737bc3af97252d515c5808f4e6628e01d9c54", func := "loop.example/rangechains/laws.FnWithMember", spec := "fnWithMember", recurses := true, apart := false }
def FnWithMemberSaid : Prop := fnWithMemberRow.holds Try.pinned (OpenSpec.ofChange fnWithMemberSpec)

/-- ITS FALSE NEIGHBOUR: 'it returns false'. Refute it at one input. -/
def fnWithMemberWrong : ChangeSpec := { name := "fnWithMember", fn := fun _ => fun
  | [d] => { results := [.lit (.bool false)], args := [d] }
  | _ => none }
def FnWithMemberWrongFalsely : Prop := fnWithMemberRow.holds Try.pinned (OpenSpec.ofChange fnWithMemberWrong)

/-- 'laws.FnMessageValid': WHATEVER THE INPUT: true; the input reads as it did. -/
def fnMessageValidSpec : ChangeSpec := { name := "fnMessageValid", fn := fun _ => fun
  | [d] => { results := [.lit (.bool true)], args := [d] }
  | _ => none }
def fnMessageValidRow : OpenClaim := { program := "ytbfndjfjkkfaeaa", sum := "322bb951464f36aa5184d925aaf737bc3af97252d515c5808f4e6628e01d9c54", func := "loop.example/rangechains/laws.FnMessageValid", spec := "fnMessageValid", recurses := true, apart := false }
def FnMessageValidSaid : Prop := fnMessageValidRow.holds Try.pinned (OpenSpec.ofChange fnMessageValidSpec)

/-- ITS FALSE NEIGHBOUR: 'it returns false'. Refute it at one input. -/
def fnMessageValidWrong : ChangeSpec := { name := "fnMessageValid", fn := fun _ => fun
  | [d] => { results := [.lit (.bool false)], args := [d] }
  | _ => none }
def FnMessageValidWrongFalsely : Prop := fnMessageValidRow.holds Try.pinned (OpenSpec.ofChange fnMessageValidWrong)

/-- 'laws.FnExactBagValid': WHATEVER THE INPUT: true; the input reads as it did. -/
def fnExactBagValidSpec : ChangeSpec := { name := "fnExactBagValid", fn := fun _ => fun
  | [d] => { results := [.lit (.bool true)], args := [d] }
  | _ => none }
def fnExactBagValidRow : OpenClaim := { program := "ytbfndjfjkkfaeaa", sum := "322bb951464f36aa5184d925aaf737bc3af97252d515c5808f4e6628e01d9c54", func := "loop.example/rangechains/laws.FnExactBagValid", spec := "fnExactBagValid", recurses := true, apart := false }
def FnExactBagValidSaid : Prop := fnExactBagValidRow.holds Try.pinned (OpenSpec.ofChange fnExactBagValidSpec)

/-- ITS FALSE NEIGHBOUR: 'it returns false'. Refute it at one input. -/
def fnExactBagValidWrong : ChangeSpec := { name := "fnExactBagValid", fn := fun _ => fun
  | [d] => { results := [.lit (.bool false)], args := [d] }
  | _ => none }
def FnExactBagValidWrongFalsely : Prop := fnExactBagValidRow.holds Try.pinned (OpenSpec.ofChange fnExactBagValidWrong)

/-- 'laws.FnIsTail': WHATEVER THE INPUT: true; the input reads as it did. -/
def fnIsTailSpec : ChangeSpec := { name := "fnIsTail", fn := fun _ => fun
  | [d] => { results := [.lit (.bool true)], args := [d] }
  | _ => none }
def fnIsTailRow : OpenClaim := { program := "ytbfndjfjkkfaeaa", sum := "322bb951464f36aa5184d925aaf737bc3af97252d515c5808f4e6628e01d9c54", func := "loop.example/rangechains/laws.FnIsTail", spec := "fnIsTail", recurses := true, apart := false }
def FnIsTailSaid : Prop := fnIsTailRow.holds Try.pinned (OpenSpec.ofChange fnIsTailSpec)

/-- ITS FALSE NEIGHBOUR: 'it returns false'. Refute it at one input. -/
def fnIsTailWrong : ChangeSpec := { name := "fnIsTail", fn := fun _ => fun
  | [d] => { results := [.lit (.bool false)], args := [d] }
  | _ => none }
def FnIsTailWrongFalsely : Prop := fnIsTailRow.holds Try.pinned (OpenSpec.ofChange fnIsTailWrong)

/-- 'laws.FnExactRecoverLog': WHATEVER THE INPUT: true; the input reads as it did. -/
def fnExactRecoverLogSpec : ChangeSpec := { name := "fnExactRecoverLog", fn := fun _ => fun
  | [d] => { results := [.lit (.bool true)], args := [d] }
  | _ => none }
def fnExactRecoverLogRow : OpenClaim := { program := "ytbfndjfjkkfaeaa", sum := "322bb951464f36aa5184d925aaf737bc3af97252d515c5808f4e6628e01d9c54", func := "loop.example/rangechains/laws.FnExactRecoverLog", spec := "fnExactRecoverLog", recurses := true, apart := false }
def FnExactRecoverLogSaid : Prop := fnExactRecoverLogRow.holds Try.pinned (OpenSpec.ofChange fnExactRecoverLogSpec)

/-- ITS FALSE NEIGHBOUR: 'it returns false'. Refute it at one input. -/
def fnExactRecoverLogWrong : ChangeSpec := { name := "fnExactRecoverLog", fn := fun _ => fun
  | [d] => { results := [.lit (.bool false)], args := [d] }
  | _ => none }
def FnExactRecoverLogWrongFalsely : Prop := fnExactRecoverLogRow.holds Try.pinned (OpenSpec.ofChange fnExactRecoverLogWrong)

/-- 'laws.FnCopyTarget': WHATEVER THE INPUT: true; the input reads as it did. -/
def fnCopyTargetSpec : ChangeSpec := { name := "fnCopyTarget", fn := fun _ => fun
  | [d] => { results := [.lit (.bool true)], args := [d] }
  | _ => none }
def fnCopyTargetRow : OpenClaim := { program := "ytbfndjfjkkfaeaa", sum := "322bb951464f36aa5184d925aaf737bc3af97252d515c5808f4e6628e01d9c54", func := "loop.example/rangechains/laws.FnCopyTarget", spec := "fnCopyTarget", recurses := true, apart := false }
def FnCopyTargetSaid : Prop := fnCopyTargetRow.holds Try.pinned (OpenSpec.ofChange fnCopyTargetSpec)

/-- ITS FALSE NEIGHBOUR: 'it returns false'. Refute it at one input. -/
def fnCopyTargetWrong : ChangeSpec := { name := "fnCopyTarget", fn := fun _ => fun
  | [d] => { results := [.lit (.bool false)], args := [d] }
  | _ => none }
def FnCopyTargetWrongFalsely : Prop := fnCopyTargetRow.holds Try.pinned (OpenSpec.ofChange fnCopyTargetWrong)

/-- 'laws.FnBagValid': WHATEVER THE INPUT: true; the input reads as it did. -/
def fnBagValidSpec : ChangeSpec := { name := "fnBagValid", fn := fun _ => fun
  | [d] => { results := [.lit (.bool true)], args := [d] }
  | _ => none }
def fnBagValidRow : OpenClaim := { program := "ytbfndjfjkkfaeaa", sum := "322bb951464f36aa5184d925aaf737bc3af97252d515c5808f4e6628e01d9c54", func := "loop.example/rangechains/laws.FnBagValid", spec := "fnBagValid", recurses := true, apart := false }
def FnBagValidSaid : Prop := fnBagValidRow.holds Try.pinned (OpenSpec.ofChange fnBagValidSpec)

/-- ITS FALSE NEIGHBOUR: 'it returns false'. Refute it at one input. -/
def fnBagValidWrong : ChangeSpec := { name := "fnBagValid", fn := fun _ => fun
  | [d] => { results := [.lit (.bool false)], args := [d] }
  | _ => none }
def FnBagValidWrongFalsely : Prop := fnBagValidRow.holds Try.pinned (OpenSpec.ofChange fnBagValidWrong)

/-- 'laws.FnCheckpointValid': WHATEVER THE INPUT: true; the input reads as it did. -/
def fnCheckpointValidSpec : ChangeSpec := { name := "fnCheckpointValid", fn := fun _ => fun
  | [d] => { results := [.lit (.bool true)], args := [d] }
  | _ => none }
def fnCheckpointValidRow : OpenClaim := { program := "ytbfndjfjkkfaeaa", sum := "322bb951464f36aa5184d925aaf737bc3af97252d515c5808f4e6628e01d9c54", func := "loop.example/rangechains/laws.FnCheckpointValid", spec := "fnCheckpointValid", recurses := true, apart := false }
def FnCheckpointValidSaid : Prop := fnCheckpointValidRow.holds Try.pinned (OpenSpec.ofChange fnCheckpointValidSpec)

/-- ITS FALSE NEIGHBOUR: 'it returns false'. Refute it at one input. -/
def fnCheckpointValidWrong : ChangeSpec := { name := "fnCheckpointValid", fn := fun _ => fun
  | [d] => { results := [.lit (.bool false)], args := [d] }
  | _ => none }
def FnCheckpointValidWrongFalsely : Prop := fnCheckpointValidRow.holds Try.pinned (OpenSpec.ofChange fnCheckpointValidWrong)

/-- 'laws.FnDiskAppend': WHATEVER THE INPUT: true; the input reads as it did. -/
def fnDiskAppendSpec : ChangeSpec := { name := "fnDiskAppend", fn := fun _ => fun
  | [d] => { results := [.lit (.bool true)], args := [d] }
  | _ => none }
def fnDiskAppendRow : OpenClaim := { program := "ytbfndjfjkkfaeaa", sum := "322bb951464f36aa5184d925aaf737bc3af97252d515c5808f4e6628e01d9c54", func := "loop.example/rangechains/laws.FnDiskAppend", spec := "fnDiskAppend", recurses := true, apart := false }
def FnDiskAppendSaid : Prop := fnDiskAppendRow.holds Try.pinned (OpenSpec.ofChange fnDiskAppendSpec)

/-- ITS FALSE NEIGHBOUR: 'it returns false'. Refute it at one input. -/
def fnDiskAppendWrong : ChangeSpec := { name := "fnDiskAppend", fn := fun _ => fun
  | [d] => { results := [.lit (.bool false)], args := [d] }
  | _ => none }
def FnDiskAppendWrongFalsely : Prop := fnDiskAppendRow.holds Try.pinned (OpenSpec.ofChange fnDiskAppendWrong)

/-- 'laws.FnTakeCopy': WHATEVER THE INPUT: true; the input reads as it did. -/
def fnTakeCopySpec : ChangeSpec := { name := "fnTakeCopy", fn := fun _ => fun
  | [d] => { results := [.lit (.bool true)], args := [d] }
  | _ => none }
def fnTakeCopyRow : OpenClaim := { program := "ytbfndjfjkkfaeaa", sum := "322bb951464f36aa5184d925aaf737bc3af97252d515c5808f4e6628e01d9c54", func := "loop.example/rangechains/laws.FnTakeCopy", spec := "fnTakeCopy", recurses := true, apart := false }
def FnTakeCopySaid : Prop := fnTakeCopyRow.holds Try.pinned (OpenSpec.ofChange fnTakeCopySpec)

/-- ITS FALSE NEIGHBOUR: 'it returns false'. Refute it at one input. -/
def fnTakeCopyWrong : ChangeSpec := { name := "fnTakeCopy", fn := fun _ => fun
  | [d] => { results := [.lit (.bool false)], args := [d] }
  | _ => none }
def FnTakeCopyWrongFalsely : Prop := fnTakeCopyRow.holds Try.pinned (OpenSpec.ofChange fnTakeCopyWrong)

/-- 'laws.FnSubmitEntry': WHATEVER THE INPUT: true; the input reads as it did. -/
def fnSubmitEntrySpec : ChangeSpec := { name := "fnSubmitEntry", fn := fun _ => fun
  | [d] => { results := [.lit (.bool true)], args := [d] }
  | _ => none }
def fnSubmitEntryRow : OpenClaim := { program := "ytbfndjfjkkfaeaa", sum := "322bb951464f36aa5184d925aaf737bc3af97252d515c5808f4e6628e01d9c54", func := "loop.example/rangechains/laws.FnSubmitEntry", spec := "fnSubmitEntry", recurses := true, apart := false }
def FnSubmitEntrySaid : Prop := fnSubmitEntryRow.holds Try.pinned (OpenSpec.ofChange fnSubmitEntrySpec)

/-- ITS FALSE NEIGHBOUR: 'it returns false'. Refute it at one input. -/
def fnSubmitEntryWrong : ChangeSpec := { name := "fnSubmitEntry", fn := fun _ => fun
  | [d] => { results := [.lit (.bool false)], args := [d] }
  | _ => none }
def FnSubmitEntryWrongFalsely : Prop := fnSubmitEntryRow.holds Try.pinned (OpenSpec.ofChange fnSubmitEntryWrong)

/-- 'laws.FnExactSubmitEntry': WHATEVER THE INPUT: true; the input reads as it did. -/
def fnExactSubmitEntrySpec : ChangeSpec := { name := "fnExactSubmitEntry", fn := fun _ => fun
  | [d1, d2, d3] => { results := [.lit (.bool true)], args := [d1, d2, d3] }
  | _ => none }
def fnExactSubmitEntryRow : OpenClaim := { program := "ytbfndjfjkkfaeaa", sum := "322bb951464f36aa5184d925aaf737bc3af97252d515c5808f4e6628e01d9c54", func := "loop.example/rangechains/laws.FnExactSubmitEntry", spec := "fnExactSubmitEntry", recurses := true, apart := false }
def FnExactSubmitEntrySaid : Prop := fnExactSubmitEntryRow.holds Try.pinned (OpenSpec.ofChange fnExactSubmitEntrySpec)

/-- ITS FALSE NEIGHBOUR: 'it returns false'. Refute it at one input. -/
def fnExactSubmitEntryWrong : ChangeSpec := { name := "fnExactSubmitEntry", fn := fun _ => fun
  | [d1, d2, d3] => { results := [.lit (.bool false)], args := [d1, d2, d3] }
  | _ => none }
def FnExactSubmitEntryWrongFalsely : Prop := fnExactSubmitEntryRow.holds Try.pinned (OpenSpec.ofChange fnExactSubmitEntryWrong)

/- THE SECOND FORM. 'bulk': how many values and letters a reading holds, each counted each time it is reached (what is shared counts as often as it is met; a slice's spare places count too). A statement '..UptoSaid' is the law's where the arguments, and the package variables that the reading takes, are together of bulk at most 1048576: NARROWER than '..Said'. Prove '..Said' where nothing that the law and all that it calls make is longer than what came in: it says more and counts as full. Else prove '..UptoSaid'. A law counts once. -/
mutual
def uptoBulk {H : Type} : DataW H → Nat
  | .lit (.string bytes) => bytes.length + 1
  | .lit _ => 1
  | .nil => 1
  | .ptr d => uptoBulk d + 1
  | .slice elems spare => uptoBulkAll elems + uptoBulkAll spare + 1
  | .agg parts => uptoBulkAll parts + 1
  | .iface _ d => uptoBulk d + 1
  | .map entries => uptoBulkEntries entries + 1
  | .held _ => 1
def uptoBulkAll {H : Type} : List (DataW H) → Nat
  | [] => 0
  | d :: r => uptoBulk d + uptoBulkAll r
def uptoBulkEntries {H : Type} : List (Lit × DataW H) → Nat
  | [] => 0
  | x :: r => uptoBulkEntry x + uptoBulkEntries r
def uptoBulkEntry {H : Type} : Lit × DataW H → Nat
  | (.string bytes, d) => bytes.length + uptoBulk d + 1
  | (_, d) => uptoBulk d + 1
 end
def uptoSmall : (H : Type) → List (DataW H) → Bool := fun _ ds => decide (uptoBulkAll ds ≤ 1048576)
def OpenSpec.upto (s : _root_.Go.ChangeSpec) : _root_.Go.OpenSpec := { _root_.Go.OpenSpec.ofChange s with cond := some uptoSmall }

/-- 'laws.FnWithMember', WHERE WHAT IT READS IS OF BULK AT MOST 1048576: true; the input reads as it did. -/
def fnWithMemberUptoRow : OpenClaim := { program := "ytbfndjfjkkfaeaa", sum := "322bb951464f36aa5184d925aaf737bc3af97252d515c5808f4e6628e01d9c54", func := "loop.example/rangechains/laws.FnWithMember", spec := "fnWithMember", recurses := true, apart := false, narrowed := true }
def FnWithMemberUptoSaid : Prop := fnWithMemberUptoRow.holds Try.pinned (OpenSpec.upto fnWithMemberSpec)

/-- 'laws.FnMessageValid', WHERE WHAT IT READS IS OF BULK AT MOST 1048576: true; the input reads as it did. -/
def fnMessageValidUptoRow : OpenClaim := { program := "ytbfndjfjkkfaeaa", sum := "322bb951464f36aa5184d925aaf737bc3af97252d515c5808f4e6628e01d9c54", func := "loop.example/rangechains/laws.FnMessageValid", spec := "fnMessageValid", recurses := true, apart := false, narrowed := true }
def FnMessageValidUptoSaid : Prop := fnMessageValidUptoRow.holds Try.pinned (OpenSpec.upto fnMessageValidSpec)

/-- 'laws.FnExactBagValid', WHERE WHAT IT READS IS OF BULK AT MOST 1048576: true; the input reads as it did. -/
def fnExactBagValidUptoRow : OpenClaim := { program := "ytbfndjfjkkfaeaa", sum := "322bb951464f36aa5184d925aaf737bc3af97252d515c5808f4e6628e01d9c54", func := "loop.example/rangechains/laws.FnExactBagValid", spec := "fnExactBagValid", recurses := true, apart := false, narrowed := true }
def FnExactBagValidUptoSaid : Prop := fnExactBagValidUptoRow.holds Try.pinned (OpenSpec.upto fnExactBagValidSpec)

/-- 'laws.FnIsTail', WHERE WHAT IT READS IS OF BULK AT MOST 1048576: true; the input reads as it did. -/
def fnIsTailUptoRow : OpenClaim := { program := "ytbfndjfjkkfaeaa", sum := "322bb951464f36aa5184d925aaf737bc3af97252d515c5808f4e6628e01d9c54", func := "loop.example/rangechains/laws.FnIsTail", spec := "fnIsTail", recurses := true, apart := false, narrowed := true }
def FnIsTailUptoSaid : Prop := fnIsTailUptoRow.holds Try.pinned (OpenSpec.upto fnIsTailSpec)

/-- 'laws.FnExactRecoverLog', WHERE WHAT IT READS IS OF BULK AT MOST 1048576: true; the input reads as it did. -/
def fnExactRecoverLogUptoRow : OpenClaim := { program := "ytbfndjfjkkfaeaa", sum := "322bb951464f36aa5184d925aaf737bc3af97252d515c5808f4e6628e01d9c54", func := "loop.example/rangechains/laws.FnExactRecoverLog", spec := "fnExactRecoverLog", recurses := true, apart := false, narrowed := true }
def FnExactRecoverLogUptoSaid : Prop := fnExactRecoverLogUptoRow.holds Try.pinned (OpenSpec.upto fnExactRecoverLogSpec)

/-- 'laws.FnCopyTarget', WHERE WHAT IT READS IS OF BULK AT MOST 1048576: true; the input reads as it did. -/
def fnCopyTargetUptoRow : OpenClaim := { program := "ytbfndjfjkkfaeaa", sum := "322bb951464f36aa5184d925aaf737bc3af97252d515c5808f4e6628e01d9c54", func := "loop.example/rangechains/laws.FnCopyTarget", spec := "fnCopyTarget", recurses := true, apart := false, narrowed := true }
def FnCopyTargetUptoSaid : Prop := fnCopyTargetUptoRow.holds Try.pinned (OpenSpec.upto fnCopyTargetSpec)

/-- 'laws.FnBagValid', WHERE WHAT IT READS IS OF BULK AT MOST 1048576: true; the input reads as it did. -/
def fnBagValidUptoRow : OpenClaim := { program := "ytbfndjfjkkfaeaa", sum := "322bb951464f36aa5184d925aaf737bc3af97252d515c5808f4e6628e01d9c54", func := "loop.example/rangechains/laws.FnBagValid", spec := "fnBagValid", recurses := true, apart := false, narrowed := true }
def FnBagValidUptoSaid : Prop := fnBagValidUptoRow.holds Try.pinned (OpenSpec.upto fnBagValidSpec)

/-- 'laws.FnCheckpointValid', WHERE WHAT IT READS IS OF BULK AT MOST 1048576: true; the input reads as it did. -/
def fnCheckpointValidUptoRow : OpenClaim := { program := "ytbfndjfjkkfaeaa", sum := "322bb951464f36aa5184d925aaf737bc3af97252d515c5808f4e6628e01d9c54", func := "loop.example/rangechains/laws.FnCheckpointValid", spec := "fnCheckpointValid", recurses := true, apart := false, narrowed := true }
def FnCheckpointValidUptoSaid : Prop := fnCheckpointValidUptoRow.holds Try.pinned (OpenSpec.upto fnCheckpointValidSpec)

/-- 'laws.FnDiskAppend', WHERE WHAT IT READS IS OF BULK AT MOST 1048576: true; the input reads as it did. -/
def fnDiskAppendUptoRow : OpenClaim := { program := "ytbfndjfjkkfaeaa", sum := "322bb951464f36aa5184d925aaf737bc3af97252d515c5808f4e6628e01d9c54", func := "loop.example/rangechains/laws.FnDiskAppend", spec := "fnDiskAppend", recurses := true, apart := false, narrowed := true }
def FnDiskAppendUptoSaid : Prop := fnDiskAppendUptoRow.holds Try.pinned (OpenSpec.upto fnDiskAppendSpec)

/-- 'laws.FnTakeCopy', WHERE WHAT IT READS IS OF BULK AT MOST 1048576: true; the input reads as it did. -/
def fnTakeCopyUptoRow : OpenClaim := { program := "ytbfndjfjkkfaeaa", sum := "322bb951464f36aa5184d925aaf737bc3af97252d515c5808f4e6628e01d9c54", func := "loop.example/rangechains/laws.FnTakeCopy", spec := "fnTakeCopy", recurses := true, apart := false, narrowed := true }
def FnTakeCopyUptoSaid : Prop := fnTakeCopyUptoRow.holds Try.pinned (OpenSpec.upto fnTakeCopySpec)

/-- 'laws.FnSubmitEntry', WHERE WHAT IT READS IS OF BULK AT MOST 1048576: true; the input reads as it did. -/
def fnSubmitEntryUptoRow : OpenClaim := { program := "ytbfndjfjkkfaeaa", sum := "322bb951464f36aa5184d925aaf737bc3af97252d515c5808f4e6628e01d9c54", func := "loop.example/rangechains/laws.FnSubmitEntry", spec := "fnSubmitEntry", recurses := true, apart := false, narrowed := true }
def FnSubmitEntryUptoSaid : Prop := fnSubmitEntryUptoRow.holds Try.pinned (OpenSpec.upto fnSubmitEntrySpec)

/-- 'laws.FnExactSubmitEntry', WHERE WHAT IT READS IS OF BULK AT MOST 1048576: true; the input reads as it did. -/
def fnExactSubmitEntryUptoRow : OpenClaim := { program := "ytbfndjfjkkfaeaa", sum := "322bb951464f36aa5184d925aaf737bc3af97252d515c5808f4e6628e01d9c54", func := "loop.example/rangechains/laws.FnExactSubmitEntry", spec := "fnExactSubmitEntry", recurses := true, apart := false, narrowed := true }
def FnExactSubmitEntryUptoSaid : Prop := fnExactSubmitEntryUptoRow.holds Try.pinned (OpenSpec.upto fnExactSubmitEntrySpec)

end Rows
end Go.Proofs.Ytbfndjfjkkfaeaa
