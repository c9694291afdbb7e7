/-
  No cell of these rows narrows 'for every input' (looked for: loops, veiled, ifaces, maps, wideKeys, modest, calm, conditions, laid).
  DERIVED. THE GIVEN ROWS OF THIS SEAT. 12 by the template 'for every input the law returns true; each argument reads behind the call as it read before'; 0 by the template 'total and deterministic' (their statements: YtjbhkegaabkhgaaTotals.lean).
  GIVEN WITH THE SEED: the statements are not yours to turn. If you find one false, say at which input.
  Laid BY PROGRAM, IN A SANDBOX (cutbox-rows.mjs): the forced cells as the released guide's own fill.sh prints them over the translation 4a4d99b65927f0b4… (all of the seat's roots in one cut). By AI agents, Wed Nov 11 2026. No macro, syntax, notation, axiom, sorry.
-/
import Derived.Test.YtjbhkegaabkhgaaChecked
import GoSem.Claim
import GoSem.ClaimJoined
import GoSem.ClaimMapViews
import Derived.JoinedTies
import Derived.KernelRfl
namespace Go.Proofs.Ytjbhkegaabkhgaa
/- THE CELL 'sum', in the pinned program and in every row, IS THE sha256 OF THE DUMP (.gsa) THAT YtjbhkegaabkhgaaProg.lean LOADS. Nothing in Lean hashes anything: it is a label: what it is worth is what the hold of that sum in a sandbox is worth. -/
noncomputable def Try.pinned : Pinned := { name := "ytjbhkegaabkhgaa", sum := "4a4d99b65927f0b45f5edc21a23b063c6e0425acf4706108261d794a82aebc41", checked := Try.checked }
namespace Rows
def none {H : Type} : Left H := { results := [], args := [] }

/-- 'laws.FnExactDiskSync': WHATEVER THE INPUT: true; the input reads as it did. -/
def fnExactDiskSyncSpec : ChangeSpec := { name := "fnExactDiskSync", fn := fun _ => fun
  | [d] => { results := [.lit (.bool true)], args := [d] }
  | _ => none }
def fnExactDiskSyncRow : OpenClaim := { program := "ytjbhkegaabkhgaa", sum := "4a4d99b65927f0b45f5edc21a23b063c6e0425acf4706108261d794a82aebc41", func := "loop.example/rangechains/laws.FnExactDiskSync", spec := "fnExactDiskSync", apart := false }
def FnExactDiskSyncSaid : Prop := fnExactDiskSyncRow.holds Try.pinned (OpenSpec.ofChange fnExactDiskSyncSpec)

/-- ITS FALSE NEIGHBOUR: 'it returns false'. Refute it at one input. -/
def fnExactDiskSyncWrong : ChangeSpec := { name := "fnExactDiskSync", fn := fun _ => fun
  | [d] => { results := [.lit (.bool false)], args := [d] }
  | _ => none }
def FnExactDiskSyncWrongFalsely : Prop := fnExactDiskSyncRow.holds Try.pinned (OpenSpec.ofChange fnExactDiskSyncWrong)

/-- 'laws.FnExactDiskCrash': WHATEVER THE INPUT: true; the input reads as it did. -/
def fnExactDiskCrashSpec : ChangeSpec := { name := "fnExactDiskCrash", fn := fun _ => fun
  | [d1, d2, d3] => { results := [.lit (.bool true)], args := [d1, d2, d3] }
  | _ => none }
def fnExactDiskCrashRow : OpenClaim := { program := "ytjbhkegaabkhgaa", sum := "4a4d99b65927f0b45f5edc21a23b063c6e0425acf4706108261d794a82aebc41", func := "loop.example/rangechains/laws.FnExactDiskCrash", spec := "fnExactDiskCrash", apart := false }
def FnExactDiskCrashSaid : Prop := fnExactDiskCrashRow.holds Try.pinned (OpenSpec.ofChange fnExactDiskCrashSpec)

/-- ITS FALSE NEIGHBOUR: 'it returns false'. Refute it at one input. -/
def fnExactDiskCrashWrong : ChangeSpec := { name := "fnExactDiskCrash", fn := fun _ => fun
  | [d1, d2, d3] => { results := [.lit (.bool false)], args := [d1, d2, d3] }
  | _ => none }
def FnExactDiskCrashWrongFalsely : Prop := fnExactDiskCrashRow.holds Try.pinned (OpenSpec.ofChange fnExactDiskCrashWrong)

/-- 'laws.FnExactDiskAppend': WHATEVER THE INPUT: true; the input reads as it did. -/
def fnExactDiskAppendSpec : ChangeSpec := { name := "fnExactDiskAppend", fn := fun _ => fun
  | [d1, d2] => { results := [.lit (.bool true)], args := [d1, d2] }
  | _ => none }
def fnExactDiskAppendRow : OpenClaim := { program := "ytjbhkegaabkhgaa", sum := "4a4d99b65927f0b45f5edc21a23b063c6e0425acf4706108261d794a82aebc41", func := "loop.example/rangechains/laws.FnExactDiskAppend", spec := "fnExactDiskAppend", apart := false }
def FnExactDiskAppendSaid : Prop := fnExactDiskAppendRow.holds Try.pinned (OpenSpec.ofChange fnExactDiskAppendSpec)

/-- ITS FALSE NEIGHBOUR: 'it returns false'. Refute it at one input. -/
def fnExactDiskAppendWrong : ChangeSpec := { name := "fnExactDiskAppend", fn := fun _ => fun
  | [d1, d2] => { results := [.lit (.bool false)], args := [d1, d2] }
  | _ => none }
def FnExactDiskAppendWrongFalsely : Prop := fnExactDiskAppendRow.holds Try.pinned (OpenSpec.ofChange fnExactDiskAppendWrong)

/-- 'laws.FnExactReplicaValid': WHATEVER THE INPUT: true; the input reads as it did. -/
def fnExactReplicaValidSpec : ChangeSpec := { name := "fnExactReplicaValid", fn := fun _ => fun
  | [d] => { results := [.lit (.bool true)], args := [d] }
  | _ => none }
def fnExactReplicaValidRow : OpenClaim := { program := "ytjbhkegaabkhgaa", sum := "4a4d99b65927f0b45f5edc21a23b063c6e0425acf4706108261d794a82aebc41", func := "loop.example/rangechains/laws.FnExactReplicaValid", spec := "fnExactReplicaValid", recurses := true, apart := false }
def FnExactReplicaValidSaid : Prop := fnExactReplicaValidRow.holds Try.pinned (OpenSpec.ofChange fnExactReplicaValidSpec)

/-- ITS FALSE NEIGHBOUR: 'it returns false'. Refute it at one input. -/
def fnExactReplicaValidWrong : ChangeSpec := { name := "fnExactReplicaValid", fn := fun _ => fun
  | [d] => { results := [.lit (.bool false)], args := [d] }
  | _ => none }
def FnExactReplicaValidWrongFalsely : Prop := fnExactReplicaValidRow.holds Try.pinned (OpenSpec.ofChange fnExactReplicaValidWrong)

/-- 'laws.FnDiskValid': WHATEVER THE INPUT: true; the input reads as it did. -/
def fnDiskValidSpec : ChangeSpec := { name := "fnDiskValid", fn := fun _ => fun
  | [d] => { results := [.lit (.bool true)], args := [d] }
  | _ => none }
def fnDiskValidRow : OpenClaim := { program := "ytjbhkegaabkhgaa", sum := "4a4d99b65927f0b45f5edc21a23b063c6e0425acf4706108261d794a82aebc41", func := "loop.example/rangechains/laws.FnDiskValid", spec := "fnDiskValid", recurses := true, apart := false }
def FnDiskValidSaid : Prop := fnDiskValidRow.holds Try.pinned (OpenSpec.ofChange fnDiskValidSpec)

/-- ITS FALSE NEIGHBOUR: 'it returns false'. Refute it at one input. -/
def fnDiskValidWrong : ChangeSpec := { name := "fnDiskValid", fn := fun _ => fun
  | [d] => { results := [.lit (.bool false)], args := [d] }
  | _ => none }
def FnDiskValidWrongFalsely : Prop := fnDiskValidRow.holds Try.pinned (OpenSpec.ofChange fnDiskValidWrong)

/-- 'laws.FnExactIsTail': WHATEVER THE INPUT: true; the input reads as it did. -/
def fnExactIsTailSpec : ChangeSpec := { name := "fnExactIsTail", fn := fun _ => fun
  | [d1, d2] => { results := [.lit (.bool true)], args := [d1, d2] }
  | _ => none }
def fnExactIsTailRow : OpenClaim := { program := "ytjbhkegaabkhgaa", sum := "4a4d99b65927f0b45f5edc21a23b063c6e0425acf4706108261d794a82aebc41", func := "loop.example/rangechains/laws.FnExactIsTail", spec := "fnExactIsTail", recurses := true, apart := false }
def FnExactIsTailSaid : Prop := fnExactIsTailRow.holds Try.pinned (OpenSpec.ofChange fnExactIsTailSpec)

/-- ITS FALSE NEIGHBOUR: 'it returns false'. Refute it at one input. -/
def fnExactIsTailWrong : ChangeSpec := { name := "fnExactIsTail", fn := fun _ => fun
  | [d1, d2] => { results := [.lit (.bool false)], args := [d1, d2] }
  | _ => none }
def FnExactIsTailWrongFalsely : Prop := fnExactIsTailRow.holds Try.pinned (OpenSpec.ofChange fnExactIsTailWrong)

/-- 'laws.FnExactMessageValid': WHATEVER THE INPUT: true; the input reads as it did. -/
def fnExactMessageValidSpec : ChangeSpec := { name := "fnExactMessageValid", fn := fun _ => fun
  | [d] => { results := [.lit (.bool true)], args := [d] }
  | _ => none }
def fnExactMessageValidRow : OpenClaim := { program := "ytjbhkegaabkhgaa", sum := "4a4d99b65927f0b45f5edc21a23b063c6e0425acf4706108261d794a82aebc41", func := "loop.example/rangechains/laws.FnExactMessageValid", spec := "fnExactMessageValid", recurses := true, apart := false }
def FnExactMessageValidSaid : Prop := fnExactMessageValidRow.holds Try.pinned (OpenSpec.ofChange fnExactMessageValidSpec)

/-- ITS FALSE NEIGHBOUR: 'it returns false'. Refute it at one input. -/
def fnExactMessageValidWrong : ChangeSpec := { name := "fnExactMessageValid", fn := fun _ => fun
  | [d] => { results := [.lit (.bool false)], args := [d] }
  | _ => none }
def FnExactMessageValidWrongFalsely : Prop := fnExactMessageValidRow.holds Try.pinned (OpenSpec.ofChange fnExactMessageValidWrong)

/-- 'laws.FnExactCheckpointValid': WHATEVER THE INPUT: true; the input reads as it did. -/
def fnExactCheckpointValidSpec : ChangeSpec := { name := "fnExactCheckpointValid", fn := fun _ => fun
  | [d] => { results := [.lit (.bool true)], args := [d] }
  | _ => none }
def fnExactCheckpointValidRow : OpenClaim := { program := "ytjbhkegaabkhgaa", sum := "4a4d99b65927f0b45f5edc21a23b063c6e0425acf4706108261d794a82aebc41", func := "loop.example/rangechains/laws.FnExactCheckpointValid", spec := "fnExactCheckpointValid", recurses := true, apart := false }
def FnExactCheckpointValidSaid : Prop := fnExactCheckpointValidRow.holds Try.pinned (OpenSpec.ofChange fnExactCheckpointValidSpec)

/-- ITS FALSE NEIGHBOUR: 'it returns false'. Refute it at one input. -/
def fnExactCheckpointValidWrong : ChangeSpec := { name := "fnExactCheckpointValid", fn := fun _ => fun
  | [d] => { results := [.lit (.bool false)], args := [d] }
  | _ => none }
def FnExactCheckpointValidWrongFalsely : Prop := fnExactCheckpointValidRow.holds Try.pinned (OpenSpec.ofChange fnExactCheckpointValidWrong)

/-- 'laws.FnExactCopyTarget': WHATEVER THE INPUT: true; the input reads as it did. -/
def fnExactCopyTargetSpec : ChangeSpec := { name := "fnExactCopyTarget", fn := fun _ => fun
  | [d1, d2] => { results := [.lit (.bool true)], args := [d1, d2] }
  | _ => none }
def fnExactCopyTargetRow : OpenClaim := { program := "ytjbhkegaabkhgaa", sum := "4a4d99b65927f0b45f5edc21a23b063c6e0425acf4706108261d794a82aebc41", func := "loop.example/rangechains/laws.FnExactCopyTarget", spec := "fnExactCopyTarget", recurses := true, apart := false }
def FnExactCopyTargetSaid : Prop := fnExactCopyTargetRow.holds Try.pinned (OpenSpec.ofChange fnExactCopyTargetSpec)

/-- ITS FALSE NEIGHBOUR: 'it returns false'. Refute it at one input. -/
def fnExactCopyTargetWrong : ChangeSpec := { name := "fnExactCopyTarget", fn := fun _ => fun
  | [d1, d2] => { results := [.lit (.bool false)], args := [d1, d2] }
  | _ => none }
def FnExactCopyTargetWrongFalsely : Prop := fnExactCopyTargetRow.holds Try.pinned (OpenSpec.ofChange fnExactCopyTargetWrong)

/-- 'laws.FnReplicaValid': WHATEVER THE INPUT: true; the input reads as it did. -/
def fnReplicaValidSpec : ChangeSpec := { name := "fnReplicaValid", fn := fun _ => fun
  | [d] => { results := [.lit (.bool true)], args := [d] }
  | _ => none }
def fnReplicaValidRow : OpenClaim := { program := "ytjbhkegaabkhgaa", sum := "4a4d99b65927f0b45f5edc21a23b063c6e0425acf4706108261d794a82aebc41", func := "loop.example/rangechains/laws.FnReplicaValid", spec := "fnReplicaValid", recurses := true, apart := false }
def FnReplicaValidSaid : Prop := fnReplicaValidRow.holds Try.pinned (OpenSpec.ofChange fnReplicaValidSpec)

/-- ITS FALSE NEIGHBOUR: 'it returns false'. Refute it at one input. -/
def fnReplicaValidWrong : ChangeSpec := { name := "fnReplicaValid", fn := fun _ => fun
  | [d] => { results := [.lit (.bool false)], args := [d] }
  | _ => none }
def FnReplicaValidWrongFalsely : Prop := fnReplicaValidRow.holds Try.pinned (OpenSpec.ofChange fnReplicaValidWrong)

/-- 'laws.FnDiskSync': WHATEVER THE INPUT: true; the input reads as it did. -/
def fnDiskSyncSpec : ChangeSpec := { name := "fnDiskSync", fn := fun _ => fun
  | [d] => { results := [.lit (.bool true)], args := [d] }
  | _ => none }
def fnDiskSyncRow : OpenClaim := { program := "ytjbhkegaabkhgaa", sum := "4a4d99b65927f0b45f5edc21a23b063c6e0425acf4706108261d794a82aebc41", func := "loop.example/rangechains/laws.FnDiskSync", spec := "fnDiskSync", recurses := true, apart := false }
def FnDiskSyncSaid : Prop := fnDiskSyncRow.holds Try.pinned (OpenSpec.ofChange fnDiskSyncSpec)

/-- ITS FALSE NEIGHBOUR: 'it returns false'. Refute it at one input. -/
def fnDiskSyncWrong : ChangeSpec := { name := "fnDiskSync", fn := fun _ => fun
  | [d] => { results := [.lit (.bool false)], args := [d] }
  | _ => none }
def FnDiskSyncWrongFalsely : Prop := fnDiskSyncRow.holds Try.pinned (OpenSpec.ofChange fnDiskSyncWrong)

/-- 'laws.FnExactLogBytes': WHATEVER THE INPUT: true; the input reads as it did. -/
def fnExactLogBytesSpec : ChangeSpec := { name := "fnExactLogBytes", fn := fun _ => fun
  | [d] => { results := [.lit (.bool true)], args := [d] }
  | _ => none }
def fnExactLogBytesRow : OpenClaim := { program := "ytjbhkegaabkhgaa", sum := "4a4d99b65927f0b45f5edc21a23b063c6e0425acf4706108261d794a82aebc41", func := "loop.example/rangechains/laws.FnExactLogBytes", spec := "fnExactLogBytes", recurses := true, apart := false }
def FnExactLogBytesSaid : Prop := fnExactLogBytesRow.holds Try.pinned (OpenSpec.ofChange fnExactLogBytesSpec)

/-- ITS FALSE NEIGHBOUR: 'it returns false'. Refute it at one input. -/
def fnExactLogBytesWrong : ChangeSpec := { name := "fnExactLogBytes", fn := fun _ => fun
  | [d] => { results := [.lit (.bool false)], args := [d] }
  | _ => none }
def FnExactLogBytesWrongFalsely : Prop := fnExactLogBytesRow.holds Try.pinned (OpenSpec.ofChange fnExactLogBytesWrong)

/- THE SECOND FORM. 'bulk': how many values and letters a reading holds, each counted each time it is reached (what is shared counts as often as it is met; a slice's spare places count too). A statement '..UptoSaid' is the law's where the arguments, and the package variables that the reading takes, are together of bulk at most 1048576: NARROWER than '..Said'. Prove '..Said' where nothing that the law and all that it calls make is longer than what came in: it says more and counts as full. Else prove '..UptoSaid'. A law counts once. -/
mutual
def uptoBulk {H : Type} : DataW H → Nat
  | .lit (.string bytes) => bytes.length + 1
  | .lit _ => 1
  | .nil => 1
  | .ptr d => uptoBulk d + 1
  | .slice elems spare => uptoBulkAll elems + uptoBulkAll spare + 1
  | .agg parts => uptoBulkAll parts + 1
  | .iface _ d => uptoBulk d + 1
  | .map entries => uptoBulkEntries entries + 1
  | .held _ => 1
def uptoBulkAll {H : Type} : List (DataW H) → Nat
  | [] => 0
  | d :: r => uptoBulk d + uptoBulkAll r
def uptoBulkEntries {H : Type} : List (Lit × DataW H) → Nat
  | [] => 0
  | x :: r => uptoBulkEntry x + uptoBulkEntries r
def uptoBulkEntry {H : Type} : Lit × DataW H → Nat
  | (.string bytes, d) => bytes.length + uptoBulk d + 1
  | (_, d) => uptoBulk d + 1
 end
def uptoSmall : (H : Type) → List (DataW H) → Bool := fun _ ds => decide (uptoBulkAll ds ≤ 1048576)
def OpenSpec.upto (s : _root_.Go.ChangeSpec) : _root_.Go.OpenSpec := { _root_.Go.OpenSpec.ofChange s with cond := some uptoSmall }

/-- 'laws.FnExactDiskSync', WHERE WHAT IT READS IS OF BULK AT MOST 1048576: true; the input reads as it did. -/
def fnExactDiskSyncUptoRow : OpenClaim := { program := "ytjbhkegaabkhgaa", sum := "4a4d99b65927f0b45f5edc21a23b063c6e0425acf4706108261d794a82aebc41", func := "loop.example/rangechains/laws.FnExactDiskSync", spec := "fnExactDiskSync", apart := false, narrowed := true }
def FnExactDiskSyncUptoSaid : Prop := fnExactDiskSyncUptoRow.holds Try.pinned (OpenSpec.upto fnExactDiskSyncSpec)

/-- 'laws.FnExactDiskCrash', WHERE WHAT IT READS IS OF BULK AT MOST 1048576: true; the input reads as it did. -/
def fnExactDiskCrashUptoRow : OpenClaim := { program := "ytjbhkegaabkhgaa", sum := "4a4d99b65927f0b45f5edc21a23b063c6e0425acf4706108261d794a82aebc41", func := "loop.example/rangechains/laws.FnExactDiskCrash", spec := "fnExactDiskCrash", apart := false, narrowed := true }
def FnExactDiskCrashUptoSaid : Prop := fnExactDiskCrashUptoRow.holds Try.pinned (OpenSpec.upto fnExactDiskCrashSpec)

/-- 'laws.FnExactDiskAppend', WHERE WHAT IT READS IS OF BULK AT MOST 1048576: true; the input reads as it did. -/
def fnExactDiskAppendUptoRow : OpenClaim := { program := "ytjbhkegaabkhgaa", sum := "4a4d99b65927f0b45f5edc21a23b063c6e0425acf4706108261d794a82aebc41", func := "loop.example/rangechains/laws.FnExactDiskAppend", spec := "fnExactDiskAppend", apart := false, narrowed := true }
def FnExactDiskAppendUptoSaid : Prop := fnExactDiskAppendUptoRow.holds Try.pinned (OpenSpec.upto fnExactDiskAppendSpec)

/-- 'laws.FnExactReplicaValid', WHERE WHAT IT READS IS OF BULK AT MOST 1048576: true; the input reads as it did. -/
def fnExactReplicaValidUptoRow : OpenClaim := { program := "ytjbhkegaabkhgaa", sum := "4a4d99b65927f0b45f5edc21a23b063c6e0425acf4706108261d794a82aebc41", func := "loop.example/rangechains/laws.FnExactReplicaValid", spec := "fnExactReplicaValid", recurses := true, apart := false, narrowed := true }
def FnExactReplicaValidUptoSaid : Prop := fnExactReplicaValidUptoRow.holds Try.pinned (OpenSpec.upto fnExactReplicaValidSpec)

/-- 'laws.FnDiskValid', WHERE WHAT IT READS IS OF BULK AT MOST 1048576: true; the input reads as it did. -/
def fnDiskValidUptoRow : OpenClaim := { program := "ytjbhkegaabkhgaa", sum := "4a4d99b65927f0b45f5edc21a23b063c6e0425acf4706108261d794a82aebc41", func := "loop.example/rangechains/laws.FnDiskValid", spec := "fnDiskValid", recurses := true, apart := false, narrowed := true }
def FnDiskValidUptoSaid : Prop := fnDiskValidUptoRow.holds Try.pinned (OpenSpec.upto fnDiskValidSpec)

/-- 'laws.FnExactIsTail', WHERE WHAT IT READS IS OF BULK AT MOST 1048576: true; the input reads as it did. -/
def fnExactIsTailUptoRow : OpenClaim := { program := "ytjbhkegaabkhgaa", sum := "4a4d99b65927f0b45f5edc21a23b063c6e0425acf4706108261d794a82aebc41", func := "loop.example/rangechains/laws.FnExactIsTail", spec := "fnExactIsTail", recurses := true, apart := false, narrowed := true }
def FnExactIsTailUptoSaid : Prop := fnExactIsTailUptoRow.holds Try.pinned (OpenSpec.upto fnExactIsTailSpec)

/-- 'laws.FnExactMessageValid', WHERE WHAT IT READS IS OF BULK AT MOST 1048576: true; the input reads as it did. -/
def fnExactMessageValidUptoRow : OpenClaim := { program := "ytjbhkegaabkhgaa", sum := "4a4d99b65927f0b45f5edc21a23b063c6e0425acf4706108261d794a82aebc41", func := "loop.example/rangechains/laws.FnExactMessageValid", spec := "fnExactMessageValid", recurses := true, apart := false, narrowed := true }
def FnExactMessageValidUptoSaid : Prop := fnExactMessageValidUptoRow.holds Try.pinned (OpenSpec.upto fnExactMessageValidSpec)

/-- 'laws.FnExactCheckpointValid', WHERE WHAT IT READS IS OF BULK AT MOST 1048576: true; the input reads as it did. -/
def fnExactCheckpointValidUptoRow : OpenClaim := { program := "ytjbhkegaabkhgaa", sum := "4a4d99b65927f0b45f5edc21a23b063c6e0425acf4706108261d794a82aebc41", func := "loop.example/rangechains/laws.FnExactCheckpointValid", spec := "fnExactCheckpointValid", recurses := true, apart := false, narrowed := true }
def FnExactCheckpointValidUptoSaid : Prop := fnExactCheckpointValidUptoRow.holds Try.pinned (OpenSpec.upto fnExactCheckpointValidSpec)

/-- 'laws.FnExactCopyTarget', WHERE WHAT IT READS IS OF BULK AT MOST 1048576: true; the input reads as it did. -/
def fnExactCopyTargetUptoRow : OpenClaim := { program := "ytjbhkegaabkhgaa", sum := "4a4d99b65927f0b45f5edc21a23b063c6e0425acf4706108261d794a82aebc41", func := "loop.example/rangechains/laws.FnExactCopyTarget", spec := "fnExactCopyTarget", recurses := true, apart := false, narrowed := true }
def FnExactCopyTargetUptoSaid : Prop := fnExactCopyTargetUptoRow.holds Try.pinned (OpenSpec.upto fnExactCopyTargetSpec)

/-- 'laws.FnReplicaValid', WHERE WHAT IT READS IS OF BULK AT MOST 1048576: true; the input reads as it did. -/
def fnReplicaValidUptoRow : OpenClaim := { program := "ytjbhkegaabkhgaa", sum := "4a4d99b65927f0b45f5edc21a23b063c6e0425acf4706108261d794a82aebc41", func := "loop.example/rangechains/laws.FnReplicaValid", spec := "fnReplicaValid", recurses := true, apart := false, narrowed := true }
def FnReplicaValidUptoSaid : Prop := fnReplicaValidUptoRow.holds Try.pinned (OpenSpec.upto fnReplicaValidSpec)

/-- 'laws.FnDiskSync', WHERE WHAT IT READS IS OF BULK AT MOST 1048576: true; the input reads as it did. -/
def fnDiskSyncUptoRow : OpenClaim := { program := "ytjbhkegaabkhgaa", sum := "4a4d99b65927f0b45f5edc21a23b063c6e0425acf4706108261d794a82aebc41", func := "loop.example/rangechains/laws.FnDiskSync", spec := "fnDiskSync", recurses := true, apart := false, narrowed := true }
def FnDiskSyncUptoSaid : Prop := fnDiskSyncUptoRow.holds Try.pinned (OpenSpec.upto fnDiskSyncSpec)

/-- 'laws.FnExactLogBytes', WHERE WHAT IT READS IS OF BULK AT MOST 1048576: true; the input reads as it did. -/
def fnExactLogBytesUptoRow : OpenClaim := { program := "ytjbhkegaabkhgaa", sum := "4a4d99b65927f0b45f5edc21a23b063c6e0425acf4706108261d794a82aebc41", func := "loop.example/rangechains/laws.FnExactLogBytes", spec := "fnExactLogBytes", recurses := true, apart := false, narrowed := true }
def FnExactLogBytesUptoSaid : Prop := fnExactLogBytesUptoRow.holds Try.pinned (OpenSpec.upto fnExactLogBytesSpec)

end Rows
end Go.Proofs.Ytjbhkegaabkhgaa
