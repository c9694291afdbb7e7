/-
  No cell of these rows narrows 'for every input' (looked for: loops, veiled, ifaces, maps, wideKeys, modest, calm, conditions, laid).
  DERIVED. THE GIVEN ROWS OF THIS SEAT. 3 by the template 'for every input the law returns true; each argument reads behind the call as it read before'; 0 by the template 'total and deterministic' (their statements: YtdmlbmedihjdmaaTotals.lean).
  GIVEN WITH THE SEED: the statements are not yours to turn. If you find one false, say at which input.
  Laid BY PROGRAM, IN A SANDBOX (cutbox-rows.mjs): the forced cells as the released guide's own fill.sh prints them over the translation 53c1d132ac5835c0… (all of the seat's roots in one cut). By AI agents, Wed Nov 11 2026. No macro, syntax, notation, axiom, sorry.
-/
import Derived.Test.YtdmlbmedihjdmaaChecked
import GoSem.Claim
import GoSem.ClaimJoined
import GoSem.ClaimMapViews
import Derived.JoinedTies
import Derived.KernelRfl
namespace Go.Proofs.Ytdmlbmedihjdmaa
/- THE CELL 'sum', in the pinned program and in every row, IS THE sha256 OF THE DUMP (.gsa) THAT YtdmlbmedihjdmaaProg.lean LOADS. Nothing in Lean hashes anything: it is a label: what it is worth is what the hold of that sum in a sandbox is worth. -/
noncomputable def Try.pinned : Pinned := { name := "ytdmlbmedihjdmaa", sum := "53c1d132ac5835c0f986d68724c7ff99cc605b393153d89a7bd5f9667b6325f7", checked := Try.checked }
namespace Rows
def none {H : Type} : Left H := { results := [], args := [] }

/-- 'laws.FnTakeCheckpoint': WHATEVER THE INPUT: true; the input reads as it did. -/
def fnTakeCheckpointSpec : ChangeSpec := { name := "fnTakeCheckpoint", fn := fun _ => fun
  | [d] => { results := [.lit (.bool true)], args := [d] }
  | _ => none }
def fnTakeCheckpointRow : OpenClaim := { program := "ytdmlbmedihjdmaa", sum := "53c1d132ac5835c0f986d68724c7ff99cc605b393153d89a7bd5f9667b6325f7", func := "loop.example/rangechains/laws.FnTakeCheckpoint", spec := "fnTakeCheckpoint", unfollowed := true, recurses := true, apart := false }
def FnTakeCheckpointSaid : Prop := fnTakeCheckpointRow.holds Try.pinned (OpenSpec.ofChange fnTakeCheckpointSpec)

/-- ITS FALSE NEIGHBOUR: 'it returns false'. Refute it at one input. -/
def fnTakeCheckpointWrong : ChangeSpec := { name := "fnTakeCheckpoint", fn := fun _ => fun
  | [d] => { results := [.lit (.bool false)], args := [d] }
  | _ => none }
def FnTakeCheckpointWrongFalsely : Prop := fnTakeCheckpointRow.holds Try.pinned (OpenSpec.ofChange fnTakeCheckpointWrong)

/-- 'laws.FnRestoreCheckpoint': WHATEVER THE INPUT: true; the input reads as it did. -/
def fnRestoreCheckpointSpec : ChangeSpec := { name := "fnRestoreCheckpoint", fn := fun _ => fun
  | [d] => { results := [.lit (.bool true)], args := [d] }
  | _ => none }
def fnRestoreCheckpointRow : OpenClaim := { program := "ytdmlbmedihjdmaa", sum := "53c1d132ac5835c0f986d68724c7ff99cc605b393153d89a7bd5f9667b6325f7", func := "loop.example/rangechains/laws.FnRestoreCheckpoint", spec := "fnRestoreCheckpoint", unfollowed := true, recurses := true, apart := false }
def FnRestoreCheckpointSaid : Prop := fnRestoreCheckpointRow.holds Try.pinned (OpenSpec.ofChange fnRestoreCheckpointSpec)

/-- ITS FALSE NEIGHBOUR: 'it returns false'. Refute it at one input. -/
def fnRestoreCheckpointWrong : ChangeSpec := { name := "fnRestoreCheckpoint", fn := fun _ => fun
  | [d] => { results := [.lit (.bool false)], args := [d] }
  | _ => none }
def FnRestoreCheckpointWrongFalsely : Prop := fnRestoreCheckpointRow.holds Try.pinned (OpenSpec.ofChange fnRestoreCheckpointWrong)

/-- 'laws.FnExactTakeCheckpoint': WHATEVER THE INPUT: true; the input reads as it did. -/
def fnExactTakeCheckpointSpec : ChangeSpec := { name := "fnExactTakeCheckpoint", fn := fun _ => fun
  | [d1, d2, d3] => { results := [.lit (.bool true)], args := [d1, d2, d3] }
  | _ => none }
def fnExactTakeCheckpointRow : OpenClaim := { program := "ytdmlbmedihjdmaa", sum := "53c1d132ac5835c0f986d68724c7ff99cc605b393153d89a7bd5f9667b6325f7", func := "loop.example/rangechains/laws.FnExactTakeCheckpoint", spec := "fnExactTakeCheckpoint", unfollowed := true, recurses := true, apart := false }
def FnExactTakeCheckpointSaid : Prop := fnExactTakeCheckpointRow.holds Try.pinned (OpenSpec.ofChange fnExactTakeCheckpointSpec)

/-- ITS FALSE NEIGHBOUR: 'it returns false'. Refute it at one input. -/
def fnExactTakeCheckpointWrong : ChangeSpec := { name := "fnExactTakeCheckpoint", fn := fun _ => fun
  | [d1, d2, d3] => { results := [.lit (.bool false)], args := [d1, d2, d3] }
  | _ => none }
def FnExactTakeCheckpointWrongFalsely : Prop := fnExactTakeCheckpointRow.holds Try.pinned (OpenSpec.ofChange fnExactTakeCheckpointWrong)

/- THE SECOND FORM. 'bulk': how many values and letters a reading holds, each counted each time it is reached (what is shared counts as often as it is met; a slice's spare places count too). A statement '..UptoSaid' is the law's where the arguments, and the package variables that the reading takes, are together of bulk at most 1048576: NARROWER than '..Said'. Prove '..Said' where nothing that the law and all that it calls make is longer than what came in: it says more and counts as full. Else prove '..UptoSaid'. A law counts once. -/
mutual
def uptoBulk {H : Type} : DataW H → Nat
  | .lit (.string bytes) => bytes.length + 1
  | .lit _ => 1
  | .nil => 1
  | .ptr d => uptoBulk d + 1
  | .slice elems spare => uptoBulkAll elems + uptoBulkAll spare + 1
  | .agg parts => uptoBulkAll parts + 1
  | .iface _ d => uptoBulk d + 1
  | .map entries => uptoBulkEntries entries + 1
  | .held _ => 1
def uptoBulkAll {H : Type} : List (DataW H) → Nat
  | [] => 0
  | d :: r => uptoBulk d + uptoBulkAll r
def uptoBulkEntries {H : Type} : List (Lit × DataW H) → Nat
  | [] => 0
  | x :: r => uptoBulkEntry x + uptoBulkEntries r
def uptoBulkEntry {H : Type} : Lit × DataW H → Nat
  | (.string bytes, d) => bytes.length + uptoBulk d + 1
  | (_, d) => uptoBulk d + 1
 end
def uptoSmall : (H : Type) → List (DataW H) → Bool := fun _ ds => decide (uptoBulkAll ds ≤ 1048576)
def OpenSpec.upto (s : _root_.Go.ChangeSpec) : _root_.Go.OpenSpec := { _root_.Go.OpenSpec.ofChange s with cond := some uptoSmall }

/-- 'laws.FnTakeCheckpoint', WHERE WHAT IT READS IS OF BULK AT MOST 1048576: true; the input reads as it did. -/
def fnTakeCheckpointUptoRow : OpenClaim := { program := "ytdmlbmedihjdmaa", sum := "53c1d132ac5835c0f986d68724c7ff99cc605b393153d89a7bd5f9667b6325f7", func := "loop.example/rangechains/laws.FnTakeCheckpoint", spec := "fnTakeCheckpoint", unfollowed := true, recurses := true, apart := false, narrowed := true }
def FnTakeCheckpointUptoSaid : Prop := fnTakeCheckpointUptoRow.holds Try.pinned (OpenSpec.upto fnTakeCheckpointSpec)

/-- 'laws.FnRestoreCheckpoint', WHERE WHAT IT READS IS OF BULK AT MOST 1048576: true; the input reads as it did. -/
def fnRestoreCheckpointUptoRow : OpenClaim := { program := "ytdmlbmedihjdmaa", sum := "53c1d132ac5835c0f986d68724c7ff99cc605b393153d89a7bd5f9667b6325f7", func := "loop.example/rangechains/laws.FnRestoreCheckpoint", spec := "fnRestoreCheckpoint", unfollowed := true, recurses := true, apart := false, narrowed := true }
def FnRestoreCheckpointUptoSaid : Prop := fnRestoreCheckpointUptoRow.holds Try.pinned (OpenSpec.upto fnRestoreCheckpointSpec)

/-- 'laws.FnExactTakeCheckpoint', WHERE WHAT IT READS IS OF BULK AT MOST 1048576: true; the input reads as it did. -/
def fnExactTakeCheckpointUptoRow : OpenClaim := { program := "ytdmlbmedihjdmaa", sum := "53c1d132ac5835c0f986d68724c7ff99cc605b393153d89a7bd5f9667b6325f7", func := "loop.example/rangechains/laws.FnExactTakeCheckpoint", spec := "fnExactTakeCheckpoint", unfollowed := true, recurses := true, apart := false, narrowed := true }
def FnExactTakeCheckpointUptoSaid : Prop := fnExactTakeCheckpointUptoRow.holds Try.pinned (OpenSpec.upto fnExactTakeCheckpointSpec)

end Rows
end Go.Proofs.Ytdmlbmedihjdmaa
