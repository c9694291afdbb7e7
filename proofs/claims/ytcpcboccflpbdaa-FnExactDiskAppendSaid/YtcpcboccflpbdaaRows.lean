/-
  No cell of these rows narrows 'for every input' (looked for: loops, veiled, ifaces, maps, wideKeys, modest, calm, conditions, laid).
  DERIVED. THE GIVEN ROWS OF THIS SEAT. 4 by the template 'for every input the law returns true; each argument reads behind the call as it read before'; 0 by the template 'total and deterministic' (their statements: YtcpcboccflpbdaaTotals.lean).
  GIVEN WITH THE SEED: the statements are not yours to turn. If you find one false, say at which input.
  Laid BY PROGRAM, IN A SANDBOX (cutbox-rows.mjs): the forced cells as the released guide's own fill.sh prints them over the translation ae7fa3ad655dc4fd… (all of the seat's roots in one cut). By AI agents, Wed Nov 11 2026. No macro, syntax, notation, axiom, sorry.
-/
import Derived.Test.YtcpcboccflpbdaaChecked
import GoSem.Claim
import GoSem.ClaimJoined
import GoSem.ClaimMapViews
import Derived.JoinedTies
import Derived.KernelRfl
namespace Go.Proofs.Ytcpcboccflpbdaa
/- THE CELL 'sum', in the pinned program and in every row, IS THE sha256 OF THE DUMP (.gsa) THAT YtcpcboccflpbdaaProg.lean LOADS. Nothing in Lean hashes anything: it is a label: what it is worth is what the hold of that sum in a sandbox is worth. -/
noncomputable def Try.pinned : Pinned := { name := "ytcpcboccflpbdaa", sum := "ae7fa3ad655dc4fd0c5e958f384ee7e25ae84d69faeba3c7a77e87a76ec342c9", checked := Try.checked }
namespace Rows
def none {H : Type} : Left H := { results := [], args := [] }

/-- 'laws.FnExactDiskSync': WHATEVER THE INPUT: true; the input reads as it did. -/
def fnExactDiskSyncSpec : ChangeSpec := { name := "fnExactDiskSync", fn := fun _ => fun
  | [d] => { results := [.lit (.bool true)], args := [d] }
  | _ => none }
def fnExactDiskSyncRow : OpenClaim := { program := "ytcpcboccflpbdaa", sum := "ae7fa3ad655dc4fd0c5e958f384ee7e25ae84d69faeba3c7a77e87a76ec342c9", func := "loop.example/rangechains/laws.FnExactDiskSync", spec := "fnExactDiskSync", apart := false }
def FnExactDiskSyncSaid : Prop := fnExactDiskSyncRow.holds Try.pinned (OpenSpec.ofChange fnExactDiskSyncSpec)

/-- ITS FALSE NEIGHBOUR: 'it returns false'. Refute it at one input. -/
def fnExactDiskSyncWrong : ChangeSpec := { name := "fnExactDiskSync", fn := fun _ => fun
  | [d] => { results := [.lit (.bool false)], args := [d] }
  | _ => none }
def FnExactDiskSyncWrongFalsely : Prop := fnExactDiskSyncRow.holds Try.pinned (OpenSpec.ofChange fnExactDiskSyncWrong)

/-- 'laws.FnExactDiskCrash': WHATEVER THE INPUT: true; the input reads as it did. -/
def fnExactDiskCrashSpec : ChangeSpec := { name := "fnExactDiskCrash", fn := fun _ => fun
  | [d1, d2, d3] => { results := [.lit (.bool true)], args := [d1, d2, d3] }
  | _ => none }
def fnExactDiskCrashRow : OpenClaim := { program := "ytcpcboccflpbdaa", sum := "ae7fa3ad655dc4fd0c5e958f384ee7e25ae84d69faeba3c7a77e87a76ec342c9", func := "loop.example/rangechains/laws.FnExactDiskCrash", spec := "fnExactDiskCrash", apart := false }
def FnExactDiskCrashSaid : Prop := fnExactDiskCrashRow.holds Try.pinned (OpenSpec.ofChange fnExactDiskCrashSpec)

/-- ITS FALSE NEIGHBOUR: 'it returns false'. Refute it at one input. -/
def fnExactDiskCrashWrong : ChangeSpec := { name := "fnExactDiskCrash", fn := fun _ => fun
  | [d1, d2, d3] => { results := [.lit (.bool false)], args := [d1, d2, d3] }
  | _ => none }
def FnExactDiskCrashWrongFalsely : Prop := fnExactDiskCrashRow.holds Try.pinned (OpenSpec.ofChange fnExactDiskCrashWrong)

/-- 'laws.FnExactDiskAppend': WHATEVER THE INPUT: true; the input reads as it did. -/
def fnExactDiskAppendSpec : ChangeSpec := { name := "fnExactDiskAppend", fn := fun _ => fun
  | [d1, d2] => { results := [.lit (.bool true)], args := [d1, d2] }
  | _ => none }
def fnExactDiskAppendRow : OpenClaim := { program := "ytcpcboccflpbdaa", sum := "ae7fa3ad655dc4fd0c5e958f384ee7e25ae84d69faeba3c7a77e87a76ec342c9", func := "loop.example/rangechains/laws.FnExactDiskAppend", spec := "fnExactDiskAppend", apart := false }
def FnExactDiskAppendSaid : Prop := fnExactDiskAppendRow.holds Try.pinned (OpenSpec.ofChange fnExactDiskAppendSpec)

/-- ITS FALSE NEIGHBOUR: 'it returns false'. Refute it at one input. -/
def fnExactDiskAppendWrong : ChangeSpec := { name := "fnExactDiskAppend", fn := fun _ => fun
  | [d1, d2] => { results := [.lit (.bool false)], args := [d1, d2] }
  | _ => none }
def FnExactDiskAppendWrongFalsely : Prop := fnExactDiskAppendRow.holds Try.pinned (OpenSpec.ofChange fnExactDiskAppendWrong)

/-- 'laws.FnExactBagValid': WHATEVER THE INPUT: true; the input reads as it did. -/
def fnExactBagValidSpec : ChangeSpec := { name := "fnExactBagValid", fn := fun _ => fun
  | [d] => { results := [.lit (.bool true)], args := [d] }
  | _ => none }
def fnExactBagValidRow : OpenClaim := { program := "ytcpcboccflpbdaa", sum := "ae7fa3ad655dc4fd0c5e958f384ee7e25ae84d69faeba3c7a77e87a76ec342c9", func := "loop.example/rangechains/laws.FnExactBagValid", spec := "fnExactBagValid", recurses := true, apart := false }
def FnExactBagValidSaid : Prop := fnExactBagValidRow.holds Try.pinned (OpenSpec.ofChange fnExactBagValidSpec)

/-- ITS FALSE NEIGHBOUR: 'it returns false'. Refute it at one input. -/
def fnExactBagValidWrong : ChangeSpec := { name := "fnExactBagValid", fn := fun _ => fun
  | [d] => { results := [.lit (.bool false)], args := [d] }
  | _ => none }
def FnExactBagValidWrongFalsely : Prop := fnExactBagValidRow.holds Try.pinned (OpenSpec.ofChange fnExactBagValidWrong)

/- THE SECOND FORM. 'bulk': how many values and letters a reading holds, each counted each time it is reached (what is shared counts as often as it is met; a slice's spare places count too). A statement '..UptoSaid' is the law's where the arguments, and the package variables that the reading takes, are together of bulk at most 1048576: NARROWER than '..Said'. Prove '..Said' where nothing that the law and all that it calls make is longer than what came in: it says more and counts as full. Else prove '..UptoSaid'. A law counts once. -/
mutual
def uptoBulk {H : Type} : DataW H → Nat
  | .lit (.string bytes) => bytes.length + 1
  | .lit _ => 1
  | .nil => 1
  | .ptr d => uptoBulk d + 1
  | .slice elems spare => uptoBulkAll elems + uptoBulkAll spare + 1
  | .agg parts => uptoBulkAll parts + 1
  | .iface _ d => uptoBulk d + 1
  | .map entries => uptoBulkEntries entries + 1
  | .held _ => 1
def uptoBulkAll {H : Type} : List (DataW H) → Nat
  | [] => 0
  | d :: r => uptoBulk d + uptoBulkAll r
def uptoBulkEntries {H : Type} : List (Lit × DataW H) → Nat
  | [] => 0
  | x :: r => uptoBulkEntry x + uptoBulkEntries r
def uptoBulkEntry {H : Type} : Lit × DataW H → Nat
  | (.string bytes, d) => bytes.length + uptoBulk d + 1
  | (_, d) => uptoBulk d + 1
 end
def uptoSmall : (H : Type) → List (DataW H) → Bool := fun _ ds => decide (uptoBulkAll ds ≤ 1048576)
def OpenSpec.upto (s : _root_.Go.ChangeSpec) : _root_.Go.OpenSpec := { _root_.Go.OpenSpec.ofChange s with cond := some uptoSmall }

/-- 'laws.FnExactDiskSync', WHERE WHAT IT READS IS OF BULK AT MOST 1048576: true; the input reads as it did. -/
def fnExactDiskSyncUptoRow : OpenClaim := { program := "ytcpcboccflpbdaa", sum := "ae7fa3ad655dc4fd0c5e958f384ee7e25ae84d69faeba3c7a77e87a76ec342c9", func := "loop.example/rangechains/laws.FnExactDiskSync", spec := "fnExactDiskSync", apart := false, narrowed := true }
def FnExactDiskSyncUptoSaid : Prop := fnExactDiskSyncUptoRow.holds Try.pinned (OpenSpec.upto fnExactDiskSyncSpec)

/-- 'laws.FnExactDiskCrash', WHERE WHAT IT READS IS OF BULK AT MOST 1048576: true; the input reads as it did. -/
def fnExactDiskCrashUptoRow : OpenClaim := { program := "ytcpcboccflpbdaa", sum := "ae7fa3ad655dc4fd0c5e958f384ee7e25ae84d69faeba3c7a77e87a76ec342c9", func := "loop.example/rangechains/laws.FnExactDiskCrash", spec := "fnExactDiskCrash", apart := false, narrowed := true }
def FnExactDiskCrashUptoSaid : Prop := fnExactDiskCrashUptoRow.holds Try.pinned (OpenSpec.upto fnExactDiskCrashSpec)

/-- 'laws.FnExactDiskAppend', WHERE WHAT IT READS IS OF BULK AT MOST 1048576: true; the input reads as it did. -/
def fnExactDiskAppendUptoRow : OpenClaim := { program := "ytcpcboccflpbdaa", sum := "ae7fa3ad655dc4fd0c5e958f384ee7e25ae84d69faeba3c7a77e87a76ec342c9", func := "loop.example/rangechains/laws.FnExactDiskAppend", spec := "fnExactDiskAppend", apart := false, narrowed := true }
def FnExactDiskAppendUptoSaid : Prop := fnExactDiskAppendUptoRow.holds Try.pinned (OpenSpec.upto fnExactDiskAppendSpec)

/-- 'laws.FnExactBagValid', WHERE WHAT IT READS IS OF BULK AT MOST 1048576: true; the input reads as it did. -/
def fnExactBagValidUptoRow : OpenClaim := { program := "ytcpcboccflpbdaa", sum := "ae7fa3ad655dc4fd0c5e958f384ee7e25ae84d69faeba3c7a77e87a76ec342c9", func := "loop.example/rangechains/laws.FnExactBagValid", spec := "fnExactBagValid", recurses := true, apart := false, narrowed := true }
def FnExactBagValidUptoSaid : Prop := fnExactBagValidUptoRow.holds Try.pinned (OpenSpec.upto fnExactBagValidSpec)

end Rows
end Go.Proofs.Ytcpcboccflpbdaa
