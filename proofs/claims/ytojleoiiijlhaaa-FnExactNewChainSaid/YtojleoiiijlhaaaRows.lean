/-
  No cell of these rows narrows 'for every input' (looked for: loops, veiled, ifaces, maps, wideKeys, modest, calm, conditions, laid).
  DERIVED. THE GIVEN ROWS OF THIS SEAT. 2 by the template 'for every input the law returns true; each argument reads behind the call as it read before'; 0 by the template 'total and deterministic' (their statements: YtojleoiiijlhaaaTotals.lean).
  GIVEN WITH THE SEED: the statements are not yours to turn. If you find one false, say at which input.
  Laid BY PROGRAM, IN A SANDBOX (cutbox-rows.mjs): the forced cells as the released guide's own fill.sh prints them over the translation e0b9ae2d4d0d041b… (all of the seat's roots in one cut). By AI agents, Wed Nov 11 2026. No macro, syntax, notation, axiom, sorry.
-/
import Derived.Test.YtojleoiiijlhaaaChecked
import GoSem.Claim
import GoSem.ClaimJoined
import GoSem.ClaimMapViews
import Derived.JoinedTies
import Derived.KernelRfl
namespace Go.Proofs.Ytojleoiiijlhaaa
/- THE CELL 'sum', in the pinned program and in every row, IS THE sha256 OF THE DUMP (.gsa) THAT YtojleoiiijlhaaaProg.lean LOADS. Nothing in Lean hashes anything: it is a label: what it is worth is what the hold of that sum in a sandbox is worth. -/
noncomputable def Try.pinned : Pinned := { name := "ytojleoiiijlhaaa", sum := "e0b9ae2d4d0d041bf92ad84e4bf8709dcd221d29372d2864b763baf9e390f816", checked := Try.checked }
namespace Rows
def none {H : Type} : Left H := { results := [], args := [] }

/-- 'laws.FnExactNewChain': WHATEVER THE INPUT: true; the input reads as it did. -/
def fnExactNewChainSpec : ChangeSpec := { name := "fnExactNewChain", fn := fun _ => fun
  | [d1, d2] => { results := [.lit (.bool true)], args := [d1, d2] }
  | _ => none }
def fnExactNewChainRow : OpenClaim := { program := "ytojleoiiijlhaaa", sum := "e0b9ae2d4d0d041bf92ad84e4bf8709dcd221d29372d2864b763baf9e390f816", func := "loop.example/rangechains/laws.FnExactNewChain", spec := "fnExactNewChain", recurses := true, apart := false }
def FnExactNewChainSaid : Prop := fnExactNewChainRow.holds Try.pinned (OpenSpec.ofChange fnExactNewChainSpec)

/-- ITS FALSE NEIGHBOUR: 'it returns false'. Refute it at one input. -/
def fnExactNewChainWrong : ChangeSpec := { name := "fnExactNewChain", fn := fun _ => fun
  | [d1, d2] => { results := [.lit (.bool false)], args := [d1, d2] }
  | _ => none }
def FnExactNewChainWrongFalsely : Prop := fnExactNewChainRow.holds Try.pinned (OpenSpec.ofChange fnExactNewChainWrong)

/-- 'laws.FnExactChainValid': WHATEVER THE INPUT: true; the input reads as it did. -/
def fnExactChainValidSpec : ChangeSpec := { name := "fnExactChainValid", fn := fun _ => fun
  | [d] => { results := [.lit (.bool true)], args := [d] }
  | _ => none }
def fnExactChainValidRow : OpenClaim := { program := "ytojleoiiijlhaaa", sum := "e0b9ae2d4d0d041bf92ad84e4bf8709dcd221d29372d2864b763baf9e390f816", func := "loop.example/rangechains/laws.FnExactChainValid", spec := "fnExactChainValid", recurses := true, apart := false }
def FnExactChainValidSaid : Prop := fnExactChainValidRow.holds Try.pinned (OpenSpec.ofChange fnExactChainValidSpec)

/-- ITS FALSE NEIGHBOUR: 'it returns false'. Refute it at one input. -/
def fnExactChainValidWrong : ChangeSpec := { name := "fnExactChainValid", fn := fun _ => fun
  | [d] => { results := [.lit (.bool false)], args := [d] }
  | _ => none }
def FnExactChainValidWrongFalsely : Prop := fnExactChainValidRow.holds Try.pinned (OpenSpec.ofChange fnExactChainValidWrong)

/- THE SECOND FORM. 'bulk': how many values and letters a reading holds, each counted each time it is reached (what is shared counts as often as it is met; a slice's spare places count too). A statement '..UptoSaid' is the law's where the arguments, and the package variables that the reading takes, are together of bulk at most 1048576: NARROWER than '..Said'. Prove '..Said' where nothing that the law and all that it calls make is longer than what came in: it says more and counts as full. Else prove '..UptoSaid'. A law counts once. -/
mutual
def uptoBulk {H : Type} : DataW H → Nat
  | .lit (.string bytes) => bytes.length + 1
  | .lit _ => 1
  | .nil => 1
  | .ptr d => uptoBulk d + 1
  | .slice elems spare => uptoBulkAll elems + uptoBulkAll spare + 1
  | .agg parts => uptoBulkAll parts + 1
  | .iface _ d => uptoBulk d + 1
  | .map entries => uptoBulkEntries entries + 1
  | .held _ => 1
def uptoBulkAll {H : Type} : List (DataW H) → Nat
  | [] => 0
  | d :: r => uptoBulk d + uptoBulkAll r
def uptoBulkEntries {H : Type} : List (Lit × DataW H) → Nat
  | [] => 0
  | x :: r => uptoBulkEntry x + uptoBulkEntries r
def uptoBulkEntry {H : Type} : Lit × DataW H → Nat
  | (.string bytes, d) => bytes.length + uptoBulk d + 1
  | (_, d) => uptoBulk d + 1
 end
def uptoSmall : (H : Type) → List (DataW H) → Bool := fun _ ds => decide (uptoBulkAll ds ≤ 1048576)
def OpenSpec.upto (s : _root_.Go.ChangeSpec) : _root_.Go.OpenSpec := { _root_.Go.OpenSpec.ofChange s with cond := some uptoSmall }

/-- 'laws.FnExactNewChain', WHERE WHAT IT READS IS OF BULK AT MOST 1048576: true; the input reads as it did. -/
def fnExactNewChainUptoRow : OpenClaim := { program := "ytojleoiiijlhaaa", sum := "e0b9ae2d4d0d041bf92ad84e4bf8709dcd221d29372d2864b763baf9e390f816", func := "loop.example/rangechains/laws.FnExactNewChain", spec := "fnExactNewChain", recurses := true, apart := false, narrowed := true }
def FnExactNewChainUptoSaid : Prop := fnExactNewChainUptoRow.holds Try.pinned (OpenSpec.upto fnExactNewChainSpec)

/-- 'laws.FnExactChainValid', WHERE WHAT IT READS IS OF BULK AT MOST 1048576: true; the input reads as it did. -/
def fnExactChainValidUptoRow : OpenClaim := { program := "ytojleoiiijlhaaa", sum := "e0b9ae2d4d0d041bf92ad84e4bf8709dcd221d29372d2864b763baf9e390f816", func := "loop.example/rangechains/laws.FnExactChainValid", spec := "fnExactChainValid", recurses := true, apart := false, narrowed := true }
def FnExactChainValidUptoSaid : Prop := fnExactChainValidUptoRow.holds Try.pinned (OpenSpec.upto fnExactChainValidSpec)

end Rows
end Go.Proofs.Ytojleoiiijlhaaa
