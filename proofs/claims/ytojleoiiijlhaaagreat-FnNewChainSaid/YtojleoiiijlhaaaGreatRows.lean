/-
  No cell of these rows narrows 'for every input' (looked for: loops, veiled, ifaces, maps, wideKeys, modest, calm, conditions, laid).
  DERIVED. THE GIVEN ROWS OF THIS SEAT. 7 by the template 'for every input the law returns true; each argument reads behind the call as it read before'; 0 by the template 'total and deterministic' (their statements: YtojleoiiijlhaaaGreatTotals.lean).
  GIVEN WITH THE SEED: the statements are not yours to turn. If you find one false, say at which input.
  Laid BY PROGRAM, IN A SANDBOX (cutbox-rows.mjs): the forced cells as the released guide's own fill.sh prints them over the translation d6ff565f275d8d21… (all of the seat's roots in one cut). By AI agents, Wed Nov 11 2026. No macro, syntax, notation, axiom, sorry.
-/
import Derived.Test.YtojleoiiijlhaaaGreatChecked
import GoSem.Claim
import GoSem.ClaimJoined
import GoSem.ClaimMapViews
import Derived.JoinedTies
import Derived.KernelRfl
namespace Go.Proofs.YtojleoiiijlhaaaGreat
/- THE CELL 'sum', in the pinned program and in every row, IS THE sha256 OF THE DUMP (.gsa) THAT YtojleoiiijlhaaaGreatProg.lean LOADS. Nothing in Lean hashes anything: it is a label: what it is worth is what the hold of that sum in a sandbox is worth. -/
noncomputable def Tryz.pinned : Pinned := { name := "ytojleoiiijlhaaagreat", sum := "d6ff565f275d8d21ad3f483ad6c6b747f8dff1f348aba1e910376c89c4b5c9e0", checked := Tryz.checked }
namespace Rows
def none {H : Type} : Left H := { results := [], args := [] }

/-- 'laws.FnAnsweredLog': WHATEVER THE INPUT: true; the input reads as it did. -/
def fnAnsweredLogSpec : ChangeSpec := { name := "fnAnsweredLog", fn := fun _ => fun
  | [d] => { results := [.lit (.bool true)], args := [d] }
  | _ => none }
def fnAnsweredLogRow : OpenClaim := { program := "ytojleoiiijlhaaagreat", sum := "d6ff565f275d8d21ad3f483ad6c6b747f8dff1f348aba1e910376c89c4b5c9e0", func := "loop.example/rangechains/laws.FnAnsweredLog", spec := "fnAnsweredLog", recurses := true, apart := false }
def FnAnsweredLogSaid : Prop := fnAnsweredLogRow.holds Tryz.pinned (OpenSpec.ofChange fnAnsweredLogSpec)

/-- ITS FALSE NEIGHBOUR: 'it returns false'. Refute it at one input. -/
def fnAnsweredLogWrong : ChangeSpec := { name := "fnAnsweredLog", fn := fun _ => fun
  | [d] => { results := [.lit (.bool false)], args := [d] }
  | _ => none }
def FnAnsweredLogWrongFalsely : Prop := fnAnsweredLogRow.holds Tryz.pinned (OpenSpec.ofChange fnAnsweredLogWrong)

/-- 'laws.FnOfficialLog': WHATEVER THE INPUT: true; the input reads as it did. -/
def fnOfficialLogSpec : ChangeSpec := { name := "fnOfficialLog", fn := fun _ => fun
  | [d] => { results := [.lit (.bool true)], args := [d] }
  | _ => none }
def fnOfficialLogRow : OpenClaim := { program := "ytojleoiiijlhaaagreat", sum := "d6ff565f275d8d21ad3f483ad6c6b747f8dff1f348aba1e910376c89c4b5c9e0", func := "loop.example/rangechains/laws.FnOfficialLog", spec := "fnOfficialLog", recurses := true, apart := false }
def FnOfficialLogSaid : Prop := fnOfficialLogRow.holds Tryz.pinned (OpenSpec.ofChange fnOfficialLogSpec)

/-- ITS FALSE NEIGHBOUR: 'it returns false'. Refute it at one input. -/
def fnOfficialLogWrong : ChangeSpec := { name := "fnOfficialLog", fn := fun _ => fun
  | [d] => { results := [.lit (.bool false)], args := [d] }
  | _ => none }
def FnOfficialLogWrongFalsely : Prop := fnOfficialLogRow.holds Tryz.pinned (OpenSpec.ofChange fnOfficialLogWrong)

/-- 'laws.FnExactAnsweredState': WHATEVER THE INPUT: true; the input reads as it did. -/
def fnExactAnsweredStateSpec : ChangeSpec := { name := "fnExactAnsweredState", fn := fun _ => fun
  | [d] => { results := [.lit (.bool true)], args := [d] }
  | _ => none }
def fnExactAnsweredStateRow : OpenClaim := { program := "ytojleoiiijlhaaagreat", sum := "d6ff565f275d8d21ad3f483ad6c6b747f8dff1f348aba1e910376c89c4b5c9e0", func := "loop.example/rangechains/laws.FnExactAnsweredState", spec := "fnExactAnsweredState", unfollowed := true, recurses := true, apart := false }
def FnExactAnsweredStateSaid : Prop := fnExactAnsweredStateRow.holds Tryz.pinned (OpenSpec.ofChange fnExactAnsweredStateSpec)

/-- ITS FALSE NEIGHBOUR: 'it returns false'. Refute it at one input. -/
def fnExactAnsweredStateWrong : ChangeSpec := { name := "fnExactAnsweredState", fn := fun _ => fun
  | [d] => { results := [.lit (.bool false)], args := [d] }
  | _ => none }
def FnExactAnsweredStateWrongFalsely : Prop := fnExactAnsweredStateRow.holds Tryz.pinned (OpenSpec.ofChange fnExactAnsweredStateWrong)

/-- 'laws.FnNewChain': WHATEVER THE INPUT: true; the input reads as it did. -/
def fnNewChainSpec : ChangeSpec := { name := "fnNewChain", fn := fun _ => fun
  | [d] => { results := [.lit (.bool true)], args := [d] }
  | _ => none }
def fnNewChainRow : OpenClaim := { program := "ytojleoiiijlhaaagreat", sum := "d6ff565f275d8d21ad3f483ad6c6b747f8dff1f348aba1e910376c89c4b5c9e0", func := "loop.example/rangechains/laws.FnNewChain", spec := "fnNewChain", unfollowed := true, recurses := true, apart := false }
def FnNewChainSaid : Prop := fnNewChainRow.holds Tryz.pinned (OpenSpec.ofChange fnNewChainSpec)

/-- ITS FALSE NEIGHBOUR: 'it returns false'. Refute it at one input. -/
def fnNewChainWrong : ChangeSpec := { name := "fnNewChain", fn := fun _ => fun
  | [d] => { results := [.lit (.bool false)], args := [d] }
  | _ => none }
def FnNewChainWrongFalsely : Prop := fnNewChainRow.holds Tryz.pinned (OpenSpec.ofChange fnNewChainWrong)

/-- 'laws.FnExactOfficialLog': WHATEVER THE INPUT: true; the input reads as it did. -/
def fnExactOfficialLogSpec : ChangeSpec := { name := "fnExactOfficialLog", fn := fun _ => fun
  | [d] => { results := [.lit (.bool true)], args := [d] }
  | _ => none }
def fnExactOfficialLogRow : OpenClaim := { program := "ytojleoiiijlhaaagreat", sum := "d6ff565f275d8d21ad3f483ad6c6b747f8dff1f348aba1e910376c89c4b5c9e0", func := "loop.example/rangechains/laws.FnExactOfficialLog", spec := "fnExactOfficialLog", recurses := true, apart := false }
def FnExactOfficialLogSaid : Prop := fnExactOfficialLogRow.holds Tryz.pinned (OpenSpec.ofChange fnExactOfficialLogSpec)

/-- ITS FALSE NEIGHBOUR: 'it returns false'. Refute it at one input. -/
def fnExactOfficialLogWrong : ChangeSpec := { name := "fnExactOfficialLog", fn := fun _ => fun
  | [d] => { results := [.lit (.bool false)], args := [d] }
  | _ => none }
def FnExactOfficialLogWrongFalsely : Prop := fnExactOfficialLogRow.holds Tryz.pinned (OpenSpec.ofChange fnExactOfficialLogWrong)

/-- 'laws.FnExactAnsweredLog': WHATEVER THE INPUT: true; the input reads as it did. -/
def fnExactAnsweredLogSpec : ChangeSpec := { name := "fnExactAnsweredLog", fn := fun _ => fun
  | [d] => { results := [.lit (.bool true)], args := [d] }
  | _ => none }
def fnExactAnsweredLogRow : OpenClaim := { program := "ytojleoiiijlhaaagreat", sum := "d6ff565f275d8d21ad3f483ad6c6b747f8dff1f348aba1e910376c89c4b5c9e0", func := "loop.example/rangechains/laws.FnExactAnsweredLog", spec := "fnExactAnsweredLog", recurses := true, apart := false }
def FnExactAnsweredLogSaid : Prop := fnExactAnsweredLogRow.holds Tryz.pinned (OpenSpec.ofChange fnExactAnsweredLogSpec)

/-- ITS FALSE NEIGHBOUR: 'it returns false'. Refute it at one input. -/
def fnExactAnsweredLogWrong : ChangeSpec := { name := "fnExactAnsweredLog", fn := fun _ => fun
  | [d] => { results := [.lit (.bool false)], args := [d] }
  | _ => none }
def FnExactAnsweredLogWrongFalsely : Prop := fnExactAnsweredLogRow.holds Tryz.pinned (OpenSpec.ofChange fnExactAnsweredLogWrong)

/-- 'laws.FnChainValid': WHATEVER THE INPUT: true; the input reads as it did. -/
def fnChainValidSpec : ChangeSpec := { name := "fnChainValid", fn := fun _ => fun
  | [d] => { results := [.lit (.bool true)], args := [d] }
  | _ => none }
def fnChainValidRow : OpenClaim := { program := "ytojleoiiijlhaaagreat", sum := "d6ff565f275d8d21ad3f483ad6c6b747f8dff1f348aba1e910376c89c4b5c9e0", func := "loop.example/rangechains/laws.FnChainValid", spec := "fnChainValid", recurses := true, apart := false }
def FnChainValidSaid : Prop := fnChainValidRow.holds Tryz.pinned (OpenSpec.ofChange fnChainValidSpec)

/-- ITS FALSE NEIGHBOUR: 'it returns false'. Refute it at one input. -/
def fnChainValidWrong : ChangeSpec := { name := "fnChainValid", fn := fun _ => fun
  | [d] => { results := [.lit (.bool false)], args := [d] }
  | _ => none }
def FnChainValidWrongFalsely : Prop := fnChainValidRow.holds Tryz.pinned (OpenSpec.ofChange fnChainValidWrong)

/- THE SECOND FORM. 'bulk': how many values and letters a reading holds, each counted each time it is reached (what is shared counts as often as it is met; a slice's spare places count too). A statement '..UptoSaid' is the law's where the arguments, and the package variables that the reading takes, are together of bulk at most 1048576: NARROWER than '..Said'. Prove '..Said' where nothing that the law and all that it calls make is longer than what came in: it says more and counts as full. Else prove '..UptoSaid'. A law counts once. -/
mutual
def uptoBulk {H : Type} : DataW H → Nat
  | .lit (.string bytes) => bytes.length + 1
  | .lit _ => 1
  | .nil => 1
  | .ptr d => uptoBulk d + 1
  | .slice elems spare => uptoBulkAll elems + uptoBulkAll spare + 1
  | .agg parts => uptoBulkAll parts + 1
  | .iface _ d => uptoBulk d + 1
  | .map entries => uptoBulkEntries entries + 1
  | .held _ => 1
def uptoBulkAll {H : Type} : List (DataW H) → Nat
  | [] => 0
  | d :: r => uptoBulk d + uptoBulkAll r
def uptoBulkEntries {H : Type} : List (Lit × DataW H) → Nat
  | [] => 0
  | x :: r => uptoBulkEntry x + uptoBulkEntries r
def uptoBulkEntry {H : Type} : Lit × DataW H → Nat
  | (.string bytes, d) => bytes.length + uptoBulk d + 1
  | (_, d) => uptoBulk d + 1
 end
def uptoSmall : (H : Type) → List (DataW H) → Bool := fun _ ds => decide (uptoBulkAll ds ≤ 1048576)
def OpenSpec.upto (s : _root_.Go.ChangeSpec) : _root_.Go.OpenSpec := { _root_.Go.OpenSpec.ofChange s with cond := some uptoSmall }

/-- 'laws.FnAnsweredLog', WHERE WHAT IT READS IS OF BULK AT MOST 1048576: true; the input reads as it did. -/
def fnAnsweredLogUptoRow : OpenClaim := { program := "ytojleoiiijlhaaagreat", sum := "d6ff565f275d8d21ad3f483ad6c6b747f8dff1f348aba1e910376c89c4b5c9e0", func := "loop.example/rangechains/laws.FnAnsweredLog", spec := "fnAnsweredLog", recurses := true, apart := false, narrowed := true }
def FnAnsweredLogUptoSaid : Prop := fnAnsweredLogUptoRow.holds Tryz.pinned (OpenSpec.upto fnAnsweredLogSpec)

/-- 'laws.FnOfficialLog', WHERE WHAT IT READS IS OF BULK AT MOST 1048576: true; the input reads as it did. -/
def fnOfficialLogUptoRow : OpenClaim := { program := "ytojleoiiijlhaaagreat", sum := "d6ff565f275d8d21ad3f483ad6c6b747f8dff1f348aba1e910376c89c4b5c9e0", func := "loop.example/rangechains/laws.FnOfficialLog", spec := "fnOfficialLog", recurses := true, apart := false, narrowed := true }
def FnOfficialLogUptoSaid : Prop := fnOfficialLogUptoRow.holds Tryz.pinned (OpenSpec.upto fnOfficialLogSpec)

/-- 'laws.FnExactAnsweredState', WHERE WHAT IT READS IS OF BULK AT MOST 1048576: true; the input reads as it did. -/
def fnExactAnsweredStateUptoRow : OpenClaim := { program := "ytojleoiiijlhaaagreat", sum := "d6ff565f275d8d21ad3f483ad6c6b747f8dff1f348aba1e910376c89c4b5c9e0", func := "loop.example/rangechains/laws.FnExactAnsweredState", spec := "fnExactAnsweredState", unfollowed := true, recurses := true, apart := false, narrowed := true }
def FnExactAnsweredStateUptoSaid : Prop := fnExactAnsweredStateUptoRow.holds Tryz.pinned (OpenSpec.upto fnExactAnsweredStateSpec)

/-- 'laws.FnNewChain', WHERE WHAT IT READS IS OF BULK AT MOST 1048576: true; the input reads as it did. -/
def fnNewChainUptoRow : OpenClaim := { program := "ytojleoiiijlhaaagreat", sum := "d6ff565f275d8d21ad3f483ad6c6b747f8dff1f348aba1e910376c89c4b5c9e0", func := "loop.example/rangechains/laws.FnNewChain", spec := "fnNewChain", unfollowed := true, recurses := true, apart := false, narrowed := true }
def FnNewChainUptoSaid : Prop := fnNewChainUptoRow.holds Tryz.pinned (OpenSpec.upto fnNewChainSpec)

/-- 'laws.FnExactOfficialLog', WHERE WHAT IT READS IS OF BULK AT MOST 1048576: true; the input reads as it did. -/
def fnExactOfficialLogUptoRow : OpenClaim := { program := "ytojleoiiijlhaaagreat", sum := "d6ff565f275d8d21ad3f483ad6c6b747f8dff1f348aba1e910376c89c4b5c9e0", func := "loop.example/rangechains/laws.FnExactOfficialLog", spec := "fnExactOfficialLog", recurses := true, apart := false, narrowed := true }
def FnExactOfficialLogUptoSaid : Prop := fnExactOfficialLogUptoRow.holds Tryz.pinned (OpenSpec.upto fnExactOfficialLogSpec)

/-- 'laws.FnExactAnsweredLog', WHERE WHAT IT READS IS OF BULK AT MOST 1048576: true; the input reads as it did. -/
def fnExactAnsweredLogUptoRow : OpenClaim := { program := "ytojleoiiijlhaaagreat", sum := "d6ff565f275d8d21ad3f483ad6c6b747f8dff1f348aba1e910376c89c4b5c9e0", func := "loop.example/rangechains/laws.FnExactAnsweredLog", spec := "fnExactAnsweredLog", recurses := true, apart := false, narrowed := true }
def FnExactAnsweredLogUptoSaid : Prop := fnExactAnsweredLogUptoRow.holds Tryz.pinned (OpenSpec.upto fnExactAnsweredLogSpec)

/-- 'laws.FnChainValid', WHERE WHAT IT READS IS OF BULK AT MOST 1048576: true; the input reads as it did. -/
def fnChainValidUptoRow : OpenClaim := { program := "ytojleoiiijlhaaagreat", sum := "d6ff565f275d8d21ad3f483ad6c6b747f8dff1f348aba1e910376c89c4b5c9e0", func := "loop.example/rangechains/laws.FnChainValid", spec := "fnChainValid", recurses := true, apart := false, narrowed := true }
def FnChainValidUptoSaid : Prop := fnChainValidUptoRow.holds Tryz.pinned (OpenSpec.upto fnChainValidSpec)

end Rows
end Go.Proofs.YtojleoiiijlhaaaGreat
