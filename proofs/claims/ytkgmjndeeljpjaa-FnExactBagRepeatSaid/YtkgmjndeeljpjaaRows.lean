/-
  No cell of these rows narrows 'for every input' (looked for: loops, veiled, ifaces, maps, wideKeys, modest, calm, conditions, laid).
  DERIVED. THE GIVEN ROWS OF THIS SEAT. 12 by the template 'for every input the law returns true; each argument reads behind the call as it read before'; 0 by the template 'total and deterministic' (their statements: YtkgmjndeeljpjaaTotals.lean).
  GIVEN WITH THE SEED: the statements are not yours to turn. If you find one false, say at which input.
  Laid BY PROGRAM, IN A SANDBOX (cutbox-rows.mjs): the forced cells as the released guide's own fill.sh prints them over the translation f94871071971e713… (all of the seat's roots in one cut). By AI agents, Wed Nov 11 2026. No macro, syntax, notation, axiom, sorry.
-/
import Derived.Test.YtkgmjndeeljpjaaChecked
import GoSem.Claim
import GoSem.ClaimJoined
import GoSem.ClaimMapViews
import Derived.JoinedTies
import Derived.KernelRfl
namespace Go.Proofs.Ytkgmjndeeljpjaa
/- THE CELL 'sum', in the pinned program and in every row, IS THE sha256 OF THE DUMP (.gsa) THAT YtkgmjndeeljpjaaProg.lean LOADS. Nothing in Lean hashes anything: it is a label: what it is worth is what the hold of that sum in a sandbox is worth. -/
noncomputable def Try.pinned : Pinned := { name := "ytkgmjndeeljpjaa", sum := "f94871071971e713a9fb997d6dc2733351c62f22932c7d2b02597e812f579e57", checked := Try.checked }
namespace Rows
def none {H : Type} : Left H := { results := [], args := [] }

/-- 'laws.FnExactTakeCopy': WHATEVER THE INPUT: true; the input reads as it did. -/
def fnExactTakeCopySpec : ChangeSpec := { name := "fnExactTakeCopy", fn := fun _ => fun
  | [d1, d2, d3] => { results := [.lit (.bool true)], args := [d1, d2, d3] }
  | _ => none }
def fnExactTakeCopyRow : OpenClaim := { program := "ytkgmjndeeljpjaa", sum := "f94871071971e713a9fb997d6dc2733351c62f22932c7d2b02597e812f579e57", func := "loop.example/rangechains/laws.FnExactTakeCopy", spec := "fnExactTakeCopy", recurses := true, apart := false }
def FnExactTakeCopySaid : Prop := fnExactTakeCopyRow.holds Try.pinned (OpenSpec.ofChange fnExactTakeCopySpec)

/-- ITS FALSE NEIGHBOUR: 'it returns false'. Refute it at one input. -/
def fnExactTakeCopyWrong : ChangeSpec := { name := "fnExactTakeCopy", fn := fun _ => fun
  | [d1, d2, d3] => { results := [.lit (.bool false)], args := [d1, d2, d3] }
  | _ => none }
def FnExactTakeCopyWrongFalsely : Prop := fnExactTakeCopyRow.holds Try.pinned (OpenSpec.ofChange fnExactTakeCopyWrong)

/-- 'laws.FnLogBytes': WHATEVER THE INPUT: true; the input reads as it did. -/
def fnLogBytesSpec : ChangeSpec := { name := "fnLogBytes", fn := fun _ => fun
  | [d] => { results := [.lit (.bool true)], args := [d] }
  | _ => none }
def fnLogBytesRow : OpenClaim := { program := "ytkgmjndeeljpjaa", sum := "f94871071971e713a9fb997d6dc2733351c62f22932c7d2b02597e812f579e57", func := "loop.example/rangechains/laws.FnLogBytes", spec := "fnLogBytes", recurses := true, apart := false }
def FnLogBytesSaid : Prop := fnLogBytesRow.holds Try.pinned (OpenSpec.ofChange fnLogBytesSpec)

/-- ITS FALSE NEIGHBOUR: 'it returns false'. Refute it at one input. -/
def fnLogBytesWrong : ChangeSpec := { name := "fnLogBytes", fn := fun _ => fun
  | [d] => { results := [.lit (.bool false)], args := [d] }
  | _ => none }
def FnLogBytesWrongFalsely : Prop := fnLogBytesRow.holds Try.pinned (OpenSpec.ofChange fnLogBytesWrong)

/-- 'laws.FnEnterConfig': WHATEVER THE INPUT: true; the input reads as it did. -/
def fnEnterConfigSpec : ChangeSpec := { name := "fnEnterConfig", fn := fun _ => fun
  | [d] => { results := [.lit (.bool true)], args := [d] }
  | _ => none }
def fnEnterConfigRow : OpenClaim := { program := "ytkgmjndeeljpjaa", sum := "f94871071971e713a9fb997d6dc2733351c62f22932c7d2b02597e812f579e57", func := "loop.example/rangechains/laws.FnEnterConfig", spec := "fnEnterConfig", recurses := true, apart := false }
def FnEnterConfigSaid : Prop := fnEnterConfigRow.holds Try.pinned (OpenSpec.ofChange fnEnterConfigSpec)

/-- ITS FALSE NEIGHBOUR: 'it returns false'. Refute it at one input. -/
def fnEnterConfigWrong : ChangeSpec := { name := "fnEnterConfig", fn := fun _ => fun
  | [d] => { results := [.lit (.bool false)], args := [d] }
  | _ => none }
def FnEnterConfigWrongFalsely : Prop := fnEnterConfigRow.holds Try.pinned (OpenSpec.ofChange fnEnterConfigWrong)

/-- 'laws.FnExactEnterConfig': WHATEVER THE INPUT: true; the input reads as it did. -/
def fnExactEnterConfigSpec : ChangeSpec := { name := "fnExactEnterConfig", fn := fun _ => fun
  | [d1, d2, d3] => { results := [.lit (.bool true)], args := [d1, d2, d3] }
  | _ => none }
def fnExactEnterConfigRow : OpenClaim := { program := "ytkgmjndeeljpjaa", sum := "f94871071971e713a9fb997d6dc2733351c62f22932c7d2b02597e812f579e57", func := "loop.example/rangechains/laws.FnExactEnterConfig", spec := "fnExactEnterConfig", recurses := true, apart := false }
def FnExactEnterConfigSaid : Prop := fnExactEnterConfigRow.holds Try.pinned (OpenSpec.ofChange fnExactEnterConfigSpec)

/-- ITS FALSE NEIGHBOUR: 'it returns false'. Refute it at one input. -/
def fnExactEnterConfigWrong : ChangeSpec := { name := "fnExactEnterConfig", fn := fun _ => fun
  | [d1, d2, d3] => { results := [.lit (.bool false)], args := [d1, d2, d3] }
  | _ => none }
def FnExactEnterConfigWrongFalsely : Prop := fnExactEnterConfigRow.holds Try.pinned (OpenSpec.ofChange fnExactEnterConfigWrong)

/-- 'laws.FnBagTake': WHATEVER THE INPUT: true; the input reads as it did. -/
def fnBagTakeSpec : ChangeSpec := { name := "fnBagTake", fn := fun _ => fun
  | [d] => { results := [.lit (.bool true)], args := [d] }
  | _ => none }
def fnBagTakeRow : OpenClaim := { program := "ytkgmjndeeljpjaa", sum := "f94871071971e713a9fb997d6dc2733351c62f22932c7d2b02597e812f579e57", func := "loop.example/rangechains/laws.FnBagTake", spec := "fnBagTake", recurses := true, apart := false }
def FnBagTakeSaid : Prop := fnBagTakeRow.holds Try.pinned (OpenSpec.ofChange fnBagTakeSpec)

/-- ITS FALSE NEIGHBOUR: 'it returns false'. Refute it at one input. -/
def fnBagTakeWrong : ChangeSpec := { name := "fnBagTake", fn := fun _ => fun
  | [d] => { results := [.lit (.bool false)], args := [d] }
  | _ => none }
def FnBagTakeWrongFalsely : Prop := fnBagTakeRow.holds Try.pinned (OpenSpec.ofChange fnBagTakeWrong)

/-- 'laws.FnBagAdd': WHATEVER THE INPUT: true; the input reads as it did. -/
def fnBagAddSpec : ChangeSpec := { name := "fnBagAdd", fn := fun _ => fun
  | [d] => { results := [.lit (.bool true)], args := [d] }
  | _ => none }
def fnBagAddRow : OpenClaim := { program := "ytkgmjndeeljpjaa", sum := "f94871071971e713a9fb997d6dc2733351c62f22932c7d2b02597e812f579e57", func := "loop.example/rangechains/laws.FnBagAdd", spec := "fnBagAdd", recurses := true, apart := false }
def FnBagAddSaid : Prop := fnBagAddRow.holds Try.pinned (OpenSpec.ofChange fnBagAddSpec)

/-- ITS FALSE NEIGHBOUR: 'it returns false'. Refute it at one input. -/
def fnBagAddWrong : ChangeSpec := { name := "fnBagAdd", fn := fun _ => fun
  | [d] => { results := [.lit (.bool false)], args := [d] }
  | _ => none }
def FnBagAddWrongFalsely : Prop := fnBagAddRow.holds Try.pinned (OpenSpec.ofChange fnBagAddWrong)

/-- 'laws.FnBagRepeat': WHATEVER THE INPUT: true; the input reads as it did. -/
def fnBagRepeatSpec : ChangeSpec := { name := "fnBagRepeat", fn := fun _ => fun
  | [d] => { results := [.lit (.bool true)], args := [d] }
  | _ => none }
def fnBagRepeatRow : OpenClaim := { program := "ytkgmjndeeljpjaa", sum := "f94871071971e713a9fb997d6dc2733351c62f22932c7d2b02597e812f579e57", func := "loop.example/rangechains/laws.FnBagRepeat", spec := "fnBagRepeat", recurses := true, apart := false }
def FnBagRepeatSaid : Prop := fnBagRepeatRow.holds Try.pinned (OpenSpec.ofChange fnBagRepeatSpec)

/-- ITS FALSE NEIGHBOUR: 'it returns false'. Refute it at one input. -/
def fnBagRepeatWrong : ChangeSpec := { name := "fnBagRepeat", fn := fun _ => fun
  | [d] => { results := [.lit (.bool false)], args := [d] }
  | _ => none }
def FnBagRepeatWrongFalsely : Prop := fnBagRepeatRow.holds Try.pinned (OpenSpec.ofChange fnBagRepeatWrong)

/-- 'laws.FnRecoverLog': WHATEVER THE INPUT: true; the input reads as it did. -/
def fnRecoverLogSpec : ChangeSpec := { name := "fnRecoverLog", fn := fun _ => fun
  | [d] => { results := [.lit (.bool true)], args := [d] }
  | _ => none }
def fnRecoverLogRow : OpenClaim := { program := "ytkgmjndeeljpjaa", sum := "f94871071971e713a9fb997d6dc2733351c62f22932c7d2b02597e812f579e57", func := "loop.example/rangechains/laws.FnRecoverLog", spec := "fnRecoverLog", recurses := true, apart := false }
def FnRecoverLogSaid : Prop := fnRecoverLogRow.holds Try.pinned (OpenSpec.ofChange fnRecoverLogSpec)

/-- ITS FALSE NEIGHBOUR: 'it returns false'. Refute it at one input. -/
def fnRecoverLogWrong : ChangeSpec := { name := "fnRecoverLog", fn := fun _ => fun
  | [d] => { results := [.lit (.bool false)], args := [d] }
  | _ => none }
def FnRecoverLogWrongFalsely : Prop := fnRecoverLogRow.holds Try.pinned (OpenSpec.ofChange fnRecoverLogWrong)

/-- 'laws.FnExactBagAdd': WHATEVER THE INPUT: true; the input reads as it did. -/
def fnExactBagAddSpec : ChangeSpec := { name := "fnExactBagAdd", fn := fun _ => fun
  | [d1, d2] => { results := [.lit (.bool true)], args := [d1, d2] }
  | _ => none }
def fnExactBagAddRow : OpenClaim := { program := "ytkgmjndeeljpjaa", sum := "f94871071971e713a9fb997d6dc2733351c62f22932c7d2b02597e812f579e57", func := "loop.example/rangechains/laws.FnExactBagAdd", spec := "fnExactBagAdd", recurses := true, apart := false }
def FnExactBagAddSaid : Prop := fnExactBagAddRow.holds Try.pinned (OpenSpec.ofChange fnExactBagAddSpec)

/-- ITS FALSE NEIGHBOUR: 'it returns false'. Refute it at one input. -/
def fnExactBagAddWrong : ChangeSpec := { name := "fnExactBagAdd", fn := fun _ => fun
  | [d1, d2] => { results := [.lit (.bool false)], args := [d1, d2] }
  | _ => none }
def FnExactBagAddWrongFalsely : Prop := fnExactBagAddRow.holds Try.pinned (OpenSpec.ofChange fnExactBagAddWrong)

/-- 'laws.FnDiskCrash': WHATEVER THE INPUT: true; the input reads as it did. -/
def fnDiskCrashSpec : ChangeSpec := { name := "fnDiskCrash", fn := fun _ => fun
  | [d] => { results := [.lit (.bool true)], args := [d] }
  | _ => none }
def fnDiskCrashRow : OpenClaim := { program := "ytkgmjndeeljpjaa", sum := "f94871071971e713a9fb997d6dc2733351c62f22932c7d2b02597e812f579e57", func := "loop.example/rangechains/laws.FnDiskCrash", spec := "fnDiskCrash", recurses := true, apart := false }
def FnDiskCrashSaid : Prop := fnDiskCrashRow.holds Try.pinned (OpenSpec.ofChange fnDiskCrashSpec)

/-- ITS FALSE NEIGHBOUR: 'it returns false'. Refute it at one input. -/
def fnDiskCrashWrong : ChangeSpec := { name := "fnDiskCrash", fn := fun _ => fun
  | [d] => { results := [.lit (.bool false)], args := [d] }
  | _ => none }
def FnDiskCrashWrongFalsely : Prop := fnDiskCrashRow.holds Try.pinned (OpenSpec.ofChange fnDiskCrashWrong)

/-- 'laws.FnExactBagRepeat': WHATEVER THE INPUT: true; the input reads as it did. -/
def fnExactBagRepeatSpec : ChangeSpec := { name := "fnExactBagRepeat", fn := fun _ => fun
  | [d1, d2] => { results := [.lit (.bool true)], args := [d1, d2] }
  | _ => none }
def fnExactBagRepeatRow : OpenClaim := { program := "ytkgmjndeeljpjaa", sum := "f94871071971e713a9fb997d6dc2733351c62f22932c7d2b02597e812f579e57", func := "loop.example/rangechains/laws.FnExactBagRepeat", spec := "fnExactBagRepeat", recurses := true, apart := false }
def FnExactBagRepeatSaid : Prop := fnExactBagRepeatRow.holds Try.pinned (OpenSpec.ofChange fnExactBagRepeatSpec)

/-- ITS FALSE NEIGHBOUR: 'it returns false'. Refute it at one input. -/
def fnExactBagRepeatWrong : ChangeSpec := { name := "fnExactBagRepeat", fn := fun _ => fun
  | [d1, d2] => { results := [.lit (.bool false)], args := [d1, d2] }
  | _ => none }
def FnExactBagRepeatWrongFalsely : Prop := fnExactBagRepeatRow.holds Try.pinned (OpenSpec.ofChange fnExactBagRepeatWrong)

/-- 'laws.FnExactBagTake': WHATEVER THE INPUT: true; the input reads as it did. -/
def fnExactBagTakeSpec : ChangeSpec := { name := "fnExactBagTake", fn := fun _ => fun
  | [d1, d2] => { results := [.lit (.bool true)], args := [d1, d2] }
  | _ => none }
def fnExactBagTakeRow : OpenClaim := { program := "ytkgmjndeeljpjaa", sum := "f94871071971e713a9fb997d6dc2733351c62f22932c7d2b02597e812f579e57", func := "loop.example/rangechains/laws.FnExactBagTake", spec := "fnExactBagTake", recurses := true, apart := false }
def FnExactBagTakeSaid : Prop := fnExactBagTakeRow.holds Try.pinned (OpenSpec.ofChange fnExactBagTakeSpec)

/-- ITS FALSE NEIGHBOUR: 'it returns false'. Refute it at one input. -/
def fnExactBagTakeWrong : ChangeSpec := { name := "fnExactBagTake", fn := fun _ => fun
  | [d1, d2] => { results := [.lit (.bool false)], args := [d1, d2] }
  | _ => none }
def FnExactBagTakeWrongFalsely : Prop := fnExactBagTakeRow.holds Try.pinned (OpenSpec.ofChange fnExactBagTakeWrong)

/- THE SECOND FORM. 'bulk': how many values and letters a reading holds, each counted each time it is reached (what is shared counts as often as it is met; a slice's spare places count too). A statement '..UptoSaid' is the law's where the arguments, and the package variables that the reading takes, are together of bulk at most 1048576: NARROWER than '..Said'. Prove '..Said' where nothing that the law and all that it calls make is longer than what came in: it says more and counts as full. Else prove '..UptoSaid'. A law counts once. -/
mutual
def uptoBulk {H : Type} : DataW H → Nat
  | .lit (.string bytes) => bytes.length + 1
  | .lit _ => 1
  | .nil => 1
  | .ptr d => uptoBulk d + 1
  | .slice elems spare => uptoBulkAll elems + uptoBulkAll spare + 1
  | .agg parts => uptoBulkAll parts + 1
  | .iface _ d => uptoBulk d + 1
  | .map entries => uptoBulkEntries entries + 1
  | .held _ => 1
def uptoBulkAll {H : Type} : List (DataW H) → Nat
  | [] => 0
  | d :: r => uptoBulk d + uptoBulkAll r
def uptoBulkEntries {H : Type} : List (Lit × DataW H) → Nat
  | [] => 0
  | x :: r => uptoBulkEntry x + uptoBulkEntries r
def uptoBulkEntry {H : Type} : Lit × DataW H → Nat
  | (.string bytes, d) => bytes.length + uptoBulk d + 1
  | (_, d) => uptoBulk d + 1
 end
def uptoSmall : (H : Type) → List (DataW H) → Bool := fun _ ds => decide (uptoBulkAll ds ≤ 1048576)
def OpenSpec.upto (s : _root_.Go.ChangeSpec) : _root_.Go.OpenSpec := { _root_.Go.OpenSpec.ofChange s with cond := some uptoSmall }

/-- 'laws.FnExactTakeCopy', WHERE WHAT IT READS IS OF BULK AT MOST 1048576: true; the input reads as it did. -/
def fnExactTakeCopyUptoRow : OpenClaim := { program := "ytkgmjndeeljpjaa", sum := "f94871071971e713a9fb997d6dc2733351c62f22932c7d2b02597e812f579e57", func := "loop.example/rangechains/laws.FnExactTakeCopy", spec := "fnExactTakeCopy", recurses := true, apart := false, narrowed := true }
def FnExactTakeCopyUptoSaid : Prop := fnExactTakeCopyUptoRow.holds Try.pinned (OpenSpec.upto fnExactTakeCopySpec)

/-- 'laws.FnLogBytes', WHERE WHAT IT READS IS OF BULK AT MOST 1048576: true; the input reads as it did. -/
def fnLogBytesUptoRow : OpenClaim := { program := "ytkgmjndeeljpjaa", sum := "f94871071971e713a9fb997d6dc2733351c62f22932c7d2b02597e812f579e57", func := "loop.example/rangechains/laws.FnLogBytes", spec := "fnLogBytes", recurses := true, apart := false, narrowed := true }
def FnLogBytesUptoSaid : Prop := fnLogBytesUptoRow.holds Try.pinned (OpenSpec.upto fnLogBytesSpec)

/-- 'laws.FnEnterConfig', WHERE WHAT IT READS IS OF BULK AT MOST 1048576: true; the input reads as it did. -/
def fnEnterConfigUptoRow : OpenClaim := { program := "ytkgmjndeeljpjaa", sum := "f94871071971e713a9fb997d6dc2733351c62f22932c7d2b02597e812f579e57", func := "loop.example/rangechains/laws.FnEnterConfig", spec := "fnEnterConfig", recurses := true, apart := false, narrowed := true }
def FnEnterConfigUptoSaid : Prop := fnEnterConfigUptoRow.holds Try.pinned (OpenSpec.upto fnEnterConfigSpec)

/-- 'laws.FnExactEnterConfig', WHERE WHAT IT READS IS OF BULK AT MOST 1048576: true; the input reads as it did. -/
def fnExactEnterConfigUptoRow : OpenClaim := { program := "ytkgmjndeeljpjaa", sum := "f94871071971e713a9fb997d6dc2733351c62f22932c7d2b02597e812f579e57", func := "loop.example/rangechains/laws.FnExactEnterConfig", spec := "fnExactEnterConfig", recurses := true, apart := false, narrowed := true }
def FnExactEnterConfigUptoSaid : Prop := fnExactEnterConfigUptoRow.holds Try.pinned (OpenSpec.upto fnExactEnterConfigSpec)

/-- 'laws.FnBagTake', WHERE WHAT IT READS IS OF BULK AT MOST 1048576: true; the input reads as it did. -/
def fnBagTakeUptoRow : OpenClaim := { program := "ytkgmjndeeljpjaa", sum := "f94871071971e713a9fb997d6dc2733351c62f22932c7d2b02597e812f579e57", func := "loop.example/rangechains/laws.FnBagTake", spec := "fnBagTake", recurses := true, apart := false, narrowed := true }
def FnBagTakeUptoSaid : Prop := fnBagTakeUptoRow.holds Try.pinned (OpenSpec.upto fnBagTakeSpec)

/-- 'laws.FnBagAdd', WHERE WHAT IT READS IS OF BULK AT MOST 1048576: true; the input reads as it did. -/
def fnBagAddUptoRow : OpenClaim := { program := "ytkgmjndeeljpjaa", sum := "f94871071971e713a9fb997d6dc2733351c62f22932c7d2b02597e812f579e57", func := "loop.example/rangechains/laws.FnBagAdd", spec := "fnBagAdd", recurses := true, apart := false, narrowed := true }
def FnBagAddUptoSaid : Prop := fnBagAddUptoRow.holds Try.pinned (OpenSpec.upto fnBagAddSpec)

/-- 'laws.FnBagRepeat', WHERE WHAT IT READS IS OF BULK AT MOST 1048576: true; the input reads as it did. -/
def fnBagRepeatUptoRow : OpenClaim := { program := "ytkgmjndeeljpjaa", sum := "f94871071971e713a9fb997d6dc2733351c62f22932c7d2b02597e812f579e57", func := "loop.example/rangechains/laws.FnBagRepeat", spec := "fnBagRepeat", recurses := true, apart := false, narrowed := true }
def FnBagRepeatUptoSaid : Prop := fnBagRepeatUptoRow.holds Try.pinned (OpenSpec.upto fnBagRepeatSpec)

/-- 'laws.FnRecoverLog', WHERE WHAT IT READS IS OF BULK AT MOST 1048576: true; the input reads as it did. -/
def fnRecoverLogUptoRow : OpenClaim := { program := "ytkgmjndeeljpjaa", sum := "f94871071971e713a9fb997d6dc2733351c62f22932c7d2b02597e812f579e57", func := "loop.example/rangechains/laws.FnRecoverLog", spec := "fnRecoverLog", recurses := true, apart := false, narrowed := true }
def FnRecoverLogUptoSaid : Prop := fnRecoverLogUptoRow.holds Try.pinned (OpenSpec.upto fnRecoverLogSpec)

/-- 'laws.FnExactBagAdd', WHERE WHAT IT READS IS OF BULK AT MOST 1048576: true; the input reads as it did. -/
def fnExactBagAddUptoRow : OpenClaim := { program := "ytkgmjndeeljpjaa", sum := "f94871071971e713a9fb997d6dc2733351c62f22932c7d2b02597e812f579e57", func := "loop.example/rangechains/laws.FnExactBagAdd", spec := "fnExactBagAdd", recurses := true, apart := false, narrowed := true }
def FnExactBagAddUptoSaid : Prop := fnExactBagAddUptoRow.holds Try.pinned (OpenSpec.upto fnExactBagAddSpec)

/-- 'laws.FnDiskCrash', WHERE WHAT IT READS IS OF BULK AT MOST 1048576: true; the input reads as it did. -/
def fnDiskCrashUptoRow : OpenClaim := { program := "ytkgmjndeeljpjaa", sum := "f94871071971e713a9fb997d6dc2733351c62f22932c7d2b02597e812f579e57", func := "loop.example/rangechains/laws.FnDiskCrash", spec := "fnDiskCrash", recurses := true, apart := false, narrowed := true }
def FnDiskCrashUptoSaid : Prop := fnDiskCrashUptoRow.holds Try.pinned (OpenSpec.upto fnDiskCrashSpec)

/-- 'laws.FnExactBagRepeat', WHERE WHAT IT READS IS OF BULK AT MOST 1048576: true; the input reads as it did. -/
def fnExactBagRepeatUptoRow : OpenClaim := { program := "ytkgmjndeeljpjaa", sum := "f94871071971e713a9fb997d6dc2733351c62f22932c7d2b02597e812f579e57", func := "loop.example/rangechains/laws.FnExactBagRepeat", spec := "fnExactBagRepeat", recurses := true, apart := false, narrowed := true }
def FnExactBagRepeatUptoSaid : Prop := fnExactBagRepeatUptoRow.holds Try.pinned (OpenSpec.upto fnExactBagRepeatSpec)

/-- 'laws.FnExactBagTake', WHERE WHAT IT READS IS OF BULK AT MOST 1048576: true; the input reads as it did. -/
def fnExactBagTakeUptoRow : OpenClaim := { program := "ytkgmjndeeljpjaa", sum := "f94871071971e713a9fb997d6dc2733351c62f22932c7d2b02597e812f579e57", func := "loop.example/rangechains/laws.FnExactBagTake", spec := "fnExactBagTake", recurses := true, apart := false, narrowed := true }
def FnExactBagTakeUptoSaid : Prop := fnExactBagTakeUptoRow.holds Try.pinned (OpenSpec.upto fnExactBagTakeSpec)

end Rows
end Go.Proofs.Ytkgmjndeeljpjaa
