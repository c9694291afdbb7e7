/-
  No cell of these rows narrows 'for every input' (looked for: loops, veiled, ifaces, maps, wideKeys, modest, calm, conditions, laid).
  DERIVED. THE GIVEN ROWS OF THIS SEAT. 12 by the template 'for every input the law returns true; each argument reads behind the call as it read before'; 0 by the template 'total and deterministic' (their statements: YtjhehjbmbchbaaaTotals.lean).
  GIVEN WITH THE SEED: the statements are not yours to turn. If you find one false, say at which input.
  Laid BY PROGRAM, IN A SANDBOX (cutbox-rows.mjs): the forced cells as the released guide's own fill.sh prints them over the translation 725b62c1bf768d58… (all of the seat's roots in one cut). By AI agents, Wed Nov 11 2026. No macro, syntax, notation, axiom, sorry.
-/
import Derived.Test.YtjhehjbmbchbaaaChecked
import GoSem.Claim
import GoSem.ClaimJoined
import GoSem.ClaimMapViews
import Derived.JoinedTies
import Derived.KernelRfl
namespace Go.Proofs.Ytjhehjbmbchbaaa
/- THE CELL 'sum', in the pinned program and in every row, IS THE sha256 OF THE DUMP (.gsa) THAT YtjhehjbmbchbaaaProg.lean LOADS. Nothing in Lean hashes anything: it is a label: what it is worth is what the hold of that sum in a sandbox is worth. -/
noncomputable def Try.pinned : Pinned := { name := "ytjhehjbmbchbaaa", sum := "725b62c1bf768d58b0e8def5babcd322c18d00ad4bb950bc165da1553f160b99", checked := Try.checked }
namespace Rows
def none {H : Type} : Left H := { results := [], args := [] }

/-- 'laws.FnExactConfigValid': WHATEVER THE INPUT: true; the input reads as it did. -/
def fnExactConfigValidSpec : ChangeSpec := { name := "fnExactConfigValid", fn := fun _ => fun
  | [d] => { results := [.lit (.bool true)], args := [d] }
  | _ => none }
def fnExactConfigValidRow : OpenClaim := { program := "ytjhehjbmbchbaaa", sum := "725b62c1bf768d58b0e8def5babcd322c18d00ad4bb950bc165da1553f160b99", func := "loop.example/rangechains/laws.FnExactConfigValid", spec := "fnExactConfigValid", apart := false }
def FnExactConfigValidSaid : Prop := fnExactConfigValidRow.holds Try.pinned (OpenSpec.ofChange fnExactConfigValidSpec)

/-- ITS FALSE NEIGHBOUR: 'it returns false'. Refute it at one input. -/
def fnExactConfigValidWrong : ChangeSpec := { name := "fnExactConfigValid", fn := fun _ => fun
  | [d] => { results := [.lit (.bool false)], args := [d] }
  | _ => none }
def FnExactConfigValidWrongFalsely : Prop := fnExactConfigValidRow.holds Try.pinned (OpenSpec.ofChange fnExactConfigValidWrong)

/-- 'laws.FnExactMemberAfter': WHATEVER THE INPUT: true; the input reads as it did. -/
def fnExactMemberAfterSpec : ChangeSpec := { name := "fnExactMemberAfter", fn := fun _ => fun
  | [d1, d2] => { results := [.lit (.bool true)], args := [d1, d2] }
  | _ => none }
def fnExactMemberAfterRow : OpenClaim := { program := "ytjhehjbmbchbaaa", sum := "725b62c1bf768d58b0e8def5babcd322c18d00ad4bb950bc165da1553f160b99", func := "loop.example/rangechains/laws.FnExactMemberAfter", spec := "fnExactMemberAfter", apart := false }
def FnExactMemberAfterSaid : Prop := fnExactMemberAfterRow.holds Try.pinned (OpenSpec.ofChange fnExactMemberAfterSpec)

/-- ITS FALSE NEIGHBOUR: 'it returns false'. Refute it at one input. -/
def fnExactMemberAfterWrong : ChangeSpec := { name := "fnExactMemberAfter", fn := fun _ => fun
  | [d1, d2] => { results := [.lit (.bool false)], args := [d1, d2] }
  | _ => none }
def FnExactMemberAfterWrongFalsely : Prop := fnExactMemberAfterRow.holds Try.pinned (OpenSpec.ofChange fnExactMemberAfterWrong)

/-- 'laws.FnExactEventValid': WHATEVER THE INPUT: true; the input reads as it did. -/
def fnExactEventValidSpec : ChangeSpec := { name := "fnExactEventValid", fn := fun _ => fun
  | [d] => { results := [.lit (.bool true)], args := [d] }
  | _ => none }
def fnExactEventValidRow : OpenClaim := { program := "ytjhehjbmbchbaaa", sum := "725b62c1bf768d58b0e8def5babcd322c18d00ad4bb950bc165da1553f160b99", func := "loop.example/rangechains/laws.FnExactEventValid", spec := "fnExactEventValid", recurses := true, apart := false }
def FnExactEventValidSaid : Prop := fnExactEventValidRow.holds Try.pinned (OpenSpec.ofChange fnExactEventValidSpec)

/-- ITS FALSE NEIGHBOUR: 'it returns false'. Refute it at one input. -/
def fnExactEventValidWrong : ChangeSpec := { name := "fnExactEventValid", fn := fun _ => fun
  | [d] => { results := [.lit (.bool false)], args := [d] }
  | _ => none }
def FnExactEventValidWrongFalsely : Prop := fnExactEventValidRow.holds Try.pinned (OpenSpec.ofChange fnExactEventValidWrong)

/-- 'laws.FnExactCompleteMembers': WHATEVER THE INPUT: true; the input reads as it did. -/
def fnExactCompleteMembersSpec : ChangeSpec := { name := "fnExactCompleteMembers", fn := fun _ => fun
  | [d] => { results := [.lit (.bool true)], args := [d] }
  | _ => none }
def fnExactCompleteMembersRow : OpenClaim := { program := "ytjhehjbmbchbaaa", sum := "725b62c1bf768d58b0e8def5babcd322c18d00ad4bb950bc165da1553f160b99", func := "loop.example/rangechains/laws.FnExactCompleteMembers", spec := "fnExactCompleteMembers", apart := false }
def FnExactCompleteMembersSaid : Prop := fnExactCompleteMembersRow.holds Try.pinned (OpenSpec.ofChange fnExactCompleteMembersSpec)

/-- ITS FALSE NEIGHBOUR: 'it returns false'. Refute it at one input. -/
def fnExactCompleteMembersWrong : ChangeSpec := { name := "fnExactCompleteMembers", fn := fun _ => fun
  | [d] => { results := [.lit (.bool false)], args := [d] }
  | _ => none }
def FnExactCompleteMembersWrongFalsely : Prop := fnExactCompleteMembersRow.holds Try.pinned (OpenSpec.ofChange fnExactCompleteMembersWrong)

/-- 'laws.FnExactConfigDone': WHATEVER THE INPUT: true; the input reads as it did. -/
def fnExactConfigDoneSpec : ChangeSpec := { name := "fnExactConfigDone", fn := fun _ => fun
  | [d] => { results := [.lit (.bool true)], args := [d] }
  | _ => none }
def fnExactConfigDoneRow : OpenClaim := { program := "ytjhehjbmbchbaaa", sum := "725b62c1bf768d58b0e8def5babcd322c18d00ad4bb950bc165da1553f160b99", func := "loop.example/rangechains/laws.FnExactConfigDone", spec := "fnExactConfigDone", apart := false }
def FnExactConfigDoneSaid : Prop := fnExactConfigDoneRow.holds Try.pinned (OpenSpec.ofChange fnExactConfigDoneSpec)

/-- ITS FALSE NEIGHBOUR: 'it returns false'. Refute it at one input. -/
def fnExactConfigDoneWrong : ChangeSpec := { name := "fnExactConfigDone", fn := fun _ => fun
  | [d] => { results := [.lit (.bool false)], args := [d] }
  | _ => none }
def FnExactConfigDoneWrongFalsely : Prop := fnExactConfigDoneRow.holds Try.pinned (OpenSpec.ofChange fnExactConfigDoneWrong)

/-- 'laws.FnExactWithMember': WHATEVER THE INPUT: true; the input reads as it did. -/
def fnExactWithMemberSpec : ChangeSpec := { name := "fnExactWithMember", fn := fun _ => fun
  | [d1, d2] => { results := [.lit (.bool true)], args := [d1, d2] }
  | _ => none }
def fnExactWithMemberRow : OpenClaim := { program := "ytjhehjbmbchbaaa", sum := "725b62c1bf768d58b0e8def5babcd322c18d00ad4bb950bc165da1553f160b99", func := "loop.example/rangechains/laws.FnExactWithMember", spec := "fnExactWithMember", apart := false }
def FnExactWithMemberSaid : Prop := fnExactWithMemberRow.holds Try.pinned (OpenSpec.ofChange fnExactWithMemberSpec)

/-- ITS FALSE NEIGHBOUR: 'it returns false'. Refute it at one input. -/
def fnExactWithMemberWrong : ChangeSpec := { name := "fnExactWithMember", fn := fun _ => fun
  | [d1, d2] => { results := [.lit (.bool false)], args := [d1, d2] }
  | _ => none }
def FnExactWithMemberWrongFalsely : Prop := fnExactWithMemberRow.holds Try.pinned (OpenSpec.ofChange fnExactWithMemberWrong)

/-- 'laws.FnConfigValid': WHATEVER THE INPUT: true; the input reads as it did. -/
def fnConfigValidSpec : ChangeSpec := { name := "fnConfigValid", fn := fun _ => fun
  | [d] => { results := [.lit (.bool true)], args := [d] }
  | _ => none }
def fnConfigValidRow : OpenClaim := { program := "ytjhehjbmbchbaaa", sum := "725b62c1bf768d58b0e8def5babcd322c18d00ad4bb950bc165da1553f160b99", func := "loop.example/rangechains/laws.FnConfigValid", spec := "fnConfigValid", recurses := true, apart := false }
def FnConfigValidSaid : Prop := fnConfigValidRow.holds Try.pinned (OpenSpec.ofChange fnConfigValidSpec)

/-- ITS FALSE NEIGHBOUR: 'it returns false'. Refute it at one input. -/
def fnConfigValidWrong : ChangeSpec := { name := "fnConfigValid", fn := fun _ => fun
  | [d] => { results := [.lit (.bool false)], args := [d] }
  | _ => none }
def FnConfigValidWrongFalsely : Prop := fnConfigValidRow.holds Try.pinned (OpenSpec.ofChange fnConfigValidWrong)

/-- 'laws.FnExactWithoutMember': WHATEVER THE INPUT: true; the input reads as it did. -/
def fnExactWithoutMemberSpec : ChangeSpec := { name := "fnExactWithoutMember", fn := fun _ => fun
  | [d1, d2] => { results := [.lit (.bool true)], args := [d1, d2] }
  | _ => none }
def fnExactWithoutMemberRow : OpenClaim := { program := "ytjhehjbmbchbaaa", sum := "725b62c1bf768d58b0e8def5babcd322c18d00ad4bb950bc165da1553f160b99", func := "loop.example/rangechains/laws.FnExactWithoutMember", spec := "fnExactWithoutMember", apart := false }
def FnExactWithoutMemberSaid : Prop := fnExactWithoutMemberRow.holds Try.pinned (OpenSpec.ofChange fnExactWithoutMemberSpec)

/-- ITS FALSE NEIGHBOUR: 'it returns false'. Refute it at one input. -/
def fnExactWithoutMemberWrong : ChangeSpec := { name := "fnExactWithoutMember", fn := fun _ => fun
  | [d1, d2] => { results := [.lit (.bool false)], args := [d1, d2] }
  | _ => none }
def FnExactWithoutMemberWrongFalsely : Prop := fnExactWithoutMemberRow.holds Try.pinned (OpenSpec.ofChange fnExactWithoutMemberWrong)

/-- 'laws.FnCompleteMembers': WHATEVER THE INPUT: true; the input reads as it did. -/
def fnCompleteMembersSpec : ChangeSpec := { name := "fnCompleteMembers", fn := fun _ => fun
  | [d] => { results := [.lit (.bool true)], args := [d] }
  | _ => none }
def fnCompleteMembersRow : OpenClaim := { program := "ytjhehjbmbchbaaa", sum := "725b62c1bf768d58b0e8def5babcd322c18d00ad4bb950bc165da1553f160b99", func := "loop.example/rangechains/laws.FnCompleteMembers", spec := "fnCompleteMembers", recurses := true, apart := false }
def FnCompleteMembersSaid : Prop := fnCompleteMembersRow.holds Try.pinned (OpenSpec.ofChange fnCompleteMembersSpec)

/-- ITS FALSE NEIGHBOUR: 'it returns false'. Refute it at one input. -/
def fnCompleteMembersWrong : ChangeSpec := { name := "fnCompleteMembers", fn := fun _ => fun
  | [d] => { results := [.lit (.bool false)], args := [d] }
  | _ => none }
def FnCompleteMembersWrongFalsely : Prop := fnCompleteMembersRow.holds Try.pinned (OpenSpec.ofChange fnCompleteMembersWrong)

/-- 'laws.FnMemberAfter': WHATEVER THE INPUT: true; the input reads as it did. -/
def fnMemberAfterSpec : ChangeSpec := { name := "fnMemberAfter", fn := fun _ => fun
  | [d] => { results := [.lit (.bool true)], args := [d] }
  | _ => none }
def fnMemberAfterRow : OpenClaim := { program := "ytjhehjbmbchbaaa", sum := "725b62c1bf768d58b0e8def5babcd322c18d00ad4bb950bc165da1553f160b99", func := "loop.example/rangechains/laws.FnMemberAfter", spec := "fnMemberAfter", recurses := true, apart := false }
def FnMemberAfterSaid : Prop := fnMemberAfterRow.holds Try.pinned (OpenSpec.ofChange fnMemberAfterSpec)

/-- ITS FALSE NEIGHBOUR: 'it returns false'. Refute it at one input. -/
def fnMemberAfterWrong : ChangeSpec := { name := "fnMemberAfter", fn := fun _ => fun
  | [d] => { results := [.lit (.bool false)], args := [d] }
  | _ => none }
def FnMemberAfterWrongFalsely : Prop := fnMemberAfterRow.holds Try.pinned (OpenSpec.ofChange fnMemberAfterWrong)

/-- 'laws.FnConfigDone': WHATEVER THE INPUT: true; the input reads as it did. -/
def fnConfigDoneSpec : ChangeSpec := { name := "fnConfigDone", fn := fun _ => fun
  | [d] => { results := [.lit (.bool true)], args := [d] }
  | _ => none }
def fnConfigDoneRow : OpenClaim := { program := "ytjhehjbmbchbaaa", sum := "725b62c1bf768d58b0e8def5babcd322c18d00ad4bb950bc165da1553f160b99", func := "loop.example/rangechains/laws.FnConfigDone", spec := "fnConfigDone", recurses := true, apart := false }
def FnConfigDoneSaid : Prop := fnConfigDoneRow.holds Try.pinned (OpenSpec.ofChange fnConfigDoneSpec)

/-- ITS FALSE NEIGHBOUR: 'it returns false'. Refute it at one input. -/
def fnConfigDoneWrong : ChangeSpec := { name := "fnConfigDone", fn := fun _ => fun
  | [d] => { results := [.lit (.bool false)], args := [d] }
  | _ => none }
def FnConfigDoneWrongFalsely : Prop := fnConfigDoneRow.holds Try.pinned (OpenSpec.ofChange fnConfigDoneWrong)

/-- 'laws.FnWithoutMember': WHATEVER THE INPUT: true; the input reads as it did. -/
def fnWithoutMemberSpec : ChangeSpec := { name := "fnWithoutMember", fn := fun _ => fun
  | [d] => { results := [.lit (.bool true)], args := [d] }
  | _ => none }
def fnWithoutMemberRow : OpenClaim := { program := "ytjhehjbmbchbaaa", sum := "725b62c1bf768d58b0e8def5babcd322c18d00ad4bb950bc165da1553f160b99", func := "loop.example/rangechains/laws.FnWithoutMember", spec := "fnWithoutMember", recurses := true, apart := false }
def FnWithoutMemberSaid : Prop := fnWithoutMemberRow.holds Try.pinned (OpenSpec.ofChange fnWithoutMemberSpec)

/-- ITS FALSE NEIGHBOUR: 'it returns false'. Refute it at one input. -/
def fnWithoutMemberWrong : ChangeSpec := { name := "fnWithoutMember", fn := fun _ => fun
  | [d] => { results := [.lit (.bool false)], args := [d] }
  | _ => none }
def FnWithoutMemberWrongFalsely : Prop := fnWithoutMemberRow.holds Try.pinned (OpenSpec.ofChange fnWithoutMemberWrong)

/- THE SECOND FORM. 'bulk': how many values and letters a reading holds, each counted each time it is reached (what is shared counts as often as it is met; a slice's spare places count too). A statement '..UptoSaid' is the law's where the arguments, and the package variables that the reading takes, are together of bulk at most 1048576: NARROWER than '..Said'. Prove '..Said' where nothing that the law and all that it calls make is longer than what came in: it says more and counts as full. Else prove '..UptoSaid'. A law counts once. -/
mutual
def uptoBulk {H : Type} : DataW H → Nat
  | .lit (.string bytes) => bytes.length + 1
  | .lit _ => 1
  | .nil => 1
  | .ptr d => uptoBulk d + 1
  | .slice elems spare => uptoBulkAll elems + uptoBulkAll spare + 1
  | .agg parts => uptoBulkAll parts + 1
  | .iface _ d => uptoBulk d + 1
  | .map entries => uptoBulkEntries entries + 1
  | .held _ => 1
def uptoBulkAll {H : Type} : List (DataW H) → Nat
  | [] => 0
  | d :: r => uptoBulk d + uptoBulkAll r
def uptoBulkEntries {H : Type} : List (Lit × DataW H) → Nat
  | [] => 0
  | x :: r => uptoBulkEntry x + uptoBulkEntries r
def uptoBulkEntry {H : Type} : Lit × DataW H → Nat
  | (.string bytes, d) => bytes.length + uptoBulk d + 1
  | (_, d) => uptoBulk d + 1
 end
def uptoSmall : (H : Type) → List (DataW H) → Bool := fun _ ds => decide (uptoBulkAll ds ≤ 1048576)
def OpenSpec.upto (s : _root_.Go.ChangeSpec) : _root_.Go.OpenSpec := { _root_.Go.OpenSpec.ofChange s with cond := some uptoSmall }

/-- 'laws.FnExactConfigValid', WHERE WHAT IT READS IS OF BULK AT MOST 1048576: true; the input reads as it did. -/
def fnExactConfigValidUptoRow : OpenClaim := { program := "ytjhehjbmbchbaaa", sum := "725b62c1bf768d58b0e8def5babcd322c18d00ad4bb950bc165da1553f160b99", func := "loop.example/rangechains/laws.FnExactConfigValid", spec := "fnExactConfigValid", apart := false, narrowed := true }
def FnExactConfigValidUptoSaid : Prop := fnExactConfigValidUptoRow.holds Try.pinned (OpenSpec.upto fnExactConfigValidSpec)

/-- 'laws.FnExactMemberAfter', WHERE WHAT IT READS IS OF BULK AT MOST 1048576: true; the input reads as it did. -/
def fnExactMemberAfterUptoRow : OpenClaim := { program := "ytjhehjbmbchbaaa", sum := "725b62c1bf768d58b0e8def5babcd322c18d00ad4bb950bc165da1553f160b99", func := "loop.example/rangechains/laws.FnExactMemberAfter", spec := "fnExactMemberAfter", apart := false, narrowed := true }
def FnExactMemberAfterUptoSaid : Prop := fnExactMemberAfterUptoRow.holds Try.pinned (OpenSpec.upto fnExactMemberAfterSpec)

/-- 'laws.FnExactEventValid', WHERE WHAT IT READS IS OF BULK AT MOST 1048576: true; the input reads as it did. -/
def fnExactEventValidUptoRow : OpenClaim := { program := "ytjhehjbmbchbaaa", sum := "725b62c1bf768d58b0e8def5babcd322c18d00ad4bb950bc165da1553f160b99", func := "loop.example/rangechains/laws.FnExactEventValid", spec := "fnExactEventValid", recurses := true, apart := false, narrowed := true }
def FnExactEventValidUptoSaid : Prop := fnExactEventValidUptoRow.holds Try.pinned (OpenSpec.upto fnExactEventValidSpec)

/-- 'laws.FnExactCompleteMembers', WHERE WHAT IT READS IS OF BULK AT MOST 1048576: true; the input reads as it did. -/
def fnExactCompleteMembersUptoRow : OpenClaim := { program := "ytjhehjbmbchbaaa", sum := "725b62c1bf768d58b0e8def5babcd322c18d00ad4bb950bc165da1553f160b99", func := "loop.example/rangechains/laws.FnExactCompleteMembers", spec := "fnExactCompleteMembers", apart := false, narrowed := true }
def FnExactCompleteMembersUptoSaid : Prop := fnExactCompleteMembersUptoRow.holds Try.pinned (OpenSpec.upto fnExactCompleteMembersSpec)

/-- 'laws.FnExactConfigDone', WHERE WHAT IT READS IS OF BULK AT MOST 1048576: true; the input reads as it did. -/
def fnExactConfigDoneUptoRow : OpenClaim := { program := "ytjhehjbmbchbaaa", sum := "725b62c1bf768d58b0e8def5babcd322c18d00ad4bb950bc165da1553f160b99", func := "loop.example/rangechains/laws.FnExactConfigDone", spec := "fnExactConfigDone", apart := false, narrowed := true }
def FnExactConfigDoneUptoSaid : Prop := fnExactConfigDoneUptoRow.holds Try.pinned (OpenSpec.upto fnExactConfigDoneSpec)

/-- 'laws.FnExactWithMember', WHERE WHAT IT READS IS OF BULK AT MOST 1048576: true; the input reads as it did. -/
def fnExactWithMemberUptoRow : OpenClaim := { program := "ytjhehjbmbchbaaa", sum := "725b62c1bf768d58b0e8def5babcd322c18d00ad4bb950bc165da1553f160b99", func := "loop.example/rangechains/laws.FnExactWithMember", spec := "fnExactWithMember", apart := false, narrowed := true }
def FnExactWithMemberUptoSaid : Prop := fnExactWithMemberUptoRow.holds Try.pinned (OpenSpec.upto fnExactWithMemberSpec)

/-- 'laws.FnConfigValid', WHERE WHAT IT READS IS OF BULK AT MOST 1048576: true; the input reads as it did. -/
def fnConfigValidUptoRow : OpenClaim := { program := "ytjhehjbmbchbaaa", sum := "725b62c1bf768d58b0e8def5babcd322c18d00ad4bb950bc165da1553f160b99", func := "loop.example/rangechains/laws.FnConfigValid", spec := "fnConfigValid", recurses := true, apart := false, narrowed := true }
def FnConfigValidUptoSaid : Prop := fnConfigValidUptoRow.holds Try.pinned (OpenSpec.upto fnConfigValidSpec)

/-- 'laws.FnExactWithoutMember', WHERE WHAT IT READS IS OF BULK AT MOST 1048576: true; the input reads as it did. -/
def fnExactWithoutMemberUptoRow : OpenClaim := { program := "ytjhehjbmbchbaaa", sum := "725b62c1bf768d58b0e8def5babcd322c18d00ad4bb950bc165da1553f160b99", func := "loop.example/rangechains/laws.FnExactWithoutMember", spec := "fnExactWithoutMember", apart := false, narrowed := true }
def FnExactWithoutMemberUptoSaid : Prop := fnExactWithoutMemberUptoRow.holds Try.pinned (OpenSpec.upto fnExactWithoutMemberSpec)

/-- 'laws.FnCompleteMembers', WHERE WHAT IT READS IS OF BULK AT MOST 1048576: true; the input reads as it did. -/
def fnCompleteMembersUptoRow : OpenClaim := { program := "ytjhehjbmbchbaaa", sum := "725b62c1bf768d58b0e8def5babcd322c18d00ad4bb950bc165da1553f160b99", func := "loop.example/rangechains/laws.FnCompleteMembers", spec := "fnCompleteMembers", recurses := true, apart := false, narrowed := true }
def FnCompleteMembersUptoSaid : Prop := fnCompleteMembersUptoRow.holds Try.pinned (OpenSpec.upto fnCompleteMembersSpec)

/-- 'laws.FnMemberAfter', WHERE WHAT IT READS IS OF BULK AT MOST 1048576: true; the input reads as it did. -/
def fnMemberAfterUptoRow : OpenClaim := { program := "ytjhehjbmbchbaaa", sum := "725b62c1bf768d58b0e8def5babcd322c18d00ad4bb950bc165da1553f160b99", func := "loop.example/rangechains/laws.FnMemberAfter", spec := "fnMemberAfter", recurses := true, apart := false, narrowed := true }
def FnMemberAfterUptoSaid : Prop := fnMemberAfterUptoRow.holds Try.pinned (OpenSpec.upto fnMemberAfterSpec)

/-- 'laws.FnConfigDone', WHERE WHAT IT READS IS OF BULK AT MOST 1048576: true; the input reads as it did. -/
def fnConfigDoneUptoRow : OpenClaim := { program := "ytjhehjbmbchbaaa", sum := "725b62c1bf768d58b0e8def5babcd322c18d00ad4bb950bc165da1553f160b99", func := "loop.example/rangechains/laws.FnConfigDone", spec := "fnConfigDone", recurses := true, apart := false, narrowed := true }
def FnConfigDoneUptoSaid : Prop := fnConfigDoneUptoRow.holds Try.pinned (OpenSpec.upto fnConfigDoneSpec)

/-- 'laws.FnWithoutMember', WHERE WHAT IT READS IS OF BULK AT MOST 1048576: true; the input reads as it did. -/
def fnWithoutMemberUptoRow : OpenClaim := { program := "ytjhehjbmbchbaaa", sum := "725b62c1bf768d58b0e8def5babcd322c18d00ad4bb950bc165da1553f160b99", func := "loop.example/rangechains/laws.FnWithoutMember", spec := "fnWithoutMember", recurses := true, apart := false, narrowed := true }
def FnWithoutMemberUptoSaid : Prop := fnWithoutMemberUptoRow.holds Try.pinned (OpenSpec.upto fnWithoutMemberSpec)

end Rows
end Go.Proofs.Ytjhehjbmbchbaaa
