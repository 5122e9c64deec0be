/-
  No cell of these rows narrows 'for every input' (looked for: loops, veiled, ifaces, maps, wideKeys, modest, calm, conditions, laid).
  DERIVED. THE GIVEN ROWS OF THIS SEAT. 9 by the template 'for every input the law returns true; each argument reads behind the call as it read before'; 0 by the template 'total and deterministic' (their statements: YtammgbnekmcaeaaTotals.lean).
  GIVEN WITH THE SEED: the statements are not yours to turn. If you find one false, say at which input.
  Laid BY PROGRAM, IN A SANDBOX (cutbox-rows.mjs): the forced cells as the released guide's own fill.sh prints them over the translation 49e29a6781ec048d… (all of the seat's roots in one cut). By AI agents, Wed Nov 11 2026. No macro, syntax, notation, axiom, sorry.
-/
import Derived.Test.YtammgbnekmcaeaaChecked
import GoSem.Claim
import GoSem.ClaimJoined
import GoSem.ClaimMapViews
import Derived.JoinedTies
import Derived.KernelRfl
namespace Go.Proofs.Ytammgbnekmcaeaa
/- THE CELL 'sum', in the pinned program and in every row, IS THE sha256 OF THE DUMP (.gsa) THAT YtammgbnekmcaeaaProg.lean LOADS. Nothing in Lean hashes anything: it is a label: what it is worth is what the hold of that sum in a sandbox is worth. -/
noncomputable def Try.pinned : Pinned := { name := "ytammgbnekmcaeaa", sum := "49e29a6781ec048d770e0f12b4b7716f17895bc32d0d82a0000db21b058380ef", checked := Try.checked }
namespace Rows
def none {H : Type} : Left H := { results := [], args := [] }

/-- 'laws.FnExactTourWay': WHATEVER THE INPUT: true; the input reads as it did. -/
def fnExactTourWaySpec : ChangeSpec := { name := "fnExactTourWay", fn := fun _ => fun
  | [d1, d2, d3] => { results := [.lit (.bool true)], args := [d1, d2, d3] }
  | _ => none }
def fnExactTourWayRow : OpenClaim := { program := "ytammgbnekmcaeaa", sum := "49e29a6781ec048d770e0f12b4b7716f17895bc32d0d82a0000db21b058380ef", func := "loop.example/elevators/laws.FnExactTourWay", spec := "fnExactTourWay", apart := false }
def FnExactTourWaySaid : Prop := fnExactTourWayRow.holds Try.pinned (OpenSpec.ofChange fnExactTourWaySpec)

/-- ITS FALSE NEIGHBOUR: 'it returns false'. Refute it at one input. -/
def fnExactTourWayWrong : ChangeSpec := { name := "fnExactTourWay", fn := fun _ => fun
  | [d1, d2, d3] => { results := [.lit (.bool false)], args := [d1, d2, d3] }
  | _ => none }
def FnExactTourWayWrongFalsely : Prop := fnExactTourWayRow.holds Try.pinned (OpenSpec.ofChange fnExactTourWayWrong)

/-- 'laws.FnTripWork': WHATEVER THE INPUT: true; the input reads as it did. -/
def fnTripWorkSpec : ChangeSpec := { name := "fnTripWork", fn := fun _ => fun
  | [d] => { results := [.lit (.bool true)], args := [d] }
  | _ => none }
def fnTripWorkRow : OpenClaim := { program := "ytammgbnekmcaeaa", sum := "49e29a6781ec048d770e0f12b4b7716f17895bc32d0d82a0000db21b058380ef", func := "loop.example/elevators/laws.FnTripWork", spec := "fnTripWork", apart := false }
def FnTripWorkSaid : Prop := fnTripWorkRow.holds Try.pinned (OpenSpec.ofChange fnTripWorkSpec)

/-- ITS FALSE NEIGHBOUR: 'it returns false'. Refute it at one input. -/
def fnTripWorkWrong : ChangeSpec := { name := "fnTripWork", fn := fun _ => fun
  | [d] => { results := [.lit (.bool false)], args := [d] }
  | _ => none }
def FnTripWorkWrongFalsely : Prop := fnTripWorkRow.holds Try.pinned (OpenSpec.ofChange fnTripWorkWrong)

/-- 'laws.FnLoadFirst': WHATEVER THE INPUT: true; the input reads as it did. -/
def fnLoadFirstSpec : ChangeSpec := { name := "fnLoadFirst", fn := fun _ => fun
  | [d] => { results := [.lit (.bool true)], args := [d] }
  | _ => none }
def fnLoadFirstRow : OpenClaim := { program := "ytammgbnekmcaeaa", sum := "49e29a6781ec048d770e0f12b4b7716f17895bc32d0d82a0000db21b058380ef", func := "loop.example/elevators/laws.FnLoadFirst", spec := "fnLoadFirst", apart := false }
def FnLoadFirstSaid : Prop := fnLoadFirstRow.holds Try.pinned (OpenSpec.ofChange fnLoadFirstSpec)

/-- ITS FALSE NEIGHBOUR: 'it returns false'. Refute it at one input. -/
def fnLoadFirstWrong : ChangeSpec := { name := "fnLoadFirst", fn := fun _ => fun
  | [d] => { results := [.lit (.bool false)], args := [d] }
  | _ => none }
def FnLoadFirstWrongFalsely : Prop := fnLoadFirstRow.holds Try.pinned (OpenSpec.ofChange fnLoadFirstWrong)

/-- 'laws.FnVisitsOk': WHATEVER THE INPUT: true; the input reads as it did. -/
def fnVisitsOkSpec : ChangeSpec := { name := "fnVisitsOk", fn := fun _ => fun
  | [d] => { results := [.lit (.bool true)], args := [d] }
  | _ => none }
def fnVisitsOkRow : OpenClaim := { program := "ytammgbnekmcaeaa", sum := "49e29a6781ec048d770e0f12b4b7716f17895bc32d0d82a0000db21b058380ef", func := "loop.example/elevators/laws.FnVisitsOk", spec := "fnVisitsOk", apart := false }
def FnVisitsOkSaid : Prop := fnVisitsOkRow.holds Try.pinned (OpenSpec.ofChange fnVisitsOkSpec)

/-- ITS FALSE NEIGHBOUR: 'it returns false'. Refute it at one input. -/
def fnVisitsOkWrong : ChangeSpec := { name := "fnVisitsOk", fn := fun _ => fun
  | [d] => { results := [.lit (.bool false)], args := [d] }
  | _ => none }
def FnVisitsOkWrongFalsely : Prop := fnVisitsOkRow.holds Try.pinned (OpenSpec.ofChange fnVisitsOkWrong)

/-- 'laws.FnExactGroupLongest': WHATEVER THE INPUT: true; the input reads as it did. -/
def fnExactGroupLongestSpec : ChangeSpec := { name := "fnExactGroupLongest", fn := fun _ => fun
  | [d1, d2, d3, d4] => { results := [.lit (.bool true)], args := [d1, d2, d3, d4] }
  | _ => none }
def fnExactGroupLongestRow : OpenClaim := { program := "ytammgbnekmcaeaa", sum := "49e29a6781ec048d770e0f12b4b7716f17895bc32d0d82a0000db21b058380ef", func := "loop.example/elevators/laws.FnExactGroupLongest", spec := "fnExactGroupLongest", apart := false }
def FnExactGroupLongestSaid : Prop := fnExactGroupLongestRow.holds Try.pinned (OpenSpec.ofChange fnExactGroupLongestSpec)

/-- ITS FALSE NEIGHBOUR: 'it returns false'. Refute it at one input. -/
def fnExactGroupLongestWrong : ChangeSpec := { name := "fnExactGroupLongest", fn := fun _ => fun
  | [d1, d2, d3, d4] => { results := [.lit (.bool false)], args := [d1, d2, d3, d4] }
  | _ => none }
def FnExactGroupLongestWrongFalsely : Prop := fnExactGroupLongestRow.holds Try.pinned (OpenSpec.ofChange fnExactGroupLongestWrong)

/-- 'laws.FnGroupOk': WHATEVER THE INPUT: true; the input reads as it did. -/
def fnGroupOkSpec : ChangeSpec := { name := "fnGroupOk", fn := fun _ => fun
  | [d] => { results := [.lit (.bool true)], args := [d] }
  | _ => none }
def fnGroupOkRow : OpenClaim := { program := "ytammgbnekmcaeaa", sum := "49e29a6781ec048d770e0f12b4b7716f17895bc32d0d82a0000db21b058380ef", func := "loop.example/elevators/laws.FnGroupOk", spec := "fnGroupOk", apart := false }
def FnGroupOkSaid : Prop := fnGroupOkRow.holds Try.pinned (OpenSpec.ofChange fnGroupOkSpec)

/-- ITS FALSE NEIGHBOUR: 'it returns false'. Refute it at one input. -/
def fnGroupOkWrong : ChangeSpec := { name := "fnGroupOk", fn := fun _ => fun
  | [d] => { results := [.lit (.bool false)], args := [d] }
  | _ => none }
def FnGroupOkWrongFalsely : Prop := fnGroupOkRow.holds Try.pinned (OpenSpec.ofChange fnGroupOkWrong)

/-- 'laws.FnExactGroupNear': WHATEVER THE INPUT: true; the input reads as it did. -/
def fnExactGroupNearSpec : ChangeSpec := { name := "fnExactGroupNear", fn := fun _ => fun
  | [d1, d2, d3] => { results := [.lit (.bool true)], args := [d1, d2, d3] }
  | _ => none }
def fnExactGroupNearRow : OpenClaim := { program := "ytammgbnekmcaeaa", sum := "49e29a6781ec048d770e0f12b4b7716f17895bc32d0d82a0000db21b058380ef", func := "loop.example/elevators/laws.FnExactGroupNear", spec := "fnExactGroupNear", apart := false }
def FnExactGroupNearSaid : Prop := fnExactGroupNearRow.holds Try.pinned (OpenSpec.ofChange fnExactGroupNearSpec)

/-- ITS FALSE NEIGHBOUR: 'it returns false'. Refute it at one input. -/
def fnExactGroupNearWrong : ChangeSpec := { name := "fnExactGroupNear", fn := fun _ => fun
  | [d1, d2, d3] => { results := [.lit (.bool false)], args := [d1, d2, d3] }
  | _ => none }
def FnExactGroupNearWrongFalsely : Prop := fnExactGroupNearRow.holds Try.pinned (OpenSpec.ofChange fnExactGroupNearWrong)

/-- 'laws.FnTourWay': WHATEVER THE INPUT: true; the input reads as it did. -/
def fnTourWaySpec : ChangeSpec := { name := "fnTourWay", fn := fun _ => fun
  | [d] => { results := [.lit (.bool true)], args := [d] }
  | _ => none }
def fnTourWayRow : OpenClaim := { program := "ytammgbnekmcaeaa", sum := "49e29a6781ec048d770e0f12b4b7716f17895bc32d0d82a0000db21b058380ef", func := "loop.example/elevators/laws.FnTourWay", spec := "fnTourWay", apart := false }
def FnTourWaySaid : Prop := fnTourWayRow.holds Try.pinned (OpenSpec.ofChange fnTourWaySpec)

/-- ITS FALSE NEIGHBOUR: 'it returns false'. Refute it at one input. -/
def fnTourWayWrong : ChangeSpec := { name := "fnTourWay", fn := fun _ => fun
  | [d] => { results := [.lit (.bool false)], args := [d] }
  | _ => none }
def FnTourWayWrongFalsely : Prop := fnTourWayRow.holds Try.pinned (OpenSpec.ofChange fnTourWayWrong)

/-- 'laws.FnTourWork': WHATEVER THE INPUT: true; the input reads as it did. -/
def fnTourWorkSpec : ChangeSpec := { name := "fnTourWork", fn := fun _ => fun
  | [d] => { results := [.lit (.bool true)], args := [d] }
  | _ => none }
def fnTourWorkRow : OpenClaim := { program := "ytammgbnekmcaeaa", sum := "49e29a6781ec048d770e0f12b4b7716f17895bc32d0d82a0000db21b058380ef", func := "loop.example/elevators/laws.FnTourWork", spec := "fnTourWork", apart := false }
def FnTourWorkSaid : Prop := fnTourWorkRow.holds Try.pinned (OpenSpec.ofChange fnTourWorkSpec)

/-- ITS FALSE NEIGHBOUR: 'it returns false'. Refute it at one input. -/
def fnTourWorkWrong : ChangeSpec := { name := "fnTourWork", fn := fun _ => fun
  | [d] => { results := [.lit (.bool false)], args := [d] }
  | _ => none }
def FnTourWorkWrongFalsely : Prop := fnTourWorkRow.holds Try.pinned (OpenSpec.ofChange fnTourWorkWrong)

/- THE SECOND FORM. 'bulk': how many values and letters a reading holds, each counted each time it is reached (what is shared counts as often as it is met; a slice's spare places count too). A statement '..UptoSaid' is the law's where the arguments, and the package variables that the reading takes, are together of bulk at most 1048576: NARROWER than '..Said'. Prove '..Said' where nothing that the law and all that it calls make is longer than what came in: it says more and counts as full. Else prove '..UptoSaid'. A law counts once. -/
mutual
def uptoBulk {H : Type} : DataW H → Nat
  | .lit (.string bytes) => bytes.length + 1
  | .lit _ => 1
  | .nil => 1
  | .ptr d => uptoBulk d + 1
  | .slice elems spare => uptoBulkAll elems + uptoBulkAll spare + 1
  | .agg parts => uptoBulkAll parts + 1
  | .iface _ d => uptoBulk d + 1
  | .map entries => uptoBulkEntries entries + 1
  | .held _ => 1
def uptoBulkAll {H : Type} : List (DataW H) → Nat
  | [] => 0
  | d :: r => uptoBulk d + uptoBulkAll r
def uptoBulkEntries {H : Type} : List (Lit × DataW H) → Nat
  | [] => 0
  | x :: r => uptoBulkEntry x + uptoBulkEntries r
def uptoBulkEntry {H : Type} : Lit × DataW H → Nat
  | (.string bytes, d) => bytes.length + uptoBulk d + 1
  | (_, d) => uptoBulk d + 1
 end
def uptoSmall : (H : Type) → List (DataW H) → Bool := fun _ ds => decide (uptoBulkAll ds ≤ 1048576)
def OpenSpec.upto (s : _root_.Go.ChangeSpec) : _root_.Go.OpenSpec := { _root_.Go.OpenSpec.ofChange s with cond := some uptoSmall }

/-- 'laws.FnExactTourWay', WHERE WHAT IT READS IS OF BULK AT MOST 1048576: true; the input reads as it did. -/
def fnExactTourWayUptoRow : OpenClaim := { program := "ytammgbnekmcaeaa", sum := "49e29a6781ec048d770e0f12b4b7716f17895bc32d0d82a0000db21b058380ef", func := "loop.example/elevators/laws.FnExactTourWay", spec := "fnExactTourWay", apart := false, narrowed := true }
def FnExactTourWayUptoSaid : Prop := fnExactTourWayUptoRow.holds Try.pinned (OpenSpec.upto fnExactTourWaySpec)

/-- 'laws.FnTripWork', WHERE WHAT IT READS IS OF BULK AT MOST 1048576: true; the input reads as it did. -/
def fnTripWorkUptoRow : OpenClaim := { program := "ytammgbnekmcaeaa", sum := "49e29a6781ec048d770e0f12b4b7716f17895bc32d0d82a0000db21b058380ef", func := "loop.example/elevators/laws.FnTripWork", spec := "fnTripWork", apart := false, narrowed := true }
def FnTripWorkUptoSaid : Prop := fnTripWorkUptoRow.holds Try.pinned (OpenSpec.upto fnTripWorkSpec)

/-- 'laws.FnLoadFirst', WHERE WHAT IT READS IS OF BULK AT MOST 1048576: true; the input reads as it did. -/
def fnLoadFirstUptoRow : OpenClaim := { program := "ytammgbnekmcaeaa", sum := "49e29a6781ec048d770e0f12b4b7716f17895bc32d0d82a0000db21b058380ef", func := "loop.example/elevators/laws.FnLoadFirst", spec := "fnLoadFirst", apart := false, narrowed := true }
def FnLoadFirstUptoSaid : Prop := fnLoadFirstUptoRow.holds Try.pinned (OpenSpec.upto fnLoadFirstSpec)

/-- 'laws.FnVisitsOk', WHERE WHAT IT READS IS OF BULK AT MOST 1048576: true; the input reads as it did. -/
def fnVisitsOkUptoRow : OpenClaim := { program := "ytammgbnekmcaeaa", sum := "49e29a6781ec048d770e0f12b4b7716f17895bc32d0d82a0000db21b058380ef", func := "loop.example/elevators/laws.FnVisitsOk", spec := "fnVisitsOk", apart := false, narrowed := true }
def FnVisitsOkUptoSaid : Prop := fnVisitsOkUptoRow.holds Try.pinned (OpenSpec.upto fnVisitsOkSpec)

/-- 'laws.FnExactGroupLongest', WHERE WHAT IT READS IS OF BULK AT MOST 1048576: true; the input reads as it did. -/
def fnExactGroupLongestUptoRow : OpenClaim := { program := "ytammgbnekmcaeaa", sum := "49e29a6781ec048d770e0f12b4b7716f17895bc32d0d82a0000db21b058380ef", func := "loop.example/elevators/laws.FnExactGroupLongest", spec := "fnExactGroupLongest", apart := false, narrowed := true }
def FnExactGroupLongestUptoSaid : Prop := fnExactGroupLongestUptoRow.holds Try.pinned (OpenSpec.upto fnExactGroupLongestSpec)

/-- 'laws.FnGroupOk', WHERE WHAT IT READS IS OF BULK AT MOST 1048576: true; the input reads as it did. -/
def fnGroupOkUptoRow : OpenClaim := { program := "ytammgbnekmcaeaa", sum := "49e29a6781ec048d770e0f12b4b7716f17895bc32d0d82a0000db21b058380ef", func := "loop.example/elevators/laws.FnGroupOk", spec := "fnGroupOk", apart := false, narrowed := true }
def FnGroupOkUptoSaid : Prop := fnGroupOkUptoRow.holds Try.pinned (OpenSpec.upto fnGroupOkSpec)

/-- 'laws.FnExactGroupNear', WHERE WHAT IT READS IS OF BULK AT MOST 1048576: true; the input reads as it did. -/
def fnExactGroupNearUptoRow : OpenClaim := { program := "ytammgbnekmcaeaa", sum := "49e29a6781ec048d770e0f12b4b7716f17895bc32d0d82a0000db21b058380ef", func := "loop.example/elevators/laws.FnExactGroupNear", spec := "fnExactGroupNear", apart := false, narrowed := true }
def FnExactGroupNearUptoSaid : Prop := fnExactGroupNearUptoRow.holds Try.pinned (OpenSpec.upto fnExactGroupNearSpec)

/-- 'laws.FnTourWay', WHERE WHAT IT READS IS OF BULK AT MOST 1048576: true; the input reads as it did. -/
def fnTourWayUptoRow : OpenClaim := { program := "ytammgbnekmcaeaa", sum := "49e29a6781ec048d770e0f12b4b7716f17895bc32d0d82a0000db21b058380ef", func := "loop.example/elevators/laws.FnTourWay", spec := "fnTourWay", apart := false, narrowed := true }
def FnTourWayUptoSaid : Prop := fnTourWayUptoRow.holds Try.pinned (OpenSpec.upto fnTourWaySpec)

/-- 'laws.FnTourWork', WHERE WHAT IT READS IS OF BULK AT MOST 1048576: true; the input reads as it did. -/
def fnTourWorkUptoRow : OpenClaim := { program := "ytammgbnekmcaeaa", sum := "49e29a6781ec048d770e0f12b4b7716f17895bc32d0d82a0000db21b058380ef", func := "loop.example/elevators/laws.FnTourWork", spec := "fnTourWork", apart := false, narrowed := true }
def FnTourWorkUptoSaid : Prop := fnTourWorkUptoRow.holds Try.pinned (OpenSpec.upto fnTourWorkSpec)

end Rows
end Go.Proofs.Ytammgbnekmcaeaa
