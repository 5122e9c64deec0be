/-
  No cell of these rows narrows 'for every input' (looked for: loops, veiled, ifaces, maps, wideKeys, modest, calm, conditions, laid).
  DERIVED. THE GIVEN ROWS OF THIS SEAT. 4 by the template 'for every input the law returns true; each argument reads behind the call as it read before'; 0 by the template 'total and deterministic' (their statements: YtddlnafkacogiaaTotals.lean).
  GIVEN WITH THE SEED: the statements are not yours to turn. If you find one false, say at which input.
  Laid BY PROGRAM, IN A SANDBOX (cutbox-rows.mjs): the forced cells as the released guide's own fill.sh prints them over the translation 6aedeb5a6374de25… (all of the seat's roots in one cut). By AI agents, Wed Nov 11 2026. No macro, syntax, notation, axiom, sorry.
-/
import Derived.Test.YtddlnafkacogiaaChecked
import GoSem.Claim
import GoSem.ClaimJoined
import GoSem.ClaimMapViews
import Derived.JoinedTies
import Derived.KernelRfl
namespace Go.Proofs.Ytddlnafkacogiaa
/- THE CELL 'sum', in the pinned program and in every row, IS THE sha256 OF THE DUMP (.gsa) THAT YtddlnafkacogiaaProg.lean LOADS. Nothing in Lean hashes anything: it is a label: what it is worth is what the hold of that sum in a sandbox is worth. -/
noncomputable def Try.pinned : Pinned := { name := "ytddlnafkacogiaa", sum := "6aedeb5a6374de25c680f03c56097cbe0f4565709203de9e55f6d95776d19951", checked := Try.checked }
namespace Rows
def none {H : Type} : Left H := { results := [], args := [] }

/-- 'laws.FnExactShortTour': WHATEVER THE INPUT: true; the input reads as it did. -/
def fnExactShortTourSpec : ChangeSpec := { name := "fnExactShortTour", fn := fun _ => fun
  | [d1, d2, d3] => { results := [.lit (.bool true)], args := [d1, d2, d3] }
  | _ => none }
def fnExactShortTourRow : OpenClaim := { program := "ytddlnafkacogiaa", sum := "6aedeb5a6374de25c680f03c56097cbe0f4565709203de9e55f6d95776d19951", func := "loop.example/elevators/laws.FnExactShortTour", spec := "fnExactShortTour", apart := false }
def FnExactShortTourSaid : Prop := fnExactShortTourRow.holds Try.pinned (OpenSpec.ofChange fnExactShortTourSpec)

/-- ITS FALSE NEIGHBOUR: 'it returns false'. Refute it at one input. -/
def fnExactShortTourWrong : ChangeSpec := { name := "fnExactShortTour", fn := fun _ => fun
  | [d1, d2, d3] => { results := [.lit (.bool false)], args := [d1, d2, d3] }
  | _ => none }
def FnExactShortTourWrongFalsely : Prop := fnExactShortTourRow.holds Try.pinned (OpenSpec.ofChange fnExactShortTourWrong)

/-- 'laws.FnExactShortWay': WHATEVER THE INPUT: true; the input reads as it did. -/
def fnExactShortWaySpec : ChangeSpec := { name := "fnExactShortWay", fn := fun _ => fun
  | [d1, d2, d3] => { results := [.lit (.bool true)], args := [d1, d2, d3] }
  | _ => none }
def fnExactShortWayRow : OpenClaim := { program := "ytddlnafkacogiaa", sum := "6aedeb5a6374de25c680f03c56097cbe0f4565709203de9e55f6d95776d19951", func := "loop.example/elevators/laws.FnExactShortWay", spec := "fnExactShortWay", apart := false }
def FnExactShortWaySaid : Prop := fnExactShortWayRow.holds Try.pinned (OpenSpec.ofChange fnExactShortWaySpec)

/-- ITS FALSE NEIGHBOUR: 'it returns false'. Refute it at one input. -/
def fnExactShortWayWrong : ChangeSpec := { name := "fnExactShortWay", fn := fun _ => fun
  | [d1, d2, d3] => { results := [.lit (.bool false)], args := [d1, d2, d3] }
  | _ => none }
def FnExactShortWayWrongFalsely : Prop := fnExactShortWayRow.holds Try.pinned (OpenSpec.ofChange fnExactShortWayWrong)

/-- 'laws.FnShortTour': WHATEVER THE INPUT: true; the input reads as it did. -/
def fnShortTourSpec : ChangeSpec := { name := "fnShortTour", fn := fun _ => fun
  | [d] => { results := [.lit (.bool true)], args := [d] }
  | _ => none }
def fnShortTourRow : OpenClaim := { program := "ytddlnafkacogiaa", sum := "6aedeb5a6374de25c680f03c56097cbe0f4565709203de9e55f6d95776d19951", func := "loop.example/elevators/laws.FnShortTour", spec := "fnShortTour", apart := false }
def FnShortTourSaid : Prop := fnShortTourRow.holds Try.pinned (OpenSpec.ofChange fnShortTourSpec)

/-- ITS FALSE NEIGHBOUR: 'it returns false'. Refute it at one input. -/
def fnShortTourWrong : ChangeSpec := { name := "fnShortTour", fn := fun _ => fun
  | [d] => { results := [.lit (.bool false)], args := [d] }
  | _ => none }
def FnShortTourWrongFalsely : Prop := fnShortTourRow.holds Try.pinned (OpenSpec.ofChange fnShortTourWrong)

/-- 'laws.FnShortWay': WHATEVER THE INPUT: true; the input reads as it did. -/
def fnShortWaySpec : ChangeSpec := { name := "fnShortWay", fn := fun _ => fun
  | [d1, d2] => { results := [.lit (.bool true)], args := [d1, d2] }
  | _ => none }
def fnShortWayRow : OpenClaim := { program := "ytddlnafkacogiaa", sum := "6aedeb5a6374de25c680f03c56097cbe0f4565709203de9e55f6d95776d19951", func := "loop.example/elevators/laws.FnShortWay", spec := "fnShortWay", apart := false }
def FnShortWaySaid : Prop := fnShortWayRow.holds Try.pinned (OpenSpec.ofChange fnShortWaySpec)

/-- ITS FALSE NEIGHBOUR: 'it returns false'. Refute it at one input. -/
def fnShortWayWrong : ChangeSpec := { name := "fnShortWay", fn := fun _ => fun
  | [d1, d2] => { results := [.lit (.bool false)], args := [d1, d2] }
  | _ => none }
def FnShortWayWrongFalsely : Prop := fnShortWayRow.holds Try.pinned (OpenSpec.ofChange fnShortWayWrong)

/- THE SECOND FORM. 'bulk': how many values and letters a reading holds, each counted each time it is reached (what is shared counts as often as it is met; a slice's spare places count too). A statement '..UptoSaid' is the law's where the arguments, and the package variables that the reading takes, are together of bulk at most 1048576: NARROWER than '..Said'. Prove '..Said' where nothing that the law and all that it calls make is longer than what came in: it says more and counts as full. Else prove '..UptoSaid'. A law counts once. -/
mutual
def uptoBulk {H : Type} : DataW H → Nat
  | .lit (.string bytes) => bytes.length + 1
  | .lit _ => 1
  | .nil => 1
  | .ptr d => uptoBulk d + 1
  | .slice elems spare => uptoBulkAll elems + uptoBulkAll spare + 1
  | .agg parts => uptoBulkAll parts + 1
  | .iface _ d => uptoBulk d + 1
  | .map entries => uptoBulkEntries entries + 1
  | .held _ => 1
def uptoBulkAll {H : Type} : List (DataW H) → Nat
  | [] => 0
  | d :: r => uptoBulk d + uptoBulkAll r
def uptoBulkEntries {H : Type} : List (Lit × DataW H) → Nat
  | [] => 0
  | x :: r => uptoBulkEntry x + uptoBulkEntries r
def uptoBulkEntry {H : Type} : Lit × DataW H → Nat
  | (.string bytes, d) => bytes.length + uptoBulk d + 1
  | (_, d) => uptoBulk d + 1
 end
def uptoSmall : (H : Type) → List (DataW H) → Bool := fun _ ds => decide (uptoBulkAll ds ≤ 1048576)
def OpenSpec.upto (s : _root_.Go.ChangeSpec) : _root_.Go.OpenSpec := { _root_.Go.OpenSpec.ofChange s with cond := some uptoSmall }

/-- 'laws.FnExactShortTour', WHERE WHAT IT READS IS OF BULK AT MOST 1048576: true; the input reads as it did. -/
def fnExactShortTourUptoRow : OpenClaim := { program := "ytddlnafkacogiaa", sum := "6aedeb5a6374de25c680f03c56097cbe0f4565709203de9e55f6d95776d19951", func := "loop.example/elevators/laws.FnExactShortTour", spec := "fnExactShortTour", apart := false, narrowed := true }
def FnExactShortTourUptoSaid : Prop := fnExactShortTourUptoRow.holds Try.pinned (OpenSpec.upto fnExactShortTourSpec)

/-- 'laws.FnExactShortWay', WHERE WHAT IT READS IS OF BULK AT MOST 1048576: true; the input reads as it did. -/
def fnExactShortWayUptoRow : OpenClaim := { program := "ytddlnafkacogiaa", sum := "6aedeb5a6374de25c680f03c56097cbe0f4565709203de9e55f6d95776d19951", func := "loop.example/elevators/laws.FnExactShortWay", spec := "fnExactShortWay", apart := false, narrowed := true }
def FnExactShortWayUptoSaid : Prop := fnExactShortWayUptoRow.holds Try.pinned (OpenSpec.upto fnExactShortWaySpec)

/-- 'laws.FnShortTour', WHERE WHAT IT READS IS OF BULK AT MOST 1048576: true; the input reads as it did. -/
def fnShortTourUptoRow : OpenClaim := { program := "ytddlnafkacogiaa", sum := "6aedeb5a6374de25c680f03c56097cbe0f4565709203de9e55f6d95776d19951", func := "loop.example/elevators/laws.FnShortTour", spec := "fnShortTour", apart := false, narrowed := true }
def FnShortTourUptoSaid : Prop := fnShortTourUptoRow.holds Try.pinned (OpenSpec.upto fnShortTourSpec)

/-- 'laws.FnShortWay', WHERE WHAT IT READS IS OF BULK AT MOST 1048576: true; the input reads as it did. -/
def fnShortWayUptoRow : OpenClaim := { program := "ytddlnafkacogiaa", sum := "6aedeb5a6374de25c680f03c56097cbe0f4565709203de9e55f6d95776d19951", func := "loop.example/elevators/laws.FnShortWay", spec := "fnShortWay", apart := false, narrowed := true }
def FnShortWayUptoSaid : Prop := fnShortWayUptoRow.holds Try.pinned (OpenSpec.upto fnShortWaySpec)

end Rows
end Go.Proofs.Ytddlnafkacogiaa
