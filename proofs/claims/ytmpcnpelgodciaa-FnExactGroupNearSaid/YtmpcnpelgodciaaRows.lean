/-
  No cell of these rows narrows 'for every input' (looked for: loops, veiled, ifaces, maps, wideKeys, modest, calm, conditions, laid).
  DERIVED. THE GIVEN ROWS OF THIS SEAT. 3 by the template 'for every input the law returns true; each argument reads behind the call as it read before'; 0 by the template 'total and deterministic' (their statements: YtmpcnpelgodciaaTotals.lean).
  GIVEN WITH THE SEED: the statements are not yours to turn. If you find one false, say at which input.
  Laid BY PROGRAM, IN A SANDBOX (cutbox-rows.mjs): the forced cells as the released guide's own fill.sh prints them over the translation 390f6c2ef18bef9e… (all of the seat's roots in one cut). By AI agents, Wed Nov 11 2026. No macro, syntax, notation, axiom, sorry.
-/
import Derived.Test.YtmpcnpelgodciaaChecked
import GoSem.Claim
import GoSem.ClaimJoined
import GoSem.ClaimMapViews
import Derived.JoinedTies
import Derived.KernelRfl
namespace Go.Proofs.Ytmpcnpelgodciaa
/- THE CELL 'sum', in the pinned program and in every row, IS THE sha256 OF THE DUMP (.gsa) THAT YtmpcnpelgodciaaProg.lean LOADS. Nothing in Lean hashes anything: it is a label: what it is worth is what the hold of that sum in a sandbox is worth. -/
noncomputable def Try.pinned : Pinned := { name := "ytmpcnpelgodciaa", sum := "390f6c2ef18bef9eb7f5f1f420c52336dfbf249d6f4eab45c7424756cd8ad7d4", checked := Try.checked }
namespace Rows
def none {H : Type} : Left H := { results := [], args := [] }

/-- 'laws.FnVisitsOk': WHATEVER THE INPUT: true; the input reads as it did. -/
def fnVisitsOkSpec : ChangeSpec := { name := "fnVisitsOk", fn := fun _ => fun
  | [d] => { results := [.lit (.bool true)], args := [d] }
  | _ => none }
def fnVisitsOkRow : OpenClaim := { program := "ytmpcnpelgodciaa", sum := "390f6c2ef18bef9eb7f5f1f420c52336dfbf249d6f4eab45c7424756cd8ad7d4", func := "loop.example/elevators/laws.FnVisitsOk", spec := "fnVisitsOk", apart := false }
def FnVisitsOkSaid : Prop := fnVisitsOkRow.holds Try.pinned (OpenSpec.ofChange fnVisitsOkSpec)

/-- ITS FALSE NEIGHBOUR: 'it returns false'. Refute it at one input. -/
def fnVisitsOkWrong : ChangeSpec := { name := "fnVisitsOk", fn := fun _ => fun
  | [d] => { results := [.lit (.bool false)], args := [d] }
  | _ => none }
def FnVisitsOkWrongFalsely : Prop := fnVisitsOkRow.holds Try.pinned (OpenSpec.ofChange fnVisitsOkWrong)

/-- 'laws.FnExactGroupNear': WHATEVER THE INPUT: true; the input reads as it did. -/
def fnExactGroupNearSpec : ChangeSpec := { name := "fnExactGroupNear", fn := fun _ => fun
  | [d1, d2, d3] => { results := [.lit (.bool true)], args := [d1, d2, d3] }
  | _ => none }
def fnExactGroupNearRow : OpenClaim := { program := "ytmpcnpelgodciaa", sum := "390f6c2ef18bef9eb7f5f1f420c52336dfbf249d6f4eab45c7424756cd8ad7d4", func := "loop.example/elevators/laws.FnExactGroupNear", spec := "fnExactGroupNear", apart := false }
def FnExactGroupNearSaid : Prop := fnExactGroupNearRow.holds Try.pinned (OpenSpec.ofChange fnExactGroupNearSpec)

/-- ITS FALSE NEIGHBOUR: 'it returns false'. Refute it at one input. -/
def fnExactGroupNearWrong : ChangeSpec := { name := "fnExactGroupNear", fn := fun _ => fun
  | [d1, d2, d3] => { results := [.lit (.bool false)], args := [d1, d2, d3] }
  | _ => none }
def FnExactGroupNearWrongFalsely : Prop := fnExactGroupNearRow.holds Try.pinned (OpenSpec.ofChange fnExactGroupNearWrong)

/-- 'laws.FnTourWork': WHATEVER THE INPUT: true; the input reads as it did. -/
def fnTourWorkSpec : ChangeSpec := { name := "fnTourWork", fn := fun _ => fun
  | [d] => { results := [.lit (.bool true)], args := [d] }
  | _ => none }
def fnTourWorkRow : OpenClaim := { program := "ytmpcnpelgodciaa", sum := "390f6c2ef18bef9eb7f5f1f420c52336dfbf249d6f4eab45c7424756cd8ad7d4", func := "loop.example/elevators/laws.FnTourWork", spec := "fnTourWork", apart := false }
def FnTourWorkSaid : Prop := fnTourWorkRow.holds Try.pinned (OpenSpec.ofChange fnTourWorkSpec)

/-- ITS FALSE NEIGHBOUR: 'it returns false'. Refute it at one input. -/
def fnTourWorkWrong : ChangeSpec := { name := "fnTourWork", fn := fun _ => fun
  | [d] => { results := [.lit (.bool false)], args := [d] }
  | _ => none }
def FnTourWorkWrongFalsely : Prop := fnTourWorkRow.holds Try.pinned (OpenSpec.ofChange fnTourWorkWrong)

/- THE SECOND FORM. 'bulk': how many values and letters a reading holds, each counted each time it is reached (what is shared counts as often as it is met; a slice's spare places count too). A statement '..UptoSaid' is the law's where the arguments, and the package variables that the reading takes, are together of bulk at most 1048576: NARROWER than '..Said'. Prove '..Said' where nothing that the law and all that it calls make is longer than what came in: it says more and counts as full. Else prove '..UptoSaid'. A law counts once. -/
mutual
def uptoBulk {H : Type} : DataW H → Nat
  | .lit (.string bytes) => bytes.length + 1
  | .lit _ => 1
  | .nil => 1
  | .ptr d => uptoBulk d + 1
  | .slice elems spare => uptoBulkAll elems + uptoBulkAll spare + 1
  | .agg parts => uptoBulkAll parts + 1
  | .iface _ d => uptoBulk d + 1
  | .map entries => uptoBulkEntries entries + 1
  | .held _ => 1
def uptoBulkAll {H : Type} : List (DataW H) → Nat
  | [] => 0
  | d :: r => uptoBulk d + uptoBulkAll r
def uptoBulkEntries {H : Type} : List (Lit × DataW H) → Nat
  | [] => 0
  | x :: r => uptoBulkEntry x + uptoBulkEntries r
def uptoBulkEntry {H : Type} : Lit × DataW H → Nat
  | (.string bytes, d) => bytes.length + uptoBulk d + 1
  | (_, d) => uptoBulk d + 1
 end
def uptoSmall : (H : Type) → List (DataW H) → Bool := fun _ ds => decide (uptoBulkAll ds ≤ 1048576)
def OpenSpec.upto (s : _root_.Go.ChangeSpec) : _root_.Go.OpenSpec := { _root_.Go.OpenSpec.ofChange s with cond := some uptoSmall }

/-- 'laws.FnVisitsOk', WHERE WHAT IT READS IS OF BULK AT MOST 1048576: true; the input reads as it did. -/
def fnVisitsOkUptoRow : OpenClaim := { program := "ytmpcnpelgodciaa", sum := "390f6c2ef18bef9eb7f5f1f420c52336dfbf249d6f4eab45c7424756cd8ad7d4", func := "loop.example/elevators/laws.FnVisitsOk", spec := "fnVisitsOk", apart := false, narrowed := true }
def FnVisitsOkUptoSaid : Prop := fnVisitsOkUptoRow.holds Try.pinned (OpenSpec.upto fnVisitsOkSpec)

/-- 'laws.FnExactGroupNear', WHERE WHAT IT READS IS OF BULK AT MOST 1048576: true; the input reads as it did. -/
def fnExactGroupNearUptoRow : OpenClaim := { program := "ytmpcnpelgodciaa", sum := "390f6c2ef18bef9eb7f5f1f420c52336dfbf249d6f4eab45c7424756cd8ad7d4", func := "loop.example/elevators/laws.FnExactGroupNear", spec := "fnExactGroupNear", apart := false, narrowed := true }
def FnExactGroupNearUptoSaid : Prop := fnExactGroupNearUptoRow.holds Try.pinned (OpenSpec.upto fnExactGroupNearSpec)

/-- 'laws.FnTourWork', WHERE WHAT IT READS IS OF BULK AT MOST 1048576: true; the input reads as it did. -/
def fnTourWorkUptoRow : OpenClaim := { program := "ytmpcnpelgodciaa", sum := "390f6c2ef18bef9eb7f5f1f420c52336dfbf249d6f4eab45c7424756cd8ad7d4", func := "loop.example/elevators/laws.FnTourWork", spec := "fnTourWork", apart := false, narrowed := true }
def FnTourWorkUptoSaid : Prop := fnTourWorkUptoRow.holds Try.pinned (OpenSpec.upto fnTourWorkSpec)

end Rows
end Go.Proofs.Ytmpcnpelgodciaa
