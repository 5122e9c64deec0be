/- Drawn calls: the drawing functions of the laws. -/
import Derived.Test.YtbkjgiomamlajaaDrawCalls
namespace Go.Proofs.Ytbkjgiomamlajaa
open Go.RowKit

/-- Calls drawn anew. -/
def DrewC (w : World) (e : Ending) (w' : World) : Prop := ∃ (A0 A1 A2 : Option Addr) (c0 c1 c2 : Nat) (C : Cl), e = .returned (.agg #[.slice A0 C.up.length c0, .slice A1 C.dn.length c1, .slice A2 C.car.length c2]) ∧ CW w.heap.size w'.heap.size w' A0 A1 A2 C ∧ (C.up.length ≤ 9 ∧ C.dn.length ≤ 9 ∧ C.car.length ≤ 9) ∧ Below w.heap.size w w'
end Go.Proofs.Ytbkjgiomamlajaa
