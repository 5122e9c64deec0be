import Derived.Test.YtjkaabimaimicaaFrame
import Derived.Test.YtjkaabimaimicaaMost
namespace Go.Proofs.Ytjkaabimaimicaa
open Go.RowKit

theorem wExactHolds (z0 : Int) (z1 : Int) (z2 : Int) (z3 : Int) (w : World) (_h0 : (Lit.int .i64 z0).wf = true) (_h1 : (Lit.int .i64 z1).wf = true) (_h2 : (Lit.int .i64 z2).wf = true) (_h3 : (Lit.int .i64 z3).wf = true) :
    Calls Try.prog 3 #[.int .i64 z0, .int .i64 z1, .int .i64 z2, .int .i64 z3] w fun e w' => e = .returned (.bool true) ∧ Below w.heap.size w w' := by
  have B : Hid (Below w.heap.size w w) := Below.refl _ _
  go_enter Try.func3, Try.ntmps3
  go_wp2_with fail
  refine (specHolds _ _ _ _ _).mono ?_
  rintro e w1 ⟨rfl, rfl⟩
  go_wp2_with fail
  refine (implHolds _ _ _ _ _).mono ?_
  rintro e w1 ⟨rfl, rfl⟩
  go_wp2
  go_ret
  exact ⟨rfl, B.out⟩
theorem wExactMostLoad (z0 : Int) (z1 : Int) (z2 : Int) (w : World) (_h0 : (Lit.int .i64 z0).wf = true) (_h1 : (Lit.int .i64 z1).wf = true) (_h2 : (Lit.int .i64 z2).wf = true) :
    Calls Try.prog 4 #[.int .i64 z0, .int .i64 z1, .int .i64 z2] w fun e w' => e = .returned (.bool true) ∧ Below w.heap.size w w' := by
  have B : Hid (Below w.heap.size w w) := Below.refl _ _
  go_enter Try.func4, Try.ntmps4
  go_wp2_with fail
  refine (specMostLoad _ _ _ _).mono ?_
  rintro e w1 ⟨rfl, rfl⟩
  go_wp2_with fail
  refine (implMostLoad _ _ _ _).mono ?_
  rintro e w1 ⟨rfl, rfl⟩
  go_wp2
  go_ret
  exact ⟨rfl, B.out⟩
end Go.Proofs.Ytjkaabimaimicaa
