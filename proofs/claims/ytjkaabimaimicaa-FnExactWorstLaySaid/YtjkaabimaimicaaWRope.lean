import Derived.Test.YtjkaabimaimicaaFrame
import Derived.Test.YtjkaabimaimicaaIntS
import Derived.Test.YtjkaabimaimicaaWorst
namespace Go.Proofs.Ytjkaabimaimicaa
open Go.RowKit

theorem wExactRopeValid (A0 : Option Addr) (c0 : Nat) (z0 : List Int) (w : World) (h0 : InRow .i64 w A0 z0) :
    Calls Try.prog 5 #[.slice A0 z0.length c0] w fun e w' => e = .returned (.bool true) ∧ Below w.heap.size w w' := by
  have I0 : Hid (Ints w A0 z0) := h0.1
  clear h0
  by_cases s0 : ¬ z0.length ≤ 1048576
  · go_enter Try.func5, Try.ntmps5
    go_wp2
    go_ret
    exact ⟨rfl, Below.refl _ _⟩
  have s0 : z0.length ≤ 1048576 := by omega
  have B : Hid (Below w.heap.size w w) := Below.refl _ _
  have q0 := eqL_self z0
  go_enter Try.func5, Try.ntmps5
  go_wp2_with fail
  refine (toIntS_any A0 c0 z0 _ I0.out s0).mono ?_
  rintro e w1 ⟨AX0, rfl, X0, -, b⟩
  replace I0 := hide (I0.out.below b)
  replace B := hide (bthen B.out b)
  replace X0 := hide X0
  clear b
  go_wp2_with fail
  refine (specRopeValid _ _ _ _ X0.out (by omega)).mono ?_
  rintro e w1 ⟨rfl, rfl⟩
  go_wp2_with fail
  refine (toIntS_any A0 c0 z0 _ I0.out s0).mono ?_
  rintro e w1 ⟨AY0, rfl, Y0, -, b⟩
  replace I0 := hide (I0.out.below b)
  replace B := hide (bthen B.out b)
  replace Y0 := hide Y0
  clear b
  go_wp2_with fail
  refine (implRopeValid _ _ _ _ Y0.out (by omega)).mono ?_
  rintro e w1 ⟨rfl, rfl⟩
  go_wp2_with fail
  refine (toIntS_any A0 c0 z0 _ I0.out s0).mono ?_
  rintro e w1 ⟨AV0, rfl, V0, -, b⟩
  replace I0 := hide (I0.out.below b)
  replace Y0 := hide (Y0.out.below b)
  replace B := hide (bthen B.out b)
  replace V0 := hide V0
  clear b
  go_wp2_with fail
  refine (eqIntS_any _ _ _ _ z0 z0 _ Y0.out V0.out (by omega)).mono ?_
  rintro e w1 ⟨rfl, d⟩
  replace I0 := hide (I0.out.below d.below)
  replace Y0 := hide (Y0.out.below d.below)
  replace V0 := hide (V0.out.below d.below)
  replace B := hide (bthen B.out d.below)
  clear d
  go_wp2
  go_ret
  exact ⟨rfl, B.out⟩
theorem wExactWorstLay (A0 : Option Addr) (c0 : Nat) (z0 : List Int) (w : World) (h0 : InRow .i64 w A0 z0) :
    Calls Try.prog 9 #[.slice A0 z0.length c0] w fun e w' => e = .returned (.bool true) ∧ Below w.heap.size w w' := by
  have I0 : Hid (Ints w A0 z0) := h0.1
  clear h0
  by_cases s0 : ¬ z0.length ≤ 1048576
  · go_enter Try.func9, Try.ntmps9
    go_wp2
    go_ret
    exact ⟨rfl, Below.refl _ _⟩
  have s0 : z0.length ≤ 1048576 := by omega
  have B : Hid (Below w.heap.size w w) := Below.refl _ _
  have q0 := eqL_self z0
  go_enter Try.func9, Try.ntmps9
  go_wp2_with fail
  refine (toIntS_any A0 c0 z0 _ I0.out s0).mono ?_
  rintro e w1 ⟨AX0, rfl, X0, -, b⟩
  replace I0 := hide (I0.out.below b)
  replace B := hide (bthen B.out b)
  replace X0 := hide X0
  clear b
  go_wp2_with fail
  refine (specWorstLay _ _ _ _ X0.out (by omega)).mono ?_
  rintro e w1 ⟨rfl, rfl⟩
  go_wp2_with fail
  refine (toIntS_any A0 c0 z0 _ I0.out s0).mono ?_
  rintro e w1 ⟨AY0, rfl, Y0, -, b⟩
  replace I0 := hide (I0.out.below b)
  replace B := hide (bthen B.out b)
  replace Y0 := hide Y0
  clear b
  go_wp2_with fail
  refine (implWorstLay _ _ _ _ Y0.out (by omega)).mono ?_
  rintro e w1 ⟨rfl, rfl⟩
  go_wp2_with fail
  refine (toIntS_any A0 c0 z0 _ I0.out s0).mono ?_
  rintro e w1 ⟨AV0, rfl, V0, -, b⟩
  replace I0 := hide (I0.out.below b)
  replace Y0 := hide (Y0.out.below b)
  replace B := hide (bthen B.out b)
  replace V0 := hide V0
  clear b
  go_wp2_with fail
  refine (eqIntS_any _ _ _ _ z0 z0 _ Y0.out V0.out (by omega)).mono ?_
  rintro e w1 ⟨rfl, d⟩
  replace I0 := hide (I0.out.below d.below)
  replace Y0 := hide (Y0.out.below d.below)
  replace V0 := hide (V0.out.below d.below)
  replace B := hide (bthen B.out d.below)
  clear d
  go_wp2
  go_ret
  exact ⟨rfl, B.out⟩
theorem wExactDiscard (A0 : Option Addr) (c0 : Nat) (z0 : List Int) (z1 : Int) (w : World) (h0 : InRow .i64 w A0 z0) (_h1 : (Lit.int .i64 z1).wf = true) :
    Calls Try.prog 10 #[.slice A0 z0.length c0, .int .i64 z1] w fun e w' => e = .returned (.bool true) ∧ Below w.heap.size w w' := by
  have I0 : Hid (Ints w A0 z0) := h0.1
  clear h0
  by_cases s0 : ¬ z0.length ≤ 1048576
  · go_enter Try.func10, Try.ntmps10
    go_wp2
    go_ret
    exact ⟨rfl, Below.refl _ _⟩
  have s0 : z0.length ≤ 1048576 := by omega
  have B : Hid (Below w.heap.size w w) := Below.refl _ _
  have q0 := eqL_self z0
  go_enter Try.func10, Try.ntmps10
  go_wp2_with fail
  refine (toIntS_any A0 c0 z0 _ I0.out s0).mono ?_
  rintro e w1 ⟨AX0, rfl, X0, -, b⟩
  replace I0 := hide (I0.out.below b)
  replace B := hide (bthen B.out b)
  replace X0 := hide X0
  clear b
  go_wp2_with fail
  refine (specDiscard _ _ _ _ _ X0.out (by omega)).mono ?_
  rintro e w1 ⟨rfl, rfl⟩
  go_wp2_with fail
  refine (toIntS_any A0 c0 z0 _ I0.out s0).mono ?_
  rintro e w1 ⟨AY0, rfl, Y0, -, b⟩
  replace I0 := hide (I0.out.below b)
  replace B := hide (bthen B.out b)
  replace Y0 := hide Y0
  clear b
  go_wp2_with fail
  refine (implDiscard _ _ _ _ _ Y0.out (by omega)).mono ?_
  rintro e w1 ⟨rfl, rfl⟩
  go_wp2_with fail
  refine (toIntS_any A0 c0 z0 _ I0.out s0).mono ?_
  rintro e w1 ⟨AV0, rfl, V0, -, b⟩
  replace I0 := hide (I0.out.below b)
  replace Y0 := hide (Y0.out.below b)
  replace B := hide (bthen B.out b)
  replace V0 := hide V0
  clear b
  go_wp2_with fail
  refine (eqIntS_any _ _ _ _ z0 z0 _ Y0.out V0.out (by omega)).mono ?_
  rintro e w1 ⟨rfl, d⟩
  replace I0 := hide (I0.out.below d.below)
  replace Y0 := hide (Y0.out.below d.below)
  replace V0 := hide (V0.out.below d.below)
  replace B := hide (bthen B.out d.below)
  clear d
  go_wp2
  go_ret
  exact ⟨rfl, B.out⟩
end Go.Proofs.Ytjkaabimaimicaa
