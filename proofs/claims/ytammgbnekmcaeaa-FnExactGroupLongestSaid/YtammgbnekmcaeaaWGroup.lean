import Derived.Test.YtammgbnekmcaeaaFrame
import Derived.Test.YtammgbnekmcaeaaIntS
import Derived.Test.YtammgbnekmcaeaaGroupWay
namespace Go.Proofs.Ytammgbnekmcaeaa
open Go.RowKit

theorem wExactGroupLongest (A0 : Option Addr) (c0 : Nat) (z0 : List Int) (A1 : Option Addr) (c1 : Nat) (z1 : List Int) (A2 : Option Addr) (c2 : Nat) (z2 : List Int) (A3 : Option Addr) (c3 : Nat) (z3 : List Int) (w : World) (h0 : InRow .i64 w A0 c0 z0) (h1 : InRow .i64 w A1 c1 z1) (h2 : InRow .i64 w A2 c2 z2) (h3 : InRow .i64 w A3 c3 z3) :
    Calls Try.prog 7 #[.slice A0 z0.length c0, .slice A1 z1.length c1, .slice A2 z2.length c2, .slice A3 z3.length c3] w fun e w' => e = .returned (.bool true) ∧ Below w.heap.size w w' := by
  have I0 : Hid (Ints w A0 z0) := h0.1
  have I1 : Hid (Ints w A1 z1) := h1.1
  have I2 : Hid (Ints w A2 z2) := h2.1
  have I3 : Hid (Ints w A3 z3) := h3.1
  clear h0 h1 h2 h3
  by_cases s0 : ¬ z0.length ≤ 1048576
  · go_enter Try.func7, Try.ntmps7
    go_wp2
    go_ret
    exact ⟨rfl, Below.refl _ _⟩
  have s0 : z0.length ≤ 1048576 := by omega
  by_cases s1 : ¬ z1.length ≤ 1048576
  · go_enter Try.func7, Try.ntmps7
    go_wp2
    go_ret
    exact ⟨rfl, Below.refl _ _⟩
  have s1 : z1.length ≤ 1048576 := by omega
  by_cases s2 : ¬ z2.length ≤ 1048576
  · go_enter Try.func7, Try.ntmps7
    go_wp2
    go_ret
    exact ⟨rfl, Below.refl _ _⟩
  have s2 : z2.length ≤ 1048576 := by omega
  by_cases s3 : ¬ z3.length ≤ 1048576
  · go_enter Try.func7, Try.ntmps7
    go_wp2
    go_ret
    exact ⟨rfl, Below.refl _ _⟩
  have s3 : z3.length ≤ 1048576 := by omega
  have B : Hid (Below w.heap.size w w) := Below.refl _ _
  have q0 := eqL_self z0
  have q1 := eqL_self z1
  have q2 := eqL_self z2
  have q3 := eqL_self z3
  go_enter Try.func7, Try.ntmps7
  go_wp2_with fail
  refine (toIntS_any A0 c0 z0 _ I0.out s0).mono ?_
  rintro e w1 ⟨AX0, rfl, X0, -, b⟩
  replace I0 := hide (I0.out.below b)
  replace I1 := hide (I1.out.below b)
  replace I2 := hide (I2.out.below b)
  replace I3 := hide (I3.out.below b)
  replace B := hide (bthen B.out b)
  replace X0 := hide X0
  clear b
  go_wp2_with fail
  refine (toIntS_any A1 c1 z1 _ I1.out s1).mono ?_
  rintro e w1 ⟨AX1, rfl, X1, -, b⟩
  replace I0 := hide (I0.out.below b)
  replace I1 := hide (I1.out.below b)
  replace I2 := hide (I2.out.below b)
  replace I3 := hide (I3.out.below b)
  replace X0 := hide (X0.out.below b)
  replace B := hide (bthen B.out b)
  replace X1 := hide X1
  clear b
  go_wp2_with fail
  refine (toIntS_any A2 c2 z2 _ I2.out s2).mono ?_
  rintro e w1 ⟨AX2, rfl, X2, -, b⟩
  replace I0 := hide (I0.out.below b)
  replace I1 := hide (I1.out.below b)
  replace I2 := hide (I2.out.below b)
  replace I3 := hide (I3.out.below b)
  replace X0 := hide (X0.out.below b)
  replace X1 := hide (X1.out.below b)
  replace B := hide (bthen B.out b)
  replace X2 := hide X2
  clear b
  go_wp2_with fail
  refine (toIntS_any A3 c3 z3 _ I3.out s3).mono ?_
  rintro e w1 ⟨AX3, rfl, X3, -, b⟩
  replace I0 := hide (I0.out.below b)
  replace I1 := hide (I1.out.below b)
  replace I2 := hide (I2.out.below b)
  replace I3 := hide (I3.out.below b)
  replace X0 := hide (X0.out.below b)
  replace X1 := hide (X1.out.below b)
  replace X2 := hide (X2.out.below b)
  replace B := hide (bthen B.out b)
  replace X3 := hide X3
  clear b
  go_wp2_with fail
  refine (specGroupLongest _ _ _ _ _ _ _ _ _ _ _ _ _ X0.out X1.out X2.out X3.out (by omega) (by omega) (by omega) (by omega)).mono ?_
  rintro e w1 ⟨rfl, d⟩
  replace I0 := hide (I0.out.below d.below)
  replace I1 := hide (I1.out.below d.below)
  replace I2 := hide (I2.out.below d.below)
  replace I3 := hide (I3.out.below d.below)
  replace X0 := hide (X0.out.below d.below)
  replace X1 := hide (X1.out.below d.below)
  replace X2 := hide (X2.out.below d.below)
  replace X3 := hide (X3.out.below d.below)
  replace B := hide (bthen B.out d.below)
  clear d
  go_wp2_with fail
  refine (toIntS_any A0 c0 z0 _ I0.out s0).mono ?_
  rintro e w1 ⟨AY0, rfl, Y0, -, b⟩
  replace I0 := hide (I0.out.below b)
  replace I1 := hide (I1.out.below b)
  replace I2 := hide (I2.out.below b)
  replace I3 := hide (I3.out.below b)
  replace B := hide (bthen B.out b)
  replace Y0 := hide Y0
  clear b
  go_wp2_with fail
  refine (toIntS_any A1 c1 z1 _ I1.out s1).mono ?_
  rintro e w1 ⟨AY1, rfl, Y1, -, b⟩
  replace I0 := hide (I0.out.below b)
  replace I1 := hide (I1.out.below b)
  replace I2 := hide (I2.out.below b)
  replace I3 := hide (I3.out.below b)
  replace Y0 := hide (Y0.out.below b)
  replace B := hide (bthen B.out b)
  replace Y1 := hide Y1
  clear b
  go_wp2_with fail
  refine (toIntS_any A2 c2 z2 _ I2.out s2).mono ?_
  rintro e w1 ⟨AY2, rfl, Y2, -, b⟩
  replace I0 := hide (I0.out.below b)
  replace I1 := hide (I1.out.below b)
  replace I2 := hide (I2.out.below b)
  replace I3 := hide (I3.out.below b)
  replace Y0 := hide (Y0.out.below b)
  replace Y1 := hide (Y1.out.below b)
  replace B := hide (bthen B.out b)
  replace Y2 := hide Y2
  clear b
  go_wp2_with fail
  refine (toIntS_any A3 c3 z3 _ I3.out s3).mono ?_
  rintro e w1 ⟨AY3, rfl, Y3, -, b⟩
  replace I0 := hide (I0.out.below b)
  replace I1 := hide (I1.out.below b)
  replace I2 := hide (I2.out.below b)
  replace I3 := hide (I3.out.below b)
  replace Y0 := hide (Y0.out.below b)
  replace Y1 := hide (Y1.out.below b)
  replace Y2 := hide (Y2.out.below b)
  replace B := hide (bthen B.out b)
  replace Y3 := hide Y3
  clear b
  go_wp2_with fail
  refine (implGroupLongest _ _ _ _ _ _ _ _ _ _ _ _ _ Y0.out Y1.out Y2.out Y3.out (by omega) (by omega) (by omega)).mono ?_
  rintro e w1 ⟨rfl, d⟩
  replace I0 := hide (I0.out.below d.below)
  replace I1 := hide (I1.out.below d.below)
  replace I2 := hide (I2.out.below d.below)
  replace I3 := hide (I3.out.below d.below)
  replace Y0 := hide (Y0.out.below d.below)
  replace Y1 := hide (Y1.out.below d.below)
  replace Y2 := hide (Y2.out.below d.below)
  replace Y3 := hide (Y3.out.below d.below)
  replace B := hide (bthen B.out d.below)
  clear d
  go_wp2_with fail
  refine (toIntS_any A0 c0 z0 _ I0.out s0).mono ?_
  rintro e w1 ⟨AV0, rfl, V0, -, b⟩
  replace I0 := hide (I0.out.below b)
  replace I1 := hide (I1.out.below b)
  replace I2 := hide (I2.out.below b)
  replace I3 := hide (I3.out.below b)
  replace Y0 := hide (Y0.out.below b)
  replace Y1 := hide (Y1.out.below b)
  replace Y2 := hide (Y2.out.below b)
  replace Y3 := hide (Y3.out.below b)
  replace B := hide (bthen B.out b)
  replace V0 := hide V0
  clear b
  go_wp2_with fail
  refine (eqIntS_any _ _ _ _ z0 z0 _ Y0.out V0.out (by omega)).mono ?_
  rintro e w1 ⟨rfl, d⟩
  replace I0 := hide (I0.out.below d.below)
  replace I1 := hide (I1.out.below d.below)
  replace I2 := hide (I2.out.below d.below)
  replace I3 := hide (I3.out.below d.below)
  replace Y0 := hide (Y0.out.below d.below)
  replace Y1 := hide (Y1.out.below d.below)
  replace Y2 := hide (Y2.out.below d.below)
  replace Y3 := hide (Y3.out.below d.below)
  replace V0 := hide (V0.out.below d.below)
  replace B := hide (bthen B.out d.below)
  clear d
  go_wp2_with fail
  refine (toIntS_any A1 c1 z1 _ I1.out s1).mono ?_
  rintro e w1 ⟨AV1, rfl, V1, -, b⟩
  replace I0 := hide (I0.out.below b)
  replace I1 := hide (I1.out.below b)
  replace I2 := hide (I2.out.below b)
  replace I3 := hide (I3.out.below b)
  replace Y1 := hide (Y1.out.below b)
  replace Y2 := hide (Y2.out.below b)
  replace Y3 := hide (Y3.out.below b)
  replace B := hide (bthen B.out b)
  replace V1 := hide V1
  clear b
  go_wp2_with fail
  refine (eqIntS_any _ _ _ _ z1 z1 _ Y1.out V1.out (by omega)).mono ?_
  rintro e w1 ⟨rfl, d⟩
  replace I0 := hide (I0.out.below d.below)
  replace I1 := hide (I1.out.below d.below)
  replace I2 := hide (I2.out.below d.below)
  replace I3 := hide (I3.out.below d.below)
  replace Y1 := hide (Y1.out.below d.below)
  replace Y2 := hide (Y2.out.below d.below)
  replace Y3 := hide (Y3.out.below d.below)
  replace V1 := hide (V1.out.below d.below)
  replace B := hide (bthen B.out d.below)
  clear d
  go_wp2_with fail
  refine (toIntS_any A2 c2 z2 _ I2.out s2).mono ?_
  rintro e w1 ⟨AV2, rfl, V2, -, b⟩
  replace I0 := hide (I0.out.below b)
  replace I1 := hide (I1.out.below b)
  replace I2 := hide (I2.out.below b)
  replace I3 := hide (I3.out.below b)
  replace Y2 := hide (Y2.out.below b)
  replace Y3 := hide (Y3.out.below b)
  replace B := hide (bthen B.out b)
  replace V2 := hide V2
  clear b
  go_wp2_with fail
  refine (eqIntS_any _ _ _ _ z2 z2 _ Y2.out V2.out (by omega)).mono ?_
  rintro e w1 ⟨rfl, d⟩
  replace I0 := hide (I0.out.below d.below)
  replace I1 := hide (I1.out.below d.below)
  replace I2 := hide (I2.out.below d.below)
  replace I3 := hide (I3.out.below d.below)
  replace Y2 := hide (Y2.out.below d.below)
  replace Y3 := hide (Y3.out.below d.below)
  replace V2 := hide (V2.out.below d.below)
  replace B := hide (bthen B.out d.below)
  clear d
  go_wp2_with fail
  refine (toIntS_any A3 c3 z3 _ I3.out s3).mono ?_
  rintro e w1 ⟨AV3, rfl, V3, -, b⟩
  replace I0 := hide (I0.out.below b)
  replace I1 := hide (I1.out.below b)
  replace I2 := hide (I2.out.below b)
  replace I3 := hide (I3.out.below b)
  replace Y3 := hide (Y3.out.below b)
  replace B := hide (bthen B.out b)
  replace V3 := hide V3
  clear b
  go_wp2_with fail
  refine (eqIntS_any _ _ _ _ z3 z3 _ Y3.out V3.out (by omega)).mono ?_
  rintro e w1 ⟨rfl, d⟩
  replace I0 := hide (I0.out.below d.below)
  replace I1 := hide (I1.out.below d.below)
  replace I2 := hide (I2.out.below d.below)
  replace I3 := hide (I3.out.below d.below)
  replace Y3 := hide (Y3.out.below d.below)
  replace V3 := hide (V3.out.below d.below)
  replace B := hide (bthen B.out d.below)
  clear d
  go_wp2
  go_ret
  exact ⟨rfl, B.out⟩
end Go.Proofs.Ytammgbnekmcaeaa
