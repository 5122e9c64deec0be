import Derived.Test.YtddlnafkacogiaaFrame
import Derived.Test.YtddlnafkacogiaaIntS
import Derived.Test.YtddlnafkacogiaaShortWay
namespace Go.Proofs.Ytddlnafkacogiaa
open Go.RowKit

theorem wExactShortWay (A0 : Option Addr) (c0 : Nat) (z0 : List Int) (z1 : Int) (A2 : Option Addr) (c2 : Nat) (z2 : List Int) (w : World) (h0 : InRow .i64 w A0 c0 z0) (_h1 : (Lit.int .i64 z1).wf = true) (h2 : InRow .i64 w A2 c2 z2) :
    Calls Try.prog 4 #[.slice A0 z0.length c0, .int .i64 z1, .slice A2 z2.length c2] w fun e w' => e = .returned (.bool true) ∧ Below w.heap.size w w' := by
  have I0 : Hid (Ints w A0 z0) := h0.1
  have I2 : Hid (Ints w A2 z2) := h2.1
  clear h0 h2
  by_cases s0 : ¬ z0.length ≤ 1048576
  · go_enter Try.func4, Try.ntmps4
    go_wp2
    go_ret
    exact ⟨rfl, Below.refl _ _⟩
  have s0 : z0.length ≤ 1048576 := by omega
  by_cases s2 : ¬ z2.length ≤ 1048576
  · go_enter Try.func4, Try.ntmps4
    go_wp2
    go_ret
    exact ⟨rfl, Below.refl _ _⟩
  have s2 : z2.length ≤ 1048576 := by omega
  have B : Hid (Below w.heap.size w w) := Below.refl _ _
  have q0 := eqL_self z0
  have q2 := eqL_self z2
  go_enter Try.func4, Try.ntmps4
  go_wp2_with fail
  refine (toIntS_any A0 c0 z0 _ I0.out s0).mono ?_
  rintro e w1 ⟨AX0, rfl, X0, -, b⟩
  replace I0 := hide (I0.out.below b)
  replace I2 := hide (I2.out.below b)
  replace B := hide (bthen B.out b)
  replace X0 := hide X0
  clear b
  go_wp2_with fail
  refine (toIntS_any A2 c2 z2 _ I2.out s2).mono ?_
  rintro e w1 ⟨AX2, rfl, X2, -, b⟩
  replace I0 := hide (I0.out.below b)
  replace I2 := hide (I2.out.below b)
  replace X0 := hide (X0.out.below b)
  replace B := hide (bthen B.out b)
  replace X2 := hide X2
  clear b
  go_wp2_with fail
  refine (specShortWay _ _ _ _ _ _ _ _ X0.out X2.out (by omega) s2).mono ?_
  rintro e w1 ⟨rfl, b⟩
  replace I0 := hide (I0.out.below b)
  replace I2 := hide (I2.out.below b)
  replace X0 := hide (X0.out.below b)
  replace X2 := hide (X2.out.below b)
  replace B := hide (bthen B.out b)
  clear b
  go_wp2_with fail
  refine (toIntS_any A0 c0 z0 _ I0.out s0).mono ?_
  rintro e w1 ⟨AY0, rfl, Y0, -, b⟩
  replace I0 := hide (I0.out.below b)
  replace I2 := hide (I2.out.below b)
  replace B := hide (bthen B.out b)
  replace Y0 := hide Y0
  clear b
  go_wp2_with fail
  refine (toIntS_any A2 c2 z2 _ I2.out s2).mono ?_
  rintro e w1 ⟨AY2, rfl, Y2, -, b⟩
  replace I0 := hide (I0.out.below b)
  replace I2 := hide (I2.out.below b)
  replace Y0 := hide (Y0.out.below b)
  replace B := hide (bthen B.out b)
  replace Y2 := hide Y2
  clear b
  go_wp2_with fail
  refine (implShortWay _ _ _ _ _ _ _ _ Y0.out Y2.out s2 (Nat.le_refl _)).mono ?_
  rintro e w1 ⟨rfl, b⟩
  replace I0 := hide (I0.out.below b)
  replace I2 := hide (I2.out.below b)
  replace Y0 := hide (Y0.out.below b)
  replace Y2 := hide (Y2.out.below b)
  replace B := hide (bthen B.out b)
  clear b
  go_wp2_with fail
  refine (toIntS_any A0 c0 z0 _ I0.out s0).mono ?_
  rintro e w1 ⟨AV0, rfl, V0, -, b⟩
  replace I0 := hide (I0.out.below b)
  replace I2 := hide (I2.out.below b)
  replace Y0 := hide (Y0.out.below b)
  replace Y2 := hide (Y2.out.below b)
  replace B := hide (bthen B.out b)
  replace V0 := hide V0
  clear b
  go_wp2_with fail
  refine (eqIntS_any _ _ _ _ z0 z0 _ Y0.out V0.out (by omega)).mono ?_
  rintro e w1 ⟨rfl, d⟩
  replace I0 := hide (I0.out.below d.below)
  replace I2 := hide (I2.out.below d.below)
  replace Y0 := hide (Y0.out.below d.below)
  replace Y2 := hide (Y2.out.below d.below)
  replace V0 := hide (V0.out.below d.below)
  replace B := hide (bthen B.out d.below)
  clear d
  go_wp2_with fail
  refine (toIntS_any A2 c2 z2 _ I2.out s2).mono ?_
  rintro e w1 ⟨AV2, rfl, V2, -, b⟩
  replace I0 := hide (I0.out.below b)
  replace I2 := hide (I2.out.below b)
  replace Y2 := hide (Y2.out.below b)
  replace B := hide (bthen B.out b)
  replace V2 := hide V2
  clear b
  go_wp2_with fail
  refine (eqIntS_any _ _ _ _ z2 z2 _ Y2.out V2.out (by omega)).mono ?_
  rintro e w1 ⟨rfl, d⟩
  replace I0 := hide (I0.out.below d.below)
  replace I2 := hide (I2.out.below d.below)
  replace Y2 := hide (Y2.out.below d.below)
  replace V2 := hide (V2.out.below d.below)
  replace B := hide (bthen B.out d.below)
  clear d
  go_wp2
  go_ret
  exact ⟨rfl, B.out⟩
end Go.Proofs.Ytddlnafkacogiaa
