import Derived.Test.YtddlnafkacogiaaFrame
import Derived.Test.YtddlnafkacogiaaMarkI
import Derived.Test.YtddlnafkacogiaaShort2
namespace Go.Proofs.Ytddlnafkacogiaa
open Go.RowKit

theorem wExactShortTour (A0 : Option Addr) (c0 : Nat) (z0 : List Int) (z1 : Int) (A2 : Option Addr) (c2 : Nat) (z2 : List Int) (w : World) (h0 : InRow .i64 w A0 c0 z0) (_h1 : (Lit.int .i64 z1).wf = true) (h2 : InRow .i64 w A2 c2 z2) :
    Calls Try.prog 3 #[.slice A0 z0.length c0, .int .i64 z1, .slice A2 z2.length c2] w fun e w' => e = .returned (.bool true) ∧ Below w.heap.size w w' := by
  have I0 : Hid (Ints w A0 z0) := h0.1
  have I2 : Hid (Ints w A2 z2) := h2.1
  clear h0 h2
  by_cases s0 : ¬ z0.length ≤ 1048576
  · go_enter Try.func3, Try.ntmps3
    go_wp2
    go_ret
    exact ⟨rfl, Below.refl _ _⟩
  have s0 : z0.length ≤ 1048576 := by omega
  by_cases s2 : ¬ z2.length ≤ 1048576
  · go_enter Try.func3, Try.ntmps3
    go_wp2
    go_ret
    exact ⟨rfl, Below.refl _ _⟩
  have s2 : z2.length ≤ 1048576 := by omega
  have B : Hid (Below w.heap.size w w) := Below.refl _ _
  have q0 := eqL_self z0
  have q2 := eqL_self z2
  obtain ⟨D, hD⟩ : ∃ D, D = shortB z0 z1 z2 := ⟨_, rfl⟩
  have lD : D.length ≤ 1048576 := by rw [hD]; exact Nat.le_trans (shortB_len z0 z2 z1) s2
  have qD := eqL_self D
  have HD := hide hD
  clear hD
  have y0 := Nat.le_refl w.heap.size
  go_enter Try.func3, Try.ntmps3
  go_wp2_with fail
  refine (toIntS_any A0 c0 z0 _ (I0.out.below B.out) s0).mono ?_
  rintro e w1 ⟨AX0, rfl, u1, u2, b⟩
  have X0 := hide (iw_of ⟨u1, u2⟩); clear u1 u2
  replace B := hide (bthen B.out b); have yw1 := Below.size b; clear b
  go_wp2_with fail
  refine (toIntS_any A2 c2 z2 _ (I2.out.below B.out) s2).mono ?_
  rintro e w2 ⟨AX2, rfl, u1, u2, b⟩
  have X2 := hide (iw_of ⟨u1, u2⟩); clear u1 u2
  replace X0 := hide (X0.out.below b)
  replace B := hide (bthen B.out b); have yw2 := Below.size b; clear b
  go_wp2_with fail
  refine (specShortTour AX0 AX2 _ _ z0 z2 z1 _ X0.out.ints X2.out.ints (by omega) s2).mono ?_
  rintro e w3 ⟨AW, cW, rfl, u, b⟩
  rw [← HD.out] at u ⊢
  have W := hide (iw_of u); clear u
  replace X0 := hide (X0.out.below b)
  replace X2 := hide (X2.out.below b)
  replace B := hide (bthen B.out b); have yw3 := Below.size b; clear b
  clear X0 X2
  go_wp2_with fail
  refine (toIntS_any A0 c0 z0 _ (I0.out.below B.out) s0).mono ?_
  rintro e w4 ⟨AY0, rfl, u1, u2, b⟩
  have Y0 := hide (iw_of ⟨u1, u2⟩); clear u1 u2
  replace W := hide (W.out.below b)
  replace B := hide (bthen B.out b); have yw4 := Below.size b; clear b
  go_wp2_with fail
  refine (toIntS_any A2 c2 z2 _ (I2.out.below B.out) s2).mono ?_
  rintro e w5 ⟨AY2, rfl, u1, u2, b⟩
  have Y2 := hide (iw_of ⟨u1, u2⟩); clear u1 u2
  replace W := hide (W.out.below b)
  replace Y0 := hide (Y0.out.below b)
  replace B := hide (bthen B.out b); have yw5 := Below.size b; clear b
  go_wp2_with fail
  refine (implShortTour AY0 AY2 _ _ z0 z2 z1 _ Y0.out.ints Y2.out.ints s2 (Nat.le_refl _)).mono ?_
  rintro e w6 ⟨AG, cG, rfl, u, b⟩
  rw [← HD.out] at u ⊢
  have G := hide (iw_of u); clear u
  replace W := hide (W.out.below b)
  replace Y0 := hide (Y0.out.below b)
  replace Y2 := hide (Y2.out.below b)
  replace B := hide (bthen B.out b); have yw6 := Below.size b; clear b
  go_wp2_with fail
  refine (eqIntS_any _ _ _ _ D D _ G.out.ints W.out.ints (by omega)).mono ?_
  rintro e w7 ⟨rfl, d⟩
  have b := d.below; clear d
  replace W := hide (W.out.below b)
  replace Y0 := hide (Y0.out.below b)
  replace Y2 := hide (Y2.out.below b)
  replace G := hide (G.out.below b)
  replace B := hide (bthen B.out b); have yw7 := Below.size b; clear b
  go_wp2_with fail
  refine (toIntS_any A0 c0 z0 _ (I0.out.below B.out) s0).mono ?_
  rintro e w8 ⟨AV0, rfl, u1, u2, b⟩
  have V0 := hide (iw_of ⟨u1, u2⟩); clear u1 u2
  replace W := hide (W.out.below b)
  replace Y0 := hide (Y0.out.below b)
  replace Y2 := hide (Y2.out.below b)
  replace G := hide (G.out.below b)
  replace B := hide (bthen B.out b); have yw8 := Below.size b; clear b
  go_wp2_with fail
  refine (eqIntS_any _ _ _ _ z0 z0 _ Y0.out.ints V0.out.ints (by omega)).mono ?_
  rintro e w9 ⟨rfl, d⟩
  have b := d.below; clear d
  replace W := hide (W.out.below b)
  replace Y0 := hide (Y0.out.below b)
  replace Y2 := hide (Y2.out.below b)
  replace G := hide (G.out.below b)
  replace V0 := hide (V0.out.below b)
  replace B := hide (bthen B.out b); have yw9 := Below.size b; clear b
  clear V0
  go_wp2_with fail
  refine (toIntS_any A2 c2 z2 _ (I2.out.below B.out) s2).mono ?_
  rintro e w10 ⟨AV2, rfl, u1, u2, b⟩
  have V2 := hide (iw_of ⟨u1, u2⟩); clear u1 u2
  replace W := hide (W.out.below b)
  replace Y0 := hide (Y0.out.below b)
  replace Y2 := hide (Y2.out.below b)
  replace G := hide (G.out.below b)
  replace B := hide (bthen B.out b); have yw10 := Below.size b; clear b
  go_wp2_with fail
  refine (eqIntS_any _ _ _ _ z2 z2 _ Y2.out.ints V2.out.ints (by omega)).mono ?_
  rintro e w11 ⟨rfl, d⟩
  have b := d.below; clear d
  replace W := hide (W.out.below b)
  replace Y0 := hide (Y0.out.below b)
  replace Y2 := hide (Y2.out.below b)
  replace G := hide (G.out.below b)
  replace V2 := hide (V2.out.below b)
  replace B := hide (bthen B.out b); have yw11 := Below.size b; clear b
  clear V2
  go_wp2_with fail
  refine (markIntS_any _ _ w3.heap.size w4.heap.size z0 _ _ Y0.out (by omega) (by omega) (by omega) (by omega)).mono ?_
  rintro e w12 ⟨rfl, V, o⟩
  replace W := hide (W.out.only o (by omega))
  replace Y2 := hide (Y2.out.only o (by omega))
  replace G := hide (G.out.only o (by omega))
  replace Y0 := hide V; have yw12 := o.size; replace B := hide (Only.then B.out o (by omega) (by omega)); clear V o
  go_wp2_with fail
  refine (markIntS_any _ _ w4.heap.size w5.heap.size z2 _ _ Y2.out (by omega) (by omega) (by omega) (by omega)).mono ?_
  rintro e w13 ⟨rfl, V, o⟩
  replace W := hide (W.out.only o (by omega))
  replace Y0 := hide (Y0.out.only o (by omega))
  replace G := hide (G.out.only o (by omega))
  replace Y2 := hide V; have yw13 := o.size; replace B := hide (Only.then B.out o (by omega) (by omega)); clear V o
  clear Y0 Y2
  go_wp2_with fail
  refine (eqIntS_any _ _ _ _ D D _ G.out.ints W.out.ints (by omega)).mono ?_
  rintro e w14 ⟨rfl, d⟩
  have b := d.below; clear d
  replace W := hide (W.out.below b)
  replace G := hide (G.out.below b)
  replace B := hide (bthen B.out b); have yw14 := Below.size b; clear b
  go_wp2_with fail
  refine (markIntS_any _ _ w5.heap.size w6.heap.size D _ _ G.out (by omega) (by omega) (by omega) (by omega)).mono ?_
  rintro e w15 ⟨rfl, V, o⟩
  replace W := hide (W.out.only o (by omega))
  replace G := hide V; have yw15 := o.size; replace B := hide (Only.then B.out o (by omega) (by omega)); clear V o
  have e3 : ((1 + (D.length : Int)) != (1 + (D.length : Int))) = false := by simp
  go_wp2_with fail
  refine (heldIntS_any _ _ D 1 _ G.out.ints (by omega) (by omega) (by omega)).mono ?_
  rintro e w16 ⟨rfl, d⟩
  have b := d.below; clear d
  replace W := hide (W.out.below b)
  replace G := hide (G.out.below b)
  replace B := hide (bthen B.out b); have yw16 := Below.size b; clear b
  go_wp2_with fail
  refine (toIntS_any A0 c0 z0 _ (I0.out.below B.out) s0).mono ?_
  rintro e w17 ⟨AU0, rfl, u1, u2, b⟩
  have U0 := hide (iw_of ⟨u1, u2⟩); clear u1 u2
  replace W := hide (W.out.below b)
  replace G := hide (G.out.below b)
  replace B := hide (bthen B.out b); have yw17 := Below.size b; clear b
  go_wp2_with fail
  refine (toIntS_any A2 c2 z2 _ (I2.out.below B.out) s2).mono ?_
  rintro e w18 ⟨AU2, rfl, u1, u2, b⟩
  have U2 := hide (iw_of ⟨u1, u2⟩); clear u1 u2
  replace W := hide (W.out.below b)
  replace G := hide (G.out.below b)
  replace U0 := hide (U0.out.below b)
  replace B := hide (bthen B.out b); have yw18 := Below.size b; clear b
  go_wp2_with fail
  refine (implShortTour AU0 AU2 _ _ z0 z2 z1 _ U0.out.ints U2.out.ints s2 (Nat.le_refl _)).mono ?_
  rintro e w19 ⟨AH, cH, rfl, u, b⟩
  rw [← HD.out] at u ⊢
  have H := hide (iw_of u); clear u
  replace W := hide (W.out.below b)
  replace G := hide (G.out.below b)
  replace U0 := hide (U0.out.below b)
  replace U2 := hide (U2.out.below b)
  replace B := hide (bthen B.out b); have yw19 := Below.size b; clear b
  clear U0 U2
  go_wp2_with fail
  refine (eqIntS_any _ _ _ _ D D _ H.out.ints W.out.ints (by omega)).mono ?_
  rintro e w20 ⟨rfl, d⟩
  have b := d.below; clear d
  replace W := hide (W.out.below b)
  replace G := hide (G.out.below b)
  replace H := hide (H.out.below b)
  replace B := hide (bthen B.out b); have yw20 := Below.size b; clear b
  go_wp2_with fail
  refine (heldIntS_any _ _ D 1 _ G.out.ints (by omega) (by omega) (by omega)).mono ?_
  rintro e w21 ⟨rfl, d⟩
  have b := d.below; clear d
  replace W := hide (W.out.below b)
  replace G := hide (G.out.below b)
  replace H := hide (H.out.below b)
  replace B := hide (bthen B.out b); have yw21 := Below.size b; clear b
  go_wp2_with fail
  go_ret
  exact ⟨rfl, B.out⟩
end Go.Proofs.Ytddlnafkacogiaa
