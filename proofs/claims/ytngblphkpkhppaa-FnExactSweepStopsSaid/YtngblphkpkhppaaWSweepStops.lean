import Derived.Test.YtngblphkpkhppaaFrameC
import Derived.Test.YtngblphkpkhppaaStopsG
import Derived.Test.YtngblphkpkhppaaStopsL
import Derived.Test.YtngblphkpkhppaaWCallsA
import Derived.Deep.CutRange
namespace Go.Proofs.Ytngblphkpkhppaa
open Go.RowKit
attribute [local go_sem ↓] Go.wp_at_zero Go.wp_at_succ

set_option maxRecDepth 100000 in
set_option maxHeartbeats 4000000 in
theorem wExactSweepStops (A0 A1 A2 : Option Addr) (c0 c1 c2 : Nat) (C : Cl) (f d : Int) (w : World) (h : InC w A0 A1 A2 c0 c1 c2 C) :
    Calls Try.prog 7 #[.agg #[.slice A0 C.up.length c0, .slice A1 C.dn.length c1, .slice A2 C.car.length c2], .agg #[.int .i64 f, .int .i64 d]] w fun e w' => e = .returned (.bool true) ∧ Below w.heap.size w w' := by
  obtain ⟨h, n0, n1, n2⟩ := h
  have H := hide h; clear h
  obtain ⟨D, hD⟩ : ∃ D, D = sweepB C f d := ⟨_, rfl⟩
  have d0 : D.length ≤ 24 := by rw [hD]; exact sweepB_len C f d
  have HD := hide hD; clear hD
  have e0 := eqC_self C
  go_enter Try.func7, Try.ntmps7
  go_wp2_with fail
  refine calls_name fun W hW => ?_
  have X2 : Hid (Box W w.heap.size #[.slice A0 C.up.length c0, .slice A1 C.dn.length c1, .slice A2 C.car.length c2]) := by rw [hW]; exact (Box.new rfl).alloc _
  have X3 : Hid (Box W (w.heap.size + 1) #[.int .i64 f, .int .i64 d]) := by rw [hW]; exact Box.new (by simp)
  have BW : Hid (Below w.heap.size w W) := by rw [hW]; exact ((Below.refl _ _).alloc (Nat.le_refl _) _).alloc (by simp) _
  clear hW
  refine (szCalls_any A0 A1 A2 c0 c1 c2 C 1048576 _ (by omega) (by omega) n0 n1 n2).mono ?_
  rintro e w1 ⟨rfl, b⟩
  replace X2 := hide (X2.out.below b)
  replace X3 := hide (X3.out.below b)
  replace BW := hide (bthen BW.out b)
  clear b
  by_cases hz : C.up.length + C.dn.length + C.car.length ≤ 1048576
  rotate_left
  · rw [szC_neg hz]
    go_wp2_with fail
    go_ret
    exact ⟨rfl, BW.out⟩
  have HZ := hide (szC_pos hz)
  have hl : C.up.length ≤ 1048576 ∧ C.dn.length ≤ 1048576 ∧ C.car.length ≤ 1048576 := by omega
  have L3 := hide hl
  have hz0 : (0 : Int) ≤ 1048576 - (C.up.length : Int) - (C.dn.length : Int) - (C.car.length : Int) := by omega
  rw [HZ.out]
  clear hz hl n0 n1 n2 HZ
  have X2_lt := X2.out.lt
  have X2_c0 := X2.out.at (i := 0) rfl; have X2_f0 := X2.out.frozen 0
  have X2_c1 := X2.out.at (i := 1) rfl; have X2_f1 := X2.out.frozen 1
  have X2_c2 := X2.out.at (i := 2) rfl; have X2_f2 := X2.out.frozen 2
  have X3_lt := X3.out.lt
  have X3_c0 := X3.out.at (i := 0) rfl; have X3_f0 := X3.out.frozen 0
  have X3_c1 := X3.out.at (i := 1) rfl; have X3_f1 := X3.out.frozen 1
  go_upto_region 5 with fail
  have H0 := hide (H.out.below BW.out)
  have KK : Hid (Below w1.heap.size w1 w1.drew) := (Below.refl _ _).drew
  go_cut [6] from 18 to 22 (fun s wx => ∃ S s0 lo, s = .slice S D.length s0 ∧ Hid (Below w1.heap.size w1 wx) ∧ Hid (SW lo wx.heap.size wx S D) ∧ w1.heap.size ≤ lo)
  case first =>
    go_region_held3 (fun W => (W.cell? ⟨w.heap.size, 0, none⟩ = some (.slice A0 C.up.length c0) ∧ W.cell? ⟨w.heap.size, 1, none⟩ = some (.slice A1 C.dn.length c1) ∧ W.cell? ⟨w.heap.size, 2, none⟩ = some (.slice A2 C.car.length c2)) ∧ W.cell? ⟨w.heap.size + 1, 0, none⟩ = some (.int .i64 f) ∧ W.cell? ⟨w.heap.size + 1, 1, none⟩ = some (.int .i64 d)) (first | (go_keep; done) | with_reducible exact ⟨⟨(X2.out.below KK.out).at (by with_unfolding_all rfl), (X2.out.below KK.out).at (by with_unfolding_all rfl), (X2.out.below KK.out).at (by with_unfolding_all rfl)⟩, (X3.out.below KK.out).at (by with_unfolding_all rfl), (X3.out.below KK.out).at (by with_unfolding_all rfl)⟩) (first | (go_at_call 11; refine (toCalls_any A0 A1 A2 c0 c1 c2 C _ ?_ L3.out).mono ?_; exact H0.out.below KK.out; rintro e v ⟨P0, P1, P2, p0, p1, p2, rfl, P, bb⟩; replace P := hide P; (first | replace S := hide (S.out.below bb) | skip); replace KK := hide (bthen KK.out bb); have zKK := KK.out.size; clear bb) | (go_at_call 12; refine (toStop_any f d _).mono ?_; rintro e v ⟨rfl, bb⟩; (first | replace P := hide (P.out.below bb) | skip); (first | replace S := hide (S.out.below bb) | skip); replace KK := hide (bthen KK.out bb); have zKK := KK.out.size; clear bb) | (go_at_call 27; refine (specSweepStops_at P0 P1 P2 p0 p1 p2 C f d D HD.out _ ?_).mono ?_; exact P.out.cr; rintro e v ⟨S0, s0, rfl, S, bb⟩; (first | replace P := hide (P.out.below bb) | skip); replace S := hide S; replace KK := hide (bthen KK.out bb); have zKK := KK.out.size; clear bb))
    all_goals
      go_wp2_with fail
      go_meet
      case rel => exact ⟨_, _, _, rfl, KK.out, S.out, by omega⟩
  case rest =>
    obtain ⟨S0, s0, lS, rfl, KW, S, lS1⟩ := hcut
    rename World => w2
    have z2 := KW.out.size
    replace X2 := hide (X2.out.below KW.out)
    replace X3 := hide (X3.out.below KW.out)
    replace BW := hide (bthen BW.out KW.out)
    clear KW H0
    have zX2 := X2.out.lt
    have zX3 := X3.out.lt
    have X2_lt := X2.out.lt
    have X2_c0 := X2.out.at (i := 0) rfl; have X2_f0 := X2.out.frozen 0
    have X2_c1 := X2.out.at (i := 1) rfl; have X2_f1 := X2.out.frozen 1
    have X2_c2 := X2.out.at (i := 2) rfl; have X2_f2 := X2.out.frozen 2
    go_wp2_with fail
    clear X2_lt X2_c0 X2_f0 X2_c1 X2_f1 X2_c2 X2_f2
    refine (toCalls_any A0 A1 A2 c0 c1 c2 C _ (H.out.below BW.out) L3.out).mono ?_
    rintro e w3 ⟨Q0, Q1, Q2, q0, q1, q2, rfl, Q, b⟩
    replace Q := hide Q
    have z3 := b.size
    replace X2 := hide (X2.out.below b)
    replace X3 := hide (X3.out.below b)
    replace S := hide (S.out.below b)
    replace BW := hide (bthen BW.out b)
    clear b
    go_upto_region 7 with fail
    refine code_name fun W4 hW => ?_
    have X0 := hide (Box.new' (g := w3.heap.size) hW rfl)
    have b : Below w3.heap.size w3 W4 := by rw [hW]; exact (Below.refl _ _).alloc (Nat.le_refl _) _
    have z4 := X0.out.lt
    replace X2 := hide (X2.out.below b)
    replace X3 := hide (X3.out.below b)
    replace S := hide (S.out.below b)
    replace Q := hide (Q.out.below b)
    replace BW := hide (bthen BW.out b)
    clear b
    clear hW
    have X0_lt := X0.out.lt
    have X0_c0 := X0.out.at (i := 0) rfl; have X0_f0 := X0.out.frozen 0
    have X0_c1 := X0.out.at (i := 1) rfl; have X0_f1 := X0.out.frozen 1
    have X0_c2 := X0.out.at (i := 2) rfl; have X0_f2 := X0.out.frozen 2
    have X3_lt := X3.out.lt
    have X3_c0 := X3.out.at (i := 0) rfl; have X3_f0 := X3.out.frozen 0
    have X3_c1 := X3.out.at (i := 1) rfl; have X3_f1 := X3.out.frozen 1
    have KK : Hid (Below W4.heap.size W4 W4.drew) := (Below.refl _ _).drew
    go_cut [8] from 25 to 28 (fun s wx => ∃ G g0 lo, s = .slice G D.length g0 ∧ Hid (Below W4.heap.size W4 wx) ∧ Hid (SW lo wx.heap.size wx G D) ∧ W4.heap.size ≤ lo)
    case first =>
      go_region_held3 (fun W => (W.cell? ⟨w3.heap.size, 0, none⟩ = some (.slice Q0 C.up.length q0) ∧ W.cell? ⟨w3.heap.size, 1, none⟩ = some (.slice Q1 C.dn.length q1) ∧ W.cell? ⟨w3.heap.size, 2, none⟩ = some (.slice Q2 C.car.length q2)) ∧ W.cell? ⟨w.heap.size + 1, 0, none⟩ = some (.int .i64 f) ∧ W.cell? ⟨w.heap.size + 1, 1, none⟩ = some (.int .i64 d)) (first | (go_keep; done) | with_reducible exact ⟨⟨(X0.out.below KK.out).at (by with_unfolding_all rfl), (X0.out.below KK.out).at (by with_unfolding_all rfl), (X0.out.below KK.out).at (by with_unfolding_all rfl)⟩, (X3.out.below KK.out).at (by with_unfolding_all rfl), (X3.out.below KK.out).at (by with_unfolding_all rfl)⟩) (first | (go_at_call 12; refine (toStop_any f d _).mono ?_; rintro e v ⟨rfl, bb⟩; (first | replace G := hide (G.out.below bb) | skip); replace KK := hide (bthen KK.out bb); have zKK := KK.out.size; clear bb) | (go_at_call 28; refine (implSweepStops_at Q0 Q1 Q2 q0 q1 q2 C f d D HD.out _ ?_).mono ?_; exact Q.out.cr.below KK.out; rintro e v ⟨G0, g0, rfl, G, bb⟩; replace G := hide G; replace KK := hide (bthen KK.out bb); have zKK := KK.out.size; clear bb))
      all_goals
        go_wp2_with fail
        go_meet
        case rel => exact ⟨_, _, _, rfl, KK.out, G.out, by omega⟩
    case rest =>
      obtain ⟨G0, g0, lG, rfl, KW, G, lG1⟩ := hcut
      rename World => w5
      have z5 := KW.out.size
      replace X2 := hide (X2.out.below KW.out)
      replace X3 := hide (X3.out.below KW.out)
      replace X0 := hide (X0.out.below KW.out)
      replace Q := hide (Q.out.below KW.out)
      replace S := hide (S.out.below KW.out)
      replace BW := hide (bthen BW.out KW.out)
      clear KW
      go_wp2_with fail
      refine (eqStopS_self G0 S0 g0 s0 D _ G.out.stps S.out.stps (by omega)).mono ?_
      rintro e w6 ⟨rfl, b⟩
      have z6 := b.size
      replace X2 := hide (X2.out.below b)
      replace X3 := hide (X3.out.below b)
      replace X0 := hide (X0.out.below b)
      replace Q := hide (Q.out.below b)
      replace S := hide (S.out.below b)
      replace G := hide (G.out.below b)
      replace BW := hide (bthen BW.out b)
      clear b
      have X2_lt := X2.out.lt
      have X2_c0 := X2.out.at (i := 0) rfl; have X2_f0 := X2.out.frozen 0
      have X2_c1 := X2.out.at (i := 1) rfl; have X2_f1 := X2.out.frozen 1
      have X2_c2 := X2.out.at (i := 2) rfl; have X2_f2 := X2.out.frozen 2
      have X0_lt := X0.out.lt
      have X0_c0 := X0.out.at (i := 0) rfl; have X0_f0 := X0.out.frozen 0
      have X0_c1 := X0.out.at (i := 1) rfl; have X0_f1 := X0.out.frozen 1
      have X0_c2 := X0.out.at (i := 2) rfl; have X0_f2 := X0.out.frozen 2
      go_wp2_with fail
      go_region_held3 (fun W => (W.cell? ⟨w.heap.size, 0, none⟩ = some (.slice A0 C.up.length c0) ∧ W.cell? ⟨w.heap.size, 1, none⟩ = some (.slice A1 C.dn.length c1) ∧ W.cell? ⟨w.heap.size, 2, none⟩ = some (.slice A2 C.car.length c2)) ∧ W.cell? ⟨w3.heap.size, 0, none⟩ = some (.slice Q0 C.up.length q0) ∧ W.cell? ⟨w3.heap.size, 1, none⟩ = some (.slice Q1 C.dn.length q1) ∧ W.cell? ⟨w3.heap.size, 2, none⟩ = some (.slice Q2 C.car.length q2)) (first | (go_keep; done) | with_reducible exact ⟨⟨((X2.out.drew.below b7.out).below b8.out).at (by with_unfolding_all rfl), ((X2.out.drew.below b7.out).below b8.out).at (by with_unfolding_all rfl), ((X2.out.drew.below b7.out).below b8.out).at (by with_unfolding_all rfl)⟩, ((X0.out.drew.below b7.out).below b8.out).at (by with_unfolding_all rfl), ((X0.out.drew.below b7.out).below b8.out).at (by with_unfolding_all rfl), ((X0.out.drew.below b7.out).below b8.out).at (by with_unfolding_all rfl)⟩ | with_reducible exact ⟨⟨(X2.out.drew.below b7.out).at (by with_unfolding_all rfl), (X2.out.drew.below b7.out).at (by with_unfolding_all rfl), (X2.out.drew.below b7.out).at (by with_unfolding_all rfl)⟩, (X0.out.drew.below b7.out).at (by with_unfolding_all rfl), (X0.out.drew.below b7.out).at (by with_unfolding_all rfl), (X0.out.drew.below b7.out).at (by with_unfolding_all rfl)⟩) (first | (go_at_call 11; refine (toCalls_any A0 A1 A2 c0 c1 c2 C _ (by exact H.out.below BW.out.drew) L3.out).mono ?_; rintro e w7 ⟨R0, R1, R2, r0, r1, r2, rfl, R, b7⟩; replace R := hide R; replace b7 := hide b7) | (go_at_call 15; refine (eqCalls_any Q0 Q1 Q2 q0 q1 q2 R0 R1 R2 r0 r1 r2 C C _ (by exact (Q.out.below (below_drewN (Below.refl _ _) 1)).cr.below b7.out) R.out.cr (by have := L3.out; omega)).mono ?_; rintro e w8 ⟨rfl, b8⟩; replace b8 := hide b8))
      clear X2_lt X2_c0 X2_f0 X2_c1 X2_f1 X2_c2 X2_f2
      clear X0_lt X0_c0 X0_f0 X0_c1 X0_f1 X0_c2 X0_f2
      have b : Below w6.heap.size w6 w8 := bthen (bthen (below_drewN (Below.refl _ _) 1) b7.out) b8.out
      clear b7 b8 R
      have z8 := b.size
      replace X2 := hide (X2.out.below b)
      replace X3 := hide (X3.out.below b)
      replace X0 := hide (X0.out.below b)
      replace Q := hide (Q.out.below b)
      replace S := hide (S.out.below b)
      replace G := hide (G.out.below b)
      replace BW := hide (bthen BW.out b)
      clear b
      have X0_lt := X0.out.lt
      have X0_c0 := X0.out.at (i := 0) rfl; have X0_f0 := X0.out.frozen 0
      have X0_c1 := X0.out.at (i := 1) rfl; have X0_f1 := X0.out.frozen 1
      have X0_c2 := X0.out.at (i := 2) rfl; have X0_f2 := X0.out.frozen 2
      go_wp2_with fail
      clear X0_lt X0_c0 X0_f0 X0_c1 X0_f1 X0_c2 X0_f2
      refine (markCalls_any Q0 Q1 Q2 q0 q1 q2 C 1 w2.heap.size w3.heap.size _ Q.out L3.out (by omega) (by omega) (by omega)).mono ?_
      rintro e w9 ⟨rfl, -, o⟩
      have z9 := o.size
      replace X2 := hide (X2.out.only o (by omega)); replace X3 := hide (X3.out.only o (by omega)); replace S := hide (S.out.only o (by omega)); replace G := hide (G.out.only o (by omega))
      replace BW := hide (Only.then BW.out o (by omega) (by omega))
      clear o X0 Q
      go_wp2_with fail
      refine (eqStopS_self G0 S0 g0 s0 D _ G.out.stps S.out.stps (by omega)).mono ?_
      rintro e w10 ⟨rfl, b⟩
      have z10 := b.size
      replace X2 := hide (X2.out.below b)
      replace X3 := hide (X3.out.below b)
      replace S := hide (S.out.below b)
      replace G := hide (G.out.below b)
      replace BW := hide (bthen BW.out b)
      clear b
      go_wp2_with fail
      refine (markStopS_any G0 g0 lG w5.heap.size D 1 _ G.out (by omega) (by omega) (by omega) (by omega)).mono ?_
      rintro e w11 ⟨rfl, G', o⟩
      have z11 := o.size
      replace X2 := hide (X2.out.only o (by omega)); replace X3 := hide (X3.out.only o (by omega)); replace S := hide (S.out.only o (by omega))
      replace BW := hide (Only.then BW.out o (by omega) (by omega))
      replace G := hide G'
      clear o G'
      go_wp2_with fail
      refine (heldStopS_any G0 g0 D 1 _ G.out.stps (by omega) (by omega) (by omega)).mono ?_
      rintro e w12 ⟨rfl, dr⟩
      have b := dr.below
      have z12 := b.size
      replace X2 := hide (X2.out.below b)
      replace X3 := hide (X3.out.below b)
      replace S := hide (S.out.below b)
      replace G := hide (G.out.below b)
      replace BW := hide (bthen BW.out b)
      clear b
      clear dr
      have e3 : ((1 + 2 * (D.length : Int)) != (1 + 2 * (D.length : Int))) = false := by simp
      have X2_lt := X2.out.lt
      have X2_c0 := X2.out.at (i := 0) rfl; have X2_f0 := X2.out.frozen 0
      have X2_c1 := X2.out.at (i := 1) rfl; have X2_f1 := X2.out.frozen 1
      have X2_c2 := X2.out.at (i := 2) rfl; have X2_f2 := X2.out.frozen 2
      have X3_lt := X3.out.lt
      have X3_c0 := X3.out.at (i := 0) rfl; have X3_f0 := X3.out.frozen 0
      have X3_c1 := X3.out.at (i := 1) rfl; have X3_f1 := X3.out.frozen 1
      go_upto_region 24 with fail
      have H0 := hide (H.out.below BW.out)
      have KK : Hid (Below w12.heap.size w12 w12.drew) := (Below.refl _ _).drew
      go_cut [12] from 60 to 64 (fun s wx => ∃ U u0 lo, s = .slice U D.length u0 ∧ Hid (Below w12.heap.size w12 wx) ∧ Hid (SW lo wx.heap.size wx U D) ∧ w12.heap.size ≤ lo)
      case first =>
        go_region_held3 (fun W => (W.cell? ⟨w.heap.size, 0, none⟩ = some (.slice A0 C.up.length c0) ∧ W.cell? ⟨w.heap.size, 1, none⟩ = some (.slice A1 C.dn.length c1) ∧ W.cell? ⟨w.heap.size, 2, none⟩ = some (.slice A2 C.car.length c2)) ∧ W.cell? ⟨w.heap.size + 1, 0, none⟩ = some (.int .i64 f) ∧ W.cell? ⟨w.heap.size + 1, 1, none⟩ = some (.int .i64 d)) (first | (go_keep; done) | with_reducible exact ⟨⟨(X2.out.below KK.out).at (by with_unfolding_all rfl), (X2.out.below KK.out).at (by with_unfolding_all rfl), (X2.out.below KK.out).at (by with_unfolding_all rfl)⟩, (X3.out.below KK.out).at (by with_unfolding_all rfl), (X3.out.below KK.out).at (by with_unfolding_all rfl)⟩) (first | (go_at_call 11; refine (toCalls_any A0 A1 A2 c0 c1 c2 C _ ?_ L3.out).mono ?_; exact H0.out.below KK.out; rintro e v ⟨P0, P1, P2, p0, p1, p2, rfl, P, bb⟩; replace P := hide P; (first | replace U := hide (U.out.below bb) | skip); replace KK := hide (bthen KK.out bb); have zKK := KK.out.size; clear bb) | (go_at_call 12; refine (toStop_any f d _).mono ?_; rintro e v ⟨rfl, bb⟩; (first | replace P := hide (P.out.below bb) | skip); (first | replace U := hide (U.out.below bb) | skip); replace KK := hide (bthen KK.out bb); have zKK := KK.out.size; clear bb) | (go_at_call 28; refine (implSweepStops_at P0 P1 P2 p0 p1 p2 C f d D HD.out _ ?_).mono ?_; exact P.out.cr; rintro e v ⟨U0, u0, rfl, U, bb⟩; (first | replace P := hide (P.out.below bb) | skip); replace U := hide U; replace KK := hide (bthen KK.out bb); have zKK := KK.out.size; clear bb))
        all_goals
          go_wp2_with fail
          go_meet
          case rel => exact ⟨_, _, _, rfl, KK.out, U.out, by omega⟩
      case rest =>
        obtain ⟨U0, u0, lU, rfl, KW, U, -⟩ := hcut
        rename World => w13
        replace S := hide (S.out.below KW.out)
        replace G := hide (G.out.below KW.out)
        replace BW := hide (bthen BW.out KW.out)
        clear KW H0 X2 X3
        go_wp2_with fail
        refine (eqStopS_self U0 S0 u0 s0 D _ U.out.stps S.out.stps (by omega)).mono ?_
        rintro e w14 ⟨rfl, b⟩
        replace G := hide (G.out.below b)
        replace BW := hide (bthen BW.out b)
        clear b
        clear S U
        go_wp2_with fail
        refine (heldStopS_any G0 g0 D 1 _ G.out.stps (by omega) (by omega) (by omega)).mono ?_
        rintro e w15 ⟨rfl, dr⟩
        have b := dr.below
        replace BW := hide (bthen BW.out b)
        clear b
        clear dr
        go_wp2_with fail
        go_ret
        exact ⟨rfl, BW.out⟩
end Go.Proofs.Ytngblphkpkhppaa
