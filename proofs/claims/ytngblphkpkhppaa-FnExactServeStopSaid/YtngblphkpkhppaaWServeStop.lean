import Derived.Test.YtngblphkpkhppaaFrameC
import Derived.Test.YtngblphkpkhppaaStopsF
import Derived.Test.YtngblphkpkhppaaStopsL
import Derived.Test.YtngblphkpkhppaaWCallsA
import Derived.Deep.CutRange
namespace Go.Proofs.Ytngblphkpkhppaa
open Go.RowKit
attribute [local go_sem ↓] Go.wp_at_zero Go.wp_at_succ

set_option maxRecDepth 100000 in
set_option maxHeartbeats 4000000 in
theorem wExactServeStop (A0 A1 A2 : Option Addr) (c0 c1 c2 : Nat) (C : Cl) (f d : Int) (w : World) (h : InC w A0 A1 A2 c0 c1 c2 C) :
    Calls Try.prog 4 #[.agg #[.slice A0 C.up.length c0, .slice A1 C.dn.length c1, .slice A2 C.car.length c2], .agg #[.int .i64 f, .int .i64 d]] w fun e w' => e = .returned (.bool true) ∧ Below w.heap.size w w' := by
  obtain ⟨h, n0, n1, n2⟩ := h
  have H := hide h; clear h
  obtain ⟨D, hD⟩ : ∃ D, D = serveB C f d := ⟨_, rfl⟩
  have hlen : D.up.length ≤ 8 ∧ D.dn.length ≤ 8 ∧ D.car.length ≤ 8 := by rw [hD]; exact serveB_lens
  obtain ⟨d0, d1, d2⟩ := hlen
  have HD := hide hD; clear hD
  have e0 := eqC_self C
  have e1 := eqC_self D
  go_enter Try.func4, Try.ntmps4
  go_wp2_with fail
  refine calls_name fun W hW => ?_
  have X2 : Hid (Box W w.heap.size #[.slice A0 C.up.length c0, .slice A1 C.dn.length c1, .slice A2 C.car.length c2]) := by rw [hW]; exact (Box.new rfl).alloc _
  have X3 : Hid (Box W (w.heap.size + 1) #[.int .i64 f, .int .i64 d]) := by rw [hW]; exact Box.new (by simp)
  have BW : Hid (Below w.heap.size w W) := by rw [hW]; exact ((Below.refl _ _).alloc (Nat.le_refl _) _).alloc (by simp) _
  clear hW
  refine (szCalls_any A0 A1 A2 c0 c1 c2 C 1048576 _ (by omega) (by omega) n0 n1 n2).mono ?_
  rintro e w1 ⟨rfl, b⟩
  replace X2 := hide (X2.out.below b)
  replace X3 := hide (X3.out.below b)
  replace BW := hide (bthen BW.out b)
  clear b
  by_cases hz : C.up.length + C.dn.length + C.car.length ≤ 1048576
  rotate_left
  · rw [szC_neg hz]
    go_wp2_with fail
    go_ret
    exact ⟨rfl, BW.out⟩
  have HZ := hide (szC_pos hz)
  have hl : C.up.length ≤ 1048576 ∧ C.dn.length ≤ 1048576 ∧ C.car.length ≤ 1048576 := by omega
  have L3 := hide hl
  have hz0 : (0 : Int) ≤ 1048576 - (C.up.length : Int) - (C.dn.length : Int) - (C.car.length : Int) := by omega
  rw [HZ.out]
  clear hz hl n0 n1 n2 HZ
  have X2_lt := X2.out.lt
  have X2_c0 := X2.out.at (i := 0) rfl; have X2_f0 := X2.out.frozen 0
  have X2_c1 := X2.out.at (i := 1) rfl; have X2_f1 := X2.out.frozen 1
  have X2_c2 := X2.out.at (i := 2) rfl; have X2_f2 := X2.out.frozen 2
  have X3_lt := X3.out.lt
  have X3_c0 := X3.out.at (i := 0) rfl; have X3_f0 := X3.out.frozen 0
  have X3_c1 := X3.out.at (i := 1) rfl; have X3_f1 := X3.out.frozen 1
  go_upto_region 5 with fail
  have H0 := hide (H.out.below BW.out)
  have KK : Hid (Below w1.heap.size w1 w1.drew) := (Below.refl _ _).drew
  have zzX2 := X2.out.lt
  have zzX3 := X3.out.lt
  go_cut [6] from 18 to 22 (fun s wx => ∃ g6 S0 S1 S2 s0 s1 s2 lo hi, s = .pointer (some ⟨g6, 0, none⟩) ∧ w1.heap.size ≤ g6 ∧ Hid (Box wx g6 #[.slice S0 D.up.length s0, .slice S1 D.dn.length s1, .slice S2 D.car.length s2]) ∧ Hid (Below w1.heap.size w1 wx) ∧ Hid (CO lo hi wx S0 S1 S2 D) ∧ w1.heap.size ≤ lo ∧ hi ≤ wx.heap.size ∧ (g6 < lo ∨ hi ≤ g6))
  case first =>
    go_region_held3 (fun W => (W.cell? ⟨w.heap.size, 0, none⟩ = some (.slice A0 C.up.length c0) ∧ W.cell? ⟨w.heap.size, 1, none⟩ = some (.slice A1 C.dn.length c1) ∧ W.cell? ⟨w.heap.size, 2, none⟩ = some (.slice A2 C.car.length c2)) ∧ W.cell? ⟨w.heap.size + 1, 0, none⟩ = some (.int .i64 f) ∧ W.cell? ⟨w.heap.size + 1, 1, none⟩ = some (.int .i64 d)) (first | (go_keep; done) | with_reducible exact ⟨⟨(X2.out.below KK.out).at (by with_unfolding_all rfl), (X2.out.below KK.out).at (by with_unfolding_all rfl), (X2.out.below KK.out).at (by with_unfolding_all rfl)⟩, (X3.out.below KK.out).at (by with_unfolding_all rfl), (X3.out.below KK.out).at (by with_unfolding_all rfl)⟩ | with_reducible exact ⟨⟨(X2.out.below (bthen KK.out ((Below.refl _ _).alloc (Nat.le_refl _) _))).at (by with_unfolding_all rfl), (X2.out.below (bthen KK.out ((Below.refl _ _).alloc (Nat.le_refl _) _))).at (by with_unfolding_all rfl), (X2.out.below (bthen KK.out ((Below.refl _ _).alloc (Nat.le_refl _) _))).at (by with_unfolding_all rfl)⟩, (X3.out.below (bthen KK.out ((Below.refl _ _).alloc (Nat.le_refl _) _))).at (by with_unfolding_all rfl), (X3.out.below (bthen KK.out ((Below.refl _ _).alloc (Nat.le_refl _) _))).at (by with_unfolding_all rfl)⟩ | exact ⟨⟨((X2.out.below KK.out).only (onlyW3 _ _ _ _) (by omega)).at rfl, ((X2.out.below KK.out).only (onlyW3 _ _ _ _) (by omega)).at rfl, ((X2.out.below KK.out).only (onlyW3 _ _ _ _) (by omega)).at rfl⟩, ((X3.out.below KK.out).only (onlyW3 _ _ _ _) (by omega)).at rfl, ((X3.out.below KK.out).only (onlyW3 _ _ _ _) (by omega)).at rfl⟩) (first | (go_at_call 11; refine (toCalls_any A0 A1 A2 c0 c1 c2 C _ ?_ L3.out).mono ?_; (first | exact H0.out.below KK.out | exact H0.out.below (bthen KK.out ((Below.refl _ _).alloc (Nat.le_refl _) _))); (first | have zlt := ZZ.out.lt | skip); rintro e v ⟨P0, P1, P2, p0, p1, p2, rfl, P, bb⟩; replace P := hide P; (first | replace S := hide (S.out.below bb) | replace S := hide ((S.out.below ((Below.refl _ _).alloc (Nat.le_refl _) _)).below bb) | skip); (first | (have ZZ : Hid (Box v w1.heap.size #[.slice none 0 0, .slice none 0 0, .slice none 0 0]) := Box.below (show Box ((w1.alloc (.cells #[.slice none 0 0, .slice none 0 0, .slice none 0 0] 30)).drew) w1.heap.size #[.slice none 0 0, .slice none 0 0, .slice none 0 0] from (Box.new rfl).drew) bb) | replace ZZ := hide (ZZ.out.below bb) | (have zz2 := Box.newLt (cs := #[.slice none 0 0, .slice none 0 0, .slice none 0 0]) (t := 30) bb; have zlt := zz2.2; have ZZ := hide zz2.1; clear zz2) | skip); (first | replace KK := hide (bthen KK.out bb) | replace KK := hide (bthen (bthen KK.out ((Below.refl _ _).alloc (Nat.le_refl _) _)) bb)); have zKK := KK.out.size; (first | (have jc0 := ZZ.out.at (i := 0) rfl; have jf0 := ZZ.out.frozen 0; have jc1 := ZZ.out.at (i := 1) rfl; have jf1 := ZZ.out.frozen 1; have jc2 := ZZ.out.at (i := 2) rfl; have jf2 := ZZ.out.frozen 2) | skip); clear bb) | (go_at_call 12; refine (toStop_any f d _).mono ?_; (first | have zlt := ZZ.out.lt | skip); rintro e v ⟨rfl, bb⟩; (first | replace P := hide (P.out.below bb) | replace P := hide ((P.out.below ((Below.refl _ _).alloc (Nat.le_refl _) _)).below bb) | skip); (first | replace S := hide (S.out.below bb) | replace S := hide ((S.out.below ((Below.refl _ _).alloc (Nat.le_refl _) _)).below bb) | skip); (first | (have ZZ : Hid (Box v w1.heap.size #[.slice none 0 0, .slice none 0 0, .slice none 0 0]) := Box.below (show Box ((w1.alloc (.cells #[.slice none 0 0, .slice none 0 0, .slice none 0 0] 30)).drew) w1.heap.size #[.slice none 0 0, .slice none 0 0, .slice none 0 0] from (Box.new rfl).drew) bb) | replace ZZ := hide (ZZ.out.below bb) | (have zz2 := Box.newLt (cs := #[.slice none 0 0, .slice none 0 0, .slice none 0 0]) (t := 30) bb; have zlt := zz2.2; have ZZ := hide zz2.1; clear zz2) | skip); (first | replace KK := hide (bthen KK.out bb) | replace KK := hide (bthen (bthen KK.out ((Below.refl _ _).alloc (Nat.le_refl _) _)) bb)); have zKK := KK.out.size; (first | (have jc0 := ZZ.out.at (i := 0) rfl; have jf0 := ZZ.out.frozen 0; have jc1 := ZZ.out.at (i := 1) rfl; have jf1 := ZZ.out.frozen 1; have jc2 := ZZ.out.at (i := 2) rfl; have jf2 := ZZ.out.frozen 2) | skip); clear bb) | (go_at_call 16; refine (specServeStop_at P0 P1 P2 p0 p1 p2 C f d D HD.out _ ?_).mono ?_; (first | exact P.out.cr | exact (P.out.below ((Below.refl _ _).alloc (Nat.le_refl _) _)).cr); (first | have zlt := ZZ.out.lt | skip); rintro e v ⟨S0, S1, S2, s0, s1, s2, rfl, S, bb⟩; (first | replace P := hide (P.out.below bb) | replace P := hide ((P.out.below ((Below.refl _ _).alloc (Nat.le_refl _) _)).below bb) | skip); replace S := hide S; (first | (have ZZ : Hid (Box v w1.heap.size #[.slice none 0 0, .slice none 0 0, .slice none 0 0]) := Box.below (show Box ((w1.alloc (.cells #[.slice none 0 0, .slice none 0 0, .slice none 0 0] 30)).drew) w1.heap.size #[.slice none 0 0, .slice none 0 0, .slice none 0 0] from (Box.new rfl).drew) bb) | replace ZZ := hide (ZZ.out.below bb) | (have zz2 := Box.newLt (cs := #[.slice none 0 0, .slice none 0 0, .slice none 0 0]) (t := 30) bb; have zlt := zz2.2; have ZZ := hide zz2.1; clear zz2) | skip); (first | replace KK := hide (bthen KK.out bb) | replace KK := hide (bthen (bthen KK.out ((Below.refl _ _).alloc (Nat.le_refl _) _)) bb)); have zKK := KK.out.size; (first | (have jc0 := ZZ.out.at (i := 0) rfl; have jf0 := ZZ.out.frozen 0; have jc1 := ZZ.out.at (i := 1) rfl; have jf1 := ZZ.out.frozen 1; have jc2 := ZZ.out.at (i := 2) rfl; have jf2 := ZZ.out.frozen 2) | skip); clear bb))
    all_goals
      go_wp2_with fail
      go_meet
      case rel => first | exact ⟨_, _, _, _, _, _, _, _, _, rfl, by omega, Box.setW3 ZZ.out _ _ _, (Only.then KK.out (onlyW3 _ _ _ _) (by omega) (by omega)), S.out.only (onlyW3 _ _ _ _) (by omega), by omega, by simp, by omega⟩ | exact ⟨_, _, _, _, _, _, _, _, _, rfl, by omega, Box.new rfl, KK.out.alloc (by omega) _, S.out.below ((Below.refl _ _).alloc (Nat.le_refl _) _), by omega, by simp, by omega⟩
  case rest =>
    obtain ⟨gw, S0, S1, S2, s0, s1, s2, lS, hS, rfl, gwl, XW, KW, S, lS1, hS1, gwS⟩ := hcut
    rename World => w2
    replace X2 := hide (X2.out.below KW.out)
    replace X3 := hide (X3.out.below KW.out)
    replace BW := hide (bthen BW.out KW.out)
    clear KW H0
    have zX2 := X2.out.lt
    have zX3 := X3.out.lt
    have zXW := XW.out.lt
    have X2_lt := X2.out.lt
    have X2_c0 := X2.out.at (i := 0) rfl; have X2_f0 := X2.out.frozen 0
    have X2_c1 := X2.out.at (i := 1) rfl; have X2_f1 := X2.out.frozen 1
    have X2_c2 := X2.out.at (i := 2) rfl; have X2_f2 := X2.out.frozen 2
    go_wp2_with fail
    clear X2_lt X2_c0 X2_f0 X2_c1 X2_f1 X2_c2 X2_f2
    refine (toCalls_any A0 A1 A2 c0 c1 c2 C _ (H.out.below BW.out) L3.out).mono ?_
    rintro e w3 ⟨Q0, Q1, Q2, q0, q1, q2, rfl, Q, b⟩
    replace Q := hide Q
    have z3 := b.size
    replace X2 := hide (X2.out.below b)
    replace X3 := hide (X3.out.below b)
    replace XW := hide (XW.out.below b)
    replace S := hide (S.out.below b)
    replace BW := hide (bthen BW.out b)
    clear b
    go_upto_region 7 with fail
    refine code_name fun W4 hW => ?_
    have X0 := hide (Box.new' (g := w3.heap.size) hW rfl)
    have b : Below w3.heap.size w3 W4 := by rw [hW]; exact (Below.refl _ _).alloc (Nat.le_refl _) _
    have z4 := X0.out.lt
    replace X2 := hide (X2.out.below b)
    replace X3 := hide (X3.out.below b)
    replace XW := hide (XW.out.below b)
    replace S := hide (S.out.below b)
    replace Q := hide (Q.out.below b)
    replace BW := hide (bthen BW.out b)
    clear b
    clear hW
    have X0_lt := X0.out.lt
    have X0_c0 := X0.out.at (i := 0) rfl; have X0_f0 := X0.out.frozen 0
    have X0_c1 := X0.out.at (i := 1) rfl; have X0_f1 := X0.out.frozen 1
    have X0_c2 := X0.out.at (i := 2) rfl; have X0_f2 := X0.out.frozen 2
    have X3_lt := X3.out.lt
    have X3_c0 := X3.out.at (i := 0) rfl; have X3_f0 := X3.out.frozen 0
    have X3_c1 := X3.out.at (i := 1) rfl; have X3_f1 := X3.out.frozen 1
    have KK : Hid (Below W4.heap.size W4 W4.drew) := (Below.refl _ _).drew
    have zzX0 := X0.out.lt
    have zzX3 := X3.out.lt
    go_cut [8] from 26 to 28 (fun s wx => ∃ g6 G0 G1 G2 g0 g1 g2 lo hi, s = .pointer (some ⟨g6, 0, none⟩) ∧ W4.heap.size ≤ g6 ∧ Hid (Box wx g6 #[.slice G0 D.up.length g0, .slice G1 D.dn.length g1, .slice G2 D.car.length g2]) ∧ Hid (Below W4.heap.size W4 wx) ∧ Hid (CO lo hi wx G0 G1 G2 D) ∧ W4.heap.size ≤ lo ∧ hi ≤ wx.heap.size ∧ (g6 < lo ∨ hi ≤ g6))
    case first =>
      go_region_held3 (fun W => (W.cell? ⟨w3.heap.size, 0, none⟩ = some (.slice Q0 C.up.length q0) ∧ W.cell? ⟨w3.heap.size, 1, none⟩ = some (.slice Q1 C.dn.length q1) ∧ W.cell? ⟨w3.heap.size, 2, none⟩ = some (.slice Q2 C.car.length q2)) ∧ W.cell? ⟨w.heap.size + 1, 0, none⟩ = some (.int .i64 f) ∧ W.cell? ⟨w.heap.size + 1, 1, none⟩ = some (.int .i64 d)) (first | (go_keep; done) | with_reducible exact ⟨⟨(X0.out.below KK.out).at (by with_unfolding_all rfl), (X0.out.below KK.out).at (by with_unfolding_all rfl), (X0.out.below KK.out).at (by with_unfolding_all rfl)⟩, (X3.out.below KK.out).at (by with_unfolding_all rfl), (X3.out.below KK.out).at (by with_unfolding_all rfl)⟩ | with_reducible exact ⟨⟨(X0.out.below (bthen KK.out ((Below.refl _ _).alloc (Nat.le_refl _) _))).at (by with_unfolding_all rfl), (X0.out.below (bthen KK.out ((Below.refl _ _).alloc (Nat.le_refl _) _))).at (by with_unfolding_all rfl), (X0.out.below (bthen KK.out ((Below.refl _ _).alloc (Nat.le_refl _) _))).at (by with_unfolding_all rfl)⟩, (X3.out.below (bthen KK.out ((Below.refl _ _).alloc (Nat.le_refl _) _))).at (by with_unfolding_all rfl), (X3.out.below (bthen KK.out ((Below.refl _ _).alloc (Nat.le_refl _) _))).at (by with_unfolding_all rfl)⟩ | exact ⟨⟨((X0.out.below KK.out).only (onlyW3 _ _ _ _) (by omega)).at rfl, ((X0.out.below KK.out).only (onlyW3 _ _ _ _) (by omega)).at rfl, ((X0.out.below KK.out).only (onlyW3 _ _ _ _) (by omega)).at rfl⟩, ((X3.out.below KK.out).only (onlyW3 _ _ _ _) (by omega)).at rfl, ((X3.out.below KK.out).only (onlyW3 _ _ _ _) (by omega)).at rfl⟩) (first | (go_at_call 12; refine (toStop_any f d _).mono ?_; (first | have zlt := ZZ.out.lt | skip); rintro e v ⟨rfl, bb⟩; (first | replace G := hide (G.out.below bb) | replace G := hide ((G.out.below ((Below.refl _ _).alloc (Nat.le_refl _) _)).below bb) | skip); (first | (have ZZ : Hid (Box v W4.heap.size #[.slice none 0 0, .slice none 0 0, .slice none 0 0]) := Box.below (show Box ((W4.alloc (.cells #[.slice none 0 0, .slice none 0 0, .slice none 0 0] 30)).drew) W4.heap.size #[.slice none 0 0, .slice none 0 0, .slice none 0 0] from (Box.new rfl).drew) bb) | replace ZZ := hide (ZZ.out.below bb) | (have zz2 := Box.newLt (cs := #[.slice none 0 0, .slice none 0 0, .slice none 0 0]) (t := 30) bb; have zlt := zz2.2; have ZZ := hide zz2.1; clear zz2) | skip); (first | replace KK := hide (bthen KK.out bb) | replace KK := hide (bthen (bthen KK.out ((Below.refl _ _).alloc (Nat.le_refl _) _)) bb)); have zKK := KK.out.size; (first | (have jc0 := ZZ.out.at (i := 0) rfl; have jf0 := ZZ.out.frozen 0; have jc1 := ZZ.out.at (i := 1) rfl; have jf1 := ZZ.out.frozen 1; have jc2 := ZZ.out.at (i := 2) rfl; have jf2 := ZZ.out.frozen 2) | skip); clear bb) | (go_at_call 17; refine (implServeStop_at Q0 Q1 Q2 q0 q1 q2 C f d D HD.out _ ?_).mono ?_; (first | exact Q.out.cr.below KK.out | exact Q.out.cr.below (bthen KK.out ((Below.refl _ _).alloc (Nat.le_refl _) _))); (first | have zlt := ZZ.out.lt | skip); rintro e v ⟨G0, G1, G2, g0, g1, g2, rfl, G, bb⟩; replace G := hide G; (first | (have ZZ : Hid (Box v W4.heap.size #[.slice none 0 0, .slice none 0 0, .slice none 0 0]) := Box.below (show Box ((W4.alloc (.cells #[.slice none 0 0, .slice none 0 0, .slice none 0 0] 30)).drew) W4.heap.size #[.slice none 0 0, .slice none 0 0, .slice none 0 0] from (Box.new rfl).drew) bb) | replace ZZ := hide (ZZ.out.below bb) | (have zz2 := Box.newLt (cs := #[.slice none 0 0, .slice none 0 0, .slice none 0 0]) (t := 30) bb; have zlt := zz2.2; have ZZ := hide zz2.1; clear zz2) | skip); (first | replace KK := hide (bthen KK.out bb) | replace KK := hide (bthen (bthen KK.out ((Below.refl _ _).alloc (Nat.le_refl _) _)) bb)); have zKK := KK.out.size; (first | (have jc0 := ZZ.out.at (i := 0) rfl; have jf0 := ZZ.out.frozen 0; have jc1 := ZZ.out.at (i := 1) rfl; have jf1 := ZZ.out.frozen 1; have jc2 := ZZ.out.at (i := 2) rfl; have jf2 := ZZ.out.frozen 2) | skip); clear bb))
      all_goals
        go_wp2_with fail
        go_meet
        case rel => first | exact ⟨_, _, _, _, _, _, _, _, _, rfl, by omega, Box.setW3 ZZ.out _ _ _, (Only.then KK.out (onlyW3 _ _ _ _) (by omega) (by omega)), G.out.only (onlyW3 _ _ _ _) (by omega), by omega, by simp, by omega⟩ | exact ⟨_, _, _, _, _, _, _, _, _, rfl, by omega, Box.new rfl, KK.out.alloc (by omega) _, G.out.below ((Below.refl _ _).alloc (Nat.le_refl _) _), by omega, by simp, by omega⟩
    case rest =>
      obtain ⟨gg, G0, G1, G2, g0, g1, g2, lG, hG, rfl, ggl, XG, KW, G, lG1, hG1, ggG⟩ := hcut
      rename World => w5
      have z5 := KW.out.size
      replace X2 := hide (X2.out.below KW.out)
      replace X3 := hide (X3.out.below KW.out)
      replace XW := hide (XW.out.below KW.out)
      replace X0 := hide (X0.out.below KW.out)
      replace Q := hide (Q.out.below KW.out)
      replace S := hide (S.out.below KW.out)
      replace BW := hide (bthen BW.out KW.out)
      clear KW
      have zXG := XG.out.lt
      have XW_lt := XW.out.lt
      have XW_c0 := XW.out.at (i := 0) rfl; have XW_f0 := XW.out.frozen 0
      have XW_c1 := XW.out.at (i := 1) rfl; have XW_f1 := XW.out.frozen 1
      have XW_c2 := XW.out.at (i := 2) rfl; have XW_f2 := XW.out.frozen 2
      have XG_lt := XG.out.lt
      have XG_c0 := XG.out.at (i := 0) rfl; have XG_f0 := XG.out.frozen 0
      have XG_c1 := XG.out.at (i := 1) rfl; have XG_f1 := XG.out.frozen 1
      have XG_c2 := XG.out.at (i := 2) rfl; have XG_f2 := XG.out.frozen 2
      go_wp2_with fail
      clear XW_lt XW_c0 XW_f0 XW_c1 XW_f1 XW_c2 XW_f2
      clear XG_lt XG_c0 XG_f0 XG_c1 XG_f1 XG_c2 XG_f2
      refine (eqCalls_any G0 G1 G2 g0 g1 g2 S0 S1 S2 s0 s1 s2 D D _ G.out.cr S.out.cr (by omega)).mono ?_
      rintro e w6 ⟨rfl, b⟩
      have z6 := b.size
      replace X2 := hide (X2.out.below b)
      replace X3 := hide (X3.out.below b)
      replace XW := hide (XW.out.below b)
      replace X0 := hide (X0.out.below b)
      replace Q := hide (Q.out.below b)
      replace S := hide (S.out.below b)
      replace XG := hide (XG.out.below b)
      replace G := hide (G.out.below b)
      replace BW := hide (bthen BW.out b)
      clear b
      have X2_lt := X2.out.lt
      have X2_c0 := X2.out.at (i := 0) rfl; have X2_f0 := X2.out.frozen 0
      have X2_c1 := X2.out.at (i := 1) rfl; have X2_f1 := X2.out.frozen 1
      have X2_c2 := X2.out.at (i := 2) rfl; have X2_f2 := X2.out.frozen 2
      have X0_lt := X0.out.lt
      have X0_c0 := X0.out.at (i := 0) rfl; have X0_f0 := X0.out.frozen 0
      have X0_c1 := X0.out.at (i := 1) rfl; have X0_f1 := X0.out.frozen 1
      have X0_c2 := X0.out.at (i := 2) rfl; have X0_f2 := X0.out.frozen 2
      go_wp2_with fail
      go_region_held3 (fun W => (W.cell? ⟨w.heap.size, 0, none⟩ = some (.slice A0 C.up.length c0) ∧ W.cell? ⟨w.heap.size, 1, none⟩ = some (.slice A1 C.dn.length c1) ∧ W.cell? ⟨w.heap.size, 2, none⟩ = some (.slice A2 C.car.length c2)) ∧ W.cell? ⟨w3.heap.size, 0, none⟩ = some (.slice Q0 C.up.length q0) ∧ W.cell? ⟨w3.heap.size, 1, none⟩ = some (.slice Q1 C.dn.length q1) ∧ W.cell? ⟨w3.heap.size, 2, none⟩ = some (.slice Q2 C.car.length q2)) (first | (go_keep; done) | with_reducible exact ⟨⟨((X2.out.drew.below b7.out).below b8.out).at (by with_unfolding_all rfl), ((X2.out.drew.below b7.out).below b8.out).at (by with_unfolding_all rfl), ((X2.out.drew.below b7.out).below b8.out).at (by with_unfolding_all rfl)⟩, ((X0.out.drew.below b7.out).below b8.out).at (by with_unfolding_all rfl), ((X0.out.drew.below b7.out).below b8.out).at (by with_unfolding_all rfl), ((X0.out.drew.below b7.out).below b8.out).at (by with_unfolding_all rfl)⟩ | with_reducible exact ⟨⟨(X2.out.drew.below b7.out).at (by with_unfolding_all rfl), (X2.out.drew.below b7.out).at (by with_unfolding_all rfl), (X2.out.drew.below b7.out).at (by with_unfolding_all rfl)⟩, (X0.out.drew.below b7.out).at (by with_unfolding_all rfl), (X0.out.drew.below b7.out).at (by with_unfolding_all rfl), (X0.out.drew.below b7.out).at (by with_unfolding_all rfl)⟩) (first | (go_at_call 11; refine (toCalls_any A0 A1 A2 c0 c1 c2 C _ (by exact H.out.below BW.out.drew) L3.out).mono ?_; rintro e w7 ⟨R0, R1, R2, r0, r1, r2, rfl, R, b7⟩; replace R := hide R; replace b7 := hide b7) | (go_at_call 15; refine (eqCalls_any Q0 Q1 Q2 q0 q1 q2 R0 R1 R2 r0 r1 r2 C C _ (by exact (Q.out.below (below_drewN (Below.refl _ _) 1)).cr.below b7.out) R.out.cr (by have := L3.out; omega)).mono ?_; rintro e w8 ⟨rfl, b8⟩; replace b8 := hide b8))
      clear X2_lt X2_c0 X2_f0 X2_c1 X2_f1 X2_c2 X2_f2
      clear X0_lt X0_c0 X0_f0 X0_c1 X0_f1 X0_c2 X0_f2
      have b : Below w6.heap.size w6 w8 := bthen (bthen (below_drewN (Below.refl _ _) 1) b7.out) b8.out
      clear b7 b8 R
      have z8 := b.size
      replace X2 := hide (X2.out.below b)
      replace X3 := hide (X3.out.below b)
      replace XW := hide (XW.out.below b)
      replace X0 := hide (X0.out.below b)
      replace Q := hide (Q.out.below b)
      replace S := hide (S.out.below b)
      replace XG := hide (XG.out.below b)
      replace G := hide (G.out.below b)
      replace BW := hide (bthen BW.out b)
      clear b
      have X0_lt := X0.out.lt
      have X0_c0 := X0.out.at (i := 0) rfl; have X0_f0 := X0.out.frozen 0
      have X0_c1 := X0.out.at (i := 1) rfl; have X0_f1 := X0.out.frozen 1
      have X0_c2 := X0.out.at (i := 2) rfl; have X0_f2 := X0.out.frozen 2
      go_wp2_with fail
      clear X0_lt X0_c0 X0_f0 X0_c1 X0_f1 X0_c2 X0_f2
      refine (markCalls_any Q0 Q1 Q2 q0 q1 q2 C 1 w2.heap.size w3.heap.size _ Q.out L3.out (by omega) (by omega) (by omega)).mono ?_
      rintro e w9 ⟨rfl, -, o⟩
      have z9 := o.size
      replace X2 := hide (X2.out.only o (by omega)); replace X3 := hide (X3.out.only o (by omega)); replace XW := hide (XW.out.only o (by omega)); replace XG := hide (XG.out.only o (by omega)); replace S := hide (S.out.only o (by omega)); replace G := hide (G.out.only o (by omega))
      replace BW := hide (Only.then BW.out o (by omega) (by omega))
      clear o X0 Q
      have XW_lt := XW.out.lt
      have XW_c0 := XW.out.at (i := 0) rfl; have XW_f0 := XW.out.frozen 0
      have XW_c1 := XW.out.at (i := 1) rfl; have XW_f1 := XW.out.frozen 1
      have XW_c2 := XW.out.at (i := 2) rfl; have XW_f2 := XW.out.frozen 2
      have XG_lt := XG.out.lt
      have XG_c0 := XG.out.at (i := 0) rfl; have XG_f0 := XG.out.frozen 0
      have XG_c1 := XG.out.at (i := 1) rfl; have XG_f1 := XG.out.frozen 1
      have XG_c2 := XG.out.at (i := 2) rfl; have XG_f2 := XG.out.frozen 2
      go_wp2_with fail
      clear XW_lt XW_c0 XW_f0 XW_c1 XW_f1 XW_c2 XW_f2
      clear XG_lt XG_c0 XG_f0 XG_c1 XG_f1 XG_c2 XG_f2
      refine (eqCalls_any G0 G1 G2 g0 g1 g2 S0 S1 S2 s0 s1 s2 D D _ G.out.cr S.out.cr (by omega)).mono ?_
      rintro e w10 ⟨rfl, b⟩
      have z10 := b.size
      replace X2 := hide (X2.out.below b)
      replace X3 := hide (X3.out.below b)
      replace XW := hide (XW.out.below b)
      replace S := hide (S.out.below b)
      replace XG := hide (XG.out.below b)
      replace G := hide (G.out.below b)
      replace BW := hide (bthen BW.out b)
      clear b
      have XG_lt := XG.out.lt
      have XG_c0 := XG.out.at (i := 0) rfl; have XG_f0 := XG.out.frozen 0
      have XG_c1 := XG.out.at (i := 1) rfl; have XG_f1 := XG.out.frozen 1
      have XG_c2 := XG.out.at (i := 2) rfl; have XG_f2 := XG.out.frozen 2
      go_wp2_with fail
      clear XG_lt XG_c0 XG_f0 XG_c1 XG_f1 XG_c2 XG_f2
      refine (markCalls_any G0 G1 G2 g0 g1 g2 D 1 lG hG _ G.out (by omega) (by omega) (by omega) (by omega)).mono ?_
      rintro e w11 ⟨rfl, G', o⟩
      have z11 := o.size
      replace X2 := hide (X2.out.only o (by omega)); replace X3 := hide (X3.out.only o (by omega)); replace XW := hide (XW.out.only o (by omega)); replace XG := hide (XG.out.only o (by omega)); replace S := hide (S.out.only o (by omega))
      replace BW := hide (Only.then BW.out o (by omega) (by omega))
      replace G := hide G'
      clear o G'
      have XG_lt := XG.out.lt
      have XG_c0 := XG.out.at (i := 0) rfl; have XG_f0 := XG.out.frozen 0
      have XG_c1 := XG.out.at (i := 1) rfl; have XG_f1 := XG.out.frozen 1
      have XG_c2 := XG.out.at (i := 2) rfl; have XG_f2 := XG.out.frozen 2
      go_wp2_with fail
      clear XG_lt XG_c0 XG_f0 XG_c1 XG_f1 XG_c2 XG_f2
      refine (heldCalls_any G0 G1 G2 g0 g1 g2 D 1 _ G.out.cr (by omega) (by omega) (by omega)).mono ?_
      rintro e w12 ⟨rfl, b⟩
      have z12 := b.size
      replace X2 := hide (X2.out.below b)
      replace X3 := hide (X3.out.below b)
      replace XW := hide (XW.out.below b)
      replace S := hide (S.out.below b)
      replace XG := hide (XG.out.below b)
      replace G := hide (G.out.below b)
      replace BW := hide (bthen BW.out b)
      clear b
      have e3 : ((1 + (D.up.length : Int) + (D.dn.length : Int) + (D.car.length : Int)) != (1 + (D.up.length : Int) + (D.dn.length : Int) + (D.car.length : Int))) = false := by simp
      have X2_lt := X2.out.lt
      have X2_c0 := X2.out.at (i := 0) rfl; have X2_f0 := X2.out.frozen 0
      have X2_c1 := X2.out.at (i := 1) rfl; have X2_f1 := X2.out.frozen 1
      have X2_c2 := X2.out.at (i := 2) rfl; have X2_f2 := X2.out.frozen 2
      have X3_lt := X3.out.lt
      have X3_c0 := X3.out.at (i := 0) rfl; have X3_f0 := X3.out.frozen 0
      have X3_c1 := X3.out.at (i := 1) rfl; have X3_f1 := X3.out.frozen 1
      go_upto_region 24 with fail
      have H0 := hide (H.out.below BW.out)
      have KK : Hid (Below w12.heap.size w12 w12.drew) := (Below.refl _ _).drew
      have zzX2 := X2.out.lt
      have zzX3 := X3.out.lt
      go_cut [12] from 60 to 64 (fun s wx => ∃ g6 U0 U1 U2 u0 u1 u2 lo hi, s = .pointer (some ⟨g6, 0, none⟩) ∧ w12.heap.size ≤ g6 ∧ Hid (Box wx g6 #[.slice U0 D.up.length u0, .slice U1 D.dn.length u1, .slice U2 D.car.length u2]) ∧ Hid (Below w12.heap.size w12 wx) ∧ Hid (CO lo hi wx U0 U1 U2 D) ∧ w12.heap.size ≤ lo ∧ hi ≤ wx.heap.size ∧ (g6 < lo ∨ hi ≤ g6))
      case first =>
        go_region_held3 (fun W => (W.cell? ⟨w.heap.size, 0, none⟩ = some (.slice A0 C.up.length c0) ∧ W.cell? ⟨w.heap.size, 1, none⟩ = some (.slice A1 C.dn.length c1) ∧ W.cell? ⟨w.heap.size, 2, none⟩ = some (.slice A2 C.car.length c2)) ∧ W.cell? ⟨w.heap.size + 1, 0, none⟩ = some (.int .i64 f) ∧ W.cell? ⟨w.heap.size + 1, 1, none⟩ = some (.int .i64 d)) (first | (go_keep; done) | with_reducible exact ⟨⟨(X2.out.below KK.out).at (by with_unfolding_all rfl), (X2.out.below KK.out).at (by with_unfolding_all rfl), (X2.out.below KK.out).at (by with_unfolding_all rfl)⟩, (X3.out.below KK.out).at (by with_unfolding_all rfl), (X3.out.below KK.out).at (by with_unfolding_all rfl)⟩ | with_reducible exact ⟨⟨(X2.out.below (bthen KK.out ((Below.refl _ _).alloc (Nat.le_refl _) _))).at (by with_unfolding_all rfl), (X2.out.below (bthen KK.out ((Below.refl _ _).alloc (Nat.le_refl _) _))).at (by with_unfolding_all rfl), (X2.out.below (bthen KK.out ((Below.refl _ _).alloc (Nat.le_refl _) _))).at (by with_unfolding_all rfl)⟩, (X3.out.below (bthen KK.out ((Below.refl _ _).alloc (Nat.le_refl _) _))).at (by with_unfolding_all rfl), (X3.out.below (bthen KK.out ((Below.refl _ _).alloc (Nat.le_refl _) _))).at (by with_unfolding_all rfl)⟩ | exact ⟨⟨((X2.out.below KK.out).only (onlyW3 _ _ _ _) (by omega)).at rfl, ((X2.out.below KK.out).only (onlyW3 _ _ _ _) (by omega)).at rfl, ((X2.out.below KK.out).only (onlyW3 _ _ _ _) (by omega)).at rfl⟩, ((X3.out.below KK.out).only (onlyW3 _ _ _ _) (by omega)).at rfl, ((X3.out.below KK.out).only (onlyW3 _ _ _ _) (by omega)).at rfl⟩) (first | (go_at_call 11; refine (toCalls_any A0 A1 A2 c0 c1 c2 C _ ?_ L3.out).mono ?_; (first | exact H0.out.below KK.out | exact H0.out.below (bthen KK.out ((Below.refl _ _).alloc (Nat.le_refl _) _))); (first | have zlt := ZZ.out.lt | skip); rintro e v ⟨P0, P1, P2, p0, p1, p2, rfl, P, bb⟩; replace P := hide P; (first | replace U := hide (U.out.below bb) | replace U := hide ((U.out.below ((Below.refl _ _).alloc (Nat.le_refl _) _)).below bb) | skip); (first | (have ZZ : Hid (Box v w12.heap.size #[.slice none 0 0, .slice none 0 0, .slice none 0 0]) := Box.below (show Box ((w12.alloc (.cells #[.slice none 0 0, .slice none 0 0, .slice none 0 0] 30)).drew) w12.heap.size #[.slice none 0 0, .slice none 0 0, .slice none 0 0] from (Box.new rfl).drew) bb) | replace ZZ := hide (ZZ.out.below bb) | (have zz2 := Box.newLt (cs := #[.slice none 0 0, .slice none 0 0, .slice none 0 0]) (t := 30) bb; have zlt := zz2.2; have ZZ := hide zz2.1; clear zz2) | skip); (first | replace KK := hide (bthen KK.out bb) | replace KK := hide (bthen (bthen KK.out ((Below.refl _ _).alloc (Nat.le_refl _) _)) bb)); have zKK := KK.out.size; (first | (have jc0 := ZZ.out.at (i := 0) rfl; have jf0 := ZZ.out.frozen 0; have jc1 := ZZ.out.at (i := 1) rfl; have jf1 := ZZ.out.frozen 1; have jc2 := ZZ.out.at (i := 2) rfl; have jf2 := ZZ.out.frozen 2) | skip); clear bb) | (go_at_call 12; refine (toStop_any f d _).mono ?_; (first | have zlt := ZZ.out.lt | skip); rintro e v ⟨rfl, bb⟩; (first | replace P := hide (P.out.below bb) | replace P := hide ((P.out.below ((Below.refl _ _).alloc (Nat.le_refl _) _)).below bb) | skip); (first | replace U := hide (U.out.below bb) | replace U := hide ((U.out.below ((Below.refl _ _).alloc (Nat.le_refl _) _)).below bb) | skip); (first | (have ZZ : Hid (Box v w12.heap.size #[.slice none 0 0, .slice none 0 0, .slice none 0 0]) := Box.below (show Box ((w12.alloc (.cells #[.slice none 0 0, .slice none 0 0, .slice none 0 0] 30)).drew) w12.heap.size #[.slice none 0 0, .slice none 0 0, .slice none 0 0] from (Box.new rfl).drew) bb) | replace ZZ := hide (ZZ.out.below bb) | (have zz2 := Box.newLt (cs := #[.slice none 0 0, .slice none 0 0, .slice none 0 0]) (t := 30) bb; have zlt := zz2.2; have ZZ := hide zz2.1; clear zz2) | skip); (first | replace KK := hide (bthen KK.out bb) | replace KK := hide (bthen (bthen KK.out ((Below.refl _ _).alloc (Nat.le_refl _) _)) bb)); have zKK := KK.out.size; (first | (have jc0 := ZZ.out.at (i := 0) rfl; have jf0 := ZZ.out.frozen 0; have jc1 := ZZ.out.at (i := 1) rfl; have jf1 := ZZ.out.frozen 1; have jc2 := ZZ.out.at (i := 2) rfl; have jf2 := ZZ.out.frozen 2) | skip); clear bb) | (go_at_call 17; refine (implServeStop_at P0 P1 P2 p0 p1 p2 C f d D HD.out _ ?_).mono ?_; (first | exact P.out.cr | exact (P.out.below ((Below.refl _ _).alloc (Nat.le_refl _) _)).cr); (first | have zlt := ZZ.out.lt | skip); rintro e v ⟨U0, U1, U2, u0, u1, u2, rfl, U, bb⟩; (first | replace P := hide (P.out.below bb) | replace P := hide ((P.out.below ((Below.refl _ _).alloc (Nat.le_refl _) _)).below bb) | skip); replace U := hide U; (first | (have ZZ : Hid (Box v w12.heap.size #[.slice none 0 0, .slice none 0 0, .slice none 0 0]) := Box.below (show Box ((w12.alloc (.cells #[.slice none 0 0, .slice none 0 0, .slice none 0 0] 30)).drew) w12.heap.size #[.slice none 0 0, .slice none 0 0, .slice none 0 0] from (Box.new rfl).drew) bb) | replace ZZ := hide (ZZ.out.below bb) | (have zz2 := Box.newLt (cs := #[.slice none 0 0, .slice none 0 0, .slice none 0 0]) (t := 30) bb; have zlt := zz2.2; have ZZ := hide zz2.1; clear zz2) | skip); (first | replace KK := hide (bthen KK.out bb) | replace KK := hide (bthen (bthen KK.out ((Below.refl _ _).alloc (Nat.le_refl _) _)) bb)); have zKK := KK.out.size; (first | (have jc0 := ZZ.out.at (i := 0) rfl; have jf0 := ZZ.out.frozen 0; have jc1 := ZZ.out.at (i := 1) rfl; have jf1 := ZZ.out.frozen 1; have jc2 := ZZ.out.at (i := 2) rfl; have jf2 := ZZ.out.frozen 2) | skip); clear bb))
        all_goals
          go_wp2_with fail
          go_meet
          case rel => first | exact ⟨_, _, _, _, _, _, _, _, _, rfl, by omega, Box.setW3 ZZ.out _ _ _, (Only.then KK.out (onlyW3 _ _ _ _) (by omega) (by omega)), U.out.only (onlyW3 _ _ _ _) (by omega), by omega, by simp, by omega⟩ | exact ⟨_, _, _, _, _, _, _, _, _, rfl, by omega, Box.new rfl, KK.out.alloc (by omega) _, U.out.below ((Below.refl _ _).alloc (Nat.le_refl _) _), by omega, by simp, by omega⟩
      case rest =>
        obtain ⟨gu, U0, U1, U2, u0, u1, u2, lU, hU, rfl, gul, XU, KW, U, -, -, -⟩ := hcut
        rename World => w13
        replace XW := hide (XW.out.below KW.out)
        replace S := hide (S.out.below KW.out)
        replace XG := hide (XG.out.below KW.out)
        replace G := hide (G.out.below KW.out)
        replace BW := hide (bthen BW.out KW.out)
        clear KW H0 X2 X3
        have XW_lt := XW.out.lt
        have XW_c0 := XW.out.at (i := 0) rfl; have XW_f0 := XW.out.frozen 0
        have XW_c1 := XW.out.at (i := 1) rfl; have XW_f1 := XW.out.frozen 1
        have XW_c2 := XW.out.at (i := 2) rfl; have XW_f2 := XW.out.frozen 2
        have XU_lt := XU.out.lt
        have XU_c0 := XU.out.at (i := 0) rfl; have XU_f0 := XU.out.frozen 0
        have XU_c1 := XU.out.at (i := 1) rfl; have XU_f1 := XU.out.frozen 1
        have XU_c2 := XU.out.at (i := 2) rfl; have XU_f2 := XU.out.frozen 2
        go_wp2_with fail
        clear XW_lt XW_c0 XW_f0 XW_c1 XW_f1 XW_c2 XW_f2
        clear XU_lt XU_c0 XU_f0 XU_c1 XU_f1 XU_c2 XU_f2
        refine (eqCalls_any U0 U1 U2 u0 u1 u2 S0 S1 S2 s0 s1 s2 D D _ U.out.cr S.out.cr (by omega)).mono ?_
        rintro e w14 ⟨rfl, b⟩
        replace XG := hide (XG.out.below b)
        replace G := hide (G.out.below b)
        replace BW := hide (bthen BW.out b)
        clear b
        clear S U XW XU
        have XG_lt := XG.out.lt
        have XG_c0 := XG.out.at (i := 0) rfl; have XG_f0 := XG.out.frozen 0
        have XG_c1 := XG.out.at (i := 1) rfl; have XG_f1 := XG.out.frozen 1
        have XG_c2 := XG.out.at (i := 2) rfl; have XG_f2 := XG.out.frozen 2
        go_wp2_with fail
        clear XG_lt XG_c0 XG_f0 XG_c1 XG_f1 XG_c2 XG_f2
        refine (heldCalls_any G0 G1 G2 g0 g1 g2 D 1 _ G.out.cr (by omega) (by omega) (by omega)).mono ?_
        rintro e w15 ⟨rfl, b⟩
        replace BW := hide (bthen BW.out b)
        clear b
        go_wp2_with fail
        go_ret
        exact ⟨rfl, BW.out⟩
end Go.Proofs.Ytngblphkpkhppaa
