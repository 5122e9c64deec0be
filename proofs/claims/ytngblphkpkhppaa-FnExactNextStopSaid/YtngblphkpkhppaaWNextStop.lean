import Derived.Test.YtngblphkpkhppaaFrameC
import Derived.Test.YtngblphkpkhppaaStopsE
import Derived.Test.YtngblphkpkhppaaStopsL
import Derived.Test.YtngblphkpkhppaaWCallsA
import Derived.Deep.CutRange
namespace Go.Proofs.Ytngblphkpkhppaa
open Go.RowKit
attribute [local go_sem ↓] Go.wp_at_zero Go.wp_at_succ

set_option maxRecDepth 100000 in
set_option maxHeartbeats 4000000 in
theorem wExactNextStop (A0 A1 A2 : Option Addr) (c0 c1 c2 : Nat) (C : Cl) (f d : Int) (w : World) (h : InC w A0 A1 A2 c0 c1 c2 C) :
    Calls Try.prog 3 #[.agg #[.slice A0 C.up.length c0, .slice A1 C.dn.length c1, .slice A2 C.car.length c2], .agg #[.int .i64 f, .int .i64 d]] w fun e w' => e = .returned (.bool true) ∧ Below w.heap.size w w' := by
  obtain ⟨h, n0, n1, n2⟩ := h
  have H := hide h; clear h
  go_enter Try.func3, Try.ntmps3
  go_wp2_with fail
  refine calls_name fun W hW => ?_
  have X2 : Hid (Box W w.heap.size #[.slice A0 C.up.length c0, .slice A1 C.dn.length c1, .slice A2 C.car.length c2]) := by rw [hW]; exact (Box.new rfl).alloc _
  have X3 : Hid (Box W (w.heap.size + 1) #[.int .i64 f, .int .i64 d]) := by rw [hW]; exact Box.new (by simp)
  have BW : Hid (Below w.heap.size w W) := by rw [hW]; exact ((Below.refl _ _).alloc (Nat.le_refl _) _).alloc (by simp) _
  clear hW
  refine (szCalls_any A0 A1 A2 c0 c1 c2 C 1048576 _ (by omega) (by omega) n0 n1 n2).mono ?_
  rintro e w1 ⟨rfl, b⟩
  replace X2 := hide (X2.out.below b)
  replace X3 := hide (X3.out.below b)
  replace BW := hide (bthen BW.out b)
  clear b
  by_cases hz : C.up.length + C.dn.length + C.car.length ≤ 1048576
  rotate_left
  · rw [szC_neg hz]
    go_wp2_with fail
    go_ret
    exact ⟨rfl, BW.out⟩
  have HZ := hide (szC_pos hz)
  have hl : C.up.length ≤ 1048576 ∧ C.dn.length ≤ 1048576 ∧ C.car.length ≤ 1048576 := by omega
  have L3 := hide hl
  have hz0 : (0 : Int) ≤ 1048576 - (C.up.length : Int) - (C.dn.length : Int) - (C.car.length : Int) := by omega
  rw [HZ.out]
  clear hz hl n0 n1 n2
  obtain ⟨N, hN⟩ : ∃ N, N = nextB C f d := ⟨_, rfl⟩
  have HN := hide hN
  clear hN
  have X2_lt := X2.out.lt
  have X2_c0 := X2.out.at (i := 0) rfl; have X2_f0 := X2.out.frozen 0
  have X2_c1 := X2.out.at (i := 1) rfl; have X2_f1 := X2.out.frozen 1
  have X2_c2 := X2.out.at (i := 2) rfl; have X2_f2 := X2.out.frozen 2
  have X3_lt := X3.out.lt
  have X3_c0 := X3.out.at (i := 0) rfl; have X3_f0 := X3.out.frozen 0
  have X3_c1 := X3.out.at (i := 1) rfl; have X3_f1 := X3.out.frozen 1
  go_upto_region 5 with fail
  have YB := hide BW.out.drew
  have H0 := hide (H.out.below BW.out)
  have KK : Hid (Below w1.heap.size w1 w1.drew) := (Below.refl _ _).drew
  have zzX2 := X2.out.lt
  have zzX3 := X3.out.lt
  go_cut [6] from 14 to 18 (fun s wx => ∃ g6, s = .pointer (some ⟨g6, 0, none⟩) ∧ w1.heap.size ≤ g6 ∧ Hid (Box wx g6 #[.int .i64 (stF N), .int .i64 (stD N)]) ∧ Hid (Below w1.heap.size w1 wx))
  case first =>
    go_region_held3 (fun W => (W.cell? ⟨w.heap.size, 0, none⟩ = some (.slice A0 C.up.length c0) ∧ W.cell? ⟨w.heap.size, 1, none⟩ = some (.slice A1 C.dn.length c1) ∧ W.cell? ⟨w.heap.size, 2, none⟩ = some (.slice A2 C.car.length c2)) ∧ W.cell? ⟨w.heap.size + 1, 0, none⟩ = some (.int .i64 f) ∧ W.cell? ⟨w.heap.size + 1, 1, none⟩ = some (.int .i64 d)) (first | (go_keep; done) | exact ⟨⟨(X2.out.below KK.out).at rfl, (X2.out.below KK.out).at rfl, (X2.out.below KK.out).at rfl⟩, (X3.out.below KK.out).at rfl, (X3.out.below KK.out).at rfl⟩ | exact ⟨⟨(X2.out.below (bthen KK.out ((Below.refl _ _).alloc (Nat.le_refl _) _))).at rfl, (X2.out.below (bthen KK.out ((Below.refl _ _).alloc (Nat.le_refl _) _))).at rfl, (X2.out.below (bthen KK.out ((Below.refl _ _).alloc (Nat.le_refl _) _))).at rfl⟩, (X3.out.below (bthen KK.out ((Below.refl _ _).alloc (Nat.le_refl _) _))).at rfl, (X3.out.below (bthen KK.out ((Below.refl _ _).alloc (Nat.le_refl _) _))).at rfl⟩ | exact ⟨⟨((X2.out.below KK.out).only (onlyW2 _ _ _) (by omega)).at rfl, ((X2.out.below KK.out).only (onlyW2 _ _ _) (by omega)).at rfl, ((X2.out.below KK.out).only (onlyW2 _ _ _) (by omega)).at rfl⟩, ((X3.out.below KK.out).only (onlyW2 _ _ _) (by omega)).at rfl, ((X3.out.below KK.out).only (onlyW2 _ _ _) (by omega)).at rfl⟩) (first | (go_at_call 11; refine (toCalls_any A0 A1 A2 c0 c1 c2 C _ ?_ L3.out).mono ?_; (first | exact H0.out.below KK.out | exact H0.out.below (bthen KK.out ((Below.refl _ _).alloc (Nat.le_refl _) _))); rintro e v ⟨P0, P1, P2, p0, p1, p2, rfl, P, bb⟩; replace P := hide P; (first | (have ZZ : Hid (Box v w1.heap.size #[.int .i64 0, .int .i64 0]) := Box.below (show Box ((w1.alloc (.cells #[.int .i64 0, .int .i64 0] 28)).drew) w1.heap.size #[.int .i64 0, .int .i64 0] from (Box.new rfl).drew) bb) | replace ZZ := hide (ZZ.out.below bb) | have ZZ := hide (Box.below (Box.new (cs := #[.int .i64 0, .int .i64 0]) (t := 28) rfl) bb) | skip); (first | replace KK := hide (bthen KK.out bb) | replace KK := hide (bthen (bthen KK.out ((Below.refl _ _).alloc (Nat.le_refl _) _)) bb)); have zKK := KK.out.size; (first | (have jc0 := ZZ.out.at (i := 0) rfl; have jf0 := ZZ.out.frozen 0; have jc1 := ZZ.out.at (i := 1) rfl; have jf1 := ZZ.out.frozen 1) | skip); clear bb) | (go_at_call 12; refine (toStop_any f d _).mono ?_; rintro e v ⟨rfl, bb⟩; (first | replace P := hide (P.out.below bb) | replace P := hide ((P.out.below ((Below.refl _ _).alloc (Nat.le_refl _) _)).below bb) | skip); (first | (have ZZ : Hid (Box v w1.heap.size #[.int .i64 0, .int .i64 0]) := Box.below (show Box ((w1.alloc (.cells #[.int .i64 0, .int .i64 0] 28)).drew) w1.heap.size #[.int .i64 0, .int .i64 0] from (Box.new rfl).drew) bb) | replace ZZ := hide (ZZ.out.below bb) | have ZZ := hide (Box.below (Box.new (cs := #[.int .i64 0, .int .i64 0]) (t := 28) rfl) bb) | skip); (first | replace KK := hide (bthen KK.out bb) | replace KK := hide (bthen (bthen KK.out ((Below.refl _ _).alloc (Nat.le_refl _) _)) bb)); have zKK := KK.out.size; (first | (have jc0 := ZZ.out.at (i := 0) rfl; have jf0 := ZZ.out.frozen 0; have jc1 := ZZ.out.at (i := 1) rfl; have jf1 := ZZ.out.frozen 1) | skip); clear bb) | (go_at_call 10; refine (specNextStop P0 P1 P2 p0 p1 p2 C f d _ ?_).mono ?_; (first | exact P.out.cr | exact (P.out.below ((Below.refl _ _).alloc (Nat.le_refl _) _)).cr); rw [← HN.out, stC_eq]; rintro e v ⟨rfl, bb⟩; (first | replace P := hide (P.out.below bb) | replace P := hide ((P.out.below ((Below.refl _ _).alloc (Nat.le_refl _) _)).below bb) | skip); (first | (have ZZ : Hid (Box v w1.heap.size #[.int .i64 0, .int .i64 0]) := Box.below (show Box ((w1.alloc (.cells #[.int .i64 0, .int .i64 0] 28)).drew) w1.heap.size #[.int .i64 0, .int .i64 0] from (Box.new rfl).drew) bb) | replace ZZ := hide (ZZ.out.below bb) | have ZZ := hide (Box.below (Box.new (cs := #[.int .i64 0, .int .i64 0]) (t := 28) rfl) bb) | skip); (first | replace KK := hide (bthen KK.out bb) | replace KK := hide (bthen (bthen KK.out ((Below.refl _ _).alloc (Nat.le_refl _) _)) bb)); have zKK := KK.out.size; (first | (have jc0 := ZZ.out.at (i := 0) rfl; have jf0 := ZZ.out.frozen 0; have jc1 := ZZ.out.at (i := 1) rfl; have jf1 := ZZ.out.frozen 1) | skip); clear bb))
    all_goals
      go_wp2_with fail
      go_meet
      case rel => first | exact ⟨_, rfl, by omega, Box.setW2 ZZ.out _ _, (Only.then KK.out (onlyW2 _ _ _) (by omega) (by omega))⟩ | exact ⟨_, rfl, by omega, Box.new rfl, KK.out.alloc (by omega) _⟩
  case rest =>
    obtain ⟨gw, rfl, gwl, XW, KW⟩ := hcut
    rename World => w2
    replace X2 := hide (X2.out.below KW.out)
    replace X3 := hide (X3.out.below KW.out)
    replace BW := hide (bthen BW.out KW.out)
    clear KW H0
    have z2 := XW.out.lt
    have z3 := X3.out.lt
    have X2_lt := X2.out.lt
    have X2_c0 := X2.out.at (i := 0) rfl; have X2_f0 := X2.out.frozen 0
    have X2_c1 := X2.out.at (i := 1) rfl; have X2_f1 := X2.out.frozen 1
    have X2_c2 := X2.out.at (i := 2) rfl; have X2_f2 := X2.out.frozen 2
    go_wp2_with fail
    clear X2_lt X2_c0 X2_f0 X2_c1 X2_f1 X2_c2 X2_f2
    refine (toCalls_any A0 A1 A2 c0 c1 c2 C _ (H.out.below BW.out) L3.out).mono ?_
    rintro e w3 ⟨Q0, Q1, Q2, q0, q1, q2, rfl, Q, b⟩
    replace Q := hide Q
    replace X2 := hide (X2.out.below b)
    replace X3 := hide (X3.out.below b)
    replace XW := hide (XW.out.below b)
    replace BW := hide (bthen BW.out b)
    clear b
    go_upto_region 7 with fail
    refine code_name fun W4 hW => ?_
    have X0 := hide (Box.new' (g := w3.heap.size) hW rfl)
    have b : Below w3.heap.size w3 W4 := by rw [hW]; exact (Below.refl _ _).alloc (Nat.le_refl _) _
    replace X2 := hide (X2.out.below b)
    replace X3 := hide (X3.out.below b)
    replace XW := hide (XW.out.below b)
    replace Q := hide (Q.out.below b)
    replace BW := hide (bthen BW.out b)
    clear b
    clear hW
    have X0_lt := X0.out.lt
    have X0_c0 := X0.out.at (i := 0) rfl; have X0_f0 := X0.out.frozen 0
    have X0_c1 := X0.out.at (i := 1) rfl; have X0_f1 := X0.out.frozen 1
    have X0_c2 := X0.out.at (i := 2) rfl; have X0_f2 := X0.out.frozen 2
    have X3_lt := X3.out.lt
    have X3_c0 := X3.out.at (i := 0) rfl; have X3_f0 := X3.out.frozen 0
    have X3_c1 := X3.out.at (i := 1) rfl; have X3_f1 := X3.out.frozen 1
    have KK : Hid (Below W4.heap.size W4 W4.drew) := (Below.refl _ _).drew
    have zzX0 := X0.out.lt
    have zzX3 := X3.out.lt
    go_cut [8] from 22 to 24 (fun s wx => ∃ g6, s = .pointer (some ⟨g6, 0, none⟩) ∧ W4.heap.size ≤ g6 ∧ Hid (Box wx g6 #[.int .i64 (stF N), .int .i64 (stD N)]) ∧ Hid (Below W4.heap.size W4 wx))
    case first =>
      go_region_held3 (fun W => (W.cell? ⟨w3.heap.size, 0, none⟩ = some (.slice Q0 C.up.length q0) ∧ W.cell? ⟨w3.heap.size, 1, none⟩ = some (.slice Q1 C.dn.length q1) ∧ W.cell? ⟨w3.heap.size, 2, none⟩ = some (.slice Q2 C.car.length q2)) ∧ W.cell? ⟨w.heap.size + 1, 0, none⟩ = some (.int .i64 f) ∧ W.cell? ⟨w.heap.size + 1, 1, none⟩ = some (.int .i64 d)) (first | (go_keep; done) | exact ⟨⟨(X0.out.below KK.out).at rfl, (X0.out.below KK.out).at rfl, (X0.out.below KK.out).at rfl⟩, (X3.out.below KK.out).at rfl, (X3.out.below KK.out).at rfl⟩ | exact ⟨⟨(X0.out.below (bthen KK.out ((Below.refl _ _).alloc (Nat.le_refl _) _))).at rfl, (X0.out.below (bthen KK.out ((Below.refl _ _).alloc (Nat.le_refl _) _))).at rfl, (X0.out.below (bthen KK.out ((Below.refl _ _).alloc (Nat.le_refl _) _))).at rfl⟩, (X3.out.below (bthen KK.out ((Below.refl _ _).alloc (Nat.le_refl _) _))).at rfl, (X3.out.below (bthen KK.out ((Below.refl _ _).alloc (Nat.le_refl _) _))).at rfl⟩ | exact ⟨⟨((X0.out.below KK.out).only (onlyW2 _ _ _) (by omega)).at rfl, ((X0.out.below KK.out).only (onlyW2 _ _ _) (by omega)).at rfl, ((X0.out.below KK.out).only (onlyW2 _ _ _) (by omega)).at rfl⟩, ((X3.out.below KK.out).only (onlyW2 _ _ _) (by omega)).at rfl, ((X3.out.below KK.out).only (onlyW2 _ _ _) (by omega)).at rfl⟩) (first | (go_at_call 12; refine (toStop_any f d _).mono ?_; rintro e v ⟨rfl, bb⟩; (first | (have ZZ : Hid (Box v W4.heap.size #[.int .i64 0, .int .i64 0]) := Box.below (show Box ((W4.alloc (.cells #[.int .i64 0, .int .i64 0] 28)).drew) W4.heap.size #[.int .i64 0, .int .i64 0] from (Box.new rfl).drew) bb) | replace ZZ := hide (ZZ.out.below bb) | have ZZ := hide (Box.below (Box.new (cs := #[.int .i64 0, .int .i64 0]) (t := 28) rfl) bb) | skip); (first | replace KK := hide (bthen KK.out bb) | replace KK := hide (bthen (bthen KK.out ((Below.refl _ _).alloc (Nat.le_refl _) _)) bb)); have zKK := KK.out.size; (first | (have jc0 := ZZ.out.at (i := 0) rfl; have jf0 := ZZ.out.frozen 0; have jc1 := ZZ.out.at (i := 1) rfl; have jf1 := ZZ.out.frozen 1) | skip); clear bb) | (go_at_call 13; refine (implNextStop Q0 Q1 Q2 q0 q1 q2 C f d _ ?_).mono ?_; (first | exact Q.out.cr.below KK.out | exact Q.out.cr.below (bthen KK.out ((Below.refl _ _).alloc (Nat.le_refl _) _))); rw [← HN.out, stC_eq]; rintro e v ⟨rfl, bb⟩; (first | (have ZZ : Hid (Box v W4.heap.size #[.int .i64 0, .int .i64 0]) := Box.below (show Box ((W4.alloc (.cells #[.int .i64 0, .int .i64 0] 28)).drew) W4.heap.size #[.int .i64 0, .int .i64 0] from (Box.new rfl).drew) bb) | replace ZZ := hide (ZZ.out.below bb) | have ZZ := hide (Box.below (Box.new (cs := #[.int .i64 0, .int .i64 0]) (t := 28) rfl) bb) | skip); (first | replace KK := hide (bthen KK.out bb) | replace KK := hide (bthen (bthen KK.out ((Below.refl _ _).alloc (Nat.le_refl _) _)) bb)); have zKK := KK.out.size; (first | (have jc0 := ZZ.out.at (i := 0) rfl; have jf0 := ZZ.out.frozen 0; have jc1 := ZZ.out.at (i := 1) rfl; have jf1 := ZZ.out.frozen 1) | skip); clear bb))
      all_goals
        go_wp2_with fail
        go_meet
        case rel => first | exact ⟨_, rfl, by omega, Box.setW2 ZZ.out _ _, (Only.then KK.out (onlyW2 _ _ _) (by omega) (by omega))⟩ | exact ⟨_, rfl, by omega, Box.new rfl, KK.out.alloc (by omega) _⟩
    case rest =>
      obtain ⟨gg, rfl, ggl, XG, KW⟩ := hcut
      rename World => w5
      replace X2 := hide (X2.out.below KW.out)
      replace X3 := hide (X3.out.below KW.out)
      replace XW := hide (XW.out.below KW.out)
      replace X0 := hide (X0.out.below KW.out)
      replace Q := hide (Q.out.below KW.out)
      replace BW := hide (bthen BW.out KW.out)
      clear KW
      have XW_lt := XW.out.lt
      have XW_c0 := XW.out.at (i := 0) rfl; have XW_f0 := XW.out.frozen 0
      have XW_c1 := XW.out.at (i := 1) rfl; have XW_f1 := XW.out.frozen 1
      have XG_lt := XG.out.lt
      have XG_c0 := XG.out.at (i := 0) rfl; have XG_f0 := XG.out.frozen 0
      have XG_c1 := XG.out.at (i := 1) rfl; have XG_f1 := XG.out.frozen 1
      go_wp2_with fail
      clear XW_lt XW_c0 XW_f0 XW_c1 XW_f1
      clear XG_lt XG_c0 XG_f0 XG_c1 XG_f1
      refine (eqStop_self (stF N) (stD N) _).mono ?_
      rintro e w6 ⟨rfl, b⟩
      replace X2 := hide (X2.out.below b)
      replace X0 := hide (X0.out.below b)
      replace Q := hide (Q.out.below b)
      replace BW := hide (bthen BW.out b)
      clear b
      have e0 := eqC_self C
      have X2_lt := X2.out.lt
      have X2_c0 := X2.out.at (i := 0) rfl; have X2_f0 := X2.out.frozen 0
      have X2_c1 := X2.out.at (i := 1) rfl; have X2_f1 := X2.out.frozen 1
      have X2_c2 := X2.out.at (i := 2) rfl; have X2_f2 := X2.out.frozen 2
      have X0_lt := X0.out.lt
      have X0_c0 := X0.out.at (i := 0) rfl; have X0_f0 := X0.out.frozen 0
      have X0_c1 := X0.out.at (i := 1) rfl; have X0_f1 := X0.out.frozen 1
      have X0_c2 := X0.out.at (i := 2) rfl; have X0_f2 := X0.out.frozen 2
      go_wp2_with fail
      go_region_held3 (fun W => (W.cell? ⟨w.heap.size, 0, none⟩ = some (.slice A0 C.up.length c0) ∧ W.cell? ⟨w.heap.size, 1, none⟩ = some (.slice A1 C.dn.length c1) ∧ W.cell? ⟨w.heap.size, 2, none⟩ = some (.slice A2 C.car.length c2)) ∧ W.cell? ⟨w3.heap.size, 0, none⟩ = some (.slice Q0 C.up.length q0) ∧ W.cell? ⟨w3.heap.size, 1, none⟩ = some (.slice Q1 C.dn.length q1) ∧ W.cell? ⟨w3.heap.size, 2, none⟩ = some (.slice Q2 C.car.length q2)) (first | (go_keep; done) | exact ⟨⟨((X2.out.drew.below b7.out).below b8.out).at rfl, ((X2.out.drew.below b7.out).below b8.out).at rfl, ((X2.out.drew.below b7.out).below b8.out).at rfl⟩, ((X0.out.drew.below b7.out).below b8.out).at rfl, ((X0.out.drew.below b7.out).below b8.out).at rfl, ((X0.out.drew.below b7.out).below b8.out).at rfl⟩ | exact ⟨⟨(X2.out.drew.below b7.out).at rfl, (X2.out.drew.below b7.out).at rfl, (X2.out.drew.below b7.out).at rfl⟩, (X0.out.drew.below b7.out).at rfl, (X0.out.drew.below b7.out).at rfl, (X0.out.drew.below b7.out).at rfl⟩) (first | (go_at_call 11; refine (toCalls_any A0 A1 A2 c0 c1 c2 C _ (by exact H.out.below BW.out.drew) L3.out).mono ?_; rintro e w7 ⟨R0, R1, R2, r0, r1, r2, rfl, R, b7⟩; replace R := hide R; replace b7 := hide b7) | (go_at_call 15; refine (eqCalls_any Q0 Q1 Q2 q0 q1 q2 R0 R1 R2 r0 r1 r2 C C _ (by exact (Q.out.below (below_drewN (Below.refl _ _) 1)).cr.below b7.out) R.out.cr (by have := L3.out; omega)).mono ?_; rintro e w8 ⟨rfl, b8⟩; replace b8 := hide b8))
      go_wp2
      go_ret
      exact ⟨rfl, bthen (bthen BW.out.drew b7.out) b8.out⟩
end Go.Proofs.Ytngblphkpkhppaa
