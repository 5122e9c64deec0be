import Derived.Test.YtjcfciokojepcaaWCallsA
import Derived.Test.YtjcfciokojepcaaCallsG
namespace Go.Proofs.Ytjcfciokojepcaa
open Go.RowKit
attribute [local go_sem ↓] Go.wp_at_zero Go.wp_at_succ

set_option maxRecDepth 100000 in
set_option maxHeartbeats 4000000 in
theorem wExactCallSet (A0 A1 A2 : Option Addr) (c0 c1 c2 : Nat) (C : Cl) (z1 : Int) (z2 : Int) (z3 : Bool) (w : World) (h : InC w A0 A1 A2 c0 c1 c2 C) (_h1 : (Lit.int .i64 z1).wf = true) (_h2 : (Lit.int .i64 z2).wf = true) :
    Calls Try.prog 9 #[.agg #[.slice A0 C.up.length c0, .slice A1 C.dn.length c1, .slice A2 C.car.length c2], .int .i64 z1, .int .i64 z2, .bool z3] w fun e w' => e = .returned (.bool true) ∧ Below w.heap.size w w' := by
  obtain ⟨h, n0, n1, n2⟩ := h
  have H := hide h; clear h
  obtain ⟨D, hD⟩ : ∃ D, D = (setC C z1 z2 z3).1 := ⟨_, rfl⟩
  obtain ⟨x, hX⟩ : ∃ x, x = (setC C z1 z2 z3).2 := ⟨_, rfl⟩
  have hlen := setC_len C z1 z2 z3
  rw [← hD] at hlen
  have HD := hide hD; clear hD
  have HX := hide hX; clear hX
  obtain ⟨d0, d1, d2⟩ := hlen
  have e0 := eqC_self C
  have e1 := eqC_self D
  go_enter Try.func9, Try.ntmps9
  go_wp2_with fail
  refine calls_name fun W hW => ?_
  have X1 : Hid (Box W w.heap.size #[.slice A0 C.up.length c0, .slice A1 C.dn.length c1, .slice A2 C.car.length c2]) := by rw [hW]; exact Box.new rfl
  have BW : Hid (Below w.heap.size w W) := by rw [hW]; exact (Below.refl _ _).alloc (Nat.le_refl _) _
  have zW : w.heap.size < W.heap.size := by rw [hW]; simp
  clear hW
  refine (szCalls_any A0 A1 A2 c0 c1 c2 C 1048576 _ (by omega) (by omega) n0 n1 n2).mono ?_
  rintro e w1 ⟨rfl, b⟩
  replace X1 := hide (X1.out.below b)
  replace BW := hide (bthen BW.out b); have zw1 := b.size; clear b
  clear n0 n1 n2
  by_cases hs : C.up.length + C.dn.length + C.car.length ≤ 1048576
  rotate_left
  · rw [szC_neg hs]
    go_wp2_with fail
    go_ret
    exact ⟨rfl, BW.out⟩
  rw [szC_pos hs]
  have l3 : C.up.length ≤ 1048576 ∧ C.dn.length ≤ 1048576 ∧ C.car.length ≤ 1048576 := by omega
  have L3 := hide l3
  clear l3
  have X1_lt := X1.out.lt
  have X1_c0 := X1.out.at (i := 0) rfl; have X1_f0 := X1.out.frozen 0
  have X1_c1 := X1.out.at (i := 1) rfl; have X1_f1 := X1.out.frozen 1
  have X1_c2 := X1.out.at (i := 2) rfl; have X1_f2 := X1.out.frozen 2
  go_wp2_with fail
  clear X1_lt X1_c0 X1_f0 X1_c1 X1_f1 X1_c2 X1_f2
  refine (toCalls_any A0 A1 A2 c0 c1 c2 C _ (H.out.below BW.out) L3.out).mono ?_
  rintro e w2 ⟨P0, P1, P2, p0, p1, p2, rfl, P, b⟩
  replace X1 := hide (X1.out.below b)
  replace BW := hide (bthen BW.out b); have zw2 := b.size; clear b
  replace P := hide P
  go_wp2_with fail
  refine (show Calls _ _ _ _ (GivesCB D x _) from by rw [HD.out, HX.out]; exact specCallSet P0 P1 P2 p0 p1 p2 C z1 z2 z3 _ P.out.cr).mono ?_
  rintro e w3 ⟨S0, S1, S2, s0, s1, s2, rfl, S, b⟩
  replace X1 := hide (X1.out.below b)
  replace P := hide (P.out.below b)
  replace BW := hide (bthen BW.out b); have zw3 := b.size; clear b
  replace S := hide S; clear P
  have X1_lt := X1.out.lt
  have X1_c0 := X1.out.at (i := 0) rfl; have X1_f0 := X1.out.frozen 0
  have X1_c1 := X1.out.at (i := 1) rfl; have X1_f1 := X1.out.frozen 1
  have X1_c2 := X1.out.at (i := 2) rfl; have X1_f2 := X1.out.frozen 2
  go_wp2_with fail
  clear X1_lt X1_c0 X1_f0 X1_c1 X1_f1 X1_c2 X1_f2
  refine calls_name fun W4 hW => ?_
  have X0 := hide (Box.new' (g := w3.heap.size) hW rfl)
  have b : Below w3.heap.size w3 W4 := by rw [hW]; exact (Below.refl _ _).alloc (Nat.le_refl _) _
  clear hW
  replace X1 := hide (X1.out.below b)
  replace S := hide (S.out.below b)
  replace BW := hide (bthen BW.out b); have zW4 := b.size; clear b
  have yW4 := X0.out.lt
  refine (toCalls_any A0 A1 A2 c0 c1 c2 C _ (H.out.below BW.out) L3.out).mono ?_
  rintro e w5 ⟨Q0, Q1, Q2, q0, q1, q2, rfl, Q, b⟩
  replace X1 := hide (X1.out.below b)
  replace S := hide (S.out.below b)
  replace X0 := hide (X0.out.below b)
  replace BW := hide (bthen BW.out b); have zw5 := b.size; clear b
  replace Q := hide Q
  go_wp2_with fail
  refine calls_name fun W6 hW => ?_
  have X2 := hide (Box.new' (g := w5.heap.size) hW rfl)
  have b : Below w5.heap.size w5 W6 := by rw [hW]; exact (Below.refl _ _).alloc (Nat.le_refl _) _
  clear hW
  replace X1 := hide (X1.out.below b)
  replace S := hide (S.out.below b)
  replace X0 := hide (X0.out.below b)
  replace Q := hide (Q.out.below b)
  replace BW := hide (bthen BW.out b); have zW6 := b.size; clear b
  have yW6 := X2.out.lt
  refine (show Calls _ _ _ _ (GivesCB D x _) from by rw [HD.out, HX.out]; exact implCallSet Q0 Q1 Q2 q0 q1 q2 C z1 z2 z3 _ Q.out.cr).mono ?_
  rintro e w7 ⟨G0, G1, G2, g0, g1, g2, rfl, G, b⟩
  replace X1 := hide (X1.out.below b)
  replace S := hide (S.out.below b)
  replace X0 := hide (X0.out.below b)
  replace Q := hide (Q.out.below b)
  replace X2 := hide (X2.out.below b)
  replace BW := hide (bthen BW.out b); have zw7 := b.size; clear b
  replace G := hide G
  have X0_lt := X0.out.lt
  have X0_c0 := X0.out.at (i := 0) rfl; have X0_f0 := X0.out.frozen 0
  have X0_c1 := X0.out.at (i := 1) rfl; have X0_f1 := X0.out.frozen 1
  have X0_c2 := X0.out.at (i := 2) rfl; have X0_f2 := X0.out.frozen 2
  go_wp2_with fail
  clear X0_lt X0_c0 X0_f0 X0_c1 X0_f1 X0_c2 X0_f2
  refine calls_name fun W8 hW => ?_
  have X3 := hide (Box.new' (g := w7.heap.size) hW rfl)
  have b : Below w7.heap.size w7 W8 := by rw [hW]; exact (Below.refl _ _).alloc (Nat.le_refl _) _
  clear hW
  replace X1 := hide (X1.out.below b)
  replace S := hide (S.out.below b)
  replace X0 := hide (X0.out.below b)
  replace Q := hide (Q.out.below b)
  replace X2 := hide (X2.out.below b)
  replace G := hide (G.out.below b)
  replace BW := hide (bthen BW.out b); have zW8 := b.size; clear b
  have yW8 := X3.out.lt
  have e2 : (x != x) = false := by simp
  refine (eqCalls_any G0 G1 G2 g0 g1 g2 S0 S1 S2 s0 s1 s2 D D _ G.out.cr S.out.cr (by omega)).mono ?_
  rintro e w9 ⟨rfl, b⟩
  replace X1 := hide (X1.out.below b)
  replace S := hide (S.out.below b)
  replace X0 := hide (X0.out.below b)
  replace Q := hide (Q.out.below b)
  replace X2 := hide (X2.out.below b)
  replace G := hide (G.out.below b)
  replace X3 := hide (X3.out.below b)
  replace BW := hide (bthen BW.out b); have zw9 := b.size; clear b
  have X1_lt := X1.out.lt
  have X1_c0 := X1.out.at (i := 0) rfl; have X1_f0 := X1.out.frozen 0
  have X1_c1 := X1.out.at (i := 1) rfl; have X1_f1 := X1.out.frozen 1
  have X1_c2 := X1.out.at (i := 2) rfl; have X1_f2 := X1.out.frozen 2
  have X2_lt := X2.out.lt
  have X2_c0 := X2.out.at (i := 0) rfl; have X2_f0 := X2.out.frozen 0
  have X2_c1 := X2.out.at (i := 1) rfl; have X2_f1 := X2.out.frozen 1
  have X2_c2 := X2.out.at (i := 2) rfl; have X2_f2 := X2.out.frozen 2
  go_wp2_with fail
  go_region_held3 (fun W => W.cell? ⟨w.heap.size, 0, none⟩ = some (.slice A0 C.up.length c0) ∧ W.cell? ⟨w.heap.size, 1, none⟩ = some (.slice A1 C.dn.length c1) ∧ W.cell? ⟨w.heap.size, 2, none⟩ = some (.slice A2 C.car.length c2) ∧ W.cell? ⟨w5.heap.size, 0, none⟩ = some (.slice Q0 C.up.length q0) ∧ W.cell? ⟨w5.heap.size, 1, none⟩ = some (.slice Q1 C.dn.length q1) ∧ W.cell? ⟨w5.heap.size, 2, none⟩ = some (.slice Q2 C.car.length q2)) (first | go_keep | (exact ⟨((X1.out.drew.below b7.out).below b8.out).at rfl, ((X1.out.drew.below b7.out).below b8.out).at rfl, ((X1.out.drew.below b7.out).below b8.out).at rfl, ((X2.out.drew.below b7.out).below b8.out).at rfl, ((X2.out.drew.below b7.out).below b8.out).at rfl, ((X2.out.drew.below b7.out).below b8.out).at rfl⟩) | (exact ⟨(X1.out.drew.below b7.out).at rfl, (X1.out.drew.below b7.out).at rfl, (X1.out.drew.below b7.out).at rfl, (X2.out.drew.below b7.out).at rfl, (X2.out.drew.below b7.out).at rfl, (X2.out.drew.below b7.out).at rfl⟩)) (first | (go_at_call 14; refine (toCalls_any A0 A1 A2 c0 c1 c2 C _ (by exact H.out.below BW.out.drew) L3.out).mono ?_; rintro e w10 ⟨R0, R1, R2, r0, r1, r2, rfl, R, b7⟩; replace R := hide R; replace b7 := hide b7) | (go_at_call 16; refine (eqCalls_any Q0 Q1 Q2 q0 q1 q2 R0 R1 R2 r0 r1 r2 C C _ (by exact (Q.out.below (below_drewN (Below.refl _ _) 1)).cr.below b7.out) R.out.cr (by have := L3.out; omega)).mono ?_; rintro e w11 ⟨rfl, b8⟩; replace b8 := hide b8))
  clear X1_lt X1_c0 X1_f0 X1_c1 X1_f1 X1_c2 X1_f2
  clear X2_lt X2_c0 X2_f0 X2_c1 X2_f1 X2_c2 X2_f2
  have b : Below w9.heap.size w9 w11 := bthen (bthen (below_drewN (Below.refl _ _) 1) b7.out) b8.out
  clear b7 b8 R
  replace X1 := hide (X1.out.below b)
  replace S := hide (S.out.below b)
  replace X0 := hide (X0.out.below b)
  replace Q := hide (Q.out.below b)
  replace X2 := hide (X2.out.below b)
  replace G := hide (G.out.below b)
  replace X3 := hide (X3.out.below b)
  replace BW := hide (bthen BW.out b); have zw11 := b.size; clear b
  have X2_lt := X2.out.lt
  have X2_c0 := X2.out.at (i := 0) rfl; have X2_f0 := X2.out.frozen 0
  have X2_c1 := X2.out.at (i := 1) rfl; have X2_f1 := X2.out.frozen 1
  have X2_c2 := X2.out.at (i := 2) rfl; have X2_f2 := X2.out.frozen 2
  go_wp2_with fail
  clear X2_lt X2_c0 X2_f0 X2_c1 X2_f1 X2_c2 X2_f2
  refine (markCalls_any Q0 Q1 Q2 q0 q1 q2 C 1 W4.heap.size w5.heap.size _ Q.out L3.out (by omega) (by omega) (by omega)).mono ?_
  rintro e w12 ⟨rfl, V', o⟩
  replace X1 := hide (X1.out.only o (by omega))
  replace S := hide (S.out.only o (by omega))
  replace X0 := hide (X0.out.only o (by omega))
  replace X2 := hide (X2.out.only o (by omega))
  replace G := hide (G.out.only o (by omega))
  replace X3 := hide (X3.out.only o (by omega))
  replace Q := hide V'; have zw12 := o.size; replace BW := hide (Only.then BW.out o (by omega) (by omega)); clear V' o
  clear X2 Q
  have X0_lt := X0.out.lt
  have X0_c0 := X0.out.at (i := 0) rfl; have X0_f0 := X0.out.frozen 0
  have X0_c1 := X0.out.at (i := 1) rfl; have X0_f1 := X0.out.frozen 1
  have X0_c2 := X0.out.at (i := 2) rfl; have X0_f2 := X0.out.frozen 2
  have X3_lt := X3.out.lt
  have X3_c0 := X3.out.at (i := 0) rfl; have X3_f0 := X3.out.frozen 0
  have X3_c1 := X3.out.at (i := 1) rfl; have X3_f1 := X3.out.frozen 1
  have X3_c2 := X3.out.at (i := 2) rfl; have X3_f2 := X3.out.frozen 2
  go_wp2_with fail
  clear X0_lt X0_c0 X0_f0 X0_c1 X0_f1 X0_c2 X0_f2
  clear X3_lt X3_c0 X3_f0 X3_c1 X3_f1 X3_c2 X3_f2
  refine (eqCalls_any G0 G1 G2 g0 g1 g2 S0 S1 S2 s0 s1 s2 D D _ G.out.cr S.out.cr (by omega)).mono ?_
  rintro e w13 ⟨rfl, b⟩
  replace X1 := hide (X1.out.below b)
  replace S := hide (S.out.below b)
  replace X0 := hide (X0.out.below b)
  replace G := hide (G.out.below b)
  replace X3 := hide (X3.out.below b)
  replace BW := hide (bthen BW.out b); have zw13 := b.size; clear b
  have X3_lt := X3.out.lt
  have X3_c0 := X3.out.at (i := 0) rfl; have X3_f0 := X3.out.frozen 0
  have X3_c1 := X3.out.at (i := 1) rfl; have X3_f1 := X3.out.frozen 1
  have X3_c2 := X3.out.at (i := 2) rfl; have X3_f2 := X3.out.frozen 2
  go_wp2_with fail
  clear X3_lt X3_c0 X3_f0 X3_c1 X3_f1 X3_c2 X3_f2
  refine (markCalls_any G0 G1 G2 g0 g1 g2 D 1 W6.heap.size w7.heap.size _ G.out (by omega) (by omega) (by omega) (by omega)).mono ?_
  rintro e w14 ⟨rfl, V', o⟩
  replace X1 := hide (X1.out.only o (by omega))
  replace S := hide (S.out.only o (by omega))
  replace X0 := hide (X0.out.only o (by omega))
  replace X3 := hide (X3.out.only o (by omega))
  replace G := hide V'; have zw14 := o.size; replace BW := hide (Only.then BW.out o (by omega) (by omega)); clear V' o
  have X3_lt := X3.out.lt
  have X3_c0 := X3.out.at (i := 0) rfl; have X3_f0 := X3.out.frozen 0
  have X3_c1 := X3.out.at (i := 1) rfl; have X3_f1 := X3.out.frozen 1
  have X3_c2 := X3.out.at (i := 2) rfl; have X3_f2 := X3.out.frozen 2
  go_wp2_with fail
  clear X3_lt X3_c0 X3_f0 X3_c1 X3_f1 X3_c2 X3_f2
  refine (heldCalls_any G0 G1 G2 g0 g1 g2 D 1 _ G.out.cr (by omega) (by omega) (by omega)).mono ?_
  rintro e w15 ⟨rfl, b⟩
  replace X1 := hide (X1.out.below b)
  replace S := hide (S.out.below b)
  replace X0 := hide (X0.out.below b)
  replace G := hide (G.out.below b)
  replace X3 := hide (X3.out.below b)
  replace BW := hide (bthen BW.out b); have zw15 := b.size; clear b
  have e3 : ((1 + (D.up.length : Int) + (D.dn.length : Int) + (D.car.length : Int)) != (1 + (D.up.length : Int) + (D.dn.length : Int) + (D.car.length : Int))) = false := by simp
  have X1_lt := X1.out.lt
  have X1_c0 := X1.out.at (i := 0) rfl; have X1_f0 := X1.out.frozen 0
  have X1_c1 := X1.out.at (i := 1) rfl; have X1_f1 := X1.out.frozen 1
  have X1_c2 := X1.out.at (i := 2) rfl; have X1_f2 := X1.out.frozen 2
  go_wp2_with fail
  clear X1_lt X1_c0 X1_f0 X1_c1 X1_f1 X1_c2 X1_f2
  refine (toCalls_any A0 A1 A2 c0 c1 c2 C _ (H.out.below BW.out) L3.out).mono ?_
  rintro e w16 ⟨P0, P1, P2, p0, p1, p2, rfl, P, b⟩
  replace X1 := hide (X1.out.below b)
  replace S := hide (S.out.below b)
  replace X0 := hide (X0.out.below b)
  replace G := hide (G.out.below b)
  replace X3 := hide (X3.out.below b)
  replace BW := hide (bthen BW.out b); have zw16 := b.size; clear b
  replace P := hide P
  go_wp2_with fail
  refine (show Calls _ _ _ _ (GivesCB D x _) from by rw [HD.out, HX.out]; exact implCallSet P0 P1 P2 p0 p1 p2 C z1 z2 z3 _ P.out.cr).mono ?_
  rintro e w17 ⟨U0, U1, U2, u0, u1, u2, rfl, U, b⟩
  replace X1 := hide (X1.out.below b)
  replace S := hide (S.out.below b)
  replace X0 := hide (X0.out.below b)
  replace G := hide (G.out.below b)
  replace X3 := hide (X3.out.below b)
  replace P := hide (P.out.below b)
  replace BW := hide (bthen BW.out b); have zw17 := b.size; clear b
  replace U := hide U; clear P
  have X0_lt := X0.out.lt
  have X0_c0 := X0.out.at (i := 0) rfl; have X0_f0 := X0.out.frozen 0
  have X0_c1 := X0.out.at (i := 1) rfl; have X0_f1 := X0.out.frozen 1
  have X0_c2 := X0.out.at (i := 2) rfl; have X0_f2 := X0.out.frozen 2
  go_wp2_with fail
  clear X0_lt X0_c0 X0_f0 X0_c1 X0_f1 X0_c2 X0_f2
  refine calls_name fun W18 hW => ?_
  have b : Below w17.heap.size w17 W18 := by rw [hW]; exact (Below.refl _ _).alloc (Nat.le_refl _) _
  clear hW
  replace X1 := hide (X1.out.below b)
  replace S := hide (S.out.below b)
  replace X0 := hide (X0.out.below b)
  replace G := hide (G.out.below b)
  replace X3 := hide (X3.out.below b)
  replace U := hide (U.out.below b)
  replace BW := hide (bthen BW.out b); have zW18 := b.size; clear b
  refine (eqCalls_any U0 U1 U2 u0 u1 u2 S0 S1 S2 s0 s1 s2 D D _ U.out.cr S.out.cr (by omega)).mono ?_
  rintro e w19 ⟨rfl, b⟩
  replace X1 := hide (X1.out.below b)
  replace S := hide (S.out.below b)
  replace X0 := hide (X0.out.below b)
  replace G := hide (G.out.below b)
  replace X3 := hide (X3.out.below b)
  replace U := hide (U.out.below b)
  replace BW := hide (bthen BW.out b); have zw19 := b.size; clear b
  have X3_lt := X3.out.lt
  have X3_c0 := X3.out.at (i := 0) rfl; have X3_f0 := X3.out.frozen 0
  have X3_c1 := X3.out.at (i := 1) rfl; have X3_f1 := X3.out.frozen 1
  have X3_c2 := X3.out.at (i := 2) rfl; have X3_f2 := X3.out.frozen 2
  go_wp2_with fail
  clear X3_lt X3_c0 X3_f0 X3_c1 X3_f1 X3_c2 X3_f2
  refine (heldCalls_any G0 G1 G2 g0 g1 g2 D 1 _ G.out.cr (by omega) (by omega) (by omega)).mono ?_
  rintro e w20 ⟨rfl, b⟩
  replace X1 := hide (X1.out.below b)
  replace S := hide (S.out.below b)
  replace X0 := hide (X0.out.below b)
  replace G := hide (G.out.below b)
  replace X3 := hide (X3.out.below b)
  replace U := hide (U.out.below b)
  replace BW := hide (bthen BW.out b); have zw20 := b.size; clear b
  go_wp2_with fail
  go_ret
  exact ⟨rfl, BW.out⟩
end Go.Proofs.Ytjcfciokojepcaa
