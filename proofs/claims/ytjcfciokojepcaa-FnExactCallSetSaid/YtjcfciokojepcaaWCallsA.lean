/- The exact laws over calls: walks. -/
import Derived.Test.YtjcfciokojepcaaCallsD
import Derived.Test.YtjcfciokojepcaaFrameC
import Derived.Deep.RegionHeld3
import Derived.Deep.DrawnRows
namespace Go.Proofs.Ytjcfciokojepcaa
open Go.RowKit
attribute [local go_sem ↓] Go.wp_at_zero Go.wp_at_succ

theorem szC_neg {C : Cl} (h : ¬ (C.up.length + C.dn.length + C.car.length ≤ 1048576)) : szC 1048576 C = -1 := by
  unfold szC; split
  · rfl
  · split
    · rfl
    · split
      · rfl
      · omega
theorem szC_pos {C : Cl} (h : C.up.length + C.dn.length + C.car.length ≤ 1048576) : szC 1048576 C = 1048576 - C.up.length - C.dn.length - C.car.length := by
  unfold szC; rw [if_neg (by omega), if_neg (by omega), if_neg (by omega)]
theorem wExactCallsValid (A0 A1 A2 : Option Addr) (c0 c1 c2 : Nat) (C : Cl) (w : World) (h : InC w A0 A1 A2 c0 c1 c2 C) :
    Calls Try.prog 3 #[.agg #[.slice A0 C.up.length c0, .slice A1 C.dn.length c1, .slice A2 C.car.length c2]] w fun e w' => e = .returned (.bool true) ∧ Below w.heap.size w w' := by
  obtain ⟨h, n0, n1, n2⟩ := h
  have H := hide h; clear h
  go_enter Try.func3, Try.ntmps3
  go_wp2_with fail
  refine calls_name fun W hW => ?_
  have X1 : Hid (Box W w.heap.size #[.slice A0 C.up.length c0, .slice A1 C.dn.length c1, .slice A2 C.car.length c2]) := by rw [hW]; exact Box.new rfl
  have BW : Hid (Below w.heap.size w W) := by rw [hW]; exact (Below.refl _ _).alloc (Nat.le_refl _) _
  clear hW
  refine (szCalls_any A0 A1 A2 c0 c1 c2 C 1048576 _ (by omega) (by omega) n0 n1 n2).mono ?_
  rintro e w1 ⟨rfl, b⟩
  replace X1 := hide (X1.out.below b)
  replace BW := hide (bthen BW.out b)
  clear b n0 n1 n2
  by_cases hs : C.up.length + C.dn.length + C.car.length ≤ 1048576
  rotate_left
  · rw [szC_neg hs]
    go_wp2_with fail
    go_ret
    exact ⟨rfl, BW.out⟩
  rw [szC_pos hs]
  have l3 : C.up.length ≤ 1048576 ∧ C.dn.length ≤ 1048576 ∧ C.car.length ≤ 1048576 := by omega
  have L3 := hide l3
  clear l3
  have X1_c0 := X1.out.at (i := 0) rfl; have X1_f0 := X1.out.frozen 0
  have X1_c1 := X1.out.at (i := 1) rfl; have X1_f1 := X1.out.frozen 1
  have X1_c2 := X1.out.at (i := 2) rfl; have X1_f2 := X1.out.frozen 2
  go_wp2_with fail
  refine (toCalls_any A0 A1 A2 c0 c1 c2 C _ (H.out.below BW.out) L3.out).mono ?_
  rintro e w2 ⟨P0, P1, P2, p0, p1, p2, rfl, P, b⟩
  have z2 := b.size
  clear X1_c0 X1_f0 X1_c1 X1_f1 X1_c2 X1_f2
  replace X1 := hide (X1.out.below b)
  replace BW := hide (bthen BW.out b); replace P := hide P
  clear b
  go_wp2_with fail
  refine (specCallsValid P0 P1 P2 p0 p1 p2 C _ P.out.cr).mono ?_
  rintro e w3 ⟨rfl, b⟩
  replace X1 := hide (X1.out.below b)
  replace BW := hide (bthen BW.out b)
  clear b P
  have X1_c0 := X1.out.at (i := 0) rfl; have X1_f0 := X1.out.frozen 0
  have X1_c1 := X1.out.at (i := 1) rfl; have X1_f1 := X1.out.frozen 1
  have X1_c2 := X1.out.at (i := 2) rfl; have X1_f2 := X1.out.frozen 2
  go_wp2_with fail
  refine (toCalls_any A0 A1 A2 c0 c1 c2 C _ (H.out.below BW.out) L3.out).mono ?_
  rintro e w4 ⟨Q0, Q1, Q2, q0, q1, q2, rfl, Q, b⟩
  clear X1_c0 X1_f0 X1_c1 X1_f1 X1_c2 X1_f2
  replace X1 := hide (X1.out.below b)
  replace BW := hide (bthen BW.out b); replace Q := hide Q
  clear b
  go_wp2_with fail
  refine calls_name fun W5 hW => ?_
  have X2 : Hid (Box W5 w4.heap.size #[.slice Q0 C.up.length q0, .slice Q1 C.dn.length q1, .slice Q2 C.car.length q2]) := by rw [hW]; exact Box.new rfl
  have b : Below w4.heap.size w4 W5 := by rw [hW]; exact (Below.refl _ _).alloc (Nat.le_refl _) _
  replace X1 := hide (X1.out.below b)
  replace Q := hide (Q.out.below b)
  replace BW := hide (bthen BW.out b)
  clear b hW
  refine (implCallsValid Q0 Q1 Q2 q0 q1 q2 C _ Q.out.cr).mono ?_
  rintro e w6 ⟨rfl, b⟩
  replace X1 := hide (X1.out.below b)
  replace X2 := hide (X2.out.below b)
  replace Q := hide (Q.out.below b)
  replace BW := hide (bthen BW.out b)
  clear b
  have X1_c0 := X1.out.at (i := 0) rfl; have X1_f0 := X1.out.frozen 0
  have X1_c1 := X1.out.at (i := 1) rfl; have X1_f1 := X1.out.frozen 1
  have X1_c2 := X1.out.at (i := 2) rfl; have X1_f2 := X1.out.frozen 2
  have X2_c0 := X2.out.at (i := 0) rfl; have X2_f0 := X2.out.frozen 0
  have X2_c1 := X2.out.at (i := 1) rfl; have X2_f1 := X2.out.frozen 1
  have X2_c2 := X2.out.at (i := 2) rfl; have X2_f2 := X2.out.frozen 2
  have e0 := eqC_self C
  cases hv : callsB C
  all_goals
    go_wp2_with fail
    go_region_held3 (fun W => W.cell? ⟨w.heap.size, 0, none⟩ = some (.slice A0 C.up.length c0) ∧ W.cell? ⟨w.heap.size, 1, none⟩ = some (.slice A1 C.dn.length c1) ∧ W.cell? ⟨w.heap.size, 2, none⟩ = some (.slice A2 C.car.length c2) ∧ W.cell? ⟨w4.heap.size, 0, none⟩ = some (.slice Q0 C.up.length q0) ∧ W.cell? ⟨w4.heap.size, 1, none⟩ = some (.slice Q1 C.dn.length q1) ∧ W.cell? ⟨w4.heap.size, 2, none⟩ = some (.slice Q2 C.car.length q2)) (first | go_keep | (exact ⟨((X1.out.drew.below b7.out).below b8.out).at rfl, ((X1.out.drew.below b7.out).below b8.out).at rfl, ((X1.out.drew.below b7.out).below b8.out).at rfl, ((X2.out.drew.below b7.out).below b8.out).at rfl, ((X2.out.drew.below b7.out).below b8.out).at rfl, ((X2.out.drew.below b7.out).below b8.out).at rfl⟩) | (exact ⟨(X1.out.drew.below b7.out).at rfl, (X1.out.drew.below b7.out).at rfl, (X1.out.drew.below b7.out).at rfl, (X2.out.drew.below b7.out).at rfl, (X2.out.drew.below b7.out).at rfl, (X2.out.drew.below b7.out).at rfl⟩)) (first | (go_at_call 14; refine (toCalls_any A0 A1 A2 c0 c1 c2 C _ (by exact H.out.below BW.out.drew) L3.out).mono ?_; rintro e w7 ⟨R0, R1, R2, r0, r1, r2, rfl, R, b7⟩; replace R := hide R; replace b7 := hide b7) | (go_at_call 16; refine (eqCalls_any Q0 Q1 Q2 q0 q1 q2 R0 R1 R2 r0 r1 r2 C C _ (by exact (Q.out.below (below_drewN (Below.refl _ _) 1)).cr.below b7.out) R.out.cr (by have := L3.out; omega)).mono ?_; rintro e w8 ⟨rfl, b8⟩; replace b8 := hide b8))
    go_wp2
    go_ret
    exact ⟨rfl, bthen (bthen BW.out.drew b7.out) b8.out⟩
end Go.Proofs.Ytjcfciokojepcaa
