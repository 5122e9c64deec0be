import Derived.Test.YtjcfciokojepcaaWCallsA
namespace Go.Proofs.Ytjcfciokojepcaa
open Go.RowKit
attribute [local go_sem ↓] Go.wp_at_zero Go.wp_at_succ

theorem noneC_len (n : Int) : (noneC n).up.length ≤ 8 ∧ (noneC n).dn.length ≤ 8 ∧ (noneC n).car.length ≤ 8 := by
  unfold noneC; split
  · simp [noCalls]; omega
  · simp
theorem wExactCallsNone (n : Int) (w : World) (_h : (Lit.int .i64 n).wf = true) :
    Calls Try.prog 4 #[.int .i64 n] w fun e w' => e = .returned (.bool true) ∧ Below w.heap.size w w' := by
  obtain ⟨l0, l1, l2⟩ := noneC_len n
  have e0 := eqC_self (noneC n)
  go_enter Try.func4, Try.ntmps4
  go_wp2_with fail
  refine (specCallsNone n _).mono ?_
  rintro e w1 ⟨P0, P1, P2, p0, p1, p2, rfl, P, b⟩
  have BW := hide b; replace P := hide P; have z1 := b.size
  clear b
  obtain ⟨C, hC⟩ : ∃ C, C = noneC n := ⟨_, rfl⟩
  rw [← hC] at l0 l1 l2 e0 P ⊢
  have HC := hide hC
  clear hC
  go_wp2_with fail
  refine calls_name fun W2 hW => ?_
  have X1 : Hid (Box W2 w1.heap.size #[.slice P0 C.up.length p0, .slice P1 C.dn.length p1, .slice P2 C.car.length p2]) := by rw [hW]; exact Box.new rfl
  have b : Below w1.heap.size w1 W2 := by rw [hW]; exact (Below.refl _ _).alloc (Nat.le_refl _) _
  replace P := hide (P.out.below b)
  replace BW := hide (bthen BW.out b)
  have z2 := b.size
  have y2 := X1.out.lt
  clear b hW
  refine (implCallsNone n _).mono ?_
  rw [← HC.out]
  rintro e w3 ⟨Q0, Q1, Q2, q0, q1, q2, rfl, Q, b⟩
  replace P := hide (P.out.below b)
  replace X1 := hide (X1.out.below b)
  replace BW := hide (bthen BW.out b); replace Q := hide Q
  have z3 := b.size
  clear b
  have X1_lt := X1.out.lt
  have X1_c0 := X1.out.at (i := 0) rfl; have X1_f0 := X1.out.frozen 0
  have X1_c1 := X1.out.at (i := 1) rfl; have X1_f1 := X1.out.frozen 1
  have X1_c2 := X1.out.at (i := 2) rfl; have X1_f2 := X1.out.frozen 2
  go_wp2_with fail
  clear X1_lt X1_c0 X1_f0 X1_c1 X1_f1 X1_c2 X1_f2
  refine calls_name fun W4 hW => ?_
  have X2 : Hid (Box W4 w3.heap.size #[.slice Q0 C.up.length q0, .slice Q1 C.dn.length q1, .slice Q2 C.car.length q2]) := by rw [hW]; exact Box.new rfl
  have b : Below w3.heap.size w3 W4 := by rw [hW]; exact (Below.refl _ _).alloc (Nat.le_refl _) _
  replace P := hide (P.out.below b)
  replace Q := hide (Q.out.below b)
  replace X1 := hide (X1.out.below b)
  replace BW := hide (bthen BW.out b)
  have z4 := b.size
  clear b hW
  refine (eqCalls_any Q0 Q1 Q2 q0 q1 q2 P0 P1 P2 p0 p1 p2 C C _ Q.out.cr P.out.cr (by omega)).mono ?_
  rintro e w5 ⟨rfl, b⟩
  replace P := hide (P.out.below b)
  replace Q := hide (Q.out.below b)
  replace X1 := hide (X1.out.below b)
  replace X2 := hide (X2.out.below b)
  replace BW := hide (bthen BW.out b)
  have z5 := b.size
  clear b
  have X2_lt := X2.out.lt
  have X2_c0 := X2.out.at (i := 0) rfl; have X2_f0 := X2.out.frozen 0
  have X2_c1 := X2.out.at (i := 1) rfl; have X2_f1 := X2.out.frozen 1
  have X2_c2 := X2.out.at (i := 2) rfl; have X2_f2 := X2.out.frozen 2
  go_wp2_with fail
  clear X2_lt X2_c0 X2_f0 X2_c1 X2_f1 X2_c2 X2_f2
  refine (markCalls_any Q0 Q1 Q2 q0 q1 q2 C 1 W2.heap.size w3.heap.size _ Q.out (by omega) (by omega) (by omega) (by omega)).mono ?_
  rintro e w6 ⟨rfl, Q', o⟩
  replace Q := hide Q'
  replace P := hide (P.out.only o (.inl (by omega)))
  replace X1 := hide (X1.out.only o (.inl (by omega)))
  replace X2 := hide (X2.out.only o (.inr (by omega)))
  have z6 := o.size
  replace BW := hide (Only.then BW.out o (by omega) (by omega))
  clear o Q'
  have X2_lt := X2.out.lt
  have X2_c0 := X2.out.at (i := 0) rfl; have X2_f0 := X2.out.frozen 0
  have X2_c1 := X2.out.at (i := 1) rfl; have X2_f1 := X2.out.frozen 1
  have X2_c2 := X2.out.at (i := 2) rfl; have X2_f2 := X2.out.frozen 2
  go_wp2_with fail
  clear X2_lt X2_c0 X2_f0 X2_c1 X2_f1 X2_c2 X2_f2
  refine (heldCalls_any Q0 Q1 Q2 q0 q1 q2 C 1 _ Q.out.cr (by omega) (by omega) (by omega)).mono ?_
  rintro e w7 ⟨rfl, b⟩
  replace P := hide (P.out.below b)
  replace Q := hide (Q.out.below b)
  replace X1 := hide (X1.out.below b)
  replace X2 := hide (X2.out.below b)
  replace BW := hide (bthen BW.out b)
  have z7 := b.size
  clear b
  have k1 : ((1 + (C.up.length : Int) + (C.dn.length : Int) + (C.car.length : Int)) != (1 + (C.up.length : Int) + (C.dn.length : Int) + (C.car.length : Int))) = false := by simp
  go_wp2_with fail
  refine (implCallsNone n _).mono ?_
  rw [← HC.out]
  rintro e w8 ⟨R0, R1, R2, r0, r1, r2, rfl, R, b⟩
  replace P := hide (P.out.below b)
  replace Q := hide (Q.out.below b)
  replace X1 := hide (X1.out.below b)
  replace X2 := hide (X2.out.below b)
  replace BW := hide (bthen BW.out b); replace R := hide R
  clear b
  have X1_lt := X1.out.lt
  have X1_c0 := X1.out.at (i := 0) rfl; have X1_f0 := X1.out.frozen 0
  have X1_c1 := X1.out.at (i := 1) rfl; have X1_f1 := X1.out.frozen 1
  have X1_c2 := X1.out.at (i := 2) rfl; have X1_f2 := X1.out.frozen 2
  go_wp2_with fail
  clear X1_lt X1_c0 X1_f0 X1_c1 X1_f1 X1_c2 X1_f2
  refine calls_name fun W9 hW => ?_
  have b : Below w8.heap.size w8 W9 := by rw [hW]; exact (Below.refl _ _).alloc (Nat.le_refl _) _
  replace P := hide (P.out.below b)
  replace Q := hide (Q.out.below b)
  replace R := hide (R.out.below b)
  replace X1 := hide (X1.out.below b)
  replace X2 := hide (X2.out.below b)
  replace BW := hide (bthen BW.out b)
  clear b hW
  refine (eqCalls_any R0 R1 R2 r0 r1 r2 P0 P1 P2 p0 p1 p2 C C _ R.out.cr P.out.cr (by omega)).mono ?_
  rintro e w10 ⟨rfl, b⟩
  replace Q := hide (Q.out.below b)
  replace X2 := hide (X2.out.below b)
  replace BW := hide (bthen BW.out b)
  clear b
  have X2_lt := X2.out.lt
  have X2_c0 := X2.out.at (i := 0) rfl; have X2_f0 := X2.out.frozen 0
  have X2_c1 := X2.out.at (i := 1) rfl; have X2_f1 := X2.out.frozen 1
  have X2_c2 := X2.out.at (i := 2) rfl; have X2_f2 := X2.out.frozen 2
  go_wp2_with fail
  clear X2_lt X2_c0 X2_f0 X2_c1 X2_f1 X2_c2 X2_f2
  refine (heldCalls_any Q0 Q1 Q2 q0 q1 q2 C 1 _ Q.out.cr (by omega) (by omega) (by omega)).mono ?_
  rintro e w11 ⟨rfl, b⟩
  replace BW := hide (bthen BW.out b)
  clear b
  go_wp2_with fail
  go_ret
  exact ⟨rfl, BW.out⟩
end Go.Proofs.Ytjcfciokojepcaa
