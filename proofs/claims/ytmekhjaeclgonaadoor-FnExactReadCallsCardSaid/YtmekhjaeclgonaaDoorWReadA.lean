import Derived.Test.YtmekhjaeclgonaaDoorFrameC
import Derived.Test.YtmekhjaeclgonaaDoorReadCallsW
import Derived.Test.YtmekhjaeclgonaaDoorAlive
import Derived.Test.YtmekhjaeclgonaaDoorDrawRead
import Derived.Test.YtmekhjaeclgonaaDoorWCallSet
import Derived.Deep.RegionHeld3
import Derived.Deep.CutRange
namespace Go.Proofs.YtmekhjaeclgonaaDoor
open Go.RowKit
attribute [local go_sem ↓] Go.wp_at_zero Go.wp_at_succ

theorem implReadCalls_at (l : List UInt8) (D : Cl) (x : Bool) (hr : readC l = (D, x)) (m : Int) (w : World) (hl : l.length ≤ 2000000) (hm : w.cell? ⟨0, 0, none⟩ = some (.int .i64 m)) :
    Calls Tryd.prog 7 #[.string (str l)] w (GivesCB D x w) := by have := implReadCalls l m w hl hm; rw [hr] at this; exact this
theorem specReadCalls_at (l : List UInt8) (D : Cl) (x : Bool) (hr : readC l = (D, x)) (w : World) (hl : l.length ≤ 2000000) :
    Calls Tryd.prog 8 #[.string (str l)] w (GivesCB D x w) := by have := specReadCalls l w hl; rw [hr] at this; exact this
/-- internal/bytealg.MaxLen (block 0) holds the number m. -/
def ML (m : Int) (w : World) : Prop := w.cell? ⟨0, 0, none⟩ = some (.int .i64 m)
theorem ML.below {m : Int} {w w' : World} (h : ML m w) (b : Below w.heap.size w w') : ML m w' := ml_below h b
theorem ML.only {m : Int} {w w' : World} {lo hi : Nat} (h : ML m w) (o : Only lo hi w w') (h0 : 0 < lo) : ML m w' :=
  (World.cell?_of_block (o.block 0 (World.block_lt_of_cell? w _ h) (.inl h0))).trans h
theorem readC_lens {l : List UInt8} {D : Cl} {x : Bool} (h : readC l = (D, x)) : D.up.length ≤ 8 ∧ D.dn.length ≤ 8 ∧ D.car.length ≤ 8 := by
  have := readP_lens (cutL l)
  unfold readC at h
  rw [h] at this; exact this
set_option maxRecDepth 100000 in
set_option maxHeartbeats 2000000 in
theorem wExactReadCalls (s : ByteArray) (m : Int) (w : World) (hm : w.cell? ⟨0, 0, none⟩ = some (.int .i64 m)) :
    Calls Tryd.prog 4 #[.string s] w fun e w' => e = .returned (.bool true) ∧ Below w.heap.size w w' := by
  obtain ⟨l, rfl⟩ : ∃ l, s = str l := ⟨s.data.toList, (str_data s).symm⟩
  have LM : Hid (ML m w) := hm
  have h0w : 0 < w.heap.size := World.block_lt_of_cell? w _ hm
  clear hm
  have hsz : (str l).size = l.length := rfl
  by_cases hs : l.length ≤ 1048576
  rotate_left
  · go_enter Tryd.func4, Tryd.ntmps4
    go_wp2_with fail
    go_ret
    exact ⟨rfl, Below.refl _ _⟩
  obtain ⟨D, x, hr⟩ : ∃ D x, readC l = (D, x) := ⟨_, _, rfl⟩
  obtain ⟨d0, d1, d2⟩ := readC_lens hr
  have HR := hide hr
  clear hr
  have e0 : (x != x) = false := by simp
  have qd := eqC_self D
  obtain ⟨N, hN⟩ : ∃ N : Int, N = 1 + D.up.length + D.dn.length + D.car.length := ⟨_, rfl⟩
  have N0 : ¬ N < 0 := by omega
  have eN : (N != N) = false := by simp
  have HN := hide hN
  clear hN
  go_enter Tryd.func4, Tryd.ntmps4
  go_wp2_with fail
  refine (specReadCalls_at l D x HR.out _ (by omega)).mono ?_
  rintro e w1 ⟨P0, P1, P2, p0, p1, p2, rfl, P, b⟩
  replace P := hide P
  have BW := hide b
  have z1 := b.size
  replace LM := hide (LM.out.below b)
  clear b
  go_wp2_with fail
  refine calls_name fun W2 hW => ?_
  have X3 := hide (Box.new' (g := w1.heap.size) hW rfl)
  have b : Below w1.heap.size w1 W2 := by rw [hW]; exact (Below.refl _ _).alloc (Nat.le_refl _) _
  replace P := hide (P.out.below b)
  replace LM := hide (LM.out.below b)
  replace BW := hide (bthen BW.out b)
  have zX3 := X3.out.lt
  clear b hW
  refine (implReadCalls_at l D x HR.out m _ (by omega) LM.out).mono ?_
  rintro e w3 ⟨Q0, Q1, Q2, q0, q1, q2, rfl, Q, b⟩
  replace Q := hide Q
  have z3 := b.size
  replace X3 := hide (X3.out.below b)
  replace P := hide (P.out.below b)
  replace LM := hide (LM.out.below b)
  replace BW := hide (bthen BW.out b)
  clear b
  have X3_lt := X3.out.lt
  have X3_c0 := X3.out.at (i := 0) rfl; have X3_f0 := X3.out.frozen 0
  have X3_c1 := X3.out.at (i := 1) rfl; have X3_f1 := X3.out.frozen 1
  have X3_c2 := X3.out.at (i := 2) rfl; have X3_f2 := X3.out.frozen 2
  go_wp2_with fail
  clear X3_lt X3_c0 X3_f0 X3_c1 X3_f1 X3_c2 X3_f2
  refine calls_name fun W4 hW => ?_
  have X5 := hide (Box.new' (g := w3.heap.size) hW rfl)
  have b : Below w3.heap.size w3 W4 := by rw [hW]; exact (Below.refl _ _).alloc (Nat.le_refl _) _
  replace X3 := hide (X3.out.below b)
  replace P := hide (P.out.below b)
  replace Q := hide (Q.out.below b)
  replace LM := hide (LM.out.below b)
  replace BW := hide (bthen BW.out b)
  have zX5 := X5.out.lt
  clear b hW
  refine (eqCalls_any Q0 Q1 Q2 q0 q1 q2 P0 P1 P2 p0 p1 p2 D D _ Q.out.cr P.out.cr (by omega)).mono ?_
  rw [qd]
  rintro e w5 ⟨rfl, b⟩
  have z5 := b.size
  replace X3 := hide (X3.out.below b)
  replace X5 := hide (X5.out.below b)
  replace P := hide (P.out.below b)
  replace Q := hide (Q.out.below b)
  replace LM := hide (LM.out.below b)
  replace BW := hide (bthen BW.out b)
  clear b
  have X5_lt := X5.out.lt
  have X5_c0 := X5.out.at (i := 0) rfl; have X5_f0 := X5.out.frozen 0
  have X5_c1 := X5.out.at (i := 1) rfl; have X5_f1 := X5.out.frozen 1
  have X5_c2 := X5.out.at (i := 2) rfl; have X5_f2 := X5.out.frozen 2
  go_wp2_with fail
  clear X5_lt X5_c0 X5_f0 X5_c1 X5_f1 X5_c2 X5_f2
  refine (markCalls_any Q0 Q1 Q2 q0 q1 q2 D 1 _ _ _ Q.out (by omega) (by omega) (by omega) (by omega)).mono ?_
  rw [← HN.out]
  rintro e w6 ⟨rfl, QM, o⟩
  replace QM := hide QM
  have z6 := o.size
  replace X3 := hide (X3.out.only o (.inl (by omega)))
  replace X5 := hide (X5.out.only o (.inr (by omega)))
  replace P := hide (P.out.only o (.inl (by omega)))
  replace LM := hide (LM.out.only o (by omega))
  replace BW := hide (Only.then BW.out o (by omega) (by omega))
  clear o Q
  have X5_lt := X5.out.lt
  have X5_c0 := X5.out.at (i := 0) rfl; have X5_f0 := X5.out.frozen 0
  have X5_c1 := X5.out.at (i := 1) rfl; have X5_f1 := X5.out.frozen 1
  have X5_c2 := X5.out.at (i := 2) rfl; have X5_f2 := X5.out.frozen 2
  go_wp2_with fail
  clear X5_lt X5_c0 X5_f0 X5_c1 X5_f1 X5_c2 X5_f2
  refine (heldCalls_any Q0 Q1 Q2 q0 q1 q2 D 1 _ QM.out.cr (by omega) (by omega) (by omega)).mono ?_
  rw [← HN.out]
  rintro e w7 ⟨rfl, b⟩
  have z7 := b.size
  replace X3 := hide (X3.out.below b)
  replace X5 := hide (X5.out.below b)
  replace P := hide (P.out.below b)
  replace QM := hide (QM.out.below b)
  replace LM := hide (LM.out.below b)
  replace BW := hide (bthen BW.out b)
  clear b
  go_wp2_with fail
  refine (implReadCalls_at l D x HR.out m _ (by omega) LM.out).mono ?_
  rintro e w8 ⟨U0, U1, U2, u0, u1, u2, rfl, U, b⟩
  replace U := hide U
  have z8 := b.size
  replace X3 := hide (X3.out.below b)
  replace X5 := hide (X5.out.below b)
  replace P := hide (P.out.below b)
  replace QM := hide (QM.out.below b)
  replace BW := hide (bthen BW.out b)
  clear b
  have X3_lt := X3.out.lt
  have X3_c0 := X3.out.at (i := 0) rfl; have X3_f0 := X3.out.frozen 0
  have X3_c1 := X3.out.at (i := 1) rfl; have X3_f1 := X3.out.frozen 1
  have X3_c2 := X3.out.at (i := 2) rfl; have X3_f2 := X3.out.frozen 2
  go_wp2_with fail
  clear X3_lt X3_c0 X3_f0 X3_c1 X3_f1 X3_c2 X3_f2
  refine calls_name fun W9 hW => ?_
  have X9 := hide (Box.new' (g := w8.heap.size) hW rfl)
  have b : Below w8.heap.size w8 W9 := by rw [hW]; exact (Below.refl _ _).alloc (Nat.le_refl _) _
  replace X3 := hide (X3.out.below b)
  replace X5 := hide (X5.out.below b)
  replace P := hide (P.out.below b)
  replace QM := hide (QM.out.below b)
  replace U := hide (U.out.below b)
  replace BW := hide (bthen BW.out b)
  have zX9 := X9.out.lt
  clear b hW
  refine (eqCalls_any U0 U1 U2 u0 u1 u2 P0 P1 P2 p0 p1 p2 D D _ U.out.cr P.out.cr (by omega)).mono ?_
  rw [qd]
  rintro e w9 ⟨rfl, b⟩
  replace X5 := hide (X5.out.below b)
  replace QM := hide (QM.out.below b)
  replace BW := hide (bthen BW.out b)
  clear b
  have X5_lt := X5.out.lt
  have X5_c0 := X5.out.at (i := 0) rfl; have X5_f0 := X5.out.frozen 0
  have X5_c1 := X5.out.at (i := 1) rfl; have X5_f1 := X5.out.frozen 1
  have X5_c2 := X5.out.at (i := 2) rfl; have X5_f2 := X5.out.frozen 2
  go_wp2_with fail
  clear X5_lt X5_c0 X5_f0 X5_c1 X5_f1 X5_c2 X5_f2
  refine (heldCalls_any Q0 Q1 Q2 q0 q1 q2 D 1 _ QM.out.cr (by omega) (by omega) (by omega)).mono ?_
  rw [← HN.out]
  rintro e w10 ⟨rfl, b⟩
  replace BW := hide (bthen BW.out b)
  clear b
  go_wp2_with fail
  go_ret
  exact ⟨rfl, BW.out⟩
set_option maxRecDepth 100000 in
set_option maxHeartbeats 2000000 in
theorem wCallsText (m : Int) (A : Option Addr) (c : Nat) (bs : List Int) (w : World) (h0 : InRow .u8 w A c bs) (hm : w.cell? ⟨0, 0, none⟩ = some (.int .i64 m)) :
    Calls Tryd.prog 5 #[.slice A bs.length c] w fun e w' => e = .returned (.bool true) ∧ Below w.heap.size w w' := by
  have LM : Hid (ML m w) := hm
  clear hm
  have HB := hide h0.byte
  obtain ⟨h, hc, hc2, -⟩ := h0
  have H : Hid (Sl w A (bvs bs)) := h
  clear h
  by_cases hl : ¬ bs.length ≤ 1048576
  · go_enter Tryd.func5, Tryd.ntmps5
    go_wp2
    go_ret
    exact ⟨rfl, Below.refl _ _⟩
  have hl : bs.length ≤ 1048576 := by omega
  clear hc2
  go_enter Tryd.func5, Tryd.ntmps5
  go_wp2_with fail
  refine (drawCallsText_any A c bs _ H.out HB.out hl hc).mono ?_
  rintro e w1 ⟨P0, P1, P2, p0, p1, p2, C, rfl, P, len, b⟩
  have BW := hide b; replace P := hide P
  replace LM := hide (LM.out.below b)
  have hT := textB_len len
  obtain ⟨l0, l1, l2⟩ := len
  obtain ⟨T, hTT⟩ : ∃ T, T = textB C := ⟨_, rfl⟩
  have HT := hide hTT
  rw [← hTT] at hT
  clear b hTT
  have hsz : (str T).size = T.length := rfl
  have qd := eqC_self C
  go_wp2_with fail
  refine calls_name fun W hW => ?_
  have X3 := hide (Box.new' (g := w1.heap.size) hW rfl)
  have b : Below w1.heap.size w1 W := by rw [hW]; exact (Below.refl _ _).alloc (Nat.le_refl _) _
  replace P := hide (P.out.below b)
  replace LM := hide (LM.out.below b)
  replace BW := hide (bthen BW.out b)
  have zX3 := X3.out.lt
  clear b hW
  refine (implCallsText P0 P1 P2 p0 p1 p2 C _ P.out.cr).mono ?_
  rw [← HT.out]
  rintro e w2 ⟨rfl, b⟩
  replace X3 := hide (X3.out.below b)
  replace P := hide (P.out.below b)
  replace LM := hide (LM.out.below b)
  replace BW := hide (bthen BW.out b)
  clear b
  have X3_lt := X3.out.lt
  have X3_c0 := X3.out.at (i := 0) rfl; have X3_f0 := X3.out.frozen 0
  have X3_c1 := X3.out.at (i := 1) rfl; have X3_f1 := X3.out.frozen 1
  have X3_c2 := X3.out.at (i := 2) rfl; have X3_f2 := X3.out.frozen 2
  go_wp2_with fail
  clear X3_lt X3_c0 X3_f0 X3_c1 X3_f1 X3_c2 X3_f2
  refine (specCallsText P0 P1 P2 p0 p1 p2 C _ P.out.cr).mono ?_
  rw [← HT.out]
  rintro e w3 ⟨rfl, b⟩
  replace X3 := hide (X3.out.below b)
  replace P := hide (P.out.below b)
  replace LM := hide (LM.out.below b)
  replace BW := hide (bthen BW.out b)
  clear b
  have e0 : ((str T).toList != (str T).toList) = false := by simp
  cases hv : callsB C
  · have ht : T = [] := HT.out.trans (textB_no hv)
    have HV := hide hv
    clear hv
    subst ht
    have e1 : (str []).toList.isEmpty = true := by rw [Lib.toList_data]; rfl
    have X3_lt := X3.out.lt
    have X3_c0 := X3.out.at (i := 0) rfl; have X3_f0 := X3.out.frozen 0
    have X3_c1 := X3.out.at (i := 1) rfl; have X3_f1 := X3.out.frozen 1
    have X3_c2 := X3.out.at (i := 2) rfl; have X3_f2 := X3.out.frozen 2
    go_wp2_with fail
    clear X3_lt X3_c0 X3_f0 X3_c1 X3_f1 X3_c2 X3_f2
    refine (implCallsValid P0 P1 P2 p0 p1 p2 C _ P.out.cr).mono ?_
    rw [HV.out]
    rintro e w4 ⟨rfl, b⟩
    replace BW := hide (bthen BW.out b)
    clear b
    go_wp2_with fail
    refine (alive_any _).mono ?_
    rintro e w9 ⟨rfl, b9⟩
    have B9 := hide b9
    clear b9
    go_wp2_with fail
    go_ret
    exact ⟨rfl, bthen BW.out B9.out⟩
  · have ht : T = textC C := HT.out.trans (textB_yes hv)
    have HR : Hid (readC T = (C, true)) := by rw [ht]; exact read_text hv
    have e1 : (str T).toList.isEmpty = false := by rw [Lib.toList_data, ht]; show (textC C).isEmpty = false; unfold textC; simp
    clear ht hv
    go_wp2_with fail
    refine (implReadCalls_at T C true HR.out m _ (by omega) LM.out).mono ?_
    rintro e w4 ⟨Q0, Q1, Q2, q0, q1, q2, rfl, Q, b⟩
    replace Q := hide Q
    replace X3 := hide (X3.out.below b)
    replace P := hide (P.out.below b)
    replace BW := hide (bthen BW.out b)
    clear b
    have X3_lt := X3.out.lt
    have X3_c0 := X3.out.at (i := 0) rfl; have X3_f0 := X3.out.frozen 0
    have X3_c1 := X3.out.at (i := 1) rfl; have X3_f1 := X3.out.frozen 1
    have X3_c2 := X3.out.at (i := 2) rfl; have X3_f2 := X3.out.frozen 2
    go_wp2_with fail
    clear X3_lt X3_c0 X3_f0 X3_c1 X3_f1 X3_c2 X3_f2
    refine calls_name fun W5 hW => ?_
    have X5 := hide (Box.new' (g := w4.heap.size) hW rfl)
    have b : Below w4.heap.size w4 W5 := by rw [hW]; exact (Below.refl _ _).alloc (Nat.le_refl _) _
    replace X3 := hide (X3.out.below b)
    replace P := hide (P.out.below b)
    replace Q := hide (Q.out.below b)
    replace BW := hide (bthen BW.out b)
    have zX5 := X5.out.lt
    clear b hW
    refine (sameCalls_at Q0 Q1 Q2 q0 q1 q2 P0 P1 P2 p0 p1 p2 C C _ true qd Q.out.cr P.out.cr (by omega)).mono ?_
    rintro e w5 ⟨rfl, b⟩
    replace BW := hide (bthen BW.out b)
    clear b
    go_wp2_with fail
    go_ret
    exact ⟨rfl, BW.out⟩
set_option maxRecDepth 100000 in
set_option maxHeartbeats 2000000 in
theorem wReadCalls (m : Int) (A : Option Addr) (c : Nat) (bs : List Int) (w : World) (h0 : InRow .u8 w A c bs) (hm : w.cell? ⟨0, 0, none⟩ = some (.int .i64 m)) :
    Calls Tryd.prog 3 #[.slice A bs.length c] w fun e w' => e = .returned (.bool true) ∧ Below w.heap.size w w' := by
  have LM : Hid (ML m w) := hm
  clear hm
  have HB := hide h0.byte
  obtain ⟨h, hc, hc2, -⟩ := h0
  have H : Hid (Sl w A (bvs bs)) := h
  clear h
  by_cases hl : ¬ bs.length ≤ 1048576
  · go_enter Tryd.func3, Tryd.ntmps3
    go_wp2
    go_ret
    exact ⟨rfl, Below.refl _ _⟩
  have hl : bs.length ≤ 1048576 := by omega
  clear hc2
  go_enter Tryd.func3, Tryd.ntmps3
  go_wp2_with fail
  refine (drawReadCalls_any A c bs _ H.out HB.out hl hc).mono ?_
  rintro e w1 ⟨l, rfl, hl1, b⟩
  have BW := hide b
  replace LM := hide (LM.out.below b)
  clear b
  obtain ⟨D, x, hr⟩ : ∃ D x, readC l = (D, x) := ⟨_, _, rfl⟩
  obtain ⟨d0, d1, d2⟩ := readC_lens hr
  have HR := hide hr
  clear hr
  have hsz : (str l).size = l.length := rfl
  have qd := eqC_self D
  have e0 : (x != x) = false := by simp
  go_wp2_with fail
  refine (implReadCalls_at l D x HR.out m _ (by omega) LM.out).mono ?_
  rintro e w2 ⟨P0, P1, P2, p0, p1, p2, rfl, P, b⟩
  replace P := hide P
  replace LM := hide (LM.out.below b)
  replace BW := hide (bthen BW.out b)
  clear b
  go_wp2_with fail
  refine calls_name fun W3 hW => ?_
  have X4 := hide (Box.new' (g := w2.heap.size) hW rfl)
  have b : Below w2.heap.size w2 W3 := by rw [hW]; exact (Below.refl _ _).alloc (Nat.le_refl _) _
  replace P := hide (P.out.below b)
  replace LM := hide (LM.out.below b)
  replace BW := hide (bthen BW.out b)
  have zX4 := X4.out.lt
  clear b hW
  refine (specReadCalls_at l D x HR.out _ (by omega)).mono ?_
  rintro e w3 ⟨Q0, Q1, Q2, q0, q1, q2, rfl, Q, b⟩
  replace Q := hide Q
  replace X4 := hide (X4.out.below b)
  replace P := hide (P.out.below b)
  replace LM := hide (LM.out.below b)
  replace BW := hide (bthen BW.out b)
  clear b
  have X4_lt := X4.out.lt
  have X4_c0 := X4.out.at (i := 0) rfl; have X4_f0 := X4.out.frozen 0
  have X4_c1 := X4.out.at (i := 1) rfl; have X4_f1 := X4.out.frozen 1
  have X4_c2 := X4.out.at (i := 2) rfl; have X4_f2 := X4.out.frozen 2
  go_wp2_with fail
  clear X4_lt X4_c0 X4_f0 X4_c1 X4_f1 X4_c2 X4_f2
  refine calls_name fun W4 hW => ?_
  have X6 := hide (Box.new' (g := w3.heap.size) hW rfl)
  have b : Below w3.heap.size w3 W4 := by rw [hW]; exact (Below.refl _ _).alloc (Nat.le_refl _) _
  replace X4 := hide (X4.out.below b)
  replace P := hide (P.out.below b)
  replace Q := hide (Q.out.below b)
  replace LM := hide (LM.out.below b)
  replace BW := hide (bthen BW.out b)
  have zX6 := X6.out.lt
  clear b hW
  refine (sameCalls_at P0 P1 P2 p0 p1 p2 Q0 Q1 Q2 q0 q1 q2 D D _ true qd P.out.cr Q.out.cr (by omega)).mono ?_
  rintro e w4 ⟨rfl, b⟩
  replace X4 := hide (X4.out.below b)
  replace P := hide (P.out.below b)
  replace LM := hide (LM.out.below b)
  replace BW := hide (bthen BW.out b)
  clear b
  clear Q X6
  cases x
  · have hc0 : D.car = [] := by have := read_bad (l := l) (by rw [HR.out]); rw [HR.out] at this; exact this
    have hz : ((D.car.length : Int) == 0) = true := by rw [hc0]; rfl
    clear hc0
    have X4_lt := X4.out.lt
    have X4_c2 := X4.out.at (i := 2) rfl; have X4_f2 := X4.out.frozen 2
    go_wp2_with fail
    refine (alive_any _).mono ?_
    rintro e w9 ⟨rfl, b9⟩
    have B9 := hide b9
    clear b9
    go_wp2_with fail
    go_ret
    exact ⟨rfl, bthen BW.out B9.out⟩
  · obtain ⟨g1, g2, g3⟩ := read_good (l := l) (by rw [HR.out])
    rw [HR.out] at g1 g2
    have HV := hide g1
    have HT : Hid (textB D = l) := by unfold Hid; rw [textB_yes g1]; exact g2
    obtain ⟨E, hE⟩ : ∃ E, readC (l ++ [47]) = (E, false) := ⟨_, Prod.ext rfl g3⟩
    have HE := hide hE
    clear g1 g2 g3 hE
    have hcat : str l ++ ⟨#[47]⟩ = str (l ++ [47]) := str_app l [47]
    go_wp2_with fail
    refine (implReadCalls_at (l ++ [47]) E false HE.out m _ (by simp; omega) LM.out).mono ?_
    rintro e w5 ⟨U0, U1, U2, u0, u1, u2, rfl, U, b⟩
    replace X4 := hide (X4.out.below b)
    replace P := hide (P.out.below b)
    replace BW := hide (bthen BW.out b)
    clear b
    clear U
    have X4_lt := X4.out.lt
    have X4_c0 := X4.out.at (i := 0) rfl; have X4_f0 := X4.out.frozen 0
    have X4_c1 := X4.out.at (i := 1) rfl; have X4_f1 := X4.out.frozen 1
    have X4_c2 := X4.out.at (i := 2) rfl; have X4_f2 := X4.out.frozen 2
    go_wp2_with fail
    clear X4_lt X4_c0 X4_f0 X4_c1 X4_f1 X4_c2 X4_f2
    refine calls_name fun W5 hW => ?_
    have X8 := hide (Box.new' (g := w5.heap.size) hW rfl)
    have b : Below w5.heap.size w5 W5 := by rw [hW]; exact (Below.refl _ _).alloc (Nat.le_refl _) _
    replace X4 := hide (X4.out.below b)
    replace P := hide (P.out.below b)
    replace BW := hide (bthen BW.out b)
    have zX8 := X8.out.lt
    clear b hW
    refine (implCallsValid P0 P1 P2 p0 p1 p2 D _ P.out.cr).mono ?_
    rw [HV.out]
    rintro e w6 ⟨rfl, b⟩
    replace X4 := hide (X4.out.below b)
    replace P := hide (P.out.below b)
    replace BW := hide (bthen BW.out b)
    clear b
    have X4_lt := X4.out.lt
    have X4_c0 := X4.out.at (i := 0) rfl; have X4_f0 := X4.out.frozen 0
    have X4_c1 := X4.out.at (i := 1) rfl; have X4_f1 := X4.out.frozen 1
    have X4_c2 := X4.out.at (i := 2) rfl; have X4_f2 := X4.out.frozen 2
    go_wp2_with fail
    clear X4_lt X4_c0 X4_f0 X4_c1 X4_f1 X4_c2 X4_f2
    refine (implCallsText P0 P1 P2 p0 p1 p2 D _ P.out.cr).mono ?_
    rw [HT.out]
    rintro e w7 ⟨rfl, b⟩
    replace BW := hide (bthen BW.out b)
    clear b
    go_wp2_with fail
    go_ret
    exact ⟨rfl, BW.out⟩
end Go.Proofs.YtmekhjaeclgonaaDoor
