import Derived.Test.YtmhocmppafggaaaFrameC
import Derived.Test.YtmhocmppafggaaaDrawCalls2
import Derived.Test.YtmhocmppafggaaaSetPlain
import Derived.Test.YtmhocmppafggaaaAlive
import Derived.Deep.RegionHeld3
import Derived.Deep.Cut
import Derived.Deep.DrawnRows
namespace Go.Proofs.Ytmhocmppafggaaa
open Go.RowKit
attribute [local go_sem ↓] Go.wp_at_zero Go.wp_at_succ

theorem manyB_bd {C : Cl} (h : callsB C = true) : 0 ≤ manyB C ∧ manyB C ≤ 24 := by
  rw [manyB_yes h]
  obtain ⟨h1, h2, h3, h4, -, -⟩ := callsB_iff.1 h
  unfold manyC
  have := cnt_bd C.up; have := cnt_bd C.dn; have := cnt_bd C.car
  omega
theorem sameCalls_at (A0 A1 A2 : Option Addr) (c0 c1 c2 : Nat) (B0 B1 B2 : Option Addr) (d0 d1 d2 : Nat) (C D : Cl) (w : World) (b : Bool) (hb : eqC C D = b) (h : CR w A0 A1 A2 C) (h' : CR w B0 B1 B2 D) (hl : C.up.length ≤ 140737488351232 ∧ C.dn.length ≤ 140737488351232 ∧ C.car.length ≤ 140737488351232) :
    Calls Try.prog 8 #[.agg #[.slice A0 C.up.length c0, .slice A1 C.dn.length c1, .slice A2 C.car.length c2], .agg #[.slice B0 D.up.length d0, .slice B1 D.dn.length d1, .slice B2 D.car.length d2]] w fun e w' => e = .returned (.bool b) ∧ Below w.heap.size w w' := by
  subst hb; exact sameCalls_any A0 A1 A2 c0 c1 c2 B0 B1 B2 d0 d1 d2 C D w h h' hl
set_option maxRecDepth 100000 in
set_option maxHeartbeats 3000000 in
theorem wCallSet (A : Option Addr) (c : Nat) (bs : List Int) (w : World) (h0 : InRow .u8 w A c bs) :
    Calls Try.prog 3 #[.slice A bs.length c] w fun e w' => e = .returned (.bool true) ∧ Below w.heap.size w w' := by
  have HB := hide h0.byte
  obtain ⟨h, hc, hc2, -⟩ := h0
  have H : Hid (Sl w A (bvs bs)) := h
  clear h
  by_cases hl : ¬ bs.length ≤ 1048576
  · go_enter Try.func3, Try.ntmps3
    go_wp2
    go_ret
    exact ⟨rfl, Below.refl _ _⟩
  have hl : bs.length ≤ 1048576 := by omega
  clear hc2
  go_enter Try.func3, Try.ntmps3
  go_wp2_with fail
  refine (drawCallSet_any A c bs _ H.out HB.out hl hc).mono ?_
  rintro e w1 ⟨P0, P1, P2, p0, p1, p2, C, kd, fl, t, rfl, P, ⟨l0, l1, l2⟩, b⟩
  have BW := hide b; replace P := hide P
  clear b
  go_wp2_with fail
  refine calls_name fun W1 hW => ?_
  have X3 := hide (Box.new' (g := w1.heap.size) hW rfl)
  have b : Below w1.heap.size w1 W1 := by rw [hW]; exact (Below.refl _ _).alloc (Nat.le_refl _) _
  replace P := hide (P.out.below b)
  replace BW := hide (bthen BW.out b)
  have zX3 := X3.out.lt
  clear b hW
  refine (implCallSet P0 P1 P2 p0 p1 p2 C kd fl t _ P.out.cr).mono ?_
  rintro e w2 ⟨Q0, Q1, Q2, q0, q1, q2, rfl, Q, b⟩
  replace Q := hide Q
  replace P := hide (P.out.below b)
  replace X3 := hide (X3.out.below b)
  replace BW := hide (bthen BW.out b)
  clear b
  have hfacts := hide fun h => setC_facts (C := C) (k := kd) (f := fl) (t := t) h
  have hnot := hide fun h => setC_not (C := C) (k := kd) (f := fl) (t := t) h
  have hlen := setC_len C kd fl t
  obtain ⟨D, hD⟩ : ∃ D, D = (setC C kd fl t).1 := ⟨_, rfl⟩
  obtain ⟨ok, hok⟩ : ∃ ok, ok = (setC C kd fl t).2 := ⟨_, rfl⟩
  rw [← hD, ← hok] at hfacts
  rw [← hD, ← hok] at hnot
  rw [← hD] at Q hlen ⊢
  rw [← hok]
  have HD := hide hD; have HOK := hide hok
  clear hD hok
  obtain ⟨m0, m1, m2⟩ := hlen
  have qd := eqC_self D
  have X3_lt := X3.out.lt
  have X3_c0 := X3.out.at (i := 0) rfl; have X3_f0 := X3.out.frozen 0
  have X3_c1 := X3.out.at (i := 1) rfl; have X3_f1 := X3.out.frozen 1
  have X3_c2 := X3.out.at (i := 2) rfl; have X3_f2 := X3.out.frozen 2
  go_wp2_with fail
  clear X3_lt X3_c0 X3_f0 X3_c1 X3_f1 X3_c2 X3_f2
  refine calls_name fun W2 hW => ?_
  have X7 := hide (Box.new' (g := w2.heap.size) hW rfl)
  have b : Below w2.heap.size w2 W2 := by rw [hW]; exact (Below.refl _ _).alloc (Nat.le_refl _) _
  replace P := hide (P.out.below b)
  replace X3 := hide (X3.out.below b)
  replace Q := hide (Q.out.below b)
  replace BW := hide (bthen BW.out b)
  have zX7 := X7.out.lt
  clear b hW
  refine (specCallSet P0 P1 P2 p0 p1 p2 C kd fl t _ P.out.cr).mono ?_
  rw [← HD.out, ← HOK.out]
  rintro e w3 ⟨R0, R1, R2, r0, r1, r2, rfl, R, b⟩
  replace R := hide R
  replace P := hide (P.out.below b)
  replace X3 := hide (X3.out.below b)
  replace Q := hide (Q.out.below b)
  replace X7 := hide (X7.out.below b)
  replace BW := hide (bthen BW.out b)
  clear b
  have X3_lt := X3.out.lt
  have X3_c0 := X3.out.at (i := 0) rfl; have X3_f0 := X3.out.frozen 0
  have X3_c1 := X3.out.at (i := 1) rfl; have X3_f1 := X3.out.frozen 1
  have X3_c2 := X3.out.at (i := 2) rfl; have X3_f2 := X3.out.frozen 2
  have X7_lt := X7.out.lt
  have X7_c0 := X7.out.at (i := 0) rfl; have X7_f0 := X7.out.frozen 0
  have X7_c1 := X7.out.at (i := 1) rfl; have X7_f1 := X7.out.frozen 1
  have X7_c2 := X7.out.at (i := 2) rfl; have X7_f2 := X7.out.frozen 2
  go_wp2_with fail
  clear X3_lt X3_c0 X3_f0 X3_c1 X3_f1 X3_c2 X3_f2
  clear X7_lt X7_c0 X7_f0 X7_c1 X7_f1 X7_c2 X7_f2
  refine calls_name fun W3 hW => ?_
  have X9 := hide (Box.new' (g := w3.heap.size) hW rfl)
  have b : Below w3.heap.size w3 W3 := by rw [hW]; exact (Below.refl _ _).alloc (Nat.le_refl _) _
  replace P := hide (P.out.below b)
  replace X3 := hide (X3.out.below b)
  replace Q := hide (Q.out.below b)
  replace X7 := hide (X7.out.below b)
  replace R := hide (R.out.below b)
  replace BW := hide (bthen BW.out b)
  have zX9 := X9.out.lt
  clear b hW
  refine (sameCalls_at Q0 Q1 Q2 q0 q1 q2 R0 R1 R2 r0 r1 r2 D D _ true qd Q.out.cr R.out.cr (by omega)).mono ?_
  rintro e w4 ⟨rfl, b⟩
  replace P := hide (P.out.below b)
  replace X3 := hide (X3.out.below b)
  replace Q := hide (Q.out.below b)
  replace X7 := hide (X7.out.below b)
  replace BW := hide (bthen BW.out b)
  clear b
  clear R X9 zX9
  cases ok
  · have hn := hnot.out rfl
    have X3_lt := X3.out.lt
    have X3_c0 := X3.out.at (i := 0) rfl; have X3_f0 := X3.out.frozen 0
    have X3_c1 := X3.out.at (i := 1) rfl; have X3_f1 := X3.out.frozen 1
    have X3_c2 := X3.out.at (i := 2) rfl; have X3_f2 := X3.out.frozen 2
    have X7_lt := X7.out.lt
    have X7_c0 := X7.out.at (i := 0) rfl; have X7_f0 := X7.out.frozen 0
    have X7_c1 := X7.out.at (i := 1) rfl; have X7_f1 := X7.out.frozen 1
    have X7_c2 := X7.out.at (i := 2) rfl; have X7_f2 := X7.out.frozen 2
    rcases hn with rfl | hz
    · go_wp2_with fail
      clear X3_lt X3_c0 X3_f0 X3_c1 X3_f1 X3_c2 X3_f2
      clear X7_lt X7_c0 X7_f0 X7_c1 X7_f1 X7_c2 X7_f2
      refine (sameCalls_at Q0 Q1 Q2 q0 q1 q2 P0 P1 P2 p0 p1 p2 D D _ true (eqC_self D) Q.out.cr P.out.cr (by omega)).mono ?_
      rintro e w5 ⟨rfl, b⟩
      replace BW := hide (bthen BW.out b)
      clear b
      go_wp2_with fail
      refine (alive_any _).mono ?_
      rintro e w9 ⟨rfl, b9⟩
      have B9 := hide b9
      clear b9
      go_wp2_with fail
      go_ret
      exact ⟨rfl, bthen BW.out B9.out⟩
    · have hz2 : D.car.length = 0 := by rw [hz]; rfl
      have HZ2 := hide hz2
      clear hz hz2
      go_wp2_with fail
      clear X3_lt X3_c0 X3_f0 X3_c1 X3_f1 X3_c2 X3_f2
      clear X7_lt X7_c0 X7_f0 X7_c1 X7_f1 X7_c2 X7_f2
      refine (sameCalls_any Q0 Q1 Q2 q0 q1 q2 P0 P1 P2 p0 p1 p2 D C _ Q.out.cr P.out.cr (by omega)).mono ?_
      rintro e w5 ⟨rfl, b⟩
      replace X7 := hide (X7.out.below b)
      replace BW := hide (bthen BW.out b)
      clear b
      have hz3 := HZ2.out
      have hz4 : ((D.car.length : Int) == 0) = true := by simp [hz3]
      clear hz3
      cases eqC D C
      all_goals
        have X7_lt := X7.out.lt
        have X7_c0 := X7.out.at (i := 0) rfl; have X7_f0 := X7.out.frozen 0
        have X7_c1 := X7.out.at (i := 1) rfl; have X7_f1 := X7.out.frozen 1
        have X7_c2 := X7.out.at (i := 2) rfl; have X7_f2 := X7.out.frozen 2
        go_wp2_with fail
        refine (alive_any _).mono ?_
        rintro e w9 ⟨rfl, b9⟩
        have B9 := hide b9
        clear b9
        go_wp2_with fail
        go_ret
        exact ⟨rfl, bthen BW.out B9.out⟩
  · have hf := hfacts.out rfl
    have HF := hide hf
    have hv := hf.1
    have hvc := hide (setC_parts (HOK.out.symm)).1
    have hl1 := setC_len D kd fl false; have hl2 := setC_len D kd fl true
    have hbd1 := manyB_bd hv; have hbd2 := manyB_bd hvc.out
    have hdif := hf.2.2.2.1
    clear hf hnot hfacts
    have X7_lt := X7.out.lt
    have X7_c0 := X7.out.at (i := 0) rfl; have X7_f0 := X7.out.frozen 0
    have X7_c1 := X7.out.at (i := 1) rfl; have X7_f1 := X7.out.frozen 1
    have X7_c2 := X7.out.at (i := 2) rfl; have X7_f2 := X7.out.frozen 2
    go_wp2_with fail
    clear X7_lt X7_c0 X7_f0 X7_c1 X7_f1 X7_c2 X7_f2
    refine (implCallSet Q0 Q1 Q2 q0 q1 q2 D kd fl false _ Q.out.cr).mono ?_
    rw [HF.out.2.1]
    rintro e w5 ⟨U0, U1, U2, u0, u1, u2, rfl, U, b⟩
    replace U := hide U
    replace P := hide (P.out.below b)
    replace X3 := hide (X3.out.below b)
    replace Q := hide (Q.out.below b)
    replace X7 := hide (X7.out.below b)
    replace BW := hide (bthen BW.out b)
    clear b
    obtain ⟨E1, hE1⟩ : ∃ E1, E1 = (setC D kd fl false).1 := ⟨_, rfl⟩
    rw [← hE1] at U HF hl1 ⊢
    clear hE1
    have X7_lt := X7.out.lt
    have X7_c0 := X7.out.at (i := 0) rfl; have X7_f0 := X7.out.frozen 0
    have X7_c1 := X7.out.at (i := 1) rfl; have X7_f1 := X7.out.frozen 1
    have X7_c2 := X7.out.at (i := 2) rfl; have X7_f2 := X7.out.frozen 2
    go_wp2_with fail
    clear X7_lt X7_c0 X7_f0 X7_c1 X7_f1 X7_c2 X7_f2
    refine calls_name fun W5 hW => ?_
    have X11 := hide (Box.new' (g := w5.heap.size) hW rfl)
    have b : Below w5.heap.size w5 W5 := by rw [hW]; exact (Below.refl _ _).alloc (Nat.le_refl _) _
    replace P := hide (P.out.below b)
    replace X3 := hide (X3.out.below b)
    replace Q := hide (Q.out.below b)
    replace X7 := hide (X7.out.below b)
    replace U := hide (U.out.below b)
    replace BW := hide (bthen BW.out b)
    have zX11 := X11.out.lt
    clear b hW
    refine (implCallSet Q0 Q1 Q2 q0 q1 q2 D kd fl true _ Q.out.cr).mono ?_
    rintro e w6 ⟨V0, V1, V2, v0, v1, v2, rfl, V, b⟩
    replace V := hide V
    replace P := hide (P.out.below b)
    replace X3 := hide (X3.out.below b)
    replace Q := hide (Q.out.below b)
    replace X7 := hide (X7.out.below b)
    replace U := hide (U.out.below b)
    replace X11 := hide (X11.out.below b)
    replace BW := hide (bthen BW.out b)
    clear b
    obtain ⟨E2, hE2⟩ : ∃ E2, E2 = (setC D kd fl true).1 := ⟨_, rfl⟩
    obtain ⟨b2, hb2⟩ : ∃ b2, b2 = (setC D kd fl true).2 := ⟨_, rfl⟩
    rw [← hE2, ← hb2] at HF
    rw [← hE2] at V hl2 ⊢
    rw [← hb2]
    clear hE2 hb2
    obtain ⟨i0, i1, i2⟩ := hl1
    obtain ⟨j0, j1, j2⟩ := hl2
    obtain ⟨dd, hdd⟩ : ∃ dd, dd = manyB D - manyB C := ⟨_, rfl⟩
    have hwd : IntKind.i64.wrap (manyB D - manyB C) = dd := by rw [hdd]; exact IntWalk.i64_in _ (by omega)
    rw [← hdd] at hdif
    obtain ⟨hd1, hd2⟩ := hdif
    clear hdd hbd1 hbd2
    have X7_lt := X7.out.lt
    have X7_c0 := X7.out.at (i := 0) rfl; have X7_f0 := X7.out.frozen 0
    have X7_c1 := X7.out.at (i := 1) rfl; have X7_f1 := X7.out.frozen 1
    have X7_c2 := X7.out.at (i := 2) rfl; have X7_f2 := X7.out.frozen 2
    go_upto_region 12 with fail
    clear X7_lt X7_c0 X7_f0 X7_c1 X7_f1 X7_c2 X7_f2
    refine code_name fun W6 hW => ?_
    have X13 := hide (Box.new' (g := w6.heap.size) hW rfl)
    have b : Below w6.heap.size w6 W6 := by rw [hW]; exact (Below.refl _ _).alloc (Nat.le_refl _) _
    replace P := hide (P.out.below b)
    replace X3 := hide (X3.out.below b)
    replace Q := hide (Q.out.below b)
    replace X7 := hide (X7.out.below b)
    replace U := hide (U.out.below b)
    replace X11 := hide (X11.out.below b)
    replace V := hide (V.out.below b)
    replace BW := hide (bthen BW.out b)
    clear b hW
    have HQ : Hid (CR W6.drew Q0 Q1 Q2 D) := Q.out.cr.below (below_drewN (Below.refl _ _) 1)
    have HP : Hid (CR W6.drew P0 P1 P2 C) := P.out.cr.below (below_drewN (Below.refl _ _) 1)
    have XA := hide X3.out.drew; have XB := hide X7.out.drew
    have X3_lt := X3.out.lt
    have X3_c0 := X3.out.at (i := 0) rfl; have X3_f0 := X3.out.frozen 0
    have X3_c1 := X3.out.at (i := 1) rfl; have X3_f1 := X3.out.frozen 1
    have X3_c2 := X3.out.at (i := 2) rfl; have X3_f2 := X3.out.frozen 2
    have X7_lt := X7.out.lt
    have X7_c0 := X7.out.at (i := 0) rfl; have X7_f0 := X7.out.frozen 0
    have X7_c1 := X7.out.at (i := 1) rfl; have X7_f1 := X7.out.frozen 1
    have X7_c2 := X7.out.at (i := 2) rfl; have X7_f2 := X7.out.frozen 2
    go_region_held3 (fun W => (W.cell? ⟨w1.heap.size, 0, none⟩ = some (.slice P0 C.up.length p0) ∧ W.cell? ⟨w1.heap.size, 1, none⟩ = some (.slice P1 C.dn.length p1) ∧ W.cell? ⟨w1.heap.size, 2, none⟩ = some (.slice P2 C.car.length p2)) ∧ W.cell? ⟨w2.heap.size, 0, none⟩ = some (.slice Q0 D.up.length q0) ∧ W.cell? ⟨w2.heap.size, 1, none⟩ = some (.slice Q1 D.dn.length q1) ∧ W.cell? ⟨w2.heap.size, 2, none⟩ = some (.slice Q2 D.car.length q2)) (first | (go_keep; done) | exact ⟨⟨(XA.out.below b8.out).at rfl, (XA.out.below b8.out).at rfl, (XA.out.below b8.out).at rfl⟩, (XB.out.below b8.out).at rfl, (XB.out.below b8.out).at rfl, (XB.out.below b8.out).at rfl⟩ | exact ⟨⟨(XA.out.below b7.out).at rfl, (XA.out.below b7.out).at rfl, (XA.out.below b7.out).at rfl⟩, (XB.out.below b7.out).at rfl, (XB.out.below b7.out).at rfl, (XB.out.below b7.out).at rfl⟩) (first | (go_at_call 10; (with_reducible refine (implCallsMany Q0 Q1 Q2 q0 q1 q2 D W6.drew HQ.out).mono ?_); rintro e w7 ⟨rfl, b7⟩; replace b7 := hide b7) | (go_at_call 10; (with_reducible refine (implCallsMany P0 P1 P2 p0 p1 p2 C w7 (HP.out.below b7.out)).mono ?_); rintro e w8 ⟨rfl, b8⟩; replace b8 := hide (bthen b7.out b8)))
    have b : Below W6.heap.size W6 w8 := (below_drewN (Below.refl _ _) 1).trans b8.out
    replace P := hide (P.out.below b)
    replace X3 := hide (X3.out.below b)
    replace Q := hide (Q.out.below b)
    replace X7 := hide (X7.out.below b)
    replace U := hide (U.out.below b)
    replace X11 := hide (X11.out.below b)
    replace V := hide (V.out.below b)
    replace X13 := hide (X13.out.below b)
    replace BW := hide (bthen BW.out b)
    clear b
    clear HQ HP XA XB b7 b8 X3_lt X3_c0 X3_f0 X3_c1 X3_f1 X3_c2 X3_f2 X7_lt X7_c0 X7_f0 X7_c1 X7_f1 X7_c2 X7_f2
    have X3_lt := X3.out.lt
    have X3_c0 := X3.out.at (i := 0) rfl; have X3_f0 := X3.out.frozen 0
    have X3_c1 := X3.out.at (i := 1) rfl; have X3_f1 := X3.out.frozen 1
    have X3_c2 := X3.out.at (i := 2) rfl; have X3_f2 := X3.out.frozen 2
    have X7_lt := X7.out.lt
    have X7_c0 := X7.out.at (i := 0) rfl; have X7_f0 := X7.out.frozen 0
    have X7_c1 := X7.out.at (i := 1) rfl; have X7_f1 := X7.out.frozen 1
    have X7_c2 := X7.out.at (i := 2) rfl; have X7_f2 := X7.out.frozen 2
    have X11_lt := X11.out.lt
    have X11_c0 := X11.out.at (i := 0) rfl; have X11_f0 := X11.out.frozen 0
    have X11_c1 := X11.out.at (i := 1) rfl; have X11_f1 := X11.out.frozen 1
    have X11_c2 := X11.out.at (i := 2) rfl; have X11_f2 := X11.out.frozen 2
    have X13_lt := X13.out.lt
    have X13_c0 := X13.out.at (i := 0) rfl; have X13_f0 := X13.out.frozen 0
    have X13_c1 := X13.out.at (i := 1) rfl; have X13_f1 := X13.out.frozen 1
    have X13_c2 := X13.out.at (i := 2) rfl; have X13_f2 := X13.out.frozen 2
    go_wp2_with fail
    clear X3_lt X3_c0 X3_f0 X3_c1 X3_f1 X3_c2 X3_f2
    clear X7_lt X7_c0 X7_f0 X7_c1 X7_f1 X7_c2 X7_f2
    clear X11_lt X11_c0 X11_f0 X11_c1 X11_f1 X11_c2 X11_f2
    clear X13_lt X13_c0 X13_f0 X13_c1 X13_f1 X13_c2 X13_f2
    refine (implCallsValid Q0 Q1 Q2 q0 q1 q2 D _ Q.out.cr).mono ?_
    rintro e w8 ⟨rfl, b⟩
    replace P := hide (P.out.below b)
    replace X3 := hide (X3.out.below b)
    replace Q := hide (Q.out.below b)
    replace X7 := hide (X7.out.below b)
    replace U := hide (U.out.below b)
    replace X11 := hide (X11.out.below b)
    replace V := hide (V.out.below b)
    replace X13 := hide (X13.out.below b)
    replace BW := hide (bthen BW.out b)
    clear b
    have hon : b2 = false ∨ (b2 = true ∧ eqC E2 C = true) ∨ (b2 = true ∧ eqC E2 C = false ∧ eqC E1 C = true) := by
      cases b2
      · exact .inl rfl
      · rcases HF.out.2.2.1 rfl with h | h
        · exact .inr (.inl ⟨rfl, h⟩)
        · cases h2 : eqC E2 C
          · exact .inr (.inr ⟨rfl, rfl, h⟩)
          · exact .inr (.inl ⟨rfl, rfl⟩)
    have hT := hide HF.out.2.2.2.2.1; have hN := hide HF.out.2.2.2.2.2
    clear hv
    have HV1 := hide HF.out.1
    rw [HV1.out]
    cases t
    · have hN1 := hide (hN.out rfl)
      rcases hon with rfl | ⟨rfl, h2⟩ | ⟨rfl, h2, h3⟩
      · have X3_lt := X3.out.lt
        have X3_c0 := X3.out.at (i := 0) rfl; have X3_f0 := X3.out.frozen 0
        have X3_c1 := X3.out.at (i := 1) rfl; have X3_f1 := X3.out.frozen 1
        have X3_c2 := X3.out.at (i := 2) rfl; have X3_f2 := X3.out.frozen 2
        have X7_lt := X7.out.lt
        have X7_c0 := X7.out.at (i := 0) rfl; have X7_f0 := X7.out.frozen 0
        have X7_c1 := X7.out.at (i := 1) rfl; have X7_f1 := X7.out.frozen 1
        have X7_c2 := X7.out.at (i := 2) rfl; have X7_f2 := X7.out.frozen 2
        have X11_lt := X11.out.lt
        have X11_c0 := X11.out.at (i := 0) rfl; have X11_f0 := X11.out.frozen 0
        have X11_c1 := X11.out.at (i := 1) rfl; have X11_f1 := X11.out.frozen 1
        have X11_c2 := X11.out.at (i := 2) rfl; have X11_f2 := X11.out.frozen 2
        have X13_lt := X13.out.lt
        have X13_c0 := X13.out.at (i := 0) rfl; have X13_f0 := X13.out.frozen 0
        have X13_c1 := X13.out.at (i := 1) rfl; have X13_f1 := X13.out.frozen 1
        have X13_c2 := X13.out.at (i := 2) rfl; have X13_f2 := X13.out.frozen 2
        go_wp2_with fail
        clear X3_lt X3_c0 X3_f0 X3_c1 X3_f1 X3_c2 X3_f2
        clear X7_lt X7_c0 X7_f0 X7_c1 X7_f1 X7_c2 X7_f2
        clear X11_lt X11_c0 X11_f0 X11_c1 X11_f1 X11_c2 X11_f2
        clear X13_lt X13_c0 X13_f0 X13_c1 X13_f1 X13_c2 X13_f2
        refine (sameCalls_at U0 U1 U2 u0 u1 u2 Q0 Q1 Q2 q0 q1 q2 E1 D _ true hN1.out U.out.cr Q.out.cr (by omega)).mono ?_
        rintro e w8 ⟨rfl, b⟩
        replace P := hide (P.out.below b)
        replace X3 := hide (X3.out.below b)
        replace Q := hide (Q.out.below b)
        replace X7 := hide (X7.out.below b)
        replace U := hide (U.out.below b)
        replace X11 := hide (X11.out.below b)
        replace V := hide (V.out.below b)
        replace X13 := hide (X13.out.below b)
        replace BW := hide (bthen BW.out b)
        clear b
        have X3_lt := X3.out.lt
        have X3_c0 := X3.out.at (i := 0) rfl; have X3_f0 := X3.out.frozen 0
        have X3_c1 := X3.out.at (i := 1) rfl; have X3_f1 := X3.out.frozen 1
        have X3_c2 := X3.out.at (i := 2) rfl; have X3_f2 := X3.out.frozen 2
        have X7_lt := X7.out.lt
        have X7_c0 := X7.out.at (i := 0) rfl; have X7_f0 := X7.out.frozen 0
        have X7_c1 := X7.out.at (i := 1) rfl; have X7_f1 := X7.out.frozen 1
        have X7_c2 := X7.out.at (i := 2) rfl; have X7_f2 := X7.out.frozen 2
        have X11_lt := X11.out.lt
        have X11_c0 := X11.out.at (i := 0) rfl; have X11_f0 := X11.out.frozen 0
        have X11_c1 := X11.out.at (i := 1) rfl; have X11_f1 := X11.out.frozen 1
        have X11_c2 := X11.out.at (i := 2) rfl; have X11_f2 := X11.out.frozen 2
        have X13_lt := X13.out.lt
        have X13_c0 := X13.out.at (i := 0) rfl; have X13_f0 := X13.out.frozen 0
        have X13_c1 := X13.out.at (i := 1) rfl; have X13_f1 := X13.out.frozen 1
        have X13_c2 := X13.out.at (i := 2) rfl; have X13_f2 := X13.out.frozen 2
        go_wp2_with fail
        go_ret
        exact ⟨rfl, BW.out⟩
      · have H2 := hide h2
        clear h2
        have X3_lt := X3.out.lt
        have X3_c0 := X3.out.at (i := 0) rfl; have X3_f0 := X3.out.frozen 0
        have X3_c1 := X3.out.at (i := 1) rfl; have X3_f1 := X3.out.frozen 1
        have X3_c2 := X3.out.at (i := 2) rfl; have X3_f2 := X3.out.frozen 2
        have X7_lt := X7.out.lt
        have X7_c0 := X7.out.at (i := 0) rfl; have X7_f0 := X7.out.frozen 0
        have X7_c1 := X7.out.at (i := 1) rfl; have X7_f1 := X7.out.frozen 1
        have X7_c2 := X7.out.at (i := 2) rfl; have X7_f2 := X7.out.frozen 2
        have X11_lt := X11.out.lt
        have X11_c0 := X11.out.at (i := 0) rfl; have X11_f0 := X11.out.frozen 0
        have X11_c1 := X11.out.at (i := 1) rfl; have X11_f1 := X11.out.frozen 1
        have X11_c2 := X11.out.at (i := 2) rfl; have X11_f2 := X11.out.frozen 2
        have X13_lt := X13.out.lt
        have X13_c0 := X13.out.at (i := 0) rfl; have X13_f0 := X13.out.frozen 0
        have X13_c1 := X13.out.at (i := 1) rfl; have X13_f1 := X13.out.frozen 1
        have X13_c2 := X13.out.at (i := 2) rfl; have X13_f2 := X13.out.frozen 2
        go_wp2_with fail
        clear X3_lt X3_c0 X3_f0 X3_c1 X3_f1 X3_c2 X3_f2
        clear X7_lt X7_c0 X7_f0 X7_c1 X7_f1 X7_c2 X7_f2
        clear X11_lt X11_c0 X11_f0 X11_c1 X11_f1 X11_c2 X11_f2
        clear X13_lt X13_c0 X13_f0 X13_c1 X13_f1 X13_c2 X13_f2
        refine (sameCalls_at V0 V1 V2 v0 v1 v2 P0 P1 P2 p0 p1 p2 E2 C _ true H2.out V.out.cr P.out.cr (by omega)).mono ?_
        rintro e w8 ⟨rfl, b⟩
        replace P := hide (P.out.below b)
        replace X3 := hide (X3.out.below b)
        replace Q := hide (Q.out.below b)
        replace X7 := hide (X7.out.below b)
        replace U := hide (U.out.below b)
        replace X11 := hide (X11.out.below b)
        replace V := hide (V.out.below b)
        replace X13 := hide (X13.out.below b)
        replace BW := hide (bthen BW.out b)
        clear b
        have X3_lt := X3.out.lt
        have X3_c0 := X3.out.at (i := 0) rfl; have X3_f0 := X3.out.frozen 0
        have X3_c1 := X3.out.at (i := 1) rfl; have X3_f1 := X3.out.frozen 1
        have X3_c2 := X3.out.at (i := 2) rfl; have X3_f2 := X3.out.frozen 2
        have X7_lt := X7.out.lt
        have X7_c0 := X7.out.at (i := 0) rfl; have X7_f0 := X7.out.frozen 0
        have X7_c1 := X7.out.at (i := 1) rfl; have X7_f1 := X7.out.frozen 1
        have X7_c2 := X7.out.at (i := 2) rfl; have X7_f2 := X7.out.frozen 2
        have X11_lt := X11.out.lt
        have X11_c0 := X11.out.at (i := 0) rfl; have X11_f0 := X11.out.frozen 0
        have X11_c1 := X11.out.at (i := 1) rfl; have X11_f1 := X11.out.frozen 1
        have X11_c2 := X11.out.at (i := 2) rfl; have X11_f2 := X11.out.frozen 2
        have X13_lt := X13.out.lt
        have X13_c0 := X13.out.at (i := 0) rfl; have X13_f0 := X13.out.frozen 0
        have X13_c1 := X13.out.at (i := 1) rfl; have X13_f1 := X13.out.frozen 1
        have X13_c2 := X13.out.at (i := 2) rfl; have X13_f2 := X13.out.frozen 2
        go_wp2_with fail
        clear X3_lt X3_c0 X3_f0 X3_c1 X3_f1 X3_c2 X3_f2
        clear X7_lt X7_c0 X7_f0 X7_c1 X7_f1 X7_c2 X7_f2
        clear X11_lt X11_c0 X11_f0 X11_c1 X11_f1 X11_c2 X11_f2
        clear X13_lt X13_c0 X13_f0 X13_c1 X13_f1 X13_c2 X13_f2
        refine (sameCalls_at U0 U1 U2 u0 u1 u2 Q0 Q1 Q2 q0 q1 q2 E1 D _ true hN1.out U.out.cr Q.out.cr (by omega)).mono ?_
        rintro e w8 ⟨rfl, b⟩
        replace P := hide (P.out.below b)
        replace X3 := hide (X3.out.below b)
        replace Q := hide (Q.out.below b)
        replace X7 := hide (X7.out.below b)
        replace U := hide (U.out.below b)
        replace X11 := hide (X11.out.below b)
        replace V := hide (V.out.below b)
        replace X13 := hide (X13.out.below b)
        replace BW := hide (bthen BW.out b)
        clear b
        have X3_lt := X3.out.lt
        have X3_c0 := X3.out.at (i := 0) rfl; have X3_f0 := X3.out.frozen 0
        have X3_c1 := X3.out.at (i := 1) rfl; have X3_f1 := X3.out.frozen 1
        have X3_c2 := X3.out.at (i := 2) rfl; have X3_f2 := X3.out.frozen 2
        have X7_lt := X7.out.lt
        have X7_c0 := X7.out.at (i := 0) rfl; have X7_f0 := X7.out.frozen 0
        have X7_c1 := X7.out.at (i := 1) rfl; have X7_f1 := X7.out.frozen 1
        have X7_c2 := X7.out.at (i := 2) rfl; have X7_f2 := X7.out.frozen 2
        have X11_lt := X11.out.lt
        have X11_c0 := X11.out.at (i := 0) rfl; have X11_f0 := X11.out.frozen 0
        have X11_c1 := X11.out.at (i := 1) rfl; have X11_f1 := X11.out.frozen 1
        have X11_c2 := X11.out.at (i := 2) rfl; have X11_f2 := X11.out.frozen 2
        have X13_lt := X13.out.lt
        have X13_c0 := X13.out.at (i := 0) rfl; have X13_f0 := X13.out.frozen 0
        have X13_c1 := X13.out.at (i := 1) rfl; have X13_f1 := X13.out.frozen 1
        have X13_c2 := X13.out.at (i := 2) rfl; have X13_f2 := X13.out.frozen 2
        go_wp2_with fail
        go_ret
        exact ⟨rfl, BW.out⟩
      · have H2 := hide h2; have H3 := hide h3
        clear h2 h3
        have X3_lt := X3.out.lt
        have X3_c0 := X3.out.at (i := 0) rfl; have X3_f0 := X3.out.frozen 0
        have X3_c1 := X3.out.at (i := 1) rfl; have X3_f1 := X3.out.frozen 1
        have X3_c2 := X3.out.at (i := 2) rfl; have X3_f2 := X3.out.frozen 2
        have X7_lt := X7.out.lt
        have X7_c0 := X7.out.at (i := 0) rfl; have X7_f0 := X7.out.frozen 0
        have X7_c1 := X7.out.at (i := 1) rfl; have X7_f1 := X7.out.frozen 1
        have X7_c2 := X7.out.at (i := 2) rfl; have X7_f2 := X7.out.frozen 2
        have X11_lt := X11.out.lt
        have X11_c0 := X11.out.at (i := 0) rfl; have X11_f0 := X11.out.frozen 0
        have X11_c1 := X11.out.at (i := 1) rfl; have X11_f1 := X11.out.frozen 1
        have X11_c2 := X11.out.at (i := 2) rfl; have X11_f2 := X11.out.frozen 2
        have X13_lt := X13.out.lt
        have X13_c0 := X13.out.at (i := 0) rfl; have X13_f0 := X13.out.frozen 0
        have X13_c1 := X13.out.at (i := 1) rfl; have X13_f1 := X13.out.frozen 1
        have X13_c2 := X13.out.at (i := 2) rfl; have X13_f2 := X13.out.frozen 2
        go_wp2_with fail
        clear X3_lt X3_c0 X3_f0 X3_c1 X3_f1 X3_c2 X3_f2
        clear X7_lt X7_c0 X7_f0 X7_c1 X7_f1 X7_c2 X7_f2
        clear X11_lt X11_c0 X11_f0 X11_c1 X11_f1 X11_c2 X11_f2
        clear X13_lt X13_c0 X13_f0 X13_c1 X13_f1 X13_c2 X13_f2
        refine (sameCalls_at V0 V1 V2 v0 v1 v2 P0 P1 P2 p0 p1 p2 E2 C _ false H2.out V.out.cr P.out.cr (by omega)).mono ?_
        rintro e w8 ⟨rfl, b⟩
        replace P := hide (P.out.below b)
        replace X3 := hide (X3.out.below b)
        replace Q := hide (Q.out.below b)
        replace X7 := hide (X7.out.below b)
        replace U := hide (U.out.below b)
        replace X11 := hide (X11.out.below b)
        replace V := hide (V.out.below b)
        replace X13 := hide (X13.out.below b)
        replace BW := hide (bthen BW.out b)
        clear b
        have X3_lt := X3.out.lt
        have X3_c0 := X3.out.at (i := 0) rfl; have X3_f0 := X3.out.frozen 0
        have X3_c1 := X3.out.at (i := 1) rfl; have X3_f1 := X3.out.frozen 1
        have X3_c2 := X3.out.at (i := 2) rfl; have X3_f2 := X3.out.frozen 2
        have X7_lt := X7.out.lt
        have X7_c0 := X7.out.at (i := 0) rfl; have X7_f0 := X7.out.frozen 0
        have X7_c1 := X7.out.at (i := 1) rfl; have X7_f1 := X7.out.frozen 1
        have X7_c2 := X7.out.at (i := 2) rfl; have X7_f2 := X7.out.frozen 2
        have X11_lt := X11.out.lt
        have X11_c0 := X11.out.at (i := 0) rfl; have X11_f0 := X11.out.frozen 0
        have X11_c1 := X11.out.at (i := 1) rfl; have X11_f1 := X11.out.frozen 1
        have X11_c2 := X11.out.at (i := 2) rfl; have X11_f2 := X11.out.frozen 2
        have X13_lt := X13.out.lt
        have X13_c0 := X13.out.at (i := 0) rfl; have X13_f0 := X13.out.frozen 0
        have X13_c1 := X13.out.at (i := 1) rfl; have X13_f1 := X13.out.frozen 1
        have X13_c2 := X13.out.at (i := 2) rfl; have X13_f2 := X13.out.frozen 2
        go_wp2_with fail
        clear X3_lt X3_c0 X3_f0 X3_c1 X3_f1 X3_c2 X3_f2
        clear X7_lt X7_c0 X7_f0 X7_c1 X7_f1 X7_c2 X7_f2
        clear X11_lt X11_c0 X11_f0 X11_c1 X11_f1 X11_c2 X11_f2
        clear X13_lt X13_c0 X13_f0 X13_c1 X13_f1 X13_c2 X13_f2
        refine (sameCalls_at U0 U1 U2 u0 u1 u2 P0 P1 P2 p0 p1 p2 E1 C _ true H3.out U.out.cr P.out.cr (by omega)).mono ?_
        rintro e w8 ⟨rfl, b⟩
        replace P := hide (P.out.below b)
        replace X3 := hide (X3.out.below b)
        replace Q := hide (Q.out.below b)
        replace X7 := hide (X7.out.below b)
        replace U := hide (U.out.below b)
        replace X11 := hide (X11.out.below b)
        replace V := hide (V.out.below b)
        replace X13 := hide (X13.out.below b)
        replace BW := hide (bthen BW.out b)
        clear b
        have X3_lt := X3.out.lt
        have X3_c0 := X3.out.at (i := 0) rfl; have X3_f0 := X3.out.frozen 0
        have X3_c1 := X3.out.at (i := 1) rfl; have X3_f1 := X3.out.frozen 1
        have X3_c2 := X3.out.at (i := 2) rfl; have X3_f2 := X3.out.frozen 2
        have X7_lt := X7.out.lt
        have X7_c0 := X7.out.at (i := 0) rfl; have X7_f0 := X7.out.frozen 0
        have X7_c1 := X7.out.at (i := 1) rfl; have X7_f1 := X7.out.frozen 1
        have X7_c2 := X7.out.at (i := 2) rfl; have X7_f2 := X7.out.frozen 2
        have X11_lt := X11.out.lt
        have X11_c0 := X11.out.at (i := 0) rfl; have X11_f0 := X11.out.frozen 0
        have X11_c1 := X11.out.at (i := 1) rfl; have X11_f1 := X11.out.frozen 1
        have X11_c2 := X11.out.at (i := 2) rfl; have X11_f2 := X11.out.frozen 2
        have X13_lt := X13.out.lt
        have X13_c0 := X13.out.at (i := 0) rfl; have X13_f0 := X13.out.frozen 0
        have X13_c1 := X13.out.at (i := 1) rfl; have X13_f1 := X13.out.frozen 1
        have X13_c2 := X13.out.at (i := 2) rfl; have X13_f2 := X13.out.frozen 2
        go_wp2_with fail
        clear X3_lt X3_c0 X3_f0 X3_c1 X3_f1 X3_c2 X3_f2
        clear X7_lt X7_c0 X7_f0 X7_c1 X7_f1 X7_c2 X7_f2
        clear X11_lt X11_c0 X11_f0 X11_c1 X11_f1 X11_c2 X11_f2
        clear X13_lt X13_c0 X13_f0 X13_c1 X13_f1 X13_c2 X13_f2
        refine (sameCalls_at U0 U1 U2 u0 u1 u2 Q0 Q1 Q2 q0 q1 q2 E1 D _ true hN1.out U.out.cr Q.out.cr (by omega)).mono ?_
        rintro e w8 ⟨rfl, b⟩
        replace P := hide (P.out.below b)
        replace X3 := hide (X3.out.below b)
        replace Q := hide (Q.out.below b)
        replace X7 := hide (X7.out.below b)
        replace U := hide (U.out.below b)
        replace X11 := hide (X11.out.below b)
        replace V := hide (V.out.below b)
        replace X13 := hide (X13.out.below b)
        replace BW := hide (bthen BW.out b)
        clear b
        have X3_lt := X3.out.lt
        have X3_c0 := X3.out.at (i := 0) rfl; have X3_f0 := X3.out.frozen 0
        have X3_c1 := X3.out.at (i := 1) rfl; have X3_f1 := X3.out.frozen 1
        have X3_c2 := X3.out.at (i := 2) rfl; have X3_f2 := X3.out.frozen 2
        have X7_lt := X7.out.lt
        have X7_c0 := X7.out.at (i := 0) rfl; have X7_f0 := X7.out.frozen 0
        have X7_c1 := X7.out.at (i := 1) rfl; have X7_f1 := X7.out.frozen 1
        have X7_c2 := X7.out.at (i := 2) rfl; have X7_f2 := X7.out.frozen 2
        have X11_lt := X11.out.lt
        have X11_c0 := X11.out.at (i := 0) rfl; have X11_f0 := X11.out.frozen 0
        have X11_c1 := X11.out.at (i := 1) rfl; have X11_f1 := X11.out.frozen 1
        have X11_c2 := X11.out.at (i := 2) rfl; have X11_f2 := X11.out.frozen 2
        have X13_lt := X13.out.lt
        have X13_c0 := X13.out.at (i := 0) rfl; have X13_f0 := X13.out.frozen 0
        have X13_c1 := X13.out.at (i := 1) rfl; have X13_f1 := X13.out.frozen 1
        have X13_c2 := X13.out.at (i := 2) rfl; have X13_f2 := X13.out.frozen 2
        go_wp2_with fail
        go_ret
        exact ⟨rfl, BW.out⟩
    · have hT1 := hide (hT.out rfl).2
      have hb2 := (hT.out rfl).1
      subst hb2
      rcases hon with h | ⟨-, h2⟩ | ⟨-, h2, h3⟩
      · cases h
      · have H2 := hide h2
        clear h2
        have X3_lt := X3.out.lt
        have X3_c0 := X3.out.at (i := 0) rfl; have X3_f0 := X3.out.frozen 0
        have X3_c1 := X3.out.at (i := 1) rfl; have X3_f1 := X3.out.frozen 1
        have X3_c2 := X3.out.at (i := 2) rfl; have X3_f2 := X3.out.frozen 2
        have X7_lt := X7.out.lt
        have X7_c0 := X7.out.at (i := 0) rfl; have X7_f0 := X7.out.frozen 0
        have X7_c1 := X7.out.at (i := 1) rfl; have X7_f1 := X7.out.frozen 1
        have X7_c2 := X7.out.at (i := 2) rfl; have X7_f2 := X7.out.frozen 2
        have X11_lt := X11.out.lt
        have X11_c0 := X11.out.at (i := 0) rfl; have X11_f0 := X11.out.frozen 0
        have X11_c1 := X11.out.at (i := 1) rfl; have X11_f1 := X11.out.frozen 1
        have X11_c2 := X11.out.at (i := 2) rfl; have X11_f2 := X11.out.frozen 2
        have X13_lt := X13.out.lt
        have X13_c0 := X13.out.at (i := 0) rfl; have X13_f0 := X13.out.frozen 0
        have X13_c1 := X13.out.at (i := 1) rfl; have X13_f1 := X13.out.frozen 1
        have X13_c2 := X13.out.at (i := 2) rfl; have X13_f2 := X13.out.frozen 2
        go_wp2_with fail
        clear X3_lt X3_c0 X3_f0 X3_c1 X3_f1 X3_c2 X3_f2
        clear X7_lt X7_c0 X7_f0 X7_c1 X7_f1 X7_c2 X7_f2
        clear X11_lt X11_c0 X11_f0 X11_c1 X11_f1 X11_c2 X11_f2
        clear X13_lt X13_c0 X13_f0 X13_c1 X13_f1 X13_c2 X13_f2
        refine (sameCalls_at V0 V1 V2 v0 v1 v2 P0 P1 P2 p0 p1 p2 E2 C _ true H2.out V.out.cr P.out.cr (by omega)).mono ?_
        rintro e w8 ⟨rfl, b⟩
        replace P := hide (P.out.below b)
        replace X3 := hide (X3.out.below b)
        replace Q := hide (Q.out.below b)
        replace X7 := hide (X7.out.below b)
        replace U := hide (U.out.below b)
        replace X11 := hide (X11.out.below b)
        replace V := hide (V.out.below b)
        replace X13 := hide (X13.out.below b)
        replace BW := hide (bthen BW.out b)
        clear b
        have X3_lt := X3.out.lt
        have X3_c0 := X3.out.at (i := 0) rfl; have X3_f0 := X3.out.frozen 0
        have X3_c1 := X3.out.at (i := 1) rfl; have X3_f1 := X3.out.frozen 1
        have X3_c2 := X3.out.at (i := 2) rfl; have X3_f2 := X3.out.frozen 2
        have X7_lt := X7.out.lt
        have X7_c0 := X7.out.at (i := 0) rfl; have X7_f0 := X7.out.frozen 0
        have X7_c1 := X7.out.at (i := 1) rfl; have X7_f1 := X7.out.frozen 1
        have X7_c2 := X7.out.at (i := 2) rfl; have X7_f2 := X7.out.frozen 2
        have X11_lt := X11.out.lt
        have X11_c0 := X11.out.at (i := 0) rfl; have X11_f0 := X11.out.frozen 0
        have X11_c1 := X11.out.at (i := 1) rfl; have X11_f1 := X11.out.frozen 1
        have X11_c2 := X11.out.at (i := 2) rfl; have X11_f2 := X11.out.frozen 2
        have X13_lt := X13.out.lt
        have X13_c0 := X13.out.at (i := 0) rfl; have X13_f0 := X13.out.frozen 0
        have X13_c1 := X13.out.at (i := 1) rfl; have X13_f1 := X13.out.frozen 1
        have X13_c2 := X13.out.at (i := 2) rfl; have X13_f2 := X13.out.frozen 2
        go_wp2_with fail
        clear X3_lt X3_c0 X3_f0 X3_c1 X3_f1 X3_c2 X3_f2
        clear X7_lt X7_c0 X7_f0 X7_c1 X7_f1 X7_c2 X7_f2
        clear X11_lt X11_c0 X11_f0 X11_c1 X11_f1 X11_c2 X11_f2
        clear X13_lt X13_c0 X13_f0 X13_c1 X13_f1 X13_c2 X13_f2
        refine (sameCalls_at V0 V1 V2 v0 v1 v2 Q0 Q1 Q2 q0 q1 q2 E2 D _ true hT1.out V.out.cr Q.out.cr (by omega)).mono ?_
        rintro e w8 ⟨rfl, b⟩
        replace P := hide (P.out.below b)
        replace X3 := hide (X3.out.below b)
        replace Q := hide (Q.out.below b)
        replace X7 := hide (X7.out.below b)
        replace U := hide (U.out.below b)
        replace X11 := hide (X11.out.below b)
        replace V := hide (V.out.below b)
        replace X13 := hide (X13.out.below b)
        replace BW := hide (bthen BW.out b)
        clear b
        have X3_lt := X3.out.lt
        have X3_c0 := X3.out.at (i := 0) rfl; have X3_f0 := X3.out.frozen 0
        have X3_c1 := X3.out.at (i := 1) rfl; have X3_f1 := X3.out.frozen 1
        have X3_c2 := X3.out.at (i := 2) rfl; have X3_f2 := X3.out.frozen 2
        have X7_lt := X7.out.lt
        have X7_c0 := X7.out.at (i := 0) rfl; have X7_f0 := X7.out.frozen 0
        have X7_c1 := X7.out.at (i := 1) rfl; have X7_f1 := X7.out.frozen 1
        have X7_c2 := X7.out.at (i := 2) rfl; have X7_f2 := X7.out.frozen 2
        have X11_lt := X11.out.lt
        have X11_c0 := X11.out.at (i := 0) rfl; have X11_f0 := X11.out.frozen 0
        have X11_c1 := X11.out.at (i := 1) rfl; have X11_f1 := X11.out.frozen 1
        have X11_c2 := X11.out.at (i := 2) rfl; have X11_f2 := X11.out.frozen 2
        have X13_lt := X13.out.lt
        have X13_c0 := X13.out.at (i := 0) rfl; have X13_f0 := X13.out.frozen 0
        have X13_c1 := X13.out.at (i := 1) rfl; have X13_f1 := X13.out.frozen 1
        have X13_c2 := X13.out.at (i := 2) rfl; have X13_f2 := X13.out.frozen 2
        go_wp2_with fail
        go_ret
        exact ⟨rfl, BW.out⟩
      · have H2 := hide h2; have H3 := hide h3
        clear h2 h3
        have X3_lt := X3.out.lt
        have X3_c0 := X3.out.at (i := 0) rfl; have X3_f0 := X3.out.frozen 0
        have X3_c1 := X3.out.at (i := 1) rfl; have X3_f1 := X3.out.frozen 1
        have X3_c2 := X3.out.at (i := 2) rfl; have X3_f2 := X3.out.frozen 2
        have X7_lt := X7.out.lt
        have X7_c0 := X7.out.at (i := 0) rfl; have X7_f0 := X7.out.frozen 0
        have X7_c1 := X7.out.at (i := 1) rfl; have X7_f1 := X7.out.frozen 1
        have X7_c2 := X7.out.at (i := 2) rfl; have X7_f2 := X7.out.frozen 2
        have X11_lt := X11.out.lt
        have X11_c0 := X11.out.at (i := 0) rfl; have X11_f0 := X11.out.frozen 0
        have X11_c1 := X11.out.at (i := 1) rfl; have X11_f1 := X11.out.frozen 1
        have X11_c2 := X11.out.at (i := 2) rfl; have X11_f2 := X11.out.frozen 2
        have X13_lt := X13.out.lt
        have X13_c0 := X13.out.at (i := 0) rfl; have X13_f0 := X13.out.frozen 0
        have X13_c1 := X13.out.at (i := 1) rfl; have X13_f1 := X13.out.frozen 1
        have X13_c2 := X13.out.at (i := 2) rfl; have X13_f2 := X13.out.frozen 2
        go_wp2_with fail
        clear X3_lt X3_c0 X3_f0 X3_c1 X3_f1 X3_c2 X3_f2
        clear X7_lt X7_c0 X7_f0 X7_c1 X7_f1 X7_c2 X7_f2
        clear X11_lt X11_c0 X11_f0 X11_c1 X11_f1 X11_c2 X11_f2
        clear X13_lt X13_c0 X13_f0 X13_c1 X13_f1 X13_c2 X13_f2
        refine (sameCalls_at V0 V1 V2 v0 v1 v2 P0 P1 P2 p0 p1 p2 E2 C _ false H2.out V.out.cr P.out.cr (by omega)).mono ?_
        rintro e w8 ⟨rfl, b⟩
        replace P := hide (P.out.below b)
        replace X3 := hide (X3.out.below b)
        replace Q := hide (Q.out.below b)
        replace X7 := hide (X7.out.below b)
        replace U := hide (U.out.below b)
        replace X11 := hide (X11.out.below b)
        replace V := hide (V.out.below b)
        replace X13 := hide (X13.out.below b)
        replace BW := hide (bthen BW.out b)
        clear b
        have X3_lt := X3.out.lt
        have X3_c0 := X3.out.at (i := 0) rfl; have X3_f0 := X3.out.frozen 0
        have X3_c1 := X3.out.at (i := 1) rfl; have X3_f1 := X3.out.frozen 1
        have X3_c2 := X3.out.at (i := 2) rfl; have X3_f2 := X3.out.frozen 2
        have X7_lt := X7.out.lt
        have X7_c0 := X7.out.at (i := 0) rfl; have X7_f0 := X7.out.frozen 0
        have X7_c1 := X7.out.at (i := 1) rfl; have X7_f1 := X7.out.frozen 1
        have X7_c2 := X7.out.at (i := 2) rfl; have X7_f2 := X7.out.frozen 2
        have X11_lt := X11.out.lt
        have X11_c0 := X11.out.at (i := 0) rfl; have X11_f0 := X11.out.frozen 0
        have X11_c1 := X11.out.at (i := 1) rfl; have X11_f1 := X11.out.frozen 1
        have X11_c2 := X11.out.at (i := 2) rfl; have X11_f2 := X11.out.frozen 2
        have X13_lt := X13.out.lt
        have X13_c0 := X13.out.at (i := 0) rfl; have X13_f0 := X13.out.frozen 0
        have X13_c1 := X13.out.at (i := 1) rfl; have X13_f1 := X13.out.frozen 1
        have X13_c2 := X13.out.at (i := 2) rfl; have X13_f2 := X13.out.frozen 2
        go_wp2_with fail
        clear X3_lt X3_c0 X3_f0 X3_c1 X3_f1 X3_c2 X3_f2
        clear X7_lt X7_c0 X7_f0 X7_c1 X7_f1 X7_c2 X7_f2
        clear X11_lt X11_c0 X11_f0 X11_c1 X11_f1 X11_c2 X11_f2
        clear X13_lt X13_c0 X13_f0 X13_c1 X13_f1 X13_c2 X13_f2
        refine (sameCalls_at U0 U1 U2 u0 u1 u2 P0 P1 P2 p0 p1 p2 E1 C _ true H3.out U.out.cr P.out.cr (by omega)).mono ?_
        rintro e w8 ⟨rfl, b⟩
        replace P := hide (P.out.below b)
        replace X3 := hide (X3.out.below b)
        replace Q := hide (Q.out.below b)
        replace X7 := hide (X7.out.below b)
        replace U := hide (U.out.below b)
        replace X11 := hide (X11.out.below b)
        replace V := hide (V.out.below b)
        replace X13 := hide (X13.out.below b)
        replace BW := hide (bthen BW.out b)
        clear b
        have X3_lt := X3.out.lt
        have X3_c0 := X3.out.at (i := 0) rfl; have X3_f0 := X3.out.frozen 0
        have X3_c1 := X3.out.at (i := 1) rfl; have X3_f1 := X3.out.frozen 1
        have X3_c2 := X3.out.at (i := 2) rfl; have X3_f2 := X3.out.frozen 2
        have X7_lt := X7.out.lt
        have X7_c0 := X7.out.at (i := 0) rfl; have X7_f0 := X7.out.frozen 0
        have X7_c1 := X7.out.at (i := 1) rfl; have X7_f1 := X7.out.frozen 1
        have X7_c2 := X7.out.at (i := 2) rfl; have X7_f2 := X7.out.frozen 2
        have X11_lt := X11.out.lt
        have X11_c0 := X11.out.at (i := 0) rfl; have X11_f0 := X11.out.frozen 0
        have X11_c1 := X11.out.at (i := 1) rfl; have X11_f1 := X11.out.frozen 1
        have X11_c2 := X11.out.at (i := 2) rfl; have X11_f2 := X11.out.frozen 2
        have X13_lt := X13.out.lt
        have X13_c0 := X13.out.at (i := 0) rfl; have X13_f0 := X13.out.frozen 0
        have X13_c1 := X13.out.at (i := 1) rfl; have X13_f1 := X13.out.frozen 1
        have X13_c2 := X13.out.at (i := 2) rfl; have X13_f2 := X13.out.frozen 2
        go_wp2_with fail
        clear X3_lt X3_c0 X3_f0 X3_c1 X3_f1 X3_c2 X3_f2
        clear X7_lt X7_c0 X7_f0 X7_c1 X7_f1 X7_c2 X7_f2
        clear X11_lt X11_c0 X11_f0 X11_c1 X11_f1 X11_c2 X11_f2
        clear X13_lt X13_c0 X13_f0 X13_c1 X13_f1 X13_c2 X13_f2
        refine (sameCalls_at V0 V1 V2 v0 v1 v2 Q0 Q1 Q2 q0 q1 q2 E2 D _ true hT1.out V.out.cr Q.out.cr (by omega)).mono ?_
        rintro e w8 ⟨rfl, b⟩
        replace P := hide (P.out.below b)
        replace X3 := hide (X3.out.below b)
        replace Q := hide (Q.out.below b)
        replace X7 := hide (X7.out.below b)
        replace U := hide (U.out.below b)
        replace X11 := hide (X11.out.below b)
        replace V := hide (V.out.below b)
        replace X13 := hide (X13.out.below b)
        replace BW := hide (bthen BW.out b)
        clear b
        have X3_lt := X3.out.lt
        have X3_c0 := X3.out.at (i := 0) rfl; have X3_f0 := X3.out.frozen 0
        have X3_c1 := X3.out.at (i := 1) rfl; have X3_f1 := X3.out.frozen 1
        have X3_c2 := X3.out.at (i := 2) rfl; have X3_f2 := X3.out.frozen 2
        have X7_lt := X7.out.lt
        have X7_c0 := X7.out.at (i := 0) rfl; have X7_f0 := X7.out.frozen 0
        have X7_c1 := X7.out.at (i := 1) rfl; have X7_f1 := X7.out.frozen 1
        have X7_c2 := X7.out.at (i := 2) rfl; have X7_f2 := X7.out.frozen 2
        have X11_lt := X11.out.lt
        have X11_c0 := X11.out.at (i := 0) rfl; have X11_f0 := X11.out.frozen 0
        have X11_c1 := X11.out.at (i := 1) rfl; have X11_f1 := X11.out.frozen 1
        have X11_c2 := X11.out.at (i := 2) rfl; have X11_f2 := X11.out.frozen 2
        have X13_lt := X13.out.lt
        have X13_c0 := X13.out.at (i := 0) rfl; have X13_f0 := X13.out.frozen 0
        have X13_c1 := X13.out.at (i := 1) rfl; have X13_f1 := X13.out.frozen 1
        have X13_c2 := X13.out.at (i := 2) rfl; have X13_f2 := X13.out.frozen 2
        go_wp2_with fail
        go_ret
        exact ⟨rfl, BW.out⟩
end Go.Proofs.Ytmhocmppafggaaa
