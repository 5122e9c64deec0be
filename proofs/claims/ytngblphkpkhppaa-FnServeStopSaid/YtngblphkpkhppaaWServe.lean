import Derived.Test.YtngblphkpkhppaaFrameC
import Derived.Test.YtngblphkpkhppaaDrawStops
import Derived.Test.YtngblphkpkhppaaStopsG
import Derived.Test.YtngblphkpkhppaaWCallSet
import Derived.Deep.RegionHeld3
import Derived.Deep.Cut
namespace Go.Proofs.Ytngblphkpkhppaa
open Go.RowKit
attribute [local go_sem ↓] Go.wp_at_zero Go.wp_at_succ

theorem serve_twice (C : Cl) (f d : Int) : serveC (serveC C f d) f d = serveC C f d := by
  unfold serveC
  by_cases h : 0 < d <;> simp [h]
theorem serveB_again {C : Cl} {f d : Int} (h : callsB C = true) (h2 : stopOkB C.car.length f d = true) : serveB (serveC C f d) f d = serveC C f d := by
  rw [serveB_yes (callsB_iff.2 (serve_valid (callsB_iff.1 h) f d)) (by rw [serve_len]; exact h2), serve_twice]
theorem serve_off {C : Cl} {k m : Nat} {d : Int} (h : k ≠ m) : (serveC C m d).car[k]? = C.car[k]? ∧ (serveC C m d).up[k]? = C.up[k]? ∧ (serveC C m d).dn[k]? = C.dn[k]? := by
  unfold serveC
  have e : ((m : Int)).toNat = m := rfl
  rw [e]
  refine ⟨List.getElem?_set_ne (fun h' => h h'.symm), ?_, ?_⟩
  · by_cases hd : 0 < d
    · simp only [hd, if_true]; exact List.getElem?_set_ne (fun h' => h h'.symm)
    · simp only [hd, if_false]
  · by_cases hd : 0 < d
    · simp only [hd, if_true]
    · simp only [hd, if_false]; exact List.getElem?_set_ne (fun h' => h h'.symm)
theorem serve_car_off {C : Cl} {m : Nat} {d : Int} (h : m < C.car.length) : (serveC C m d).car[m]? = some false := by
  unfold serveC; show (C.car.set m false)[m]? = _; rw [List.getElem?_set_self h]
theorem opt_eq {α : Type} {a b : Option α} {x y : α} (h : a = b) (hx : a = some x) (hy : b = some y) : y = x := by rw [← h, hx] at hy; injection hy with hy; exact hy.symm
set_option maxRecDepth 100000 in
set_option maxHeartbeats 3000000 in
theorem wServeStop (A : Option Addr) (c : Nat) (bs : List Int) (w : World) (h0 : InRow .u8 w A c bs) :
    Calls Try.prog 5 #[.slice A bs.length c] w fun e w' => e = .returned (.bool true) ∧ Below w.heap.size w w' := by
  have HB := hide h0.byte
  obtain ⟨h, hc, hc2, -⟩ := h0
  have H : Hid (Sl w A (bvs bs)) := h
  clear h
  by_cases hl : ¬ bs.length ≤ 1048576
  · go_enter Try.func5, Try.ntmps5
    go_wp2
    go_ret
    exact ⟨rfl, Below.refl _ _⟩
  have hl : bs.length ≤ 1048576 := by omega
  clear hc2
  go_enter Try.func5, Try.ntmps5
  go_wp2_with fail
  refine (drawServeStop_any A c bs _ H.out HB.out hl hc).mono ?_
  rintro e w1 ⟨P0, P1, P2, p0, p1, p2, C, f, d, rfl, P, ⟨l0, l1, l2⟩, ⟨fa, fb⟩, ⟨da, db⟩, b⟩
  have BW := hide b; replace P := hide P
  clear b
  obtain ⟨D, hD⟩ : ∃ D, D = serveB C f d := ⟨_, rfl⟩
  have hlen : D.up.length ≤ 8 ∧ D.dn.length ≤ 8 ∧ D.car.length ≤ 8 := by rw [hD]; exact serveB_lens
  obtain ⟨d0, d1, d2⟩ := hlen
  have HD := hide hD; clear hD
  have qd := eqC_self D
  go_wp2_with fail
  refine calls_name fun W hW => ?_
  have X3 : Hid (Box W w1.heap.size #[.slice P0 C.up.length p0, .slice P1 C.dn.length p1, .slice P2 C.car.length p2]) := by rw [hW]; exact (Box.new rfl).alloc _
  have X4 : Hid (Box W (w1.heap.size + 1) #[.int .i64 f, .int .i64 d]) := by rw [hW]; exact Box.new (by simp)
  have b : Below w1.heap.size w1 W := by rw [hW]; exact ((Below.refl _ _).alloc (Nat.le_refl _) _).alloc (by simp) _
  have z0 : w1.heap.size + 1 < W.heap.size := by rw [hW]; simp
  clear hW
  replace P := hide (P.out.below b)
  replace BW := hide (bthen BW.out b)
  clear b
  refine (implServeStop_at P0 P1 P2 p0 p1 p2 C f d D HD.out _ P.out.cr).mono ?_
  rintro e w2 ⟨Q0, Q1, Q2, q0, q1, q2, rfl, Q, b⟩
  replace Q := hide Q
  have z2 := b.size
  replace P := hide (P.out.below b)
  replace X3 := hide (X3.out.below b)
  replace X4 := hide (X4.out.below b)
  replace BW := hide (bthen BW.out b)
  clear b
  go_upto_region 5 with fail
  refine code_name fun W3 hW => ?_
  have X5 := hide (Box.new' (g := w2.heap.size) hW rfl)
  have b : Below w2.heap.size w2 W3 := by rw [hW]; exact (Below.refl _ _).alloc (Nat.le_refl _) _
  have z3 := X5.out.lt
  replace P := hide (P.out.below b)
  replace X3 := hide (X3.out.below b)
  replace X4 := hide (X4.out.below b)
  replace Q := hide (Q.out.below b)
  replace BW := hide (bthen BW.out b)
  clear b
  clear hW
  have X3_lt := X3.out.lt
  have X3_c0 := X3.out.at (i := 0) rfl; have X3_f0 := X3.out.frozen 0
  have X3_c1 := X3.out.at (i := 1) rfl; have X3_f1 := X3.out.frozen 1
  have X3_c2 := X3.out.at (i := 2) rfl; have X3_f2 := X3.out.frozen 2
  have X4_lt := X4.out.lt
  have X4_c0 := X4.out.at (i := 0) rfl; have X4_f0 := X4.out.frozen 0
  have X4_c1 := X4.out.at (i := 1) rfl; have X4_f1 := X4.out.frozen 1
  have X5_lt := X5.out.lt
  have X5_c0 := X5.out.at (i := 0) rfl; have X5_f0 := X5.out.frozen 0
  have X5_c1 := X5.out.at (i := 1) rfl; have X5_f1 := X5.out.frozen 1
  have X5_c2 := X5.out.at (i := 2) rfl; have X5_f2 := X5.out.frozen 2
  have KS : Hid (∀ W', Below W3.heap.size W3 W' → (W'.cell? ⟨w1.heap.size, 0, none⟩ = some (.slice P0 C.up.length p0) ∧ W'.cell? ⟨w1.heap.size, 1, none⟩ = some (.slice P1 C.dn.length p1) ∧ W'.cell? ⟨w1.heap.size, 2, none⟩ = some (.slice P2 C.car.length p2)) ∧ (W'.cell? ⟨w1.heap.size + 1, 0, none⟩ = some (.int .i64 f) ∧ W'.cell? ⟨w1.heap.size + 1, 1, none⟩ = some (.int .i64 d)) ∧ W'.cell? ⟨w2.heap.size, 0, none⟩ = some (.slice Q0 D.up.length q0) ∧ W'.cell? ⟨w2.heap.size, 1, none⟩ = some (.slice Q1 D.dn.length q1) ∧ W'.cell? ⟨w2.heap.size, 2, none⟩ = some (.slice Q2 D.car.length q2)) := fun W' bb => ⟨⟨(X3.out.below bb).at rfl, (X3.out.below bb).at rfl, (X3.out.below bb).at rfl⟩, ⟨(X4.out.below bb).at rfl, (X4.out.below bb).at rfl⟩, (X5.out.below bb).at rfl, (X5.out.below bb).at rfl, (X5.out.below bb).at rfl⟩
  have KK : Hid (Below W3.heap.size W3 W3.drew) := (Below.refl _ _).drew
  go_region_held3 (fun W => (W.cell? ⟨w1.heap.size, 0, none⟩ = some (.slice P0 C.up.length p0) ∧ W.cell? ⟨w1.heap.size, 1, none⟩ = some (.slice P1 C.dn.length p1) ∧ W.cell? ⟨w1.heap.size, 2, none⟩ = some (.slice P2 C.car.length p2)) ∧ (W.cell? ⟨w1.heap.size + 1, 0, none⟩ = some (.int .i64 f) ∧ W.cell? ⟨w1.heap.size + 1, 1, none⟩ = some (.int .i64 d)) ∧ W.cell? ⟨w2.heap.size, 0, none⟩ = some (.slice Q0 D.up.length q0) ∧ W.cell? ⟨w2.heap.size, 1, none⟩ = some (.slice Q1 D.dn.length q1) ∧ W.cell? ⟨w2.heap.size, 2, none⟩ = some (.slice Q2 D.car.length q2)) (first | (go_keep; done) | exact KS.out _ KK.out) (first | (go_at_call 16; (with_reducible refine (specServeStop_at P0 P1 P2 p0 p1 p2 C f d D HD.out _ ?_).mono ?_); exact P.out.cr.below KK.out; rintro e v ⟨R0, R1, R2, r0, r1, r2, rfl, R, bb⟩; replace R := hide R; replace KK := hide (bthen KK.out bb); have zKK := KK.out.size; clear bb) | (go_at_call 21; (with_reducible refine (sameCalls_at Q0 Q1 Q2 q0 q1 q2 R0 R1 R2 r0 r1 r2 D D _ true qd ?_ ?_ (by omega)).mono ?_); exact Q.out.cr.below KK.out; exact R.out.cr; rintro e v ⟨rfl, bb⟩; (first | replace R := hide (R.out.below bb) | skip); replace KK := hide (bthen KK.out bb); have zKK := KK.out.size; clear bb))
  clear KS
  clear X3_lt X3_c0 X3_f0 X3_c1 X3_f1 X3_c2 X3_f2
  clear X4_lt X4_c0 X4_f0 X4_c1 X4_f1
  clear X5_lt X5_c0 X5_f0 X5_c1 X5_f1 X5_c2 X5_f2
  clear R
  replace P := hide (P.out.below KK.out)
  replace X3 := hide (X3.out.below KK.out)
  replace X4 := hide (X4.out.below KK.out)
  replace Q := hide (Q.out.below KK.out)
  replace X5 := hide (X5.out.below KK.out)
  replace BW := hide (bthen BW.out KK.out)
  clear KK
  cases hv : callsB C && stopOkB C.car.length f d
  · have he : D = ⟨[], [], []⟩ := HD.out.trans (serveB_no hv)
    have hz : D.car.length = 0 := by rw [he]; rfl
    have hz4 : ((D.car.length : Int) == 0) = true := by simp [hz]
    clear he hz hv
    have X5_lt := X5.out.lt
    have X5_c0 := X5.out.at (i := 0) rfl; have X5_f0 := X5.out.frozen 0
    have X5_c1 := X5.out.at (i := 1) rfl; have X5_f1 := X5.out.frozen 1
    have X5_c2 := X5.out.at (i := 2) rfl; have X5_f2 := X5.out.frozen 2
    go_wp2_with fail
    refine (alive_any _).mono ?_
    rintro e w9 ⟨rfl, b9⟩
    have B9 := hide b9
    clear b9
    go_wp2_with fail
    go_ret
    exact ⟨rfl, bthen BW.out B9.out⟩
  · rw [Bool.and_eq_true] at hv
    obtain ⟨hv, hs⟩ := hv
    have HV := hide hv; have HS := hide hs
    have he : D = serveC C f d := HD.out.trans (serveB_yes hv hs)
    obtain ⟨hf, hd⟩ := stopOkB_iff.1 hs
    obtain ⟨m, rfl⟩ : ∃ m : Nat, f = (m : Int) := ⟨f.toNat, by omega⟩
    have hm : m < C.car.length := by omega
    have hCL : 1 ≤ C.car.length ∧ C.up.length = C.car.length ∧ C.dn.length = C.car.length := by
      obtain ⟨h1, h2, h3, h4, -, -⟩ := callsB_iff.1 hv; exact ⟨h1, h3, h4⟩
    have hDL : D.up.length = C.car.length ∧ D.dn.length = C.car.length ∧ D.car.length = C.car.length := by
      rw [he]
      obtain ⟨h1, h2, h3, h4, -, -⟩ := serve_valid (callsB_iff.1 hv) (m : Int) d
      have := serve_len C (m : Int) d
      omega
    have hDV := hide (show callsB D = true by rw [he]; exact callsB_iff.2 (serve_valid (callsB_iff.1 hv) (m : Int) d))
    have hTW := hide (show D = serveB D m d by rw [he]; exact (serveB_again hv hs).symm)
    have HE := hide he
    have HL := hide hDL; have HCL := hide hCL
    have hz4 : ((D.car.length : Int) == 0) = false := by simp; intro e; rw [e] at hDL; simp at hDL; omega
    clear hv hs he hf hDL hCL
    have zX3 := X3.out.lt
    have X5_lt := X5.out.lt
    have X5_c0 := X5.out.at (i := 0) rfl; have X5_f0 := X5.out.frozen 0
    have X5_c1 := X5.out.at (i := 1) rfl; have X5_f1 := X5.out.frozen 1
    have X5_c2 := X5.out.at (i := 2) rfl; have X5_f2 := X5.out.frozen 2
    go_wp2_with fail
    clear X5_lt X5_c0 X5_f0 X5_c1 X5_f1 X5_c2 X5_f2
    rename World => Wv
    go_loopw [6] (fun i wr => ∃ k : Nat, k ≤ C.car.length ∧ i = .int .i64 k ∧ Hid (Dr Wv wr)) (fun i _ => C.car.length - (intOf i).toNat)
    case atStart => exact ⟨0, by omega, rfl, Dr.refl _⟩
    case round =>
      obtain ⟨k, hk, rfl, hD⟩ := hrel
      have Y3 := hide (X3.out.dr hD.out); have Y4 := hide (X4.out.dr hD.out); have Y5 := hide (X5.out.dr hD.out)
      have PC := hide (P.out.cr.below hD.out.below); have QC := hide (Q.out.cr.below hD.out.below)
      by_cases hlt : k < C.car.length
      · have Y3_lt := Y3.out.lt
        have Y3_c0 := Y3.out.at (i := 0) rfl; have Y3_f0 := Y3.out.frozen 0
        have Y3_c1 := Y3.out.at (i := 1) rfl; have Y3_f1 := Y3.out.frozen 1
        have Y3_c2 := Y3.out.at (i := 2) rfl; have Y3_f2 := Y3.out.frozen 2
        have Y4_lt := Y4.out.lt
        have Y4_c0 := Y4.out.at (i := 0) rfl; have Y4_f0 := Y4.out.frozen 0
        have Y4_c1 := Y4.out.at (i := 1) rfl; have Y4_f1 := Y4.out.frozen 1
        have Y5_lt := Y5.out.lt
        have Y5_c0 := Y5.out.at (i := 0) rfl; have Y5_f0 := Y5.out.frozen 0
        have Y5_c1 := Y5.out.at (i := 1) rfl; have Y5_f1 := Y5.out.frozen 1
        have Y5_c2 := Y5.out.at (i := 2) rfl; have Y5_f2 := Y5.out.frozen 2
        have hkb : (k : Int) < 9223372036854775807 := by omega
        by_cases hkm : k = m
        · have hkm' : ((k : Int) != (m : Int)) = false := by simp [hkm]
          clear hkm
          go_wp2
          go_quiet (fail)
          go_wp2
          go_roundw
          case rel => exact ⟨k + 1, by omega, by go_num, hD.out.more _⟩
          case measure => simp [intOf]; omega
        · have hkm' : ((k : Int) != (m : Int)) = true := by simp; omega
          have hoff := serve_off (C := C) (d := d) hkm
          rw [← HE.out] at hoff
          obtain ⟨b0, o0, x0, rfl, g0, y0, k0⟩ := PC.out.up.at (k := k) (by have := HCL.out; omega)
          obtain ⟨b1, o1, x1, rfl, g1, y1, k1⟩ := PC.out.dn.at (k := k) (by have := HCL.out; omega)
          obtain ⟨b2, o2, x2, rfl, g2, y2, k2⟩ := PC.out.car.at (k := k) (by have := HCL.out; omega)
          obtain ⟨b3, o3, x3, rfl, g3, y3, k3⟩ := QC.out.up.at (k := k) (by have := HL.out; omega)
          obtain ⟨b4, o4, x4, rfl, g4, y4, k4⟩ := QC.out.dn.at (k := k) (by have := HL.out; omega)
          obtain ⟨b5, o5, x5, rfl, g5, y5, k5⟩ := QC.out.car.at (k := k) (by have := HL.out; omega)
          obtain rfl := opt_eq hoff.1 y5.out y2.out
          obtain rfl := opt_eq hoff.2.1 y3.out y0.out
          obtain rfl := opt_eq hoff.2.2 y4.out y1.out
          have q0' : (k : Int) < (D.up.length : Int) := by have := HL.out; omega
          have q1' : (k : Int) < (D.dn.length : Int) := by have := HL.out; omega
          have q2' : (k : Int) < (D.car.length : Int) := by have := HL.out; omega
          have p0' : (k : Int) < (C.up.length : Int) := by have := HCL.out; omega
          have p1' : (k : Int) < (C.dn.length : Int) := by have := HCL.out; omega
          have r0' : (0 : Int) ≤ (k : Int) := by omega
          have e0 : (x0 != x0) = false := by simp
          have e1 : (x1 != x1) = false := by simp
          have e2 : (x2 != x2) = false := by simp
          clear y0 y1 y2 y3 y4 y5 hoff hkm
          go_wp2
          go_quiet (fail)
          go_wp2
          go_roundw
          case rel => exact ⟨k + 1, by omega, by go_num, hD.out.more _⟩
          case measure => simp [intOf]; omega
      · obtain ⟨b0, o0, x0, rfl, g0, y0, k0⟩ := PC.out.up.at (k := m) (by have := HCL.out; omega)
        obtain ⟨b1, o1, x1, rfl, g1, y1, k1⟩ := PC.out.dn.at (k := m) (by have := HCL.out; omega)
        obtain ⟨b3, o3, x3, rfl, g3, y3, k3⟩ := QC.out.up.at (k := m) (by have := HL.out; omega)
        obtain ⟨b4, o4, x4, rfl, g4, y4, k4⟩ := QC.out.dn.at (k := m) (by have := HL.out; omega)
        obtain ⟨b5, o5, x5, rfl, g5, y5, k5⟩ := QC.out.car.at (k := m) (by have := HL.out; omega)
        have hc5 : D.car[m]? = some false := by rw [HE.out]; exact serve_car_off hm
        obtain rfl : x5 = false := by have := y5.out; rw [hc5] at this; injection this with this; exact this.symm
        clear y5 hc5
        have q0' : (m : Int) < (D.up.length : Int) := by have := HL.out; omega
        have q1' : (m : Int) < (D.dn.length : Int) := by have := HL.out; omega
        have p0' : (m : Int) < (C.up.length : Int) := by have := HCL.out; omega
        have p1' : (m : Int) < (C.dn.length : Int) := by have := HCL.out; omega
        have r0' : (0 : Int) ≤ (m : Int) := by omega
        rcases hd with rfl | rfl
        · have ee : C.dn[m]? = D.dn[m]? := by rw [HE.out]; rfl
          obtain rfl := opt_eq ee y1.out y4.out
          have e1 : (x4 == x4) = true := by simp
          clear ee y0 y1 y3 y4
          have Y3_lt := Y3.out.lt
          have Y3_c0 := Y3.out.at (i := 0) rfl; have Y3_f0 := Y3.out.frozen 0
          have Y3_c1 := Y3.out.at (i := 1) rfl; have Y3_f1 := Y3.out.frozen 1
          have Y3_c2 := Y3.out.at (i := 2) rfl; have Y3_f2 := Y3.out.frozen 2
          have Y4_lt := Y4.out.lt
          have Y4_c0 := Y4.out.at (i := 0) rfl; have Y4_f0 := Y4.out.frozen 0
          have Y4_c1 := Y4.out.at (i := 1) rfl; have Y4_f1 := Y4.out.frozen 1
          have Y5_lt := Y5.out.lt
          have Y5_c0 := Y5.out.at (i := 0) rfl; have Y5_f0 := Y5.out.frozen 0
          have Y5_c1 := Y5.out.at (i := 1) rfl; have Y5_f1 := Y5.out.frozen 1
          have Y5_c2 := Y5.out.at (i := 2) rfl; have Y5_f2 := Y5.out.frozen 2
          go_wp2
          go_quiet (fail)
          go_wp2
          refine code_name fun W9 hW => ?_
          have D9 : Hid (Dr wr W9) := by rw [hW]; first | exact (Dr.refl _).more _ | exact ((Dr.refl _).more _).more _
          clear Y3_lt Y3_c0 Y3_f0 Y3_c1 Y3_f1 Y3_c2 Y3_f2
          clear Y4_lt Y4_c0 Y4_f0 Y4_c1 Y4_f1
          clear Y5_lt Y5_c0 Y5_f0 Y5_c1 Y5_f1 Y5_c2 Y5_f2
          clear hW
          replace Y4 := hide (Y4.out.dr D9.out); replace Y5 := hide (Y5.out.dr D9.out); replace QC := hide (QC.out.below D9.out.below)
          replace k5 : W9.cell? ⟨b5, o5 + m, none⟩ = some (.bool false) := (D9.out.cell _).trans k5
          replace g5 : b5 < W9.heap.size := by rw [D9.out.size]; exact g5
          replace BW := hide (bthen (bthen BW.out hD.out.below) D9.out.below)
          clear Y3 PC k0 k1 k3 k4 hD D9
          have r0' : (0 : Int) ≤ (m : Int) := by omega
          have r1' : (m : Int) < (D.car.length : Int) := by have := HL.out; omega
          have Y4_lt := Y4.out.lt
          have Y4_c0 := Y4.out.at (i := 0) rfl; have Y4_f0 := Y4.out.frozen 0
          have Y4_c1 := Y4.out.at (i := 1) rfl; have Y4_f1 := Y4.out.frozen 1
          have Y5_lt := Y5.out.lt
          have Y5_c0 := Y5.out.at (i := 0) rfl; have Y5_f0 := Y5.out.frozen 0
          have Y5_c1 := Y5.out.at (i := 1) rfl; have Y5_f1 := Y5.out.frozen 1
          have Y5_c2 := Y5.out.at (i := 2) rfl; have Y5_f2 := Y5.out.frozen 2
          have KS : Hid (∀ W', Below W9.heap.size W9 W' → (W'.cell? ⟨w1.heap.size + 1, 0, none⟩ = some (.int .i64 (m : Int)) ∧ W'.cell? ⟨w1.heap.size + 1, 1, none⟩ = some (.int .i64 (1))) ∧ (W'.cell? ⟨w2.heap.size, 0, none⟩ = some (.slice (some ⟨b3, o3, none⟩) D.up.length q0) ∧ W'.cell? ⟨w2.heap.size, 1, none⟩ = some (.slice (some ⟨b4, o4, none⟩) D.dn.length q1) ∧ W'.cell? ⟨w2.heap.size, 2, none⟩ = some (.slice (some ⟨b5, o5, none⟩) D.car.length q2)) ∧ W'.cell? ⟨b5, o5 + m, none⟩ = some (.bool false)) := fun W' bb => ⟨⟨(Y4.out.below bb).at rfl, (Y4.out.below bb).at rfl⟩, ⟨(Y5.out.below bb).at rfl, (Y5.out.below bb).at rfl, (Y5.out.below bb).at rfl⟩, (World.cell?_of_block (bb.block b5 g5)).trans k5⟩
          have KK : Hid (Below W9.heap.size W9 W9.drew) := (Below.refl _ _).drew
          go_region_held3 (fun W => (W.cell? ⟨w1.heap.size + 1, 0, none⟩ = some (.int .i64 (m : Int)) ∧ W.cell? ⟨w1.heap.size + 1, 1, none⟩ = some (.int .i64 (1))) ∧ (W.cell? ⟨w2.heap.size, 0, none⟩ = some (.slice (some ⟨b3, o3, none⟩) D.up.length q0) ∧ W.cell? ⟨w2.heap.size, 1, none⟩ = some (.slice (some ⟨b4, o4, none⟩) D.dn.length q1) ∧ W.cell? ⟨w2.heap.size, 2, none⟩ = some (.slice (some ⟨b5, o5, none⟩) D.car.length q2)) ∧ W.cell? ⟨b5, o5 + m, none⟩ = some (.bool false)) (first | (go_keep; done) | exact KS.out _ KK.out) (first | (go_at_call 23; (with_reducible refine (implCallsValid (some ⟨b3, o3, none⟩) (some ⟨b4, o4, none⟩) _ q0 q1 q2 D _ ?_).mono ?_); exact QC.out.below KK.out; rw [hDV.out]; rintro e v ⟨rfl, bb⟩; (first | replace R := hide (R.out.below bb) | skip); replace KK := hide (bthen KK.out bb); have zKK := KK.out.size; clear bb) | (go_at_call 17; (with_reducible refine (implServeStop_at (some ⟨b3, o3, none⟩) (some ⟨b4, o4, none⟩) _ q0 q1 q2 D m (1) D hTW.out _ ?_).mono ?_); exact QC.out.below KK.out; rintro e v ⟨R0, R1, R2, r0, r1, r2, rfl, R, bb⟩; replace R := hide R; replace KK := hide (bthen KK.out bb); have zKK := KK.out.size; clear bb) | (go_at_call 21; (with_reducible refine (sameCalls_at R0 R1 R2 r0 r1 r2 (some ⟨b3, o3, none⟩) (some ⟨b4, o4, none⟩) _ q0 q1 q2 D D _ true qd ?_ ?_ (by omega)).mono ?_); exact R.out.cr; exact QC.out.below KK.out; rintro e v ⟨rfl, bb⟩; (first | replace R := hide (R.out.below bb) | skip); replace KK := hide (bthen KK.out bb); have zKK := KK.out.size; clear bb))
          clear KS
          go_wp2_with fail
          go_ret
          exact ⟨rfl, bthen BW.out KK.out⟩
        · have ee : C.up[m]? = D.up[m]? := by rw [HE.out]; rfl
          obtain rfl := opt_eq ee y0.out y3.out
          have e1 : (x3 == x3) = true := by simp
          clear ee y0 y1 y3 y4
          have Y3_lt := Y3.out.lt
          have Y3_c0 := Y3.out.at (i := 0) rfl; have Y3_f0 := Y3.out.frozen 0
          have Y3_c1 := Y3.out.at (i := 1) rfl; have Y3_f1 := Y3.out.frozen 1
          have Y3_c2 := Y3.out.at (i := 2) rfl; have Y3_f2 := Y3.out.frozen 2
          have Y4_lt := Y4.out.lt
          have Y4_c0 := Y4.out.at (i := 0) rfl; have Y4_f0 := Y4.out.frozen 0
          have Y4_c1 := Y4.out.at (i := 1) rfl; have Y4_f1 := Y4.out.frozen 1
          have Y5_lt := Y5.out.lt
          have Y5_c0 := Y5.out.at (i := 0) rfl; have Y5_f0 := Y5.out.frozen 0
          have Y5_c1 := Y5.out.at (i := 1) rfl; have Y5_f1 := Y5.out.frozen 1
          have Y5_c2 := Y5.out.at (i := 2) rfl; have Y5_f2 := Y5.out.frozen 2
          go_wp2
          go_quiet (fail)
          go_wp2
          go_quiet (fail)
          go_wp2
          refine code_name fun W9 hW => ?_
          have D9 : Hid (Dr wr W9) := by rw [hW]; first | exact (Dr.refl _).more _ | exact ((Dr.refl _).more _).more _
          clear Y3_lt Y3_c0 Y3_f0 Y3_c1 Y3_f1 Y3_c2 Y3_f2
          clear Y4_lt Y4_c0 Y4_f0 Y4_c1 Y4_f1
          clear Y5_lt Y5_c0 Y5_f0 Y5_c1 Y5_f1 Y5_c2 Y5_f2
          clear hW
          replace Y4 := hide (Y4.out.dr D9.out); replace Y5 := hide (Y5.out.dr D9.out); replace QC := hide (QC.out.below D9.out.below)
          replace k5 : W9.cell? ⟨b5, o5 + m, none⟩ = some (.bool false) := (D9.out.cell _).trans k5
          replace g5 : b5 < W9.heap.size := by rw [D9.out.size]; exact g5
          replace BW := hide (bthen (bthen BW.out hD.out.below) D9.out.below)
          clear Y3 PC k0 k1 k3 k4 hD D9
          have r0' : (0 : Int) ≤ (m : Int) := by omega
          have r1' : (m : Int) < (D.car.length : Int) := by have := HL.out; omega
          have Y4_lt := Y4.out.lt
          have Y4_c0 := Y4.out.at (i := 0) rfl; have Y4_f0 := Y4.out.frozen 0
          have Y4_c1 := Y4.out.at (i := 1) rfl; have Y4_f1 := Y4.out.frozen 1
          have Y5_lt := Y5.out.lt
          have Y5_c0 := Y5.out.at (i := 0) rfl; have Y5_f0 := Y5.out.frozen 0
          have Y5_c1 := Y5.out.at (i := 1) rfl; have Y5_f1 := Y5.out.frozen 1
          have Y5_c2 := Y5.out.at (i := 2) rfl; have Y5_f2 := Y5.out.frozen 2
          have KS : Hid (∀ W', Below W9.heap.size W9 W' → (W'.cell? ⟨w1.heap.size + 1, 0, none⟩ = some (.int .i64 (m : Int)) ∧ W'.cell? ⟨w1.heap.size + 1, 1, none⟩ = some (.int .i64 (-1))) ∧ (W'.cell? ⟨w2.heap.size, 0, none⟩ = some (.slice (some ⟨b3, o3, none⟩) D.up.length q0) ∧ W'.cell? ⟨w2.heap.size, 1, none⟩ = some (.slice (some ⟨b4, o4, none⟩) D.dn.length q1) ∧ W'.cell? ⟨w2.heap.size, 2, none⟩ = some (.slice (some ⟨b5, o5, none⟩) D.car.length q2)) ∧ W'.cell? ⟨b5, o5 + m, none⟩ = some (.bool false)) := fun W' bb => ⟨⟨(Y4.out.below bb).at rfl, (Y4.out.below bb).at rfl⟩, ⟨(Y5.out.below bb).at rfl, (Y5.out.below bb).at rfl, (Y5.out.below bb).at rfl⟩, (World.cell?_of_block (bb.block b5 g5)).trans k5⟩
          have KK : Hid (Below W9.heap.size W9 W9.drew) := (Below.refl _ _).drew
          go_region_held3 (fun W => (W.cell? ⟨w1.heap.size + 1, 0, none⟩ = some (.int .i64 (m : Int)) ∧ W.cell? ⟨w1.heap.size + 1, 1, none⟩ = some (.int .i64 (-1))) ∧ (W.cell? ⟨w2.heap.size, 0, none⟩ = some (.slice (some ⟨b3, o3, none⟩) D.up.length q0) ∧ W.cell? ⟨w2.heap.size, 1, none⟩ = some (.slice (some ⟨b4, o4, none⟩) D.dn.length q1) ∧ W.cell? ⟨w2.heap.size, 2, none⟩ = some (.slice (some ⟨b5, o5, none⟩) D.car.length q2)) ∧ W.cell? ⟨b5, o5 + m, none⟩ = some (.bool false)) (first | (go_keep; done) | exact KS.out _ KK.out) (first | (go_at_call 23; (with_reducible refine (implCallsValid (some ⟨b3, o3, none⟩) (some ⟨b4, o4, none⟩) _ q0 q1 q2 D _ ?_).mono ?_); exact QC.out.below KK.out; rw [hDV.out]; rintro e v ⟨rfl, bb⟩; (first | replace R := hide (R.out.below bb) | skip); replace KK := hide (bthen KK.out bb); have zKK := KK.out.size; clear bb) | (go_at_call 17; (with_reducible refine (implServeStop_at (some ⟨b3, o3, none⟩) (some ⟨b4, o4, none⟩) _ q0 q1 q2 D m (-1) D hTW.out _ ?_).mono ?_); exact QC.out.below KK.out; rintro e v ⟨R0, R1, R2, r0, r1, r2, rfl, R, bb⟩; replace R := hide R; replace KK := hide (bthen KK.out bb); have zKK := KK.out.size; clear bb) | (go_at_call 21; (with_reducible refine (sameCalls_at R0 R1 R2 r0 r1 r2 (some ⟨b3, o3, none⟩) (some ⟨b4, o4, none⟩) _ q0 q1 q2 D D _ true qd ?_ ?_ (by omega)).mono ?_); exact R.out.cr; exact QC.out.below KK.out; rintro e v ⟨rfl, bb⟩; (first | replace R := hide (R.out.below bb) | skip); replace KK := hide (bthen KK.out bb); have zKK := KK.out.size; clear bb))
          clear KS
          go_wp2_with fail
          go_ret
          exact ⟨rfl, bthen BW.out KK.out⟩
end Go.Proofs.Ytngblphkpkhppaa
