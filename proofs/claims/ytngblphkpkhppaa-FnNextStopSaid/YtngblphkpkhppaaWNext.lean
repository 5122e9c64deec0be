import Derived.Test.YtngblphkpkhppaaFrameC
import Derived.Test.YtngblphkpkhppaaDrawStops
import Derived.Test.YtngblphkpkhppaaStopsF
import Derived.Test.YtngblphkpkhppaaStopLaw
import Derived.Test.YtngblphkpkhppaaWCallSet
import Derived.Deep.RegionHeld3
import Derived.Deep.Cut
namespace Go.Proofs.Ytngblphkpkhppaa
open Go.RowKit
attribute [local go_sem ↓] Go.wp_at_zero Go.wp_at_succ

set_option maxRecDepth 100000 in
set_option maxHeartbeats 3000000 in
theorem wNextStop (A : Option Addr) (c : Nat) (bs : List Int) (w : World) (h0 : InRow .u8 w A c bs) :
    Calls Try.prog 6 #[.slice A bs.length c] w fun e w' => e = .returned (.bool true) ∧ Below w.heap.size w w' := by
  have HB := hide h0.byte
  obtain ⟨h, hc, hc2, -⟩ := h0
  have H : Hid (Sl w A (bvs bs)) := h
  clear h
  by_cases hl : ¬ bs.length ≤ 1048576
  · go_enter Try.func6, Try.ntmps6
    go_wp2
    go_ret
    exact ⟨rfl, Below.refl _ _⟩
  have hl : bs.length ≤ 1048576 := by omega
  clear hc2
  go_enter Try.func6, Try.ntmps6
  go_wp2_with fail
  refine (drawNextStop_any A c bs _ H.out HB.out hl hc).mono ?_
  rintro e w1 ⟨P0, P1, P2, p0, p1, p2, C, f, d, rfl, P, ⟨l0, l1, l2⟩, ⟨fa, fb⟩, ⟨da, db⟩, b⟩
  have BW := hide b; replace P := hide P
  clear b
  obtain ⟨N, hN⟩ : ∃ N, N = nextB C f d := ⟨_, rfl⟩
  have HN := hide hN; clear hN
  go_wp2_with fail
  refine calls_name fun W hW => ?_
  have X3 : Hid (Box W w1.heap.size #[.slice P0 C.up.length p0, .slice P1 C.dn.length p1, .slice P2 C.car.length p2]) := by rw [hW]; exact (Box.new rfl).alloc _
  have X4 : Hid (Box W (w1.heap.size + 1) #[.int .i64 f, .int .i64 d]) := by rw [hW]; exact Box.new (by simp)
  have b : Below w1.heap.size w1 W := by rw [hW]; exact ((Below.refl _ _).alloc (Nat.le_refl _) _).alloc (by simp) _
  have z0 : w1.heap.size + 1 < W.heap.size := by rw [hW]; simp
  clear hW
  replace P := hide (P.out.below b)
  replace BW := hide (bthen BW.out b)
  clear b
  refine (implNextStop P0 P1 P2 p0 p1 p2 C f d _ P.out.cr).mono ?_
  rw [← HN.out, stC_eq]
  rintro e w2 ⟨rfl, b⟩
  have z2 := b.size
  replace P := hide (P.out.below b)
  replace X3 := hide (X3.out.below b)
  replace X4 := hide (X4.out.below b)
  replace BW := hide (bthen BW.out b)
  clear b
  go_upto_region 5 with fail
  refine code_name fun W3 hW => ?_
  have X5 : Hid (Box W3 w2.heap.size #[.int .i64 (stF N), .int .i64 (stD N)]) := by rw [hW]; exact Box.new rfl
  have b : Below w2.heap.size w2 W3 := by rw [hW]; exact (Below.refl _ _).alloc (Nat.le_refl _) _
  have z3 := X5.out.lt
  replace P := hide (P.out.below b)
  replace X3 := hide (X3.out.below b)
  replace X4 := hide (X4.out.below b)
  replace BW := hide (bthen BW.out b)
  clear b
  clear hW
  have e0 : (stF N == stF N) = true := by simp
  have e1 : (stD N == stD N) = true := by simp
  have X3_lt := X3.out.lt
  have X3_c0 := X3.out.at (i := 0) rfl; have X3_f0 := X3.out.frozen 0
  have X3_c1 := X3.out.at (i := 1) rfl; have X3_f1 := X3.out.frozen 1
  have X3_c2 := X3.out.at (i := 2) rfl; have X3_f2 := X3.out.frozen 2
  have X4_lt := X4.out.lt
  have X4_c0 := X4.out.at (i := 0) rfl; have X4_f0 := X4.out.frozen 0
  have X4_c1 := X4.out.at (i := 1) rfl; have X4_f1 := X4.out.frozen 1
  have X5_lt := X5.out.lt
  have X5_c0 := X5.out.at (i := 0) rfl; have X5_f0 := X5.out.frozen 0
  have X5_c1 := X5.out.at (i := 1) rfl; have X5_f1 := X5.out.frozen 1
  have KS : Hid (∀ W', Below W3.heap.size W3 W' → (W'.cell? ⟨w1.heap.size, 0, none⟩ = some (.slice P0 C.up.length p0) ∧ W'.cell? ⟨w1.heap.size, 1, none⟩ = some (.slice P1 C.dn.length p1) ∧ W'.cell? ⟨w1.heap.size, 2, none⟩ = some (.slice P2 C.car.length p2)) ∧ (W'.cell? ⟨w1.heap.size + 1, 0, none⟩ = some (.int .i64 f) ∧ W'.cell? ⟨w1.heap.size + 1, 1, none⟩ = some (.int .i64 d)) ∧ W'.cell? ⟨w2.heap.size, 0, none⟩ = some (.int .i64 (stF N)) ∧ W'.cell? ⟨w2.heap.size, 1, none⟩ = some (.int .i64 (stD N))) := fun W' bb => ⟨⟨(X3.out.below bb).at rfl, (X3.out.below bb).at rfl, (X3.out.below bb).at rfl⟩, ⟨(X4.out.below bb).at rfl, (X4.out.below bb).at rfl⟩, (X5.out.below bb).at rfl, (X5.out.below bb).at rfl⟩
  have KK : Hid (Below W3.heap.size W3 W3.drew) := (Below.refl _ _).drew
  go_region_held3 (fun W => (W.cell? ⟨w1.heap.size, 0, none⟩ = some (.slice P0 C.up.length p0) ∧ W.cell? ⟨w1.heap.size, 1, none⟩ = some (.slice P1 C.dn.length p1) ∧ W.cell? ⟨w1.heap.size, 2, none⟩ = some (.slice P2 C.car.length p2)) ∧ (W.cell? ⟨w1.heap.size + 1, 0, none⟩ = some (.int .i64 f) ∧ W.cell? ⟨w1.heap.size + 1, 1, none⟩ = some (.int .i64 d)) ∧ W.cell? ⟨w2.heap.size, 0, none⟩ = some (.int .i64 (stF N)) ∧ W.cell? ⟨w2.heap.size, 1, none⟩ = some (.int .i64 (stD N))) (first | (go_keep; done) | exact KS.out _ KK.out) (first | (go_at_call 10; (with_reducible refine (specNextStop P0 P1 P2 p0 p1 p2 C f d _ ?_).mono ?_); exact P.out.cr.below KK.out; rw [← HN.out, stC_eq]; rintro e v ⟨rfl, bb⟩; replace KK := hide (bthen KK.out bb); have zKK := KK.out.size; clear bb))
  rename ((v.cell? ⟨w1.heap.size, 0, none⟩ = some (.slice P0 C.up.length p0) ∧ v.cell? ⟨w1.heap.size, 1, none⟩ = some (.slice P1 C.dn.length p1) ∧ v.cell? ⟨w1.heap.size, 2, none⟩ = some (.slice P2 C.car.length p2)) ∧ (v.cell? ⟨w1.heap.size + 1, 0, none⟩ = some (.int .i64 f) ∧ v.cell? ⟨w1.heap.size + 1, 1, none⟩ = some (.int .i64 d)) ∧ v.cell? ⟨w2.heap.size, 0, none⟩ = some (.int .i64 (stF N)) ∧ v.cell? ⟨w2.heap.size, 1, none⟩ = some (.int .i64 (stD N))) => hHeldX
  clear KS hHeldX
  clear X3_lt X3_c0 X3_f0 X3_c1 X3_f1 X3_c2 X3_f2
  clear X4_lt X4_c0 X4_f0 X4_c1 X4_f1
  clear X5_lt X5_c0 X5_f0 X5_c1 X5_f1
  replace P := hide (P.out.below KK.out)
  replace X3 := hide (X3.out.below KK.out)
  replace X4 := hide (X4.out.below KK.out)
  replace X5 := hide (X5.out.below KK.out)
  replace BW := hide (bthen BW.out KK.out)
  clear KK
  cases N with
  | none =>
    rw [show stF none = -1 from rfl, show stD none = 0 from rfl] at X5
    have X5_lt := X5.out.lt
    have X5_c0 := X5.out.at (i := 0) rfl; have X5_f0 := X5.out.frozen 0
    have X5_c1 := X5.out.at (i := 1) rfl; have X5_f1 := X5.out.frozen 1
    have X3_lt := X3.out.lt
    have X3_c0 := X3.out.at (i := 0) rfl; have X3_f0 := X3.out.frozen 0
    have X3_c1 := X3.out.at (i := 1) rfl; have X3_f1 := X3.out.frozen 1
    have X3_c2 := X3.out.at (i := 2) rfl; have X3_f2 := X3.out.frozen 2
    have X4_lt := X4.out.lt
    have X4_c0 := X4.out.at (i := 0) rfl; have X4_f0 := X4.out.frozen 0
    have X4_c1 := X4.out.at (i := 1) rfl; have X4_f1 := X4.out.frozen 1
    go_wp2_with fail
    clear X3_lt X3_c0 X3_f0 X3_c1 X3_f1 X3_c2 X3_f2
    clear X4_lt X4_c0 X4_f0 X4_c1 X4_f1
    clear X5_lt X5_c0 X5_f0 X5_c1 X5_f1
    refine (lawStopOk P0 P1 P2 p0 p1 p2 C f d _ P.out.cr).mono ?_
    rintro e w4 ⟨rfl, b⟩
    replace P := hide (P.out.below b)
    replace X3 := hide (X3.out.below b)
    replace BW := hide (bthen BW.out b)
    clear b
    cases hv : callsB C && stopOkB C.car.length f d
    · go_wp2_with fail
      refine (alive_any _).mono ?_
      rintro e w9 ⟨rfl, b9⟩
      have B9 := hide b9
      clear b9
      go_wp2_with fail
      go_ret
      exact ⟨rfl, bthen BW.out B9.out⟩
    · rw [Bool.and_eq_true] at hv
      obtain ⟨hf, hd⟩ := stopOkB_iff.1 hv.2
      have hm : Hid (manyB C = 0) := by
        have hn := HN.out
        rw [nextB_yes hv.1 hv.2] at hn
        rw [manyB_yes hv.1]; exact next_none (callsB_iff.1 hv.1) hf hd hn.symm
      clear hv hf hd
      have X3_lt := X3.out.lt
      have X3_c0 := X3.out.at (i := 0) rfl; have X3_f0 := X3.out.frozen 0
      have X3_c1 := X3.out.at (i := 1) rfl; have X3_f1 := X3.out.frozen 1
      have X3_c2 := X3.out.at (i := 2) rfl; have X3_f2 := X3.out.frozen 2
      go_wp2_with fail
      clear X3_lt X3_c0 X3_f0 X3_c1 X3_f1 X3_c2 X3_f2
      refine (implCallsMany P0 P1 P2 p0 p1 p2 C _ P.out.cr).mono ?_
      rw [hm.out]
      rintro e w5 ⟨rfl, b⟩
      replace BW := hide (bthen BW.out b)
      clear b
      go_wp2_with fail
      refine (alive_any _).mono ?_
      rintro e w9 ⟨rfl, b9⟩
      have B9 := hide b9
      clear b9
      go_wp2_with fail
      go_ret
      exact ⟨rfl, bthen BW.out B9.out⟩
  | some r =>
    obtain ⟨g, dd⟩ := r
    rw [show stF (some (g, dd)) = g from rfl, show stD (some (g, dd)) = dd from rfl] at X5
    have hv : callsB C = true ∧ stopOkB C.car.length f d = true := by
      have hn := HN.out; unfold nextB at hn
      split at hn
      · rename_i h; rw [Bool.and_eq_true] at h; exact h
      · cases hn
    have hn : nextO C f d = some (g, dd) := by rw [← nextB_yes hv.1 hv.2]; exact HN.out.symm
    obtain ⟨hf, hd⟩ := stopOkB_iff.1 hv.2
    obtain ⟨g1, g2, g3⟩ := next_good hf hd hn
    have hC := callsB_iff.1 hv.1
    have hCL : 1 ≤ C.car.length ∧ C.up.length = C.car.length ∧ C.dn.length = C.car.length := ⟨hC.1, hC.2.2.1, hC.2.2.2.1⟩
    have HCL := hide hCL
    have HNB := hide (fun u k => next_between hf hd hn (u := u) (k := k))
    have HSV : Hid (serveB C g dd = serveC C g dd) := serveB_yes hv.1 (stopOkB_iff.2 ⟨g1, g2⟩)
    have hless := serve_less hC g1 g2 g3
    have hm1 : manyB C = manyC C := manyB_yes hv.1
    have hm2 : manyB (serveC C g dd) = manyC (serveC C g dd) := manyB_yes (callsB_iff.2 (serve_valid hC g dd))
    obtain ⟨ma, hma⟩ : ∃ ma, ma = manyB C := ⟨_, rfl⟩
    obtain ⟨mb, hmb⟩ : ∃ mb, mb = manyB (serveC C g dd) := ⟨_, rfl⟩
    have hmm : mb < ma := by omega
    have hc8 : C.car.length ≤ 8 := hC.2.1
    have HMA := hide hma; have HMB := hide hmb
    clear hma hmb hm1 hm2 hless hC hCL hn hv g3 e0 e1
    have X5_lt := X5.out.lt
    have X5_c0 := X5.out.at (i := 0) rfl; have X5_f0 := X5.out.frozen 0
    have X5_c1 := X5.out.at (i := 1) rfl; have X5_f1 := X5.out.frozen 1
    have X4_lt := X4.out.lt
    have X4_c0 := X4.out.at (i := 0) rfl; have X4_f0 := X4.out.frozen 0
    have X4_c1 := X4.out.at (i := 1) rfl; have X4_f1 := X4.out.frozen 1
    have X3_lt := X3.out.lt
    have X3_c0 := X3.out.at (i := 0) rfl; have X3_f0 := X3.out.frozen 0
    have X3_c1 := X3.out.at (i := 1) rfl; have X3_f1 := X3.out.frozen 1
    have X3_c2 := X3.out.at (i := 2) rfl; have X3_f2 := X3.out.frozen 2
    go_wp2_with fail
    go_loop [6] (fun i => ∃ k : Int, i = .int .i64 k ∧ min f g ≤ k ∧ k ≤ max f g + 1) (fun i => (max f g + 1 - intOf i).toNat)
    case atStart => exact ⟨_, rfl, by omega, by omega⟩
    case round =>
      obtain ⟨k, rfl, ka, kb⟩ := hrel
      obtain ⟨kn, rfl⟩ : ∃ kn : Nat, k = (kn : Int) := ⟨k.toNat, by omega⟩
      by_cases hlt : (kn : Int) ≤ max f g
      · have hdir : (∃ u : Int, u = 1 ∧ f < g) ∨ (∃ u : Int, u = 1 ∧ ¬ f < g ∧ f = g ∧ dd = 1) ∨ (∃ u : Int, u = -1 ∧ ¬ f < g ∧ f = g ∧ dd = -1) ∨ (∃ u : Int, u = -1 ∧ g < f) := by
          rcases Int.lt_trichotomy f g with h | h | h
          · exact .inl ⟨_, rfl, h⟩
          · rcases g2 with h2 | h2
            · exact .inr (.inl ⟨_, rfl, by omega, h, h2⟩)
            · exact .inr (.inr (.inl ⟨_, rfl, by omega, h, h2⟩))
          · exact .inr (.inr (.inr ⟨_, rfl, h⟩))
        have hkn : kn < C.car.length := by omega
        obtain ⟨b0, o0, x0, rfl, q0, y0, k0⟩ := P.out.cr.up.at (k := kn) (by have := HCL.out; omega)
        obtain ⟨b1, o1, x1, rfl, q1, y1, k1⟩ := P.out.cr.dn.at (k := kn) (by have := HCL.out; omega)
        obtain ⟨b2, o2, x2, rfl, q2, y2, k2⟩ := P.out.cr.car.at (k := kn) (by have := HCL.out; omega)
        have p0' : (kn : Int) < (C.up.length : Int) := by have := HCL.out; omega
        have p1' : (kn : Int) < (C.dn.length : Int) := by have := HCL.out; omega
        have p2' : (kn : Int) < (C.car.length : Int) := by omega
        have r0' : (0 : Int) ≤ (kn : Int) := by omega
        by_cases hkg : (kn : Int) = g
        · have hkg' : ((kn : Int) != g) = false := by simp [hkg]
          have HK := hide hkg
          clear hkg
          rcases hdir with ⟨u, rfl, hu⟩ | ⟨u, rfl, h1, h2, rfl⟩ | ⟨u, rfl, h1, h2, rfl⟩ | ⟨u, rfl, hu⟩
          · go_wp2_with fail
            go_round
            case rel => exact ⟨(kn : Int) + 1, by go_num, by omega, by omega⟩
            case measure => simp [intOf]; omega
          · have hgf : (g == f) = true := by simp [h2]
            clear h2
            go_wp2_with fail
            go_round
            case rel => exact ⟨(kn : Int) + 1, by go_num, by omega, by omega⟩
            case measure => simp [intOf]; omega
          · have hgf : (g == f) = true := by simp [h2]
            clear h2
            go_wp2_with fail
            go_round
            case rel => exact ⟨(kn : Int) + 1, by go_num, by omega, by omega⟩
            case measure => simp [intOf]; omega
          · have hgf : (g == f) = false := by simp; omega
            go_wp2_with fail
            go_round
            case rel => exact ⟨(kn : Int) + 1, by go_num, by omega, by omega⟩
            case measure => simp [intOf]; omega
        · have hkg' : ((kn : Int) != g) = true := by simpa using hkg
          have hh := fun u hu => hit_parts (HNB.out u kn hu ⟨ka, hlt⟩ hkg) y0.out y1.out y2.out
          clear hkg
          rcases hdir with ⟨u, rfl, hu⟩ | ⟨u, rfl, h1, h2, rfl⟩ | ⟨u, rfl, h1, h2, rfl⟩ | ⟨u, rfl, hu⟩
          · obtain ⟨rfl, e, -⟩ := hh 1 (.inl ⟨rfl, .inl hu⟩)
            obtain rfl := e (by omega)
            clear hh e y0 y1 y2
            go_wp2_with fail
            go_round
            case rel => exact ⟨(kn : Int) + 1, by go_num, by omega, by omega⟩
            case measure => simp [intOf]; omega
          · obtain ⟨rfl, e, -⟩ := hh 1 (.inl ⟨rfl, .inr ⟨h2, rfl⟩⟩)
            obtain rfl := e (by omega)
            have hgf : (g == f) = true := by simp [h2]
            clear hh e y0 y1 y2 h2
            go_wp2_with fail
            go_round
            case rel => exact ⟨(kn : Int) + 1, by go_num, by omega, by omega⟩
            case measure => simp [intOf]; omega
          · obtain ⟨rfl, -, e⟩ := hh (-1) (.inr ⟨rfl, by omega⟩)
            obtain rfl := e (by omega)
            have hgf : (g == f) = true := by simp [h2]
            clear hh e y0 y1 y2 h2
            go_wp2_with fail
            go_round
            case rel => exact ⟨(kn : Int) + 1, by go_num, by omega, by omega⟩
            case measure => simp [intOf]; omega
          · obtain ⟨rfl, -, e⟩ := hh (-1) (.inr ⟨rfl, by omega⟩)
            obtain rfl := e (by omega)
            have hgf : (g == f) = false := by simp; omega
            clear hh e y0 y1 y2
            go_wp2_with fail
            go_round
            case rel => exact ⟨(kn : Int) + 1, by go_num, by omega, by omega⟩
            case measure => simp [intOf]; omega
      · go_wp2_with fail
        obtain ⟨W9, rfl⟩ : ∃ W9 : World, W9 = v := ⟨_, rfl⟩
        have KS : Hid (∀ W', Below W9.heap.size W9 W' → (W'.cell? ⟨w1.heap.size, 0, none⟩ = some (.slice P0 C.up.length p0) ∧ W'.cell? ⟨w1.heap.size, 1, none⟩ = some (.slice P1 C.dn.length p1) ∧ W'.cell? ⟨w1.heap.size, 2, none⟩ = some (.slice P2 C.car.length p2)) ∧ W'.cell? ⟨w2.heap.size, 0, none⟩ = some (.int .i64 g) ∧ W'.cell? ⟨w2.heap.size, 1, none⟩ = some (.int .i64 dd)) := fun W' bb => ⟨⟨(X3.out.below bb).at rfl, (X3.out.below bb).at rfl, (X3.out.below bb).at rfl⟩, (X5.out.below bb).at rfl, (X5.out.below bb).at rfl⟩
        have KK : Hid (Below W9.heap.size W9 W9.drew) := (Below.refl _ _).drew
        go_region_held3 (fun W => (W.cell? ⟨w1.heap.size, 0, none⟩ = some (.slice P0 C.up.length p0) ∧ W.cell? ⟨w1.heap.size, 1, none⟩ = some (.slice P1 C.dn.length p1) ∧ W.cell? ⟨w1.heap.size, 2, none⟩ = some (.slice P2 C.car.length p2)) ∧ W.cell? ⟨w2.heap.size, 0, none⟩ = some (.int .i64 g) ∧ W.cell? ⟨w2.heap.size, 1, none⟩ = some (.int .i64 dd)) (first | (go_keep; done) | exact KS.out _ KK.out) (first | (go_at_call 17; (with_reducible refine (implServeStop_at P0 P1 P2 p0 p1 p2 C g dd (serveC C g dd) HSV.out.symm _ ?_).mono ?_); exact P.out.cr.below KK.out; rintro e v ⟨S0, S1, S2, s0, s1, s2, rfl, S, bb⟩; replace S := hide S; replace KK := hide (bthen KK.out bb); have zKK := KK.out.size; clear bb) | (go_at_call 26; (with_reducible refine (implCallsMany S0 S1 S2 s0 s1 s2 (serveC C g dd) _ ?_).mono ?_); exact S.out.cr; rw [← HMB.out]; rintro e v ⟨rfl, bb⟩; (first | replace S := hide (S.out.below bb) | skip); replace KK := hide (bthen KK.out bb); have zKK := KK.out.size; clear bb) | (go_at_call 26; (with_reducible refine (implCallsMany P0 P1 P2 p0 p1 p2 C _ ?_).mono ?_); exact P.out.cr.below KK.out; rw [← HMA.out]; rintro e v ⟨rfl, bb⟩; (first | replace S := hide (S.out.below bb) | skip); replace KK := hide (bthen KK.out bb); have zKK := KK.out.size; clear bb))
        rename ((v.cell? ⟨w1.heap.size, 0, none⟩ = some (.slice P0 C.up.length p0) ∧ v.cell? ⟨w1.heap.size, 1, none⟩ = some (.slice P1 C.dn.length p1) ∧ v.cell? ⟨w1.heap.size, 2, none⟩ = some (.slice P2 C.car.length p2)) ∧ v.cell? ⟨w2.heap.size, 0, none⟩ = some (.int .i64 g) ∧ v.cell? ⟨w2.heap.size, 1, none⟩ = some (.int .i64 dd)) => hHeldX
        clear KS hHeldX
        all_goals
          go_wp2_with fail
          go_ret
          exact ⟨rfl, bthen BW.out KK.out⟩
end Go.Proofs.Ytngblphkpkhppaa
