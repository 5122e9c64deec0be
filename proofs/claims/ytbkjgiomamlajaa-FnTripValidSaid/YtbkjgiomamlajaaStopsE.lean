/- Stops: the reference's NextStop. -/
import Derived.Test.YtbkjgiomamlajaaStopsD
import Derived.Deep.RegionHeld3
import Derived.Deep.DrawnRows
namespace Go.Proofs.Ytbkjgiomamlajaa
open Go.RowKit
attribute [local go_sem ↓] Go.wp_at_zero Go.wp_at_succ

def dirK (d : Int) (k : Nat) : Int := if k = 1 then -d else d
theorem dirK_next (d : Int) {k : Nat} (h : k < 2) : dirK d (k + 1) = - dirK d k := by
  have : k = 0 ∨ k = 1 := by omega
  rcases this with rfl | rfl <;> simp [dirK]
theorem dirK_or {d : Int} (h : d = 1 ∨ d = -1) (k : Nat) : dirK d k = 1 ∨ dirK d k = -1 := by unfold dirK; split <;> omega
/-- What is known when the k-th look begins: the looks before found nothing. -/
def LookN (C : Cl) (f d : Int) (k : Nat) : Prop := ∀ j, j < k → towardL C (dirK d j) (path C.car.length f (dirK d j)) = none
theorem look_some {C : Cl} {f d : Int} {k : Nat} {r : Int × Int} (hk : k < 2) (h : LookN C f d k) (hs : towardL C (dirK d k) (path C.car.length f (dirK d k)) = some r) : nextO C f d = some r := by
  have : k = 0 ∨ k = 1 := by omega
  rcases this with rfl | rfl
  · exact next_first hs
  · have h0 := h 0 (by omega)
    rw [next_second (by simpa [dirK] using h0)]; simpa [dirK] using hs
theorem look_step {C : Cl} {f d : Int} {k : Nat} (h : LookN C f d k) (hs : towardL C (dirK d k) (path C.car.length f (dirK d k)) = none) : LookN C f d (k + 1) := fun j hj => by
  rcases Nat.lt_succ_iff_lt_or_eq.1 hj with h1 | rfl
  · exact h j h1
  · exact hs
theorem look_none {C : Cl} {f d : Int} (h : LookN C f d 2) : nextO C f d = none := by
  have h0 := h 0 (by omega); have h1 := h 1 (by omega)
  rw [next_second (by simpa [dirK] using h0)]; simpa [dirK] using h1
theorem l9Ok_at (A0 A1 A2 : Option Addr) (c0 c1 c2 : Nat) (C : Cl) (f d : Int) (w : World) (b : Bool) (hb : (callsB C && stopOkB C.car.length f d) = b) (h : CR w A0 A1 A2 C) :
    Calls Try.prog 79 #[.agg #[.slice A0 C.up.length c0, .slice A1 C.dn.length c1, .slice A2 C.car.length c2], .agg #[.int .i64 f, .int .i64 d]] w fun e w' => e = .returned (.bool b) ∧ Below w.heap.size w w' := by subst hb; exact l9Ok_any A0 A1 A2 c0 c1 c2 C f d w h
set_option maxHeartbeats 4000000 in
theorem specNextStop (A0 A1 A2 : Option Addr) (c0 c1 c2 : Nat) (C : Cl) (f d : Int) (w : World) (h : CR w A0 A1 A2 C) :
    Calls Try.prog 69 #[.agg #[.slice A0 C.up.length c0, .slice A1 C.dn.length c1, .slice A2 C.car.length c2], .agg #[.int .i64 f, .int .i64 d]] w fun e w' => e = .returned (.agg (stC (nextB C f d))) ∧ Below w.heap.size w w' := by
  have H := hide h; clear h
  go_enter Try.func69, Try.ntmps69
  go_wp2_with fail
  refine calls_name fun W hW => ?_
  have X2 : Hid (Box W w.heap.size #[.slice A0 C.up.length c0, .slice A1 C.dn.length c1, .slice A2 C.car.length c2]) := by rw [hW]; exact ((Box.new rfl).alloc _).alloc _
  have X3 : Hid (Box W (w.heap.size + 1) #[.int .i64 f, .int .i64 d]) := by rw [hW]; exact (Box.new (by simp)).alloc _
  have X4 : Hid (Box W (w.heap.size + 1 + 1) #[.int .i64 0, .int .i64 0]) := by rw [hW]; exact Box.new (by simp)
  have BW : Hid (Below w.heap.size w W) := by rw [hW]; exact (((Below.refl _ _).alloc (Nat.le_refl _) _).alloc (by simp) _).alloc (by simp; omega) _
  clear hW
  cases hv : (callsB C && stopOkB C.car.length f d)
  · have HV := hide hv
    have HE : Hid (nextB C f d = none) := by unfold Hid nextB; rw [hv]; rfl
    clear hv
    refine (l9Ok_at A0 A1 A2 c0 c1 c2 C f d _ false HV.out (H.out.below BW.out)).mono ?_
    rintro e w1 ⟨rfl, b⟩
    replace X4 := hide (X4.out.below b)
    replace BW := hide (bthen BW.out b)
    clear b
    have X4_lt := X4.out.lt
    have X4_c0 := X4.out.at (i := 0) rfl; have X4_f0 := X4.out.frozen 0
    have X4_c1 := X4.out.at (i := 1) rfl; have X4_f1 := X4.out.frozen 1
    go_wp2_with fail
    refine bodyPost_ret (by simp [results, Try.results69, go_sem, X4_c0, X4_c1]; rfl) rfl ?_
    rw [HE.out]
    exact ⟨rfl, (BW.out.setCell (by simp; omega) _).setCell (by simp; omega) _⟩
  · have HV := hide hv
    rw [Bool.and_eq_true] at hv
    have HE := hide (nextB_yes hv.1 hv.2)
    obtain ⟨hf, hd⟩ := stopOkB_iff.1 hv.2
    have HC := hide (callsB_iff.1 hv.1); have HF := hide hf; have HD := hide hd
    have hdd : -1 ≤ d ∧ d ≤ 1 := by omega
    clear hv hd
    refine (l9Ok_at A0 A1 A2 c0 c1 c2 C f d _ true HV.out (H.out.below BW.out)).mono ?_
    rintro e w1 ⟨rfl, b⟩
    replace X2 := hide (X2.out.below b)
    replace X3 := hide (X3.out.below b)
    replace X4 := hide (X4.out.below b)
    replace BW := hide (bthen BW.out b)
    clear b
    go_wp2_with fail
    go_loopw [5] (fun t wr => ∃ k : Nat, k ≤ 2 ∧ t = .int .i64 (k : Int) ∧ Hid (Box wr w.heap.size #[.slice A0 C.up.length c0, .slice A1 C.dn.length c1, .slice A2 C.car.length c2]) ∧ Hid (Box wr (w.heap.size + 1) #[.int .i64 f, .int .i64 (dirK d k)]) ∧ Hid (Box wr (w.heap.size + 1 + 1) #[.int .i64 0, .int .i64 0]) ∧ Hid (Below w.heap.size w wr) ∧ Hid (LookN C f d k)) (fun t _ => 2 - (intOf t).toNat)
    case atStart => exact ⟨0, by omega, rfl, X2, X3, X4, BW, fun j hj => by omega⟩
    case round =>
      clear X2 X3 X4 BW
      obtain ⟨k, hk, rfl, X2, X3, X4, BW, hN⟩ := hrel
      by_cases hlt : k < 2
      · have hlt2 : (k : Int) < 2 := by omega
        have hD := dirK_or HD.out k
        have hnx := hide (dirK_next d hlt)
        obtain ⟨D, hDD⟩ : ∃ D, D = dirK d k := ⟨_, rfl⟩
        have hstep := hide fun h => look_step (C := C) (f := f) (d := d) hN.out h
        have hsome := hide fun (r : Int × Int) h => look_some (C := C) (f := f) (d := d) (r := r) hlt hN.out h
        rw [← hDD] at hD hnx hstep hsome X3
        have HDk := hide hD
        have hDb : -1 ≤ D ∧ D ≤ 1 := by omega
        have htw := toward_two (C := C) HF.out hD
        clear hD hDD hN
        have X2_lt := X2.out.lt
        have X2_c0 := X2.out.at (i := 0) rfl; have X2_f0 := X2.out.frozen 0
        have X2_c1 := X2.out.at (i := 1) rfl; have X2_f1 := X2.out.frozen 1
        have X2_c2 := X2.out.at (i := 2) rfl; have X2_f2 := X2.out.frozen 2
        have X3_lt := X3.out.lt
        have X3_c0 := X3.out.at (i := 0) rfl; have X3_f0 := X3.out.frozen 0
        have X3_c1 := X3.out.at (i := 1) rfl; have X3_f1 := X3.out.frozen 1
        go_wp2_with fail
        clear X2_lt X2_c0 X2_f0 X2_c1 X2_f1 X2_c2 X2_f2
        clear X3_lt X3_c0 X3_f0 X3_c1 X3_f1
        refine (l9Ahead_any A0 A1 A2 c0 c1 c2 C f D _ (H.out.below BW.out) HC.out HF.out HDk.out).mono ?_
        rintro e w2 ⟨rfl, b⟩
        replace X2 := hide (X2.out.below b)
        replace X3 := hide (X3.out.below b)
        replace X4 := hide (X4.out.below b)
        replace BW := hide (bthen BW.out b)
        clear b
        obtain ⟨a, hA⟩ : ∃ a, a = aheadI C C.car.length f D := ⟨_, rfl⟩
        obtain ⟨l, hL⟩ : ∃ l, l = lastI C C.car.length f D (steps C.car.length f D) := ⟨_, rfl⟩
        rw [← hA, ← hL] at htw
        rw [← hA]
        have HA := hide hA; have HLL := hide hL
        clear hA hL
        by_cases ha : 0 ≤ a
        · rw [if_pos ha] at htw
          have HO := hide (hsome.out _ htw)
          clear htw
          have X2_lt := X2.out.lt
          have X2_c0 := X2.out.at (i := 0) rfl; have X2_f0 := X2.out.frozen 0
          have X2_c1 := X2.out.at (i := 1) rfl; have X2_f1 := X2.out.frozen 1
          have X2_c2 := X2.out.at (i := 2) rfl; have X2_f2 := X2.out.frozen 2
          have X3_lt := X3.out.lt
          have X3_c0 := X3.out.at (i := 0) rfl; have X3_f0 := X3.out.frozen 0
          have X3_c1 := X3.out.at (i := 1) rfl; have X3_f1 := X3.out.frozen 1
          go_upto_region 7 with fail
          have Y2 := hide X2.out.drew; have Y3 := hide X3.out.drew; have Y4 := hide X4.out.drew
          have YB := hide BW.out.drew
          go_region_held3 (fun W => (W.cell? ⟨w.heap.size, 0, none⟩ = some (.slice A0 C.up.length c0) ∧ W.cell? ⟨w.heap.size, 1, none⟩ = some (.slice A1 C.dn.length c1) ∧ W.cell? ⟨w.heap.size, 2, none⟩ = some (.slice A2 C.car.length c2)) ∧ W.cell? ⟨w.heap.size + 1, 0, none⟩ = some (.int .i64 f) ∧ W.cell? ⟨w.heap.size + 1, 1, none⟩ = some (.int .i64 D)) (first | (go_keep; done) | exact ⟨⟨(Y2s.out _ _).at rfl, (Y2s.out _ _).at rfl, (Y2s.out _ _).at rfl⟩, (Y3s.out _ _).at rfl, (Y3s.out _ _).at rfl⟩ | exact ⟨⟨(Y2.out.below b7.out).at rfl, (Y2.out.below b7.out).at rfl, (Y2.out.below b7.out).at rfl⟩, (Y3.out.below b7.out).at rfl, (Y3.out.below b7.out).at rfl⟩) ((go_at_call 80; (with_reducible refine (l9Ahead_any A0 A1 A2 c0 c1 c2 C f D w2.drew (H.out.below YB.out) HC.out HF.out HDk.out).mono ?_); rw [← HA.out]; rintro e w7 ⟨rfl, b7⟩; replace b7 := hide b7; have Y4e := hide (Y4.out.below b7.out); have j0 := Y4e.out.at (i := 0) rfl; have j1 := Y4e.out.at (i := 1) rfl; have jf0 := Y4e.out.frozen 0; have jf1 := Y4e.out.frozen 1; have Y2s := hide fun (u v : Value) => ((Y2.out.below b7.out).far (p := ⟨w.heap.size + 1 + 1, 0, none⟩) (by show w.heap.size ≠ w.heap.size + 1 + 1; omega) u).far (p := ⟨w.heap.size + 1 + 1, 1, none⟩) (by show w.heap.size ≠ w.heap.size + 1 + 1; omega) v; have Y3s := hide fun (u v : Value) => ((Y3.out.below b7.out).far (p := ⟨w.heap.size + 1 + 1, 0, none⟩) (by show w.heap.size + 1 ≠ w.heap.size + 1 + 1; omega) u).far (p := ⟨w.heap.size + 1 + 1, 1, none⟩) (by show w.heap.size + 1 ≠ w.heap.size + 1 + 1; omega) v))
          go_wp2_with fail
          refine bodyPost_ret (by simp [results, Try.results69, go_sem, j0, j1]; rfl) rfl ?_
          rw [HE.out, HO.out, stC_eq]
          exact ⟨rfl, ((bthen YB.out b7.out).setCell (by simp; omega) _).setCell (by simp; omega) _⟩
        · rw [if_neg ha] at htw
          have X2_lt := X2.out.lt
          have X2_c0 := X2.out.at (i := 0) rfl; have X2_f0 := X2.out.frozen 0
          have X2_c1 := X2.out.at (i := 1) rfl; have X2_f1 := X2.out.frozen 1
          have X2_c2 := X2.out.at (i := 2) rfl; have X2_f2 := X2.out.frozen 2
          have X3_lt := X3.out.lt
          have X3_c0 := X3.out.at (i := 0) rfl; have X3_f0 := X3.out.frozen 0
          have X3_c1 := X3.out.at (i := 1) rfl; have X3_f1 := X3.out.frozen 1
          go_wp2_with fail
          clear X2_lt X2_c0 X2_f0 X2_c1 X2_f1 X2_c2 X2_f2
          clear X3_lt X3_c0 X3_f0 X3_c1 X3_f1
          refine (l9Last_any A0 A1 A2 c0 c1 c2 C f D _ (H.out.below BW.out) HC.out HF.out HDk.out).mono ?_
          rintro e w3 ⟨rfl, b⟩
          replace X2 := hide (X2.out.below b)
          replace X3 := hide (X3.out.below b)
          replace X4 := hide (X4.out.below b)
          replace BW := hide (bthen BW.out b)
          clear b
          rw [← HLL.out]
          by_cases hl : 0 ≤ l
          · rw [if_pos hl] at htw
            have HO := hide (hsome.out _ htw)
            clear htw
            have X2_lt := X2.out.lt
            have X2_c0 := X2.out.at (i := 0) rfl; have X2_f0 := X2.out.frozen 0
            have X2_c1 := X2.out.at (i := 1) rfl; have X2_f1 := X2.out.frozen 1
            have X2_c2 := X2.out.at (i := 2) rfl; have X2_f2 := X2.out.frozen 2
            have X3_lt := X3.out.lt
            have X3_c0 := X3.out.at (i := 0) rfl; have X3_f0 := X3.out.frozen 0
            have X3_c1 := X3.out.at (i := 1) rfl; have X3_f1 := X3.out.frozen 1
            go_upto_region 9 with fail
            have Y2 := hide X2.out.drew; have Y3 := hide X3.out.drew; have Y4 := hide X4.out.drew
            have YB := hide BW.out.drew
            go_region_held3 (fun W => (W.cell? ⟨w.heap.size, 0, none⟩ = some (.slice A0 C.up.length c0) ∧ W.cell? ⟨w.heap.size, 1, none⟩ = some (.slice A1 C.dn.length c1) ∧ W.cell? ⟨w.heap.size, 2, none⟩ = some (.slice A2 C.car.length c2)) ∧ W.cell? ⟨w.heap.size + 1, 0, none⟩ = some (.int .i64 f) ∧ W.cell? ⟨w.heap.size + 1, 1, none⟩ = some (.int .i64 D)) (first | (go_keep; done) | exact ⟨⟨(Y2s.out _ _).at rfl, (Y2s.out _ _).at rfl, (Y2s.out _ _).at rfl⟩, (Y3s.out _ _).at rfl, (Y3s.out _ _).at rfl⟩ | exact ⟨⟨(Y2.out.below b7.out).at rfl, (Y2.out.below b7.out).at rfl, (Y2.out.below b7.out).at rfl⟩, (Y3.out.below b7.out).at rfl, (Y3.out.below b7.out).at rfl⟩) ((go_at_call 81; (with_reducible refine (l9Last_any A0 A1 A2 c0 c1 c2 C f D w3.drew (H.out.below YB.out) HC.out HF.out HDk.out).mono ?_); rw [← HLL.out]; rintro e w7 ⟨rfl, b7⟩; replace b7 := hide b7; have Y4e := hide (Y4.out.below b7.out); have j0 := Y4e.out.at (i := 0) rfl; have j1 := Y4e.out.at (i := 1) rfl; have jf0 := Y4e.out.frozen 0; have jf1 := Y4e.out.frozen 1; have Y2s := hide fun (u v : Value) => ((Y2.out.below b7.out).far (p := ⟨w.heap.size + 1 + 1, 0, none⟩) (by show w.heap.size ≠ w.heap.size + 1 + 1; omega) u).far (p := ⟨w.heap.size + 1 + 1, 1, none⟩) (by show w.heap.size ≠ w.heap.size + 1 + 1; omega) v; have Y3s := hide fun (u v : Value) => ((Y3.out.below b7.out).far (p := ⟨w.heap.size + 1 + 1, 0, none⟩) (by show w.heap.size + 1 ≠ w.heap.size + 1 + 1; omega) u).far (p := ⟨w.heap.size + 1 + 1, 1, none⟩) (by show w.heap.size + 1 ≠ w.heap.size + 1 + 1; omega) v))
            go_wp2_with fail
            refine bodyPost_ret (by simp [results, Try.results69, go_sem, j0, j1]; rfl) rfl ?_
            rw [HE.out, HO.out, stC_eq, show IntKind.i64.wrap (-D) = -D from IntWalk.i64_in _ (by omega)]
            exact ⟨rfl, ((bthen YB.out b7.out).setCell (by simp; omega) _).setCell (by simp; omega) _⟩
          · rw [if_neg hl] at htw
            have hN2 := hide (hstep.out htw)
            clear htw
            have X3' := hide (X3.out.set 1 (.int .i64 (-D)))
            have X2' := hide (X2.out.far (p := ⟨w.heap.size + 1, 1, none⟩) (by simp) (.int .i64 (-D)))
            have X4' := hide (X4.out.far (p := ⟨w.heap.size + 1, 1, none⟩) (by simp) (.int .i64 (-D)))
            have BW' := hide (BW.out.setCell (p := ⟨w.heap.size + 1, 1, none⟩) (by simp) (.int .i64 (-D)))
            have X3_lt := X3.out.lt
            have X3_c0 := X3.out.at (i := 0) rfl; have X3_f0 := X3.out.frozen 0
            have X3_c1 := X3.out.at (i := 1) rfl; have X3_f1 := X3.out.frozen 1
            go_wp2_with fail
            go_roundw
            case rel => exact ⟨k + 1, by omega, by go_num, X2', by rw [hnx.out]; exact X3', X4', BW', hN2⟩
            case measure => simp [intOf]; omega
      · obtain rfl : k = 2 := by omega
        have HO := hide (look_none hN.out)
        have X4_lt := X4.out.lt
        have X4_c0 := X4.out.at (i := 0) rfl; have X4_f0 := X4.out.frozen 0
        have X4_c1 := X4.out.at (i := 1) rfl; have X4_f1 := X4.out.frozen 1
        go_wp2_with fail
        refine bodyPost_ret (by simp [results, Try.results69, go_sem, X4_c0, X4_c1]; rfl) rfl ?_
        rw [HE.out, HO.out]
        exact ⟨rfl, (BW.out.setCell (by simp; omega) _).setCell (by simp; omega) _⟩
end Go.Proofs.Ytbkjgiomamlajaa
