import Derived.Test.YtbkjgiomamlajaaFrameC
import Derived.Test.YtbkjgiomamlajaaDrawTrip
import Derived.Test.YtbkjgiomamlajaaRidG
import Derived.Test.YtbkjgiomamlajaaRidM
import Derived.Test.YtbkjgiomamlajaaTripLaw
import Derived.Test.YtbkjgiomamlajaaAlive
import Derived.Test.YtbkjgiomamlajaaCallsE
import Derived.Deep.RegionHeld3
import Derived.Deep.CutRange
namespace Go.Proofs.Ytbkjgiomamlajaa
open Go.RowKit
attribute [local go_sem ↓] Go.wp_at_zero Go.wp_at_succ

set_option maxRecDepth 100000 in
set_option maxHeartbeats 4000000 in
theorem wTripEnd (A : Option Addr) (c : Nat) (bs : List Int) (w : World) (h0 : InRow .u8 w A c bs) :
    Calls Try.prog 3 #[.slice A bs.length c] w fun e w' => e = .returned (.bool true) ∧ Below w.heap.size w w' := by
  have HB := hide h0.byte
  obtain ⟨h, hc, hc2, -⟩ := h0
  have H : Hid (Sl w A (bvs bs)) := h
  clear h
  by_cases hl : ¬ bs.length ≤ 1048576
  · go_enter Try.func3, Try.ntmps3
    go_wp2
    go_ret
    exact ⟨rfl, Below.refl _ _⟩
  have hl : bs.length ≤ 1048576 := by omega
  clear hc2
  go_enter Try.func3, Try.ntmps3
  go_wp2_with fail
  refine (drawTripEnd_any A c bs _ H.out HB.out hl hc).mono ?_
  rintro e w1 ⟨P, p, t, rfl, PR, h9, b⟩
  have BW := hide b; replace PR := hide PR
  have zw1 := b.size
  have h9' : (t.rs.length : Int) ≤ 9 := by omega
  clear b h9
  obtain ⟨D, hD⟩ : ∃ D, D = endB t := ⟨_, rfl⟩
  have d8 : (D.rs.length : Int) ≤ 8 := by rw [hD]; exact endB_len t
  have HD := hide hD; clear hD
  go_wp2_with fail
  refine calls_name fun W hW => ?_
  have X3 := hide (Box.new' (g := w1.heap.size) hW rfl)
  have b : Below w1.heap.size w1 W := by rw [hW]; exact (Below.refl _ _).alloc (Nat.le_refl _) _
  replace PR := hide (PR.out.below b)
  replace BW := hide (bthen BW.out b)
  have zX3 := X3.out.lt
  clear b hW
  refine (implTripEnd_at P p t D HD.out _ PR.out.rds (by omega)).mono ?_
  rintro e w2 ⟨Q, q, rfl, QR, b⟩
  replace QR := hide QR
  replace X3 := hide (X3.out.below b)
  replace PR := hide (PR.out.below b)
  replace BW := hide (bthen BW.out b)
  clear b
  go_upto_region 5 with fail
  refine code_name fun W3 hW => ?_
  have X4 := hide (Box.new' (g := w2.heap.size) hW rfl)
  have b : Below w2.heap.size w2 W3 := by rw [hW]; exact (Below.refl _ _).alloc (Nat.le_refl _) _
  replace X3 := hide (X3.out.below b)
  replace PR := hide (PR.out.below b)
  replace QR := hide (QR.out.below b)
  replace BW := hide (bthen BW.out b)
  clear b
  clear hW
  have X3_lt := X3.out.lt
  have X3_c0 := X3.out.at (i := 0) rfl; have X3_f0 := X3.out.frozen 0
  have X3_c1 := X3.out.at (i := 1) rfl; have X3_f1 := X3.out.frozen 1
  have X3_c2 := X3.out.at (i := 2) rfl; have X3_f2 := X3.out.frozen 2
  have X3_c3 := X3.out.at (i := 3) rfl; have X3_f3 := X3.out.frozen 3
  have X3_c4 := X3.out.at (i := 4) rfl; have X3_f4 := X3.out.frozen 4
  have X4_lt := X4.out.lt
  have X4_c0 := X4.out.at (i := 0) rfl; have X4_f0 := X4.out.frozen 0
  have X4_c1 := X4.out.at (i := 1) rfl; have X4_f1 := X4.out.frozen 1
  have X4_c2 := X4.out.at (i := 2) rfl; have X4_f2 := X4.out.frozen 2
  have X4_c3 := X4.out.at (i := 3) rfl; have X4_f3 := X4.out.frozen 3
  have X4_c4 := X4.out.at (i := 4) rfl; have X4_f4 := X4.out.frozen 4
  have KS : Hid (∀ W', Below W3.heap.size W3 W' → (W'.cell? ⟨w1.heap.size, 0, none⟩ = some (.int .i64 t.n) ∧ W'.cell? ⟨w1.heap.size, 1, none⟩ = some (.int .i64 t.room) ∧ W'.cell? ⟨w1.heap.size, 2, none⟩ = some (.int .i64 t.f) ∧ W'.cell? ⟨w1.heap.size, 3, none⟩ = some (.int .i64 t.d) ∧ W'.cell? ⟨w1.heap.size, 4, none⟩ = some (.slice P t.rs.length p)) ∧ (W'.cell? ⟨w2.heap.size, 0, none⟩ = some (.int .i64 D.n) ∧ W'.cell? ⟨w2.heap.size, 1, none⟩ = some (.int .i64 D.room) ∧ W'.cell? ⟨w2.heap.size, 2, none⟩ = some (.int .i64 D.f) ∧ W'.cell? ⟨w2.heap.size, 3, none⟩ = some (.int .i64 D.d) ∧ W'.cell? ⟨w2.heap.size, 4, none⟩ = some (.slice Q D.rs.length q))) := fun W' bb => ⟨⟨(X3.out.below bb).at rfl, (X3.out.below bb).at rfl, (X3.out.below bb).at rfl, (X3.out.below bb).at rfl, (X3.out.below bb).at rfl⟩, ⟨(X4.out.below bb).at rfl, (X4.out.below bb).at rfl, (X4.out.below bb).at rfl, (X4.out.below bb).at rfl, (X4.out.below bb).at rfl⟩⟩
  have KK : Hid (Below W3.heap.size W3 W3.drew) := (Below.refl _ _).drew
  first | (go_region_held3 (fun W => (W.cell? ⟨w1.heap.size, 0, none⟩ = some (.int .i64 t.n) ∧ W.cell? ⟨w1.heap.size, 1, none⟩ = some (.int .i64 t.room) ∧ W.cell? ⟨w1.heap.size, 2, none⟩ = some (.int .i64 t.f) ∧ W.cell? ⟨w1.heap.size, 3, none⟩ = some (.int .i64 t.d) ∧ W.cell? ⟨w1.heap.size, 4, none⟩ = some (.slice P t.rs.length p)) ∧ (W.cell? ⟨w2.heap.size, 0, none⟩ = some (.int .i64 D.n) ∧ W.cell? ⟨w2.heap.size, 1, none⟩ = some (.int .i64 D.room) ∧ W.cell? ⟨w2.heap.size, 2, none⟩ = some (.int .i64 D.f) ∧ W.cell? ⟨w2.heap.size, 3, none⟩ = some (.int .i64 D.d) ∧ W.cell? ⟨w2.heap.size, 4, none⟩ = some (.slice Q D.rs.length q))) (first | (go_keep; done) | exact KS.out _ KK.out) (first | (go_at_call 16; (with_reducible refine (specTripEnd_at P p t D HD.out _ ?_ (by omega)).mono ?_); exact PR.out.rds.below KK.out; rintro e v ⟨R0, r0, rfl, R, bb⟩; replace R := hide R; replace KK := hide (bthen KK.out bb); have zKK := KK.out.size; clear bb) | (go_at_call 15; (with_reducible refine (sameTrip_self Q R0 q r0 D _ ?_ ?_ (by omega)).mono ?_); exact QR.out.rds.below KK.out; exact R.out.rds; rintro e v ⟨rfl, bb⟩; (first | replace R := hide (R.out.below bb) | skip); replace KK := hide (bthen KK.out bb); have zKK := KK.out.size; clear bb))) | fail
  rename ((v.cell? ⟨w1.heap.size, 0, none⟩ = some (.int .i64 t.n) ∧ v.cell? ⟨w1.heap.size, 1, none⟩ = some (.int .i64 t.room) ∧ v.cell? ⟨w1.heap.size, 2, none⟩ = some (.int .i64 t.f) ∧ v.cell? ⟨w1.heap.size, 3, none⟩ = some (.int .i64 t.d) ∧ v.cell? ⟨w1.heap.size, 4, none⟩ = some (.slice P t.rs.length p)) ∧ (v.cell? ⟨w2.heap.size, 0, none⟩ = some (.int .i64 D.n) ∧ v.cell? ⟨w2.heap.size, 1, none⟩ = some (.int .i64 D.room) ∧ v.cell? ⟨w2.heap.size, 2, none⟩ = some (.int .i64 D.f) ∧ v.cell? ⟨w2.heap.size, 3, none⟩ = some (.int .i64 D.d) ∧ v.cell? ⟨w2.heap.size, 4, none⟩ = some (.slice Q D.rs.length q))) => hHeldX
  clear KS hHeldX
  clear X3_lt X3_c0 X3_f0 X3_c1 X3_f1 X3_c2 X3_f2 X3_c3 X3_f3 X3_c4 X3_f4
  clear X4_lt X4_c0 X4_f0 X4_c1 X4_f1 X4_c2 X4_f2 X4_c3 X4_f3 X4_c4 X4_f4
  clear R
  replace PR := hide (PR.out.below KK.out)
  replace X3 := hide (X3.out.below KK.out)
  replace QR := hide (QR.out.below KK.out)
  replace X4 := hide (X4.out.below KK.out)
  replace BW := hide (bthen BW.out KK.out)
  clear KK
  have X3_lt := X3.out.lt
  have X3_c0 := X3.out.at (i := 0) rfl; have X3_f0 := X3.out.frozen 0
  have X3_c1 := X3.out.at (i := 1) rfl; have X3_f1 := X3.out.frozen 1
  have X3_c2 := X3.out.at (i := 2) rfl; have X3_f2 := X3.out.frozen 2
  have X3_c3 := X3.out.at (i := 3) rfl; have X3_f3 := X3.out.frozen 3
  have X3_c4 := X3.out.at (i := 4) rfl; have X3_f4 := X3.out.frozen 4
  go_wp2_with fail
  clear X3_lt X3_c0 X3_f0 X3_c1 X3_f1 X3_c2 X3_f2 X3_c3 X3_f3 X3_c4 X3_f4
  refine (specTripValid P p t _ PR.out.rds (by omega)).mono ?_
  rintro e w5 ⟨rfl, b⟩
  replace X3 := hide (X3.out.below b)
  replace X4 := hide (X4.out.below b)
  replace PR := hide (PR.out.below b)
  replace QR := hide (QR.out.below b)
  replace BW := hide (bthen BW.out b)
  clear b
  cases hv : tripB t
  · have hz : (D.n == 0) = true := by rw [HD.out.trans (endB_no hv)]; rfl
    clear hv
    have X4_lt := X4.out.lt
    have X4_c0 := X4.out.at (i := 0) rfl; have X4_f0 := X4.out.frozen 0
    go_wp2_with fail
    refine (alive_any _).mono ?_
    rintro e w9 ⟨rfl, b9⟩
    have B9 := hide b9
    clear b9
    go_wp2_with fail
    go_ret
    exact ⟨rfl, bthen BW.out B9.out⟩
  · have hp := tripB_iff.1 hv
    have he : D = endT t := HD.out.trans (endB_yes hv)
    obtain ⟨g1, g2, g3, -⟩ := end_good t hp
    obtain ⟨f1, f2⟩ := end_done hp
    rw [← he] at g1 g2 g3 f1 f2
    have HV1 := hide (tripB_iff.2 g1)
    have HS := hide (stepB_end g1 g2)
    have HC := hide (tripCB_yes (tripB_iff.2 g1))
    have HM : Hid (manyB (tripC D) = 0) := by unfold Hid; rw [manyB_yes (callsB_iff.2 (tripC_valid g1))]; exact f2
    have HI := hide f1
    have e1 : ((t.rs.length : Int) == (t.rs.length : Int)) = true := by simp
    clear hp he g1 g2 g3 f1 f2 hv
    have X4_lt := X4.out.lt
    have X4_c0 := X4.out.at (i := 0) rfl; have X4_f0 := X4.out.frozen 0
    have X4_c1 := X4.out.at (i := 1) rfl; have X4_f1 := X4.out.frozen 1
    have X4_c2 := X4.out.at (i := 2) rfl; have X4_f2 := X4.out.frozen 2
    have X4_c3 := X4.out.at (i := 3) rfl; have X4_f3 := X4.out.frozen 3
    have X4_c4 := X4.out.at (i := 4) rfl; have X4_f4 := X4.out.frozen 4
    go_wp2_with fail
    clear X4_lt X4_c0 X4_f0 X4_c1 X4_f1 X4_c2 X4_f2 X4_c3 X4_f3 X4_c4 X4_f4
    refine (implTripStep_at Q q D D false (by rw [HS.out]) (by rw [HS.out]) _ QR.out.rds (by omega)).mono ?_
    rintro e w6 ⟨U, u, rfl, -, b⟩
    replace X3 := hide (X3.out.below b)
    replace X4 := hide (X4.out.below b)
    replace PR := hide (PR.out.below b)
    replace QR := hide (QR.out.below b)
    replace BW := hide (bthen BW.out b)
    clear b
    go_upto_region 10 with fail
    refine code_name fun W7 hW => ?_
    have X5 := hide (Box.new' (g := w6.heap.size) hW rfl)
    have b : Below w6.heap.size w6 W7 := by rw [hW]; exact (Below.refl _ _).alloc (Nat.le_refl _) _
    replace X3 := hide (X3.out.below b)
    replace X4 := hide (X4.out.below b)
    replace PR := hide (PR.out.below b)
    replace QR := hide (QR.out.below b)
    replace BW := hide (bthen BW.out b)
    clear b
    clear hW
    have X3_lt := X3.out.lt
    have X3_c0 := X3.out.at (i := 0) rfl; have X3_f0 := X3.out.frozen 0
    have X3_c1 := X3.out.at (i := 1) rfl; have X3_f1 := X3.out.frozen 1
    have X3_c2 := X3.out.at (i := 2) rfl; have X3_f2 := X3.out.frozen 2
    have X3_c3 := X3.out.at (i := 3) rfl; have X3_f3 := X3.out.frozen 3
    have X3_c4 := X3.out.at (i := 4) rfl; have X3_f4 := X3.out.frozen 4
    have X4_lt := X4.out.lt
    have X4_c0 := X4.out.at (i := 0) rfl; have X4_f0 := X4.out.frozen 0
    have X4_c1 := X4.out.at (i := 1) rfl; have X4_f1 := X4.out.frozen 1
    have X4_c2 := X4.out.at (i := 2) rfl; have X4_f2 := X4.out.frozen 2
    have X4_c3 := X4.out.at (i := 3) rfl; have X4_f3 := X4.out.frozen 3
    have X4_c4 := X4.out.at (i := 4) rfl; have X4_f4 := X4.out.frozen 4
    have KS : Hid (∀ W', Below W7.heap.size W7 W' → (W'.cell? ⟨w1.heap.size, 0, none⟩ = some (.int .i64 t.n) ∧ W'.cell? ⟨w1.heap.size, 1, none⟩ = some (.int .i64 t.room) ∧ W'.cell? ⟨w1.heap.size, 2, none⟩ = some (.int .i64 t.f) ∧ W'.cell? ⟨w1.heap.size, 3, none⟩ = some (.int .i64 t.d) ∧ W'.cell? ⟨w1.heap.size, 4, none⟩ = some (.slice P t.rs.length p)) ∧ (W'.cell? ⟨w2.heap.size, 0, none⟩ = some (.int .i64 D.n) ∧ W'.cell? ⟨w2.heap.size, 1, none⟩ = some (.int .i64 D.room) ∧ W'.cell? ⟨w2.heap.size, 2, none⟩ = some (.int .i64 D.f) ∧ W'.cell? ⟨w2.heap.size, 3, none⟩ = some (.int .i64 D.d) ∧ W'.cell? ⟨w2.heap.size, 4, none⟩ = some (.slice Q D.rs.length q))) := fun W' bb => ⟨⟨(X3.out.below bb).at rfl, (X3.out.below bb).at rfl, (X3.out.below bb).at rfl, (X3.out.below bb).at rfl, (X3.out.below bb).at rfl⟩, ⟨(X4.out.below bb).at rfl, (X4.out.below bb).at rfl, (X4.out.below bb).at rfl, (X4.out.below bb).at rfl, (X4.out.below bb).at rfl⟩⟩
    have KK : Hid (Below W7.heap.size W7 W7.drew) := (Below.refl _ _).drew
    first | (go_region_held3 (fun W => (W.cell? ⟨w1.heap.size, 0, none⟩ = some (.int .i64 t.n) ∧ W.cell? ⟨w1.heap.size, 1, none⟩ = some (.int .i64 t.room) ∧ W.cell? ⟨w1.heap.size, 2, none⟩ = some (.int .i64 t.f) ∧ W.cell? ⟨w1.heap.size, 3, none⟩ = some (.int .i64 t.d) ∧ W.cell? ⟨w1.heap.size, 4, none⟩ = some (.slice P t.rs.length p)) ∧ (W.cell? ⟨w2.heap.size, 0, none⟩ = some (.int .i64 D.n) ∧ W.cell? ⟨w2.heap.size, 1, none⟩ = some (.int .i64 D.room) ∧ W.cell? ⟨w2.heap.size, 2, none⟩ = some (.int .i64 D.f) ∧ W.cell? ⟨w2.heap.size, 3, none⟩ = some (.int .i64 D.d) ∧ W.cell? ⟨w2.heap.size, 4, none⟩ = some (.slice Q D.rs.length q))) (first | (go_keep; done) | exact KS.out _ KK.out) (first | (go_at_call 20; (with_reducible refine (implTripValid Q q D _ ?_ (by omega)).mono ?_); exact QR.out.rds.below KK.out; rw [HV1.out]; rintro e v ⟨rfl, bb⟩; (first | replace R := hide (R.out.below bb) | skip); replace KK := hide (bthen KK.out bb); have zKK := KK.out.size; clear bb) | (go_at_call 21; (with_reducible refine (inState_any Q q D 2 _ ?_ (by omega)).mono ?_); exact QR.out.rds.below KK.out; rw [HI.out]; rintro e v ⟨rfl, bb⟩; (first | replace R := hide (R.out.below bb) | skip); replace KK := hide (bthen KK.out bb); have zKK := KK.out.size; clear bb) | (go_at_call 23; (with_reducible refine (implTripCalls_at Q q D (tripC D) HC.out.symm _ ?_ (by omega)).mono ?_); exact QR.out.rds.below KK.out; rintro e v ⟨R0, R1, R2, r0, r1, r2, rfl, R, bb⟩; replace R := hide R; replace KK := hide (bthen KK.out bb); have zKK := KK.out.size; clear bb) | (go_at_call 22; (with_reducible refine (implCallsMany R0 R1 R2 r0 r1 r2 (tripC D) _ ?_).mono ?_); exact R.out.cr; rw [HM.out]; rintro e v ⟨rfl, bb⟩; (first | replace R := hide (R.out.below bb) | skip); replace KK := hide (bthen KK.out bb); have zKK := KK.out.size; clear bb))) | fail
    rename ((v.cell? ⟨w1.heap.size, 0, none⟩ = some (.int .i64 t.n) ∧ v.cell? ⟨w1.heap.size, 1, none⟩ = some (.int .i64 t.room) ∧ v.cell? ⟨w1.heap.size, 2, none⟩ = some (.int .i64 t.f) ∧ v.cell? ⟨w1.heap.size, 3, none⟩ = some (.int .i64 t.d) ∧ v.cell? ⟨w1.heap.size, 4, none⟩ = some (.slice P t.rs.length p)) ∧ (v.cell? ⟨w2.heap.size, 0, none⟩ = some (.int .i64 D.n) ∧ v.cell? ⟨w2.heap.size, 1, none⟩ = some (.int .i64 D.room) ∧ v.cell? ⟨w2.heap.size, 2, none⟩ = some (.int .i64 D.f) ∧ v.cell? ⟨w2.heap.size, 3, none⟩ = some (.int .i64 D.d) ∧ v.cell? ⟨w2.heap.size, 4, none⟩ = some (.slice Q D.rs.length q))) => hHeldX
    clear KS hHeldX
    go_wp2_with fail
    go_ret
    exact ⟨rfl, bthen BW.out KK.out⟩
end Go.Proofs.Ytbkjgiomamlajaa
