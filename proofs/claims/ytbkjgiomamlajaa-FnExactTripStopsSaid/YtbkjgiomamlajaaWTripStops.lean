import Derived.Test.YtbkjgiomamlajaaFrameT
import Derived.Test.YtbkjgiomamlajaaRidF
import Derived.Test.YtbkjgiomamlajaaRidG
import Derived.Test.YtbkjgiomamlajaaRidM
import Derived.Deep.CutRange
namespace Go.Proofs.Ytbkjgiomamlajaa
open Go.RowKit
attribute [local go_sem ↓] Go.wp_at_zero Go.wp_at_succ

set_option maxRecDepth 100000 in
set_option maxHeartbeats 4000000 in
theorem wExactTripStops (A : Option Addr) (c : Nat) (t : Tp) (w : World) (h : InT w A c t) :
    Calls Try.prog 10 #[.agg #[.int .i64 t.n, .int .i64 t.room, .int .i64 t.f, .int .i64 t.d, .slice A t.rs.length c]] w fun e w' => e = .returned (.bool true) ∧ Below w.heap.size w w' := by
  obtain ⟨h, n0⟩ := h
  have H := hide h; clear h
  have e0 : ((stopsB t) != (stopsB t)) = false := by simp
  go_enter Try.func10, Try.ntmps10
  go_wp2_with fail
  refine calls_name fun W hW => ?_
  have X1 := hide (Box.new' (g := w.heap.size) hW rfl)
  have z0 := X1.out.lt
  have BW : Hid (Below w.heap.size w W) := by rw [hW]; exact (Below.refl _ _).alloc (Nat.le_refl _) _
  clear hW
  by_cases hz : (t.rs.length : Int) ≤ 1048576
  rotate_left
  · refine (szTrip_no A c t 1048576 _ (by omega) (by omega) n0 (by omega)).mono ?_
    rintro e w1 ⟨rfl, b⟩
    replace BW := hide (bthen BW.out b)
    clear b
    go_wp2_with fail
    go_ret
    exact ⟨rfl, BW.out⟩
  refine (szTrip_yes A c t 1048576 _ (by omega) hz).mono ?_
  rintro e w1 ⟨rfl, b⟩
  have z1 := b.size
  replace X1 := hide (X1.out.below b)
  replace BW := hide (bthen BW.out b)
  clear b
  have hz' : t.rs.length ≤ 1048576 := by omega
  have X1_lt := X1.out.lt
  have X1_c0 := X1.out.at (i := 0) rfl; have X1_f0 := X1.out.frozen 0
  have X1_c1 := X1.out.at (i := 1) rfl; have X1_f1 := X1.out.frozen 1
  have X1_c2 := X1.out.at (i := 2) rfl; have X1_f2 := X1.out.frozen 2
  have X1_c3 := X1.out.at (i := 3) rfl; have X1_f3 := X1.out.frozen 3
  have X1_c4 := X1.out.at (i := 4) rfl; have X1_f4 := X1.out.frozen 4
  go_wp2_with fail
  clear X1_lt X1_c0 X1_f0 X1_c1 X1_f1 X1_c2 X1_f2 X1_c3 X1_f3 X1_c4 X1_f4
  refine (toTrip_any A c t _ (H.out.below BW.out) hz').mono ?_
  rintro e w2 ⟨P0, rfl, PF, b⟩
  replace PF := hide PF
  replace X1 := hide (X1.out.below b)
  replace BW := hide (bthen BW.out b)
  clear b
  go_wp2_with fail
  refine (specTripStops P0 t.rs.length t _ PF.out.rds n0).mono ?_
  rintro e w3 ⟨rfl, b⟩
  replace X1 := hide (X1.out.below b)
  replace BW := hide (bthen BW.out b)
  clear b
  clear PF
  have X1_lt := X1.out.lt
  have X1_c0 := X1.out.at (i := 0) rfl; have X1_f0 := X1.out.frozen 0
  have X1_c1 := X1.out.at (i := 1) rfl; have X1_f1 := X1.out.frozen 1
  have X1_c2 := X1.out.at (i := 2) rfl; have X1_f2 := X1.out.frozen 2
  have X1_c3 := X1.out.at (i := 3) rfl; have X1_f3 := X1.out.frozen 3
  have X1_c4 := X1.out.at (i := 4) rfl; have X1_f4 := X1.out.frozen 4
  go_wp2_with fail
  clear X1_lt X1_c0 X1_f0 X1_c1 X1_f1 X1_c2 X1_f2 X1_c3 X1_f3 X1_c4 X1_f4
  refine (toTrip_any A c t _ (H.out.below BW.out) hz').mono ?_
  rintro e w4 ⟨Q0, rfl, QF, b⟩
  replace QF := hide QF
  replace X1 := hide (X1.out.below b)
  replace BW := hide (bthen BW.out b)
  clear b
  go_wp2_with fail
  refine calls_name fun W5 hW => ?_
  have X5 := hide (Box.new' (g := w4.heap.size) hW rfl)
  have b : Below w4.heap.size w4 W5 := by rw [hW]; exact (Below.refl _ _).alloc (Nat.le_refl _) _
  replace X1 := hide (X1.out.below b)
  replace QF := hide (QF.out.below b)
  replace BW := hide (bthen BW.out b)
  have zX5 := X5.out.lt
  clear b hW
  refine (implTripStops Q0 t.rs.length t _ QF.out.rds n0).mono ?_
  rintro e w6 ⟨rfl, b⟩
  replace X1 := hide (X1.out.below b)
  replace X5 := hide (X5.out.below b)
  replace QF := hide (QF.out.below b)
  replace BW := hide (bthen BW.out b)
  clear b
  go_wp2_with fail
  have H0 := hide (H.out.below BW.out)
  have X1_lt := X1.out.lt
  have X1_c0 := X1.out.at (i := 0) rfl; have X1_f0 := X1.out.frozen 0
  have X1_c1 := X1.out.at (i := 1) rfl; have X1_f1 := X1.out.frozen 1
  have X1_c2 := X1.out.at (i := 2) rfl; have X1_f2 := X1.out.frozen 2
  have X1_c3 := X1.out.at (i := 3) rfl; have X1_f3 := X1.out.frozen 3
  have X1_c4 := X1.out.at (i := 4) rfl; have X1_f4 := X1.out.frozen 4
  have X5_lt := X5.out.lt
  have X5_c0 := X5.out.at (i := 0) rfl; have X5_f0 := X5.out.frozen 0
  have X5_c1 := X5.out.at (i := 1) rfl; have X5_f1 := X5.out.frozen 1
  have X5_c2 := X5.out.at (i := 2) rfl; have X5_f2 := X5.out.frozen 2
  have X5_c3 := X5.out.at (i := 3) rfl; have X5_f3 := X5.out.frozen 3
  have X5_c4 := X5.out.at (i := 4) rfl; have X5_f4 := X5.out.frozen 4
  have KS : Hid (∀ W', Below w6.heap.size w6 W' → (W'.cell? ⟨w.heap.size, 0, none⟩ = some (.int .i64 t.n) ∧ W'.cell? ⟨w.heap.size, 1, none⟩ = some (.int .i64 t.room) ∧ W'.cell? ⟨w.heap.size, 2, none⟩ = some (.int .i64 t.f) ∧ W'.cell? ⟨w.heap.size, 3, none⟩ = some (.int .i64 t.d) ∧ W'.cell? ⟨w.heap.size, 4, none⟩ = some (.slice A t.rs.length c)) ∧ (W'.cell? ⟨w4.heap.size, 0, none⟩ = some (.int .i64 t.n) ∧ W'.cell? ⟨w4.heap.size, 1, none⟩ = some (.int .i64 t.room) ∧ W'.cell? ⟨w4.heap.size, 2, none⟩ = some (.int .i64 t.f) ∧ W'.cell? ⟨w4.heap.size, 3, none⟩ = some (.int .i64 t.d) ∧ W'.cell? ⟨w4.heap.size, 4, none⟩ = some (.slice Q0 t.rs.length t.rs.length))) := fun W' bb => ⟨⟨(X1.out.below bb).at rfl, (X1.out.below bb).at rfl, (X1.out.below bb).at rfl, (X1.out.below bb).at rfl, (X1.out.below bb).at rfl⟩, (X5.out.below bb).at rfl, (X5.out.below bb).at rfl, (X5.out.below bb).at rfl, (X5.out.below bb).at rfl, (X5.out.below bb).at rfl⟩
  have KK : Hid (Below w6.heap.size w6 w6.drew) := (Below.refl _ _).drew
  first | (go_region_held3 (fun W => (W.cell? ⟨w.heap.size, 0, none⟩ = some (.int .i64 t.n) ∧ W.cell? ⟨w.heap.size, 1, none⟩ = some (.int .i64 t.room) ∧ W.cell? ⟨w.heap.size, 2, none⟩ = some (.int .i64 t.f) ∧ W.cell? ⟨w.heap.size, 3, none⟩ = some (.int .i64 t.d) ∧ W.cell? ⟨w.heap.size, 4, none⟩ = some (.slice A t.rs.length c)) ∧ (W.cell? ⟨w4.heap.size, 0, none⟩ = some (.int .i64 t.n) ∧ W.cell? ⟨w4.heap.size, 1, none⟩ = some (.int .i64 t.room) ∧ W.cell? ⟨w4.heap.size, 2, none⟩ = some (.int .i64 t.f) ∧ W.cell? ⟨w4.heap.size, 3, none⟩ = some (.int .i64 t.d) ∧ W.cell? ⟨w4.heap.size, 4, none⟩ = some (.slice Q0 t.rs.length t.rs.length))) (first | (go_keep; done) | exact KS.out _ KK.out) (first | (go_at_call 25; (with_reducible refine (toTrip_any A c t _ ?_ hz').mono ?_); exact H0.out.below KK.out; rintro e v ⟨R0, rfl, R, bb⟩; replace R := hide R; replace KK := hide (bthen KK.out bb); have zKK := KK.out.size; clear bb) | (go_at_call 26; (with_reducible refine (eqTrip_self Q0 R0 t.rs.length t.rs.length t _ ?_ ?_ hz').mono ?_); exact QF.out.rds.below KK.out; exact R.out.rds; rintro e v ⟨rfl, bb⟩; (first | replace R := hide (R.out.below bb) | skip); replace KK := hide (bthen KK.out bb); have zKK := KK.out.size; clear bb))) | fail
  rename ((v.cell? ⟨w.heap.size, 0, none⟩ = some (.int .i64 t.n) ∧ v.cell? ⟨w.heap.size, 1, none⟩ = some (.int .i64 t.room) ∧ v.cell? ⟨w.heap.size, 2, none⟩ = some (.int .i64 t.f) ∧ v.cell? ⟨w.heap.size, 3, none⟩ = some (.int .i64 t.d) ∧ v.cell? ⟨w.heap.size, 4, none⟩ = some (.slice A t.rs.length c)) ∧ (v.cell? ⟨w4.heap.size, 0, none⟩ = some (.int .i64 t.n) ∧ v.cell? ⟨w4.heap.size, 1, none⟩ = some (.int .i64 t.room) ∧ v.cell? ⟨w4.heap.size, 2, none⟩ = some (.int .i64 t.f) ∧ v.cell? ⟨w4.heap.size, 3, none⟩ = some (.int .i64 t.d) ∧ v.cell? ⟨w4.heap.size, 4, none⟩ = some (.slice Q0 t.rs.length t.rs.length))) => hHeldX
  clear KS hHeldX
  go_wp2_with fail
  go_ret
  exact ⟨rfl, bthen BW.out KK.out⟩
end Go.Proofs.Ytbkjgiomamlajaa
