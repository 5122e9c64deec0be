import Derived.Test.YtbkjgiomamlajaaFrameT
import Derived.Test.YtbkjgiomamlajaaRidF
import Derived.Test.YtbkjgiomamlajaaRidG
import Derived.Test.YtbkjgiomamlajaaRidM
import Derived.Deep.CutRange
namespace Go.Proofs.Ytbkjgiomamlajaa
open Go.RowKit
attribute [local go_sem ↓] Go.wp_at_zero Go.wp_at_succ

set_option maxRecDepth 100000 in
set_option maxHeartbeats 4000000 in
theorem wExactTripEnd (A : Option Addr) (c : Nat) (t : Tp) (w : World) (h : InT w A c t) :
    Calls Try.prog 4 #[.agg #[.int .i64 t.n, .int .i64 t.room, .int .i64 t.f, .int .i64 t.d, .slice A t.rs.length c]] w fun e w' => e = .returned (.bool true) ∧ Below w.heap.size w w' := by
  obtain ⟨h, n0⟩ := h
  have H := hide h; clear h
  obtain ⟨D, hD⟩ : ∃ D, D = endB t := ⟨_, rfl⟩
  have hlen : (D.rs.length : Int) ≤ 8 := by rw [hD]; exact endB_len t
  have HD := hide hD; clear hD
  go_enter Try.func4, Try.ntmps4
  go_wp2_with fail
  refine calls_name fun W hW => ?_
  have X1 := hide (Box.new' (g := w.heap.size) hW rfl)
  have z0 := X1.out.lt
  have BW : Hid (Below w.heap.size w W) := by rw [hW]; exact (Below.refl _ _).alloc (Nat.le_refl _) _
  clear hW
  by_cases hz : (t.rs.length : Int) ≤ 1048576
  rotate_left
  · refine (szTrip_no A c t 1048576 _ (by omega) (by omega) n0 (by omega)).mono ?_
    rintro e w1 ⟨rfl, b⟩
    replace BW := hide (bthen BW.out b)
    clear b
    go_wp2_with fail
    go_ret
    exact ⟨rfl, BW.out⟩
  refine (szTrip_yes A c t 1048576 _ (by omega) hz).mono ?_
  rintro e w1 ⟨rfl, b⟩
  have z1 := b.size
  replace X1 := hide (X1.out.below b)
  replace BW := hide (bthen BW.out b)
  clear b
  have hz' : t.rs.length ≤ 1048576 := by omega
  have X1_lt := X1.out.lt
  have X1_c0 := X1.out.at (i := 0) rfl; have X1_f0 := X1.out.frozen 0
  have X1_c1 := X1.out.at (i := 1) rfl; have X1_f1 := X1.out.frozen 1
  have X1_c2 := X1.out.at (i := 2) rfl; have X1_f2 := X1.out.frozen 2
  have X1_c3 := X1.out.at (i := 3) rfl; have X1_f3 := X1.out.frozen 3
  have X1_c4 := X1.out.at (i := 4) rfl; have X1_f4 := X1.out.frozen 4
  go_wp2_with fail
  clear X1_lt X1_c0 X1_f0 X1_c1 X1_f1 X1_c2 X1_f2 X1_c3 X1_f3 X1_c4 X1_f4
  refine (toTrip_any A c t _ (H.out.below BW.out) hz').mono ?_
  rintro e w2 ⟨P0, rfl, PF, b⟩
  have zw2 := b.size
  replace PF := hide PF
  replace X1 := hide (X1.out.below b)
  replace BW := hide (bthen BW.out b)
  clear b
  go_wp2_with fail
  refine (specTripEnd_at P0 t.rs.length t D HD.out _ PF.out.rds n0).mono ?_
  rintro e w3 ⟨S0, s0, rfl, SF, b⟩
  have zw3 := b.size
  replace SF := hide SF
  replace X1 := hide (X1.out.below b)
  replace PF := hide (PF.out.below b)
  replace BW := hide (bthen BW.out b)
  clear b
  clear PF
  have X1_lt := X1.out.lt
  have X1_c0 := X1.out.at (i := 0) rfl; have X1_f0 := X1.out.frozen 0
  have X1_c1 := X1.out.at (i := 1) rfl; have X1_f1 := X1.out.frozen 1
  have X1_c2 := X1.out.at (i := 2) rfl; have X1_f2 := X1.out.frozen 2
  have X1_c3 := X1.out.at (i := 3) rfl; have X1_f3 := X1.out.frozen 3
  have X1_c4 := X1.out.at (i := 4) rfl; have X1_f4 := X1.out.frozen 4
  go_wp2_with fail
  clear X1_lt X1_c0 X1_f0 X1_c1 X1_f1 X1_c2 X1_f2 X1_c3 X1_f3 X1_c4 X1_f4
  refine calls_name fun w4 hW => ?_
  have XS := hide (Box.new' (g := w3.heap.size) hW rfl)
  have b : Below w3.heap.size w3 w4 := by rw [hW]; exact (Below.refl _ _).alloc (Nat.le_refl _) _
  have zw4 := b.size
  replace X1 := hide (X1.out.below b)
  replace SF := hide (SF.out.below b)
  replace BW := hide (bthen BW.out b)
  clear b
  have zXS := XS.out.lt
  clear hW
  refine (toTrip_any A c t _ (H.out.below BW.out) hz').mono ?_
  rintro e w5 ⟨Q0, rfl, QF, b⟩
  have zw5 := b.size
  replace QF := hide QF
  replace X1 := hide (X1.out.below b)
  replace SF := hide (SF.out.below b)
  replace XS := hide (XS.out.below b)
  replace BW := hide (bthen BW.out b)
  clear b
  go_wp2_with fail
  refine calls_name fun w6 hW => ?_
  have XQ := hide (Box.new' (g := w5.heap.size) hW rfl)
  have b : Below w5.heap.size w5 w6 := by rw [hW]; exact (Below.refl _ _).alloc (Nat.le_refl _) _
  have zw6 := b.size
  replace X1 := hide (X1.out.below b)
  replace SF := hide (SF.out.below b)
  replace XS := hide (XS.out.below b)
  replace QF := hide (QF.out.below b)
  replace BW := hide (bthen BW.out b)
  clear b
  have zXQ := XQ.out.lt
  clear hW
  refine (implTripEnd_at Q0 t.rs.length t D HD.out _ QF.out.rds n0).mono ?_
  rintro e w7 ⟨G0, g0, rfl, GF, b⟩
  have zw7 := b.size
  replace GF := hide GF
  replace X1 := hide (X1.out.below b)
  replace SF := hide (SF.out.below b)
  replace XS := hide (XS.out.below b)
  replace QF := hide (QF.out.below b)
  replace XQ := hide (XQ.out.below b)
  replace BW := hide (bthen BW.out b)
  clear b
  have XS_lt := XS.out.lt
  have XS_c0 := XS.out.at (i := 0) rfl; have XS_f0 := XS.out.frozen 0
  have XS_c1 := XS.out.at (i := 1) rfl; have XS_f1 := XS.out.frozen 1
  have XS_c2 := XS.out.at (i := 2) rfl; have XS_f2 := XS.out.frozen 2
  have XS_c3 := XS.out.at (i := 3) rfl; have XS_f3 := XS.out.frozen 3
  have XS_c4 := XS.out.at (i := 4) rfl; have XS_f4 := XS.out.frozen 4
  go_wp2_with fail
  clear XS_lt XS_c0 XS_f0 XS_c1 XS_f1 XS_c2 XS_f2 XS_c3 XS_f3 XS_c4 XS_f4
  refine calls_name fun w8 hW => ?_
  have XG := hide (Box.new' (g := w7.heap.size) hW rfl)
  have b : Below w7.heap.size w7 w8 := by rw [hW]; exact (Below.refl _ _).alloc (Nat.le_refl _) _
  have zw8 := b.size
  replace X1 := hide (X1.out.below b)
  replace SF := hide (SF.out.below b)
  replace XS := hide (XS.out.below b)
  replace QF := hide (QF.out.below b)
  replace XQ := hide (XQ.out.below b)
  replace GF := hide (GF.out.below b)
  replace BW := hide (bthen BW.out b)
  clear b
  have zXG := XG.out.lt
  clear hW
  refine (eqTrip_self G0 S0 g0 s0 D _ GF.out.rds SF.out.rds (by omega)).mono ?_
  rintro e w9 ⟨rfl, b⟩
  have zw9 := b.size
  replace X1 := hide (X1.out.below b)
  replace SF := hide (SF.out.below b)
  replace XS := hide (XS.out.below b)
  replace QF := hide (QF.out.below b)
  replace XQ := hide (XQ.out.below b)
  replace GF := hide (GF.out.below b)
  replace XG := hide (XG.out.below b)
  replace BW := hide (bthen BW.out b)
  clear b
  go_wp2_with fail
  have H0 := hide (H.out.below BW.out)
  have X1_lt := X1.out.lt
  have X1_c0 := X1.out.at (i := 0) rfl; have X1_f0 := X1.out.frozen 0
  have X1_c1 := X1.out.at (i := 1) rfl; have X1_f1 := X1.out.frozen 1
  have X1_c2 := X1.out.at (i := 2) rfl; have X1_f2 := X1.out.frozen 2
  have X1_c3 := X1.out.at (i := 3) rfl; have X1_f3 := X1.out.frozen 3
  have X1_c4 := X1.out.at (i := 4) rfl; have X1_f4 := X1.out.frozen 4
  have XQ_lt := XQ.out.lt
  have XQ_c0 := XQ.out.at (i := 0) rfl; have XQ_f0 := XQ.out.frozen 0
  have XQ_c1 := XQ.out.at (i := 1) rfl; have XQ_f1 := XQ.out.frozen 1
  have XQ_c2 := XQ.out.at (i := 2) rfl; have XQ_f2 := XQ.out.frozen 2
  have XQ_c3 := XQ.out.at (i := 3) rfl; have XQ_f3 := XQ.out.frozen 3
  have XQ_c4 := XQ.out.at (i := 4) rfl; have XQ_f4 := XQ.out.frozen 4
  have KS : Hid (∀ W', Below w9.heap.size w9 W' → (W'.cell? ⟨w.heap.size, 0, none⟩ = some (.int .i64 t.n) ∧ W'.cell? ⟨w.heap.size, 1, none⟩ = some (.int .i64 t.room) ∧ W'.cell? ⟨w.heap.size, 2, none⟩ = some (.int .i64 t.f) ∧ W'.cell? ⟨w.heap.size, 3, none⟩ = some (.int .i64 t.d) ∧ W'.cell? ⟨w.heap.size, 4, none⟩ = some (.slice A t.rs.length c)) ∧ (W'.cell? ⟨w5.heap.size, 0, none⟩ = some (.int .i64 t.n) ∧ W'.cell? ⟨w5.heap.size, 1, none⟩ = some (.int .i64 t.room) ∧ W'.cell? ⟨w5.heap.size, 2, none⟩ = some (.int .i64 t.f) ∧ W'.cell? ⟨w5.heap.size, 3, none⟩ = some (.int .i64 t.d) ∧ W'.cell? ⟨w5.heap.size, 4, none⟩ = some (.slice Q0 t.rs.length t.rs.length))) := fun W' bb => ⟨⟨(X1.out.below bb).at rfl, (X1.out.below bb).at rfl, (X1.out.below bb).at rfl, (X1.out.below bb).at rfl, (X1.out.below bb).at rfl⟩, (XQ.out.below bb).at rfl, (XQ.out.below bb).at rfl, (XQ.out.below bb).at rfl, (XQ.out.below bb).at rfl, (XQ.out.below bb).at rfl⟩
  have KK : Hid (Below w9.heap.size w9 w9.drew) := (Below.refl _ _).drew
  first | (go_region_held3 (fun W => (W.cell? ⟨w.heap.size, 0, none⟩ = some (.int .i64 t.n) ∧ W.cell? ⟨w.heap.size, 1, none⟩ = some (.int .i64 t.room) ∧ W.cell? ⟨w.heap.size, 2, none⟩ = some (.int .i64 t.f) ∧ W.cell? ⟨w.heap.size, 3, none⟩ = some (.int .i64 t.d) ∧ W.cell? ⟨w.heap.size, 4, none⟩ = some (.slice A t.rs.length c)) ∧ (W.cell? ⟨w5.heap.size, 0, none⟩ = some (.int .i64 t.n) ∧ W.cell? ⟨w5.heap.size, 1, none⟩ = some (.int .i64 t.room) ∧ W.cell? ⟨w5.heap.size, 2, none⟩ = some (.int .i64 t.f) ∧ W.cell? ⟨w5.heap.size, 3, none⟩ = some (.int .i64 t.d) ∧ W.cell? ⟨w5.heap.size, 4, none⟩ = some (.slice Q0 t.rs.length t.rs.length))) (first | (go_keep; done) | exact KS.out _ KK.out) (first | (go_at_call 25; (with_reducible refine (toTrip_any A c t _ ?_ hz').mono ?_); exact H0.out.below KK.out; rintro e v ⟨R0, rfl, R, bb⟩; replace R := hide R; replace KK := hide (bthen KK.out bb); have zKK := KK.out.size; clear bb) | (go_at_call 26; (with_reducible refine (eqTrip_self Q0 R0 t.rs.length t.rs.length t _ ?_ ?_ hz').mono ?_); exact QF.out.rds.below KK.out; exact R.out.rds; rintro e v ⟨rfl, bb⟩; (first | replace R := hide (R.out.below bb) | skip); replace KK := hide (bthen KK.out bb); have zKK := KK.out.size; clear bb))) | fail
  rename ((v.cell? ⟨w.heap.size, 0, none⟩ = some (.int .i64 t.n) ∧ v.cell? ⟨w.heap.size, 1, none⟩ = some (.int .i64 t.room) ∧ v.cell? ⟨w.heap.size, 2, none⟩ = some (.int .i64 t.f) ∧ v.cell? ⟨w.heap.size, 3, none⟩ = some (.int .i64 t.d) ∧ v.cell? ⟨w.heap.size, 4, none⟩ = some (.slice A t.rs.length c)) ∧ (v.cell? ⟨w5.heap.size, 0, none⟩ = some (.int .i64 t.n) ∧ v.cell? ⟨w5.heap.size, 1, none⟩ = some (.int .i64 t.room) ∧ v.cell? ⟨w5.heap.size, 2, none⟩ = some (.int .i64 t.f) ∧ v.cell? ⟨w5.heap.size, 3, none⟩ = some (.int .i64 t.d) ∧ v.cell? ⟨w5.heap.size, 4, none⟩ = some (.slice Q0 t.rs.length t.rs.length))) => hHeldX
  clear KS hHeldX
  clear X1_lt X1_c0 X1_f0 X1_c1 X1_f1 X1_c2 X1_f2 X1_c3 X1_f3 X1_c4 X1_f4
  clear XQ_lt XQ_c0 XQ_f0 XQ_c1 XQ_f1 XQ_c2 XQ_f2 XQ_c3 XQ_f3 XQ_c4 XQ_f4
  clear R H0
  have b := KK.out
  have zKK := b.size
  clear KK
  replace X1 := hide (X1.out.below b)
  replace SF := hide (SF.out.below b)
  replace XS := hide (XS.out.below b)
  replace QF := hide (QF.out.below b)
  replace XQ := hide (XQ.out.below b)
  replace GF := hide (GF.out.below b)
  replace XG := hide (XG.out.below b)
  replace BW := hide (bthen BW.out b)
  clear b
  have XQ_lt := XQ.out.lt
  have XQ_c0 := XQ.out.at (i := 0) rfl; have XQ_f0 := XQ.out.frozen 0
  have XQ_c1 := XQ.out.at (i := 1) rfl; have XQ_f1 := XQ.out.frozen 1
  have XQ_c2 := XQ.out.at (i := 2) rfl; have XQ_f2 := XQ.out.frozen 2
  have XQ_c3 := XQ.out.at (i := 3) rfl; have XQ_f3 := XQ.out.frozen 3
  have XQ_c4 := XQ.out.at (i := 4) rfl; have XQ_f4 := XQ.out.frozen 4
  go_wp2_with fail
  clear XQ_lt XQ_c0 XQ_f0 XQ_c1 XQ_f1 XQ_c2 XQ_f2 XQ_c3 XQ_f3 XQ_c4 XQ_f4
  refine (markTrip_any Q0 t.rs.length w4.heap.size w5.heap.size t 1 _ QF.out hz' (by omega) (by omega) (by omega)).mono ?_
  rintro e w10 ⟨rfl, V', o⟩
  have zw10 := o.size
  replace X1 := hide (X1.out.only o (by omega))
  replace SF := hide (SF.out.only o (by omega))
  replace XS := hide (XS.out.only o (by omega))
  replace XQ := hide (XQ.out.only o (by omega))
  replace GF := hide (GF.out.only o (by omega))
  replace XG := hide (XG.out.only o (by omega))
  replace QF := hide V'; replace BW := hide (Only.then BW.out o (by omega) (by omega)); clear V' o
  clear QF XQ
  have XS_lt := XS.out.lt
  have XS_c0 := XS.out.at (i := 0) rfl; have XS_f0 := XS.out.frozen 0
  have XS_c1 := XS.out.at (i := 1) rfl; have XS_f1 := XS.out.frozen 1
  have XS_c2 := XS.out.at (i := 2) rfl; have XS_f2 := XS.out.frozen 2
  have XS_c3 := XS.out.at (i := 3) rfl; have XS_f3 := XS.out.frozen 3
  have XS_c4 := XS.out.at (i := 4) rfl; have XS_f4 := XS.out.frozen 4
  have XG_lt := XG.out.lt
  have XG_c0 := XG.out.at (i := 0) rfl; have XG_f0 := XG.out.frozen 0
  have XG_c1 := XG.out.at (i := 1) rfl; have XG_f1 := XG.out.frozen 1
  have XG_c2 := XG.out.at (i := 2) rfl; have XG_f2 := XG.out.frozen 2
  have XG_c3 := XG.out.at (i := 3) rfl; have XG_f3 := XG.out.frozen 3
  have XG_c4 := XG.out.at (i := 4) rfl; have XG_f4 := XG.out.frozen 4
  go_wp2_with fail
  clear XS_lt XS_c0 XS_f0 XS_c1 XS_f1 XS_c2 XS_f2 XS_c3 XS_f3 XS_c4 XS_f4
  clear XG_lt XG_c0 XG_f0 XG_c1 XG_f1 XG_c2 XG_f2 XG_c3 XG_f3 XG_c4 XG_f4
  refine (eqTrip_self G0 S0 g0 s0 D _ GF.out.rds SF.out.rds (by omega)).mono ?_
  rintro e w11 ⟨rfl, b⟩
  have zw11 := b.size
  replace X1 := hide (X1.out.below b)
  replace SF := hide (SF.out.below b)
  replace XS := hide (XS.out.below b)
  replace GF := hide (GF.out.below b)
  replace XG := hide (XG.out.below b)
  replace BW := hide (bthen BW.out b)
  clear b
  have XG_lt := XG.out.lt
  have XG_c0 := XG.out.at (i := 0) rfl; have XG_f0 := XG.out.frozen 0
  have XG_c1 := XG.out.at (i := 1) rfl; have XG_f1 := XG.out.frozen 1
  have XG_c2 := XG.out.at (i := 2) rfl; have XG_f2 := XG.out.frozen 2
  have XG_c3 := XG.out.at (i := 3) rfl; have XG_f3 := XG.out.frozen 3
  have XG_c4 := XG.out.at (i := 4) rfl; have XG_f4 := XG.out.frozen 4
  go_wp2_with fail
  clear XG_lt XG_c0 XG_f0 XG_c1 XG_f1 XG_c2 XG_f2 XG_c3 XG_f3 XG_c4 XG_f4
  refine (markTrip_any G0 g0 w6.heap.size w7.heap.size D 1 _ GF.out (by omega) (by omega) (by omega) (by omega)).mono ?_
  rintro e w12 ⟨rfl, V', o⟩
  have zw12 := o.size
  replace X1 := hide (X1.out.only o (by omega))
  replace SF := hide (SF.out.only o (by omega))
  replace XS := hide (XS.out.only o (by omega))
  replace XG := hide (XG.out.only o (by omega))
  replace GF := hide V'; replace BW := hide (Only.then BW.out o (by omega) (by omega)); clear V' o
  have XG_lt := XG.out.lt
  have XG_c0 := XG.out.at (i := 0) rfl; have XG_f0 := XG.out.frozen 0
  have XG_c1 := XG.out.at (i := 1) rfl; have XG_f1 := XG.out.frozen 1
  have XG_c2 := XG.out.at (i := 2) rfl; have XG_f2 := XG.out.frozen 2
  have XG_c3 := XG.out.at (i := 3) rfl; have XG_f3 := XG.out.frozen 3
  have XG_c4 := XG.out.at (i := 4) rfl; have XG_f4 := XG.out.frozen 4
  go_wp2_with fail
  clear XG_lt XG_c0 XG_f0 XG_c1 XG_f1 XG_c2 XG_f2 XG_c3 XG_f3 XG_c4 XG_f4
  refine (heldTrip_any G0 g0 D 1 _ GF.out.rds (by omega) (by omega) (by omega)).mono ?_
  rintro e w13 ⟨rfl, b⟩
  have zw13 := b.size
  replace X1 := hide (X1.out.below b)
  replace SF := hide (SF.out.below b)
  replace XS := hide (XS.out.below b)
  replace GF := hide (GF.out.below b)
  replace XG := hide (XG.out.below b)
  replace BW := hide (bthen BW.out b)
  clear b
  have e3 : ((1 + 3 * (D.rs.length : Int)) != (1 + 3 * (D.rs.length : Int))) = false := by simp
  have X1_lt := X1.out.lt
  have X1_c0 := X1.out.at (i := 0) rfl; have X1_f0 := X1.out.frozen 0
  have X1_c1 := X1.out.at (i := 1) rfl; have X1_f1 := X1.out.frozen 1
  have X1_c2 := X1.out.at (i := 2) rfl; have X1_f2 := X1.out.frozen 2
  have X1_c3 := X1.out.at (i := 3) rfl; have X1_f3 := X1.out.frozen 3
  have X1_c4 := X1.out.at (i := 4) rfl; have X1_f4 := X1.out.frozen 4
  go_wp2_with fail
  clear X1_lt X1_c0 X1_f0 X1_c1 X1_f1 X1_c2 X1_f2 X1_c3 X1_f3 X1_c4 X1_f4
  refine (toTrip_any A c t _ (H.out.below BW.out) hz').mono ?_
  rintro e w14 ⟨P0, rfl, PF, b⟩
  have zw14 := b.size
  replace PF := hide PF
  replace X1 := hide (X1.out.below b)
  replace SF := hide (SF.out.below b)
  replace XS := hide (XS.out.below b)
  replace GF := hide (GF.out.below b)
  replace XG := hide (XG.out.below b)
  replace BW := hide (bthen BW.out b)
  clear b
  go_wp2_with fail
  refine (implTripEnd_at P0 t.rs.length t D HD.out _ PF.out.rds n0).mono ?_
  rintro e w15 ⟨U0, u0, rfl, UF, b⟩
  have zw15 := b.size
  replace UF := hide UF
  replace X1 := hide (X1.out.below b)
  replace SF := hide (SF.out.below b)
  replace XS := hide (XS.out.below b)
  replace GF := hide (GF.out.below b)
  replace XG := hide (XG.out.below b)
  replace PF := hide (PF.out.below b)
  replace BW := hide (bthen BW.out b)
  clear b
  clear PF
  have XS_lt := XS.out.lt
  have XS_c0 := XS.out.at (i := 0) rfl; have XS_f0 := XS.out.frozen 0
  have XS_c1 := XS.out.at (i := 1) rfl; have XS_f1 := XS.out.frozen 1
  have XS_c2 := XS.out.at (i := 2) rfl; have XS_f2 := XS.out.frozen 2
  have XS_c3 := XS.out.at (i := 3) rfl; have XS_f3 := XS.out.frozen 3
  have XS_c4 := XS.out.at (i := 4) rfl; have XS_f4 := XS.out.frozen 4
  go_wp2_with fail
  clear XS_lt XS_c0 XS_f0 XS_c1 XS_f1 XS_c2 XS_f2 XS_c3 XS_f3 XS_c4 XS_f4
  refine calls_name fun w16 hW => ?_
  have XU := hide (Box.new' (g := w15.heap.size) hW rfl)
  have b : Below w15.heap.size w15 w16 := by rw [hW]; exact (Below.refl _ _).alloc (Nat.le_refl _) _
  have zw16 := b.size
  replace X1 := hide (X1.out.below b)
  replace SF := hide (SF.out.below b)
  replace XS := hide (XS.out.below b)
  replace GF := hide (GF.out.below b)
  replace XG := hide (XG.out.below b)
  replace UF := hide (UF.out.below b)
  replace BW := hide (bthen BW.out b)
  clear b
  have zXU := XU.out.lt
  clear hW
  refine (eqTrip_self U0 S0 u0 s0 D _ UF.out.rds SF.out.rds (by omega)).mono ?_
  rintro e w17 ⟨rfl, b⟩
  have zw17 := b.size
  replace X1 := hide (X1.out.below b)
  replace SF := hide (SF.out.below b)
  replace XS := hide (XS.out.below b)
  replace GF := hide (GF.out.below b)
  replace XG := hide (XG.out.below b)
  replace UF := hide (UF.out.below b)
  replace XU := hide (XU.out.below b)
  replace BW := hide (bthen BW.out b)
  clear b
  clear UF XU SF XS
  have XG_lt := XG.out.lt
  have XG_c0 := XG.out.at (i := 0) rfl; have XG_f0 := XG.out.frozen 0
  have XG_c1 := XG.out.at (i := 1) rfl; have XG_f1 := XG.out.frozen 1
  have XG_c2 := XG.out.at (i := 2) rfl; have XG_f2 := XG.out.frozen 2
  have XG_c3 := XG.out.at (i := 3) rfl; have XG_f3 := XG.out.frozen 3
  have XG_c4 := XG.out.at (i := 4) rfl; have XG_f4 := XG.out.frozen 4
  go_wp2_with fail
  clear XG_lt XG_c0 XG_f0 XG_c1 XG_f1 XG_c2 XG_f2 XG_c3 XG_f3 XG_c4 XG_f4
  refine (heldTrip_any G0 g0 D 1 _ GF.out.rds (by omega) (by omega) (by omega)).mono ?_
  rintro e w18 ⟨rfl, b⟩
  have zw18 := b.size
  replace X1 := hide (X1.out.below b)
  replace GF := hide (GF.out.below b)
  replace XG := hide (XG.out.below b)
  replace BW := hide (bthen BW.out b)
  clear b
  go_wp2_with fail
  go_ret
  exact ⟨rfl, BW.out⟩
end Go.Proofs.Ytbkjgiomamlajaa
