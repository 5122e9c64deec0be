import Derived.Test.YtbkjgiomamlajaaFrameC
import Derived.Test.YtbkjgiomamlajaaDrawTrip
import Derived.Test.YtbkjgiomamlajaaRidG
import Derived.Test.YtbkjgiomamlajaaRidM
import Derived.Test.YtbkjgiomamlajaaTripLaw
import Derived.Test.YtbkjgiomamlajaaAlive
import Derived.Test.YtbkjgiomamlajaaCallsE
import Derived.Deep.RegionHeld3
import Derived.Deep.CutRange
namespace Go.Proofs.Ytbkjgiomamlajaa
open Go.RowKit
attribute [local go_sem ↓] Go.wp_at_zero Go.wp_at_succ

set_option maxRecDepth 100000 in
set_option maxHeartbeats 4000000 in
theorem wTripStops (A : Option Addr) (c : Nat) (bs : List Int) (w : World) (h0 : InRow .u8 w A c bs) :
    Calls Try.prog 11 #[.slice A bs.length c] w fun e w' => e = .returned (.bool true) ∧ Below w.heap.size w w' := by
  have HB := hide h0.byte
  obtain ⟨h, hc, hc2, -⟩ := h0
  have H : Hid (Sl w A (bvs bs)) := h
  clear h
  by_cases hl : ¬ bs.length ≤ 1048576
  · go_enter Try.func11, Try.ntmps11
    go_wp2
    go_ret
    exact ⟨rfl, Below.refl _ _⟩
  have hl : bs.length ≤ 1048576 := by omega
  clear hc2
  go_enter Try.func11, Try.ntmps11
  go_wp2_with fail
  refine (drawTripStops_any A c bs _ H.out HB.out hl hc).mono ?_
  rintro e w1 ⟨P, p, t, rfl, PR, h9, b⟩
  have BW := hide b; replace PR := hide PR
  have zw1 := b.size
  have h9' : (t.rs.length : Int) ≤ 9 := by omega
  clear b h9
  obtain ⟨n, hn⟩ : ∃ n, n = stopsB t := ⟨_, rfl⟩
  have HN := hide hn; clear hn
  have e0 : (n != n) = false := by simp
  go_wp2_with fail
  refine calls_name fun W hW => ?_
  have X3 := hide (Box.new' (g := w1.heap.size) hW rfl)
  have b : Below w1.heap.size w1 W := by rw [hW]; exact (Below.refl _ _).alloc (Nat.le_refl _) _
  replace PR := hide (PR.out.below b)
  replace BW := hide (bthen BW.out b)
  have zX3 := X3.out.lt
  clear b hW
  refine (implTripStops P p t _ PR.out.rds (by omega)).mono ?_
  rw [← HN.out]
  rintro e w2 ⟨rfl, b⟩
  replace X3 := hide (X3.out.below b)
  replace PR := hide (PR.out.below b)
  replace BW := hide (bthen BW.out b)
  clear b
  have X3_lt := X3.out.lt
  have X3_c0 := X3.out.at (i := 0) rfl; have X3_f0 := X3.out.frozen 0
  have X3_c1 := X3.out.at (i := 1) rfl; have X3_f1 := X3.out.frozen 1
  have X3_c2 := X3.out.at (i := 2) rfl; have X3_f2 := X3.out.frozen 2
  have X3_c3 := X3.out.at (i := 3) rfl; have X3_f3 := X3.out.frozen 3
  have X3_c4 := X3.out.at (i := 4) rfl; have X3_f4 := X3.out.frozen 4
  go_wp2_with fail
  clear X3_lt X3_c0 X3_f0 X3_c1 X3_f1 X3_c2 X3_f2 X3_c3 X3_f3 X3_c4 X3_f4
  refine (specTripStops P p t _ PR.out.rds (by omega)).mono ?_
  rw [← HN.out]
  rintro e w3 ⟨rfl, b⟩
  replace X3 := hide (X3.out.below b)
  replace PR := hide (PR.out.below b)
  replace BW := hide (bthen BW.out b)
  clear b
  cases hv : tripB t
  · obtain rfl : n = -1 := HN.out.trans (stopsB_no hv)
    clear hv
    go_wp2_with fail
    refine (alive_any _).mono ?_
    rintro e w9 ⟨rfl, b9⟩
    have B9 := hide b9
    clear b9
    go_wp2_with fail
    go_ret
    exact ⟨rfl, bthen BW.out B9.out⟩
  · have hp := tripB_iff.1 hv
    have he : n = stopsT t := HN.out.trans (stopsB_yes hv)
    have hb := stops_bd t hp
    have h16 := stops_16 hp
    unfold measT at hb
    rw [← he] at hb h16
    obtain ⟨z0, hz0⟩ : ∃ z, z = inN 0 t.rs := ⟨_, rfl⟩
    obtain ⟨z1, hz1⟩ : ∃ z, z = inN 1 t.rs := ⟨_, rfl⟩
    have y0 := inN_bd 0 t.rs
    have y1 := inN_bd 1 t.rs
    rw [← hz0] at hb y0
    rw [← hz1] at hb y1
    have HZ0 := hide hz0; have HZ1 := hide hz1
    have q1 : IntKind.i64.wrap (2 * z0) = 2 * z0 := IntWalk.i64_in _ (by omega)
    have q2 : IntKind.i64.wrap (2 * z0 + z1) = 2 * z0 + z1 := IntWalk.i64_in _ (by omega)
    have q3 : IntKind.i64.wrap (n - 1) = n - 1 := IntWalk.i64_in _ (by omega)
    have q4 : decide (n ≤ 2 * z0 + z1) = true := decide_eq_true (by omega)
    have Q1 := hide q1; have Q2 := hide q2; have Q3 := hide q3; have Q4 := hide q4
    have nn : ¬ n < 0 := by omega
    clear q1 q2 q3 q4 hz0 hz1 hv
    obtain ⟨D, x, hs⟩ : ∃ D x, stepB t = (D, x) := ⟨_, _, rfl⟩
    have hlen := stepB_len t
    rw [hs] at hlen
    have d8 : (D.rs.length : Int) ≤ 8 := hlen
    have HS := hide hs
    have HX : Hid (x = decide (0 < n)) := by
      cases h1 : stepO t with
      | none => rw [stepB_end hp h1] at hs; injection hs with _ hs; rw [← hs, he, (run_none h1).2]; rfl
      | some t' => rw [stepB_on hp h1] at hs; injection hs with _ hs; rw [← hs, he]; exact (decide_eq_true (stop_first hp h1).2.1).symm
    have HD : Hid (x = true → stopsB D = n - 1) := by
      intro hx
      cases h1 : stepO t with
      | none => rw [stepB_end hp h1] at hs; injection hs with _ hs; rw [← hs] at hx; cases hx
      | some t' =>
        rw [stepB_on hp h1] at hs; injection hs with hs _
        obtain ⟨a, -, b⟩ := stop_first hp h1
        rw [← hs, stopsB_yes (tripB_iff.2 a), b, he]
    clear hp he hb y0 y1 hs hlen
    have X3_lt := X3.out.lt
    have X3_c0 := X3.out.at (i := 0) rfl; have X3_f0 := X3.out.frozen 0
    have X3_c1 := X3.out.at (i := 1) rfl; have X3_f1 := X3.out.frozen 1
    have X3_c2 := X3.out.at (i := 2) rfl; have X3_f2 := X3.out.frozen 2
    have X3_c3 := X3.out.at (i := 3) rfl; have X3_f3 := X3.out.frozen 3
    have X3_c4 := X3.out.at (i := 4) rfl; have X3_f4 := X3.out.frozen 4
    go_wp2_with fail
    clear X3_lt X3_c0 X3_f0 X3_c1 X3_f1 X3_c2 X3_f2 X3_c3 X3_f3 X3_c4 X3_f4
    refine (implTripStep_at P p t D x (by rw [HS.out]) (by rw [HS.out]) _ PR.out.rds (by omega)).mono ?_
    rintro e w4 ⟨U, u, rfl, UR, b⟩
    replace UR := hide UR
    replace X3 := hide (X3.out.below b)
    replace PR := hide (PR.out.below b)
    replace BW := hide (bthen BW.out b)
    clear b
    go_upto_region 10 with fail
    refine code_name fun W5 hW => ?_
    have X5 := hide (Box.new' (g := w4.heap.size) hW rfl)
    have b : Below w4.heap.size w4 W5 := by rw [hW]; exact (Below.refl _ _).alloc (Nat.le_refl _) _
    replace X3 := hide (X3.out.below b)
    replace PR := hide (PR.out.below b)
    replace UR := hide (UR.out.below b)
    replace BW := hide (bthen BW.out b)
    clear b
    clear hW
    have X3_lt := X3.out.lt
    have X3_c0 := X3.out.at (i := 0) rfl; have X3_f0 := X3.out.frozen 0
    have X3_c1 := X3.out.at (i := 1) rfl; have X3_f1 := X3.out.frozen 1
    have X3_c2 := X3.out.at (i := 2) rfl; have X3_f2 := X3.out.frozen 2
    have X3_c3 := X3.out.at (i := 3) rfl; have X3_f3 := X3.out.frozen 3
    have X3_c4 := X3.out.at (i := 4) rfl; have X3_f4 := X3.out.frozen 4
    have X5_lt := X5.out.lt
    have X5_c0 := X5.out.at (i := 0) rfl; have X5_f0 := X5.out.frozen 0
    have X5_c1 := X5.out.at (i := 1) rfl; have X5_f1 := X5.out.frozen 1
    have X5_c2 := X5.out.at (i := 2) rfl; have X5_f2 := X5.out.frozen 2
    have X5_c3 := X5.out.at (i := 3) rfl; have X5_f3 := X5.out.frozen 3
    have X5_c4 := X5.out.at (i := 4) rfl; have X5_f4 := X5.out.frozen 4
    have q1 := Q1.out; have q2 := Q2.out; have q3 := Q3.out; have q4 := Q4.out
    cases x
    · have n0 : decide (0 < n) = false := HX.out.symm
      have KS : Hid (∀ W', Below W5.heap.size W5 W' → (W'.cell? ⟨w1.heap.size, 0, none⟩ = some (.int .i64 t.n) ∧ W'.cell? ⟨w1.heap.size, 1, none⟩ = some (.int .i64 t.room) ∧ W'.cell? ⟨w1.heap.size, 2, none⟩ = some (.int .i64 t.f) ∧ W'.cell? ⟨w1.heap.size, 3, none⟩ = some (.int .i64 t.d) ∧ W'.cell? ⟨w1.heap.size, 4, none⟩ = some (.slice P t.rs.length p)) ∧ (W'.cell? ⟨w4.heap.size, 0, none⟩ = some (.int .i64 D.n) ∧ W'.cell? ⟨w4.heap.size, 1, none⟩ = some (.int .i64 D.room) ∧ W'.cell? ⟨w4.heap.size, 2, none⟩ = some (.int .i64 D.f) ∧ W'.cell? ⟨w4.heap.size, 3, none⟩ = some (.int .i64 D.d) ∧ W'.cell? ⟨w4.heap.size, 4, none⟩ = some (.slice U D.rs.length u))) := fun W' bb => ⟨⟨(X3.out.below bb).at rfl, (X3.out.below bb).at rfl, (X3.out.below bb).at rfl, (X3.out.below bb).at rfl, (X3.out.below bb).at rfl⟩, ⟨(X5.out.below bb).at rfl, (X5.out.below bb).at rfl, (X5.out.below bb).at rfl, (X5.out.below bb).at rfl, (X5.out.below bb).at rfl⟩⟩
      have KK : Hid (Below W5.heap.size W5 W5.drew) := (Below.refl _ _).drew
      refine wp_region_noPanic ?_
      refine wp_region_held_drew (S := (fun W => (W.cell? ⟨w1.heap.size, 0, none⟩ = some (.int .i64 t.n) ∧ W.cell? ⟨w1.heap.size, 1, none⟩ = some (.int .i64 t.room) ∧ W.cell? ⟨w1.heap.size, 2, none⟩ = some (.int .i64 t.f) ∧ W.cell? ⟨w1.heap.size, 3, none⟩ = some (.int .i64 t.d) ∧ W.cell? ⟨w1.heap.size, 4, none⟩ = some (.slice P t.rs.length p)) ∧ (W.cell? ⟨w4.heap.size, 0, none⟩ = some (.int .i64 D.n) ∧ W.cell? ⟨w4.heap.size, 1, none⟩ = some (.int .i64 D.room) ∧ W.cell? ⟨w4.heap.size, 2, none⟩ = some (.int .i64 D.f) ∧ W.cell? ⟨w4.heap.size, 3, none⟩ = some (.int .i64 D.d) ∧ W.cell? ⟨w4.heap.size, 4, none⟩ = some (.slice U D.rs.length u)))) (by kernel_rfl) ?_ (fun hHeld => ?_)
      · exact KS.out _ KK.out
      (refine take_in (i := 0) (v := ?_) rfl (by rfl) (by kernel_rfl) (by kernel_rfl) (by kernel_rfl) (fun _ _ _ h => h) (by rfl) ?_ (by assumption) ?_; rotate_left; (focus ((intro w hSw; (try dsimp only at hSw); go_simp); (try with_reducible rfl); done)); (try simp only [List.setIfInBounds_toArray, List.set_cons_succ, List.set_cons_zero]))
      (refine take_in (i := 1) (v := ?_) rfl (by rfl) (by kernel_rfl) (by kernel_rfl) (by kernel_rfl) (fun _ _ _ h => h) (by rfl) ?_ (by assumption) ?_; rotate_left; (focus ((intro w hSw; (try dsimp only at hSw); go_simp); (try with_reducible rfl); done)); (try simp only [List.setIfInBounds_toArray, List.set_cons_succ, List.set_cons_zero]))
      (refine take_in (i := 4) (v := ?_) rfl (by rfl) (by kernel_rfl) (by kernel_rfl) (by kernel_rfl) (fun _ _ _ h => h) (by rfl) ?_ (by assumption) ?_; rotate_left; (focus ((intro w hSw; (try dsimp only at hSw); go_simp); (try with_reducible rfl); done)); (try simp only [List.setIfInBounds_toArray, List.set_cons_succ, List.set_cons_zero]))
      refine wpAnyH_ready (rs := [2]) (by kernel_rfl) (by simp) ?_
      refine AllReadyH.cons rfl (fun K hK => ?_) AllReadyH.nil
      go_simp
      go_at_call 21
      refine (inState_any P p t 0 _ ?_ (by omega)).mono ?_
      · exact PR.out.rds.below KK.out
      rw [← HZ0.out]
      rintro e v ⟨rfl, bb⟩
      replace KK := hide (bthen KK.out bb)
      have zKK := KK.out.size
      clear bb
      go_wp2_with fail
      refine hK.out _ _ ?_ (fun hHeld => ?_)
      · exact KS.out _ KK.out
      clear hK K
      (try simp only [Act.put, List.setIfInBounds_toArray, List.set_cons_zero, List.set_cons_succ])
      (refine take_in (i := 3) (v := ?_) rfl (by rfl) (by kernel_rfl) (by kernel_rfl) (by kernel_rfl) (fun _ _ _ h => h) (by rfl) ?_ (by assumption) ?_; rotate_left; (focus ((intro w hSw; (try dsimp only at hSw); go_simp); (try with_reducible rfl); done)); (try simp only [List.setIfInBounds_toArray, List.set_cons_succ, List.set_cons_zero]))
      refine wpAnyH_ready (rs := [5]) (by kernel_rfl) (by simp) ?_
      refine AllReadyH.cons rfl (fun K hK => ?_) AllReadyH.nil
      go_simp
      go_at_call 21
      refine (inState_any P p t 1 _ ?_ (by omega)).mono ?_
      · exact PR.out.rds.below KK.out
      rw [← HZ1.out]
      rintro e v ⟨rfl, bb⟩
      replace KK := hide (bthen KK.out bb)
      have zKK := KK.out.size
      clear bb
      go_wp2_with fail
      refine hK.out _ _ ?_ (fun hHeld => ?_)
      · exact KS.out _ KK.out
      clear hK K
      (try simp only [Act.put, List.setIfInBounds_toArray, List.set_cons_zero, List.set_cons_succ])
      (refine take_in (i := 6) (v := ?_) rfl (by rfl) (by kernel_rfl) (by kernel_rfl) (by kernel_rfl) (fun _ _ _ h => h) (by rfl) ?_ (by assumption) ?_; rotate_left; (focus ((intro w hSw; (try dsimp only at hSw); go_simp); (try with_reducible rfl); done)); (try simp only [List.setIfInBounds_toArray, List.set_cons_succ, List.set_cons_zero]))
      (refine take_in (i := 7) (v := ?_) rfl (by rfl) (by kernel_rfl) (by kernel_rfl) (by kernel_rfl) (fun _ _ _ h => h) (by rfl) ?_ (by assumption) ?_; rotate_left; (focus ((intro w hSw; (try dsimp only at hSw); go_simp); (try with_reducible rfl); done)); (try simp only [List.setIfInBounds_toArray, List.set_cons_succ, List.set_cons_zero]))
      (refine take_in (i := 8) (v := ?_) rfl (by rfl) (by kernel_rfl) (by kernel_rfl) (by kernel_rfl) (fun _ _ _ h => h) (by rfl) ?_ (by assumption) ?_; rotate_left; (focus ((intro w hSw; (try dsimp only at hSw); go_simp); (try with_reducible rfl); done)); (try simp only [List.setIfInBounds_toArray, List.set_cons_succ, List.set_cons_zero]))
      first | (refine take_in (i := 9) (v := ?_) rfl (by rfl) (by kernel_rfl) (by kernel_rfl) (by kernel_rfl) (fun _ _ _ h => h) (by rfl) ?_ (by assumption) ?_; rotate_left; (focus ((intro w hSw; (try dsimp only at hSw); go_simp); (try with_reducible rfl); done)); (try simp only [List.setIfInBounds_toArray, List.set_cons_succ, List.set_cons_zero])) | (refine take_out (i := 9) rfl (by rfl) (by kernel_rfl) (by kernel_rfl) (by kernel_rfl) (fun _ _ _ h => h) (by rfl) (by assumption) ?_; (try simp only [List.setIfInBounds_toArray, List.set_cons_succ, List.set_cons_zero]))
      first | (refine take_in (i := 10) (v := ?_) rfl (by rfl) (by kernel_rfl) (by kernel_rfl) (by kernel_rfl) (fun _ _ _ h => h) (by rfl) ?_ (by assumption) ?_; rotate_left; (focus ((intro w hSw; (try dsimp only at hSw); go_simp); (try with_reducible rfl); done)); (try simp only [List.setIfInBounds_toArray, List.set_cons_succ, List.set_cons_zero])) | (refine take_out (i := 10) rfl (by rfl) (by kernel_rfl) (by kernel_rfl) (by kernel_rfl) (fun _ _ _ h => h) (by rfl) (by assumption) ?_; (try simp only [List.setIfInBounds_toArray, List.set_cons_succ, List.set_cons_zero]))
      first | (refine take_in (i := 11) (v := ?_) rfl (by rfl) (by kernel_rfl) (by kernel_rfl) (by kernel_rfl) (fun _ _ _ h => h) (by rfl) ?_ (by assumption) ?_; rotate_left; (focus ((intro w hSw; (try dsimp only at hSw); go_simp); (try with_reducible rfl); done)); (try simp only [List.setIfInBounds_toArray, List.set_cons_succ, List.set_cons_zero])) | (refine take_out (i := 11) rfl (by rfl) (by kernel_rfl) (by kernel_rfl) (by kernel_rfl) (fun _ _ _ h => h) (by rfl) (by assumption) ?_; (try simp only [List.setIfInBounds_toArray, List.set_cons_succ, List.set_cons_zero]))
      first | (refine take_in (i := 12) (v := ?_) rfl (by rfl) (by kernel_rfl) (by kernel_rfl) (by kernel_rfl) (fun _ _ _ h => h) (by rfl) ?_ (by assumption) ?_; rotate_left; (focus ((intro w hSw; (try dsimp only at hSw); go_simp); (try with_reducible rfl); done)); (try simp only [List.setIfInBounds_toArray, List.set_cons_succ, List.set_cons_zero])) | (refine take_out (i := 12) rfl (by rfl) (by kernel_rfl) (by kernel_rfl) (by kernel_rfl) (fun _ _ _ h => h) (by rfl) (by assumption) ?_; (try simp only [List.setIfInBounds_toArray, List.set_cons_succ, List.set_cons_zero]))
      (refine take_in (i := 13) (v := ?_) rfl (by rfl) (by kernel_rfl) (by kernel_rfl) (by kernel_rfl) (fun _ _ _ h => h) (by rfl) ?_ (by assumption) ?_; rotate_left; (focus ((intro w hSw; (try dsimp only at hSw); go_simp); (try with_reducible rfl); done)); (try simp only [List.setIfInBounds_toArray, List.set_cons_succ, List.set_cons_zero]))
      (refine take_in (i := 14) (v := ?_) rfl (by rfl) (by kernel_rfl) (by kernel_rfl) (by kernel_rfl) (fun _ _ _ h => h) (by rfl) ?_ (by assumption) ?_; rotate_left; (focus ((intro w hSw; (try dsimp only at hSw); go_simp); (try with_reducible rfl); done)); (try simp only [List.setIfInBounds_toArray, List.set_cons_succ, List.set_cons_zero]))
      first | (refine take_in (i := 15) (v := ?_) rfl (by rfl) (by kernel_rfl) (by kernel_rfl) (by kernel_rfl) (fun _ _ _ h => h) (by rfl) ?_ (by assumption) ?_; rotate_left; (focus ((intro w hSw; (try dsimp only at hSw); go_simp); (try with_reducible rfl); done)); (try simp only [List.setIfInBounds_toArray, List.set_cons_succ, List.set_cons_zero])) | (refine take_out (i := 15) rfl (by rfl) (by kernel_rfl) (by kernel_rfl) (by kernel_rfl) (fun _ _ _ h => h) (by rfl) (by assumption) ?_; (try simp only [List.setIfInBounds_toArray, List.set_cons_succ, List.set_cons_zero]))
      first | (refine take_in (i := 16) (v := ?_) rfl (by rfl) (by kernel_rfl) (by kernel_rfl) (by kernel_rfl) (fun _ _ _ h => h) (by rfl) ?_ (by assumption) ?_; rotate_left; (focus ((intro w hSw; (try dsimp only at hSw); go_simp); (try with_reducible rfl); done)); (try simp only [List.setIfInBounds_toArray, List.set_cons_succ, List.set_cons_zero])) | (refine take_out (i := 16) rfl (by rfl) (by kernel_rfl) (by kernel_rfl) (by kernel_rfl) (fun _ _ _ h => h) (by rfl) (by assumption) ?_; (try simp only [List.setIfInBounds_toArray, List.set_cons_succ, List.set_cons_zero]))
      first | (refine take_in (i := 17) (v := ?_) rfl (by rfl) (by kernel_rfl) (by kernel_rfl) (by kernel_rfl) (fun _ _ _ h => h) (by rfl) ?_ (by assumption) ?_; rotate_left; (focus ((intro w hSw; (try dsimp only at hSw); go_simp); (try with_reducible rfl); done)); (try simp only [List.setIfInBounds_toArray, List.set_cons_succ, List.set_cons_zero])) | (refine take_out (i := 17) rfl (by rfl) (by kernel_rfl) (by kernel_rfl) (by kernel_rfl) (fun _ _ _ h => h) (by rfl) (by assumption) ?_; (try simp only [List.setIfInBounds_toArray, List.set_cons_succ, List.set_cons_zero]))
      first | (refine take_in (i := 18) (v := ?_) rfl (by rfl) (by kernel_rfl) (by kernel_rfl) (by kernel_rfl) (fun _ _ _ h => h) (by rfl) ?_ (by assumption) ?_; rotate_left; (focus ((intro w hSw; (try dsimp only at hSw); go_simp); (try with_reducible rfl); done)); (try simp only [List.setIfInBounds_toArray, List.set_cons_succ, List.set_cons_zero])) | (refine take_out (i := 18) rfl (by rfl) (by kernel_rfl) (by kernel_rfl) (by kernel_rfl) (fun _ _ _ h => h) (by rfl) (by assumption) ?_; (try simp only [List.setIfInBounds_toArray, List.set_cons_succ, List.set_cons_zero]))
      (refine take_out (i := 19) rfl (by rfl) (by kernel_rfl) (by kernel_rfl) (by kernel_rfl) (fun _ _ _ h => h) (by rfl) (by assumption) ?_; (try simp only [List.setIfInBounds_toArray, List.set_cons_succ, List.set_cons_zero]))
      first | (refine take_in (i := 20) (v := ?_) rfl (by rfl) (by kernel_rfl) (by kernel_rfl) (by kernel_rfl) (fun _ _ _ h => h) (by rfl) ?_ (by assumption) ?_; rotate_left; (focus ((intro w hSw; (try dsimp only at hSw); go_simp); (try with_reducible rfl); done)); (try simp only [List.setIfInBounds_toArray, List.set_cons_succ, List.set_cons_zero])) | (refine take_out (i := 20) rfl (by rfl) (by kernel_rfl) (by kernel_rfl) (by kernel_rfl) (fun _ _ _ h => h) (by rfl) (by assumption) ?_; (try simp only [List.setIfInBounds_toArray, List.set_cons_succ, List.set_cons_zero]))
      first | (refine take_in (i := 21) (v := ?_) rfl (by rfl) (by kernel_rfl) (by kernel_rfl) (by kernel_rfl) (fun _ _ _ h => h) (by rfl) ?_ (by assumption) ?_; rotate_left; (focus ((intro w hSw; (try dsimp only at hSw); go_simp); (try with_reducible rfl); done)); (try simp only [List.setIfInBounds_toArray, List.set_cons_succ, List.set_cons_zero])) | (refine take_out (i := 21) rfl (by rfl) (by kernel_rfl) (by kernel_rfl) (by kernel_rfl) (fun _ _ _ h => h) (by rfl) (by assumption) ?_; (try simp only [List.setIfInBounds_toArray, List.set_cons_succ, List.set_cons_zero]))
      first | (refine take_in (i := 22) (v := ?_) rfl (by rfl) (by kernel_rfl) (by kernel_rfl) (by kernel_rfl) (fun _ _ _ h => h) (by rfl) ?_ (by assumption) ?_; rotate_left; (focus ((intro w hSw; (try dsimp only at hSw); go_simp); (try with_reducible rfl); done)); (try simp only [List.setIfInBounds_toArray, List.set_cons_succ, List.set_cons_zero])) | (refine take_out (i := 22) rfl (by rfl) (by kernel_rfl) (by kernel_rfl) (by kernel_rfl) (fun _ _ _ h => h) (by rfl) (by assumption) ?_; (try simp only [List.setIfInBounds_toArray, List.set_cons_succ, List.set_cons_zero]))
      first | (refine take_in (i := 23) (v := ?_) rfl (by rfl) (by kernel_rfl) (by kernel_rfl) (by kernel_rfl) (fun _ _ _ h => h) (by rfl) ?_ (by assumption) ?_; rotate_left; (focus ((intro w hSw; (try dsimp only at hSw); go_simp); (try with_reducible rfl); done)); (try simp only [List.setIfInBounds_toArray, List.set_cons_succ, List.set_cons_zero])) | (refine take_out (i := 23) rfl (by rfl) (by kernel_rfl) (by kernel_rfl) (by kernel_rfl) (fun _ _ _ h => h) (by rfl) (by assumption) ?_; (try simp only [List.setIfInBounds_toArray, List.set_cons_succ, List.set_cons_zero]))
      (refine take_in (i := 24) (v := ?_) rfl (by rfl) (by kernel_rfl) (by kernel_rfl) (by kernel_rfl) (fun _ _ _ h => h) (by rfl) ?_ (by assumption) ?_; rotate_left; (focus ((intro w hSw; (try dsimp only at hSw); go_simp); (try with_reducible rfl); done)); (try simp only [List.setIfInBounds_toArray, List.set_cons_succ, List.set_cons_zero]))
      (refine take_in (i := 25) (v := ?_) rfl (by rfl) (by kernel_rfl) (by kernel_rfl) (by kernel_rfl) (fun _ _ _ h => h) (by rfl) ?_ (by assumption) ?_; rotate_left; (focus ((intro w hSw; (try dsimp only at hSw); go_simp); (try with_reducible rfl); done)); (try simp only [List.setIfInBounds_toArray, List.set_cons_succ, List.set_cons_zero]))
      refine wpAnyH_done (by kernel_rfl) ?_ _
      refine NoPanic.normal ?_
      clear KS
      go_wp2_with fail
      go_ret
      exact ⟨rfl, bthen BW.out KK.out⟩
    · have n0 : decide (0 < n) = true := HX.out.symm
      have HD2 := hide (HD.out rfl)
      have e5 : (n - 1 == n - 1) = true := by simp
      have KS : Hid (∀ W', Below W5.heap.size W5 W' → (W'.cell? ⟨w1.heap.size, 0, none⟩ = some (.int .i64 t.n) ∧ W'.cell? ⟨w1.heap.size, 1, none⟩ = some (.int .i64 t.room) ∧ W'.cell? ⟨w1.heap.size, 2, none⟩ = some (.int .i64 t.f) ∧ W'.cell? ⟨w1.heap.size, 3, none⟩ = some (.int .i64 t.d) ∧ W'.cell? ⟨w1.heap.size, 4, none⟩ = some (.slice P t.rs.length p)) ∧ (W'.cell? ⟨w4.heap.size, 0, none⟩ = some (.int .i64 D.n) ∧ W'.cell? ⟨w4.heap.size, 1, none⟩ = some (.int .i64 D.room) ∧ W'.cell? ⟨w4.heap.size, 2, none⟩ = some (.int .i64 D.f) ∧ W'.cell? ⟨w4.heap.size, 3, none⟩ = some (.int .i64 D.d) ∧ W'.cell? ⟨w4.heap.size, 4, none⟩ = some (.slice U D.rs.length u))) := fun W' bb => ⟨⟨(X3.out.below bb).at rfl, (X3.out.below bb).at rfl, (X3.out.below bb).at rfl, (X3.out.below bb).at rfl, (X3.out.below bb).at rfl⟩, ⟨(X5.out.below bb).at rfl, (X5.out.below bb).at rfl, (X5.out.below bb).at rfl, (X5.out.below bb).at rfl, (X5.out.below bb).at rfl⟩⟩
      have KK : Hid (Below W5.heap.size W5 W5.drew) := (Below.refl _ _).drew
      first | (go_region_held3 (fun W => (W.cell? ⟨w1.heap.size, 0, none⟩ = some (.int .i64 t.n) ∧ W.cell? ⟨w1.heap.size, 1, none⟩ = some (.int .i64 t.room) ∧ W.cell? ⟨w1.heap.size, 2, none⟩ = some (.int .i64 t.f) ∧ W.cell? ⟨w1.heap.size, 3, none⟩ = some (.int .i64 t.d) ∧ W.cell? ⟨w1.heap.size, 4, none⟩ = some (.slice P t.rs.length p)) ∧ (W.cell? ⟨w4.heap.size, 0, none⟩ = some (.int .i64 D.n) ∧ W.cell? ⟨w4.heap.size, 1, none⟩ = some (.int .i64 D.room) ∧ W.cell? ⟨w4.heap.size, 2, none⟩ = some (.int .i64 D.f) ∧ W.cell? ⟨w4.heap.size, 3, none⟩ = some (.int .i64 D.d) ∧ W.cell? ⟨w4.heap.size, 4, none⟩ = some (.slice U D.rs.length u))) (first | (go_keep; done) | exact KS.out _ KK.out) (first | (go_at_call 21; (with_reducible refine (inState_any P p t 0 _ ?_ (by omega)).mono ?_); exact PR.out.rds.below KK.out; rw [← HZ0.out]; rintro e v ⟨rfl, bb⟩; replace KK := hide (bthen KK.out bb); have zKK := KK.out.size; clear bb) | (go_at_call 21; (with_reducible refine (inState_any P p t 1 _ ?_ (by omega)).mono ?_); exact PR.out.rds.below KK.out; rw [← HZ1.out]; rintro e v ⟨rfl, bb⟩; replace KK := hide (bthen KK.out bb); have zKK := KK.out.size; clear bb) | (go_at_call 40; (with_reducible refine (implTripStops U u D _ ?_ (by omega)).mono ?_); exact UR.out.rds.below KK.out; rw [HD2.out]; rintro e v ⟨rfl, bb⟩; replace KK := hide (bthen KK.out bb); have zKK := KK.out.size; clear bb))) | fail
      rename ((v.cell? ⟨w1.heap.size, 0, none⟩ = some (.int .i64 t.n) ∧ v.cell? ⟨w1.heap.size, 1, none⟩ = some (.int .i64 t.room) ∧ v.cell? ⟨w1.heap.size, 2, none⟩ = some (.int .i64 t.f) ∧ v.cell? ⟨w1.heap.size, 3, none⟩ = some (.int .i64 t.d) ∧ v.cell? ⟨w1.heap.size, 4, none⟩ = some (.slice P t.rs.length p)) ∧ (v.cell? ⟨w4.heap.size, 0, none⟩ = some (.int .i64 D.n) ∧ v.cell? ⟨w4.heap.size, 1, none⟩ = some (.int .i64 D.room) ∧ v.cell? ⟨w4.heap.size, 2, none⟩ = some (.int .i64 D.f) ∧ v.cell? ⟨w4.heap.size, 3, none⟩ = some (.int .i64 D.d) ∧ v.cell? ⟨w4.heap.size, 4, none⟩ = some (.slice U D.rs.length u))) => hHeldX
      clear KS hHeldX
      go_wp2_with fail
      go_ret
      exact ⟨rfl, bthen BW.out KK.out⟩
end Go.Proofs.Ytbkjgiomamlajaa
