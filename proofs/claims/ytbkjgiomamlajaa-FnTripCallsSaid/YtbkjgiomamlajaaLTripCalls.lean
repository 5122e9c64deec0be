import Derived.Test.YtbkjgiomamlajaaFrameC
import Derived.Test.YtbkjgiomamlajaaDrawTrip
import Derived.Test.YtbkjgiomamlajaaRidM
import Derived.Test.YtbkjgiomamlajaaTripLaw
import Derived.Test.YtbkjgiomamlajaaAlive
import Derived.Test.YtbkjgiomamlajaaCallsE
import Derived.Test.YtbkjgiomamlajaaWCallSet
import Derived.Deep.RegionHeld3
import Derived.Deep.CutRange
namespace Go.Proofs.Ytbkjgiomamlajaa
open Go.RowKit
attribute [local go_sem ↓] Go.wp_at_zero Go.wp_at_succ

set_option maxRecDepth 100000 in
set_option maxHeartbeats 4000000 in
theorem wTripCalls (A : Option Addr) (c : Nat) (bs : List Int) (w : World) (h0 : InRow .u8 w A c bs) :
    Calls Try.prog 8 #[.slice A bs.length c] w fun e w' => e = .returned (.bool true) ∧ Below w.heap.size w w' := by
  have HB := hide h0.byte
  obtain ⟨h, hc, hc2, -⟩ := h0
  have H : Hid (Sl w A (bvs bs)) := h
  clear h
  by_cases hl : ¬ bs.length ≤ 1048576
  · go_enter Try.func8, Try.ntmps8
    go_wp2
    go_ret
    exact ⟨rfl, Below.refl _ _⟩
  have hl : bs.length ≤ 1048576 := by omega
  clear hc2
  go_enter Try.func8, Try.ntmps8
  go_wp2_with fail
  refine (drawTripCalls_any A c bs _ H.out HB.out hl hc).mono ?_
  rintro e w1 ⟨P, p, t, rfl, PR, h9, b⟩
  have BW := hide b; replace PR := hide PR
  have zw1 := b.size
  have h9' : (t.rs.length : Int) ≤ 9 := by omega
  clear b h9
  obtain ⟨C, hC⟩ : ∃ C, C = tripCB t := ⟨_, rfl⟩
  have hlen : C.up.length ≤ 8 ∧ C.dn.length ≤ 8 ∧ C.car.length ≤ 8 := by rw [hC]; exact tripCB_lens t
  obtain ⟨d0, d1, d2⟩ := hlen
  have HC := hide hC; clear hC
  have qd := eqC_self C
  go_wp2_with fail
  refine calls_name fun W hW => ?_
  have X3 := hide (Box.new' (g := w1.heap.size) hW rfl)
  have b : Below w1.heap.size w1 W := by rw [hW]; exact (Below.refl _ _).alloc (Nat.le_refl _) _
  replace PR := hide (PR.out.below b)
  replace BW := hide (bthen BW.out b)
  have zX3 := X3.out.lt
  clear b hW
  refine (implTripCalls_at P p t C HC.out _ PR.out.rds (by omega)).mono ?_
  rintro e w2 ⟨Q0, Q1, Q2, q0, q1, q2, rfl, Q, b⟩
  replace Q := hide Q
  replace X3 := hide (X3.out.below b)
  replace PR := hide (PR.out.below b)
  replace BW := hide (bthen BW.out b)
  clear b
  go_upto_region 5 with fail
  refine code_name fun W3 hW => ?_
  have X4 := hide (Box.new' (g := w2.heap.size) hW rfl)
  have b : Below w2.heap.size w2 W3 := by rw [hW]; exact (Below.refl _ _).alloc (Nat.le_refl _) _
  replace X3 := hide (X3.out.below b)
  replace PR := hide (PR.out.below b)
  replace Q := hide (Q.out.below b)
  replace BW := hide (bthen BW.out b)
  clear b
  clear hW
  have X3_lt := X3.out.lt
  have X3_c0 := X3.out.at (i := 0) rfl; have X3_f0 := X3.out.frozen 0
  have X3_c1 := X3.out.at (i := 1) rfl; have X3_f1 := X3.out.frozen 1
  have X3_c2 := X3.out.at (i := 2) rfl; have X3_f2 := X3.out.frozen 2
  have X3_c3 := X3.out.at (i := 3) rfl; have X3_f3 := X3.out.frozen 3
  have X3_c4 := X3.out.at (i := 4) rfl; have X3_f4 := X3.out.frozen 4
  have X4_lt := X4.out.lt
  have X4_c0 := X4.out.at (i := 0) rfl; have X4_f0 := X4.out.frozen 0
  have X4_c1 := X4.out.at (i := 1) rfl; have X4_f1 := X4.out.frozen 1
  have X4_c2 := X4.out.at (i := 2) rfl; have X4_f2 := X4.out.frozen 2
  have KS : Hid (∀ W', Below W3.heap.size W3 W' → (W'.cell? ⟨w1.heap.size, 0, none⟩ = some (.int .i64 t.n) ∧ W'.cell? ⟨w1.heap.size, 1, none⟩ = some (.int .i64 t.room) ∧ W'.cell? ⟨w1.heap.size, 2, none⟩ = some (.int .i64 t.f) ∧ W'.cell? ⟨w1.heap.size, 3, none⟩ = some (.int .i64 t.d) ∧ W'.cell? ⟨w1.heap.size, 4, none⟩ = some (.slice P t.rs.length p)) ∧ (W'.cell? ⟨w2.heap.size, 0, none⟩ = some (.slice Q0 C.up.length q0) ∧ W'.cell? ⟨w2.heap.size, 1, none⟩ = some (.slice Q1 C.dn.length q1) ∧ W'.cell? ⟨w2.heap.size, 2, none⟩ = some (.slice Q2 C.car.length q2))) := fun W' bb => ⟨⟨(X3.out.below bb).at rfl, (X3.out.below bb).at rfl, (X3.out.below bb).at rfl, (X3.out.below bb).at rfl, (X3.out.below bb).at rfl⟩, ⟨(X4.out.below bb).at rfl, (X4.out.below bb).at rfl, (X4.out.below bb).at rfl⟩⟩
  have KK : Hid (Below W3.heap.size W3 W3.drew) := (Below.refl _ _).drew
  first | (go_region_held3 (fun W => (W.cell? ⟨w1.heap.size, 0, none⟩ = some (.int .i64 t.n) ∧ W.cell? ⟨w1.heap.size, 1, none⟩ = some (.int .i64 t.room) ∧ W.cell? ⟨w1.heap.size, 2, none⟩ = some (.int .i64 t.f) ∧ W.cell? ⟨w1.heap.size, 3, none⟩ = some (.int .i64 t.d) ∧ W.cell? ⟨w1.heap.size, 4, none⟩ = some (.slice P t.rs.length p)) ∧ (W.cell? ⟨w2.heap.size, 0, none⟩ = some (.slice Q0 C.up.length q0) ∧ W.cell? ⟨w2.heap.size, 1, none⟩ = some (.slice Q1 C.dn.length q1) ∧ W.cell? ⟨w2.heap.size, 2, none⟩ = some (.slice Q2 C.car.length q2))) (first | (go_keep; done) | exact KS.out _ KK.out) (first | (go_at_call 30; (with_reducible refine (specTripCalls_at P p t C HC.out _ ?_ (by omega)).mono ?_); exact PR.out.rds.below KK.out; rintro e v ⟨R0, R1, R2, r0, r1, r2, rfl, R, bb⟩; replace R := hide R; replace KK := hide (bthen KK.out bb); have zKK := KK.out.size; clear bb) | (go_at_call 35; (with_reducible refine (sameCalls_at Q0 Q1 Q2 q0 q1 q2 R0 R1 R2 r0 r1 r2 C C _ true qd ?_ ?_ (by omega)).mono ?_); exact Q.out.cr.below KK.out; exact R.out.cr; rintro e v ⟨rfl, bb⟩; (first | replace R := hide (R.out.below bb) | skip); replace KK := hide (bthen KK.out bb); have zKK := KK.out.size; clear bb))) | fail
  rename ((v.cell? ⟨w1.heap.size, 0, none⟩ = some (.int .i64 t.n) ∧ v.cell? ⟨w1.heap.size, 1, none⟩ = some (.int .i64 t.room) ∧ v.cell? ⟨w1.heap.size, 2, none⟩ = some (.int .i64 t.f) ∧ v.cell? ⟨w1.heap.size, 3, none⟩ = some (.int .i64 t.d) ∧ v.cell? ⟨w1.heap.size, 4, none⟩ = some (.slice P t.rs.length p)) ∧ (v.cell? ⟨w2.heap.size, 0, none⟩ = some (.slice Q0 C.up.length q0) ∧ v.cell? ⟨w2.heap.size, 1, none⟩ = some (.slice Q1 C.dn.length q1) ∧ v.cell? ⟨w2.heap.size, 2, none⟩ = some (.slice Q2 C.car.length q2))) => hHeldX
  clear KS hHeldX
  clear X3_lt X3_c0 X3_f0 X3_c1 X3_f1 X3_c2 X3_f2 X3_c3 X3_f3 X3_c4 X3_f4
  clear X4_lt X4_c0 X4_f0 X4_c1 X4_f1 X4_c2 X4_f2
  clear R
  replace PR := hide (PR.out.below KK.out)
  replace X3 := hide (X3.out.below KK.out)
  replace Q := hide (Q.out.below KK.out)
  replace X4 := hide (X4.out.below KK.out)
  replace BW := hide (bthen BW.out KK.out)
  clear KK
  have X3_lt := X3.out.lt
  have X3_c0 := X3.out.at (i := 0) rfl; have X3_f0 := X3.out.frozen 0
  have X3_c1 := X3.out.at (i := 1) rfl; have X3_f1 := X3.out.frozen 1
  have X3_c2 := X3.out.at (i := 2) rfl; have X3_f2 := X3.out.frozen 2
  have X3_c3 := X3.out.at (i := 3) rfl; have X3_f3 := X3.out.frozen 3
  have X3_c4 := X3.out.at (i := 4) rfl; have X3_f4 := X3.out.frozen 4
  go_wp2_with fail
  clear X3_lt X3_c0 X3_f0 X3_c1 X3_f1 X3_c2 X3_f2 X3_c3 X3_f3 X3_c4 X3_f4
  refine (specTripValid P p t _ PR.out.rds (by omega)).mono ?_
  rintro e w5 ⟨rfl, b⟩
  replace X3 := hide (X3.out.below b)
  replace X4 := hide (X4.out.below b)
  replace PR := hide (PR.out.below b)
  replace Q := hide (Q.out.below b)
  replace BW := hide (bthen BW.out b)
  clear b
  cases hv : tripB t
  · have hz0 : C.car.length = 0 := by rw [HC.out.trans (tripCB_no hv)]; rfl
    have hz : ((C.car.length : Int) == 0) = true := by rw [hz0]; rfl
    clear hv hz0
    have X4_lt := X4.out.lt
    have X4_c2 := X4.out.at (i := 2) rfl; have X4_f2 := X4.out.frozen 2
    go_wp2_with fail
    refine (alive_any _).mono ?_
    rintro e w9 ⟨rfl, b9⟩
    have B9 := hide b9
    clear b9
    go_wp2_with fail
    go_ret
    exact ⟨rfl, bthen BW.out B9.out⟩
  · have hp := tripB_iff.1 hv
    have he : C = tripC t := HC.out.trans (tripCB_yes hv)
    obtain ⟨l1, l2, l3⟩ := tripC_len hp
    rw [← he] at l1 l2 l3
    have hu : C.up.length = C.car.length := by omega
    have hdn : C.dn.length = C.car.length := by omega
    have HV1 : Hid (callsB C = true) := by rw [he]; exact callsB_iff.2 (tripC_valid hp)
    obtain ⟨m, hm⟩ : ∃ m, m = manyC C := ⟨_, rfl⟩
    have HM : Hid (manyB C = m) := by rw [hm]; exact manyB_yes HV1.out
    have hi := calls_iff hp
    rw [← he, ← hm] at hi
    obtain ⟨z2, hz2⟩ : ∃ z, z = inN 2 t.rs := ⟨_, rfl⟩
    obtain ⟨z1, hz1⟩ : ∃ z, z = inN 1 t.rs := ⟨_, rfl⟩
    have y1 := inN_bd 1 t.rs
    rw [← hz2] at hi
    rw [← hz1] at y1
    have HZ1 := hide hz1; have HZ2 := hide hz2; have HI := hide hi
    have HF : Hid (z1 = t.room → ∀ (k : Nat) (x : Bool), (C.up[k]? = some x → x = false) ∧ (C.dn[k]? = some x → x = false)) := by
      intro hz k x; rw [he]; exact full_none hp (by rw [← hz1]; exact hz)
    have HL := hide (And.intro hu hdn)
    clear hp he l1 l2 l3 hu hdn hm hi hz1 hz2 hv
    by_cases hf : z1 = t.room
    · have hfb : (z1 == t.room) = true := by simpa using hf
      have HF2 := hide (HF.out hf)
      clear hf
      go_upto_region 9 with fail
      have X3_lt := X3.out.lt
      have X3_c0 := X3.out.at (i := 0) rfl; have X3_f0 := X3.out.frozen 0
      have X3_c1 := X3.out.at (i := 1) rfl; have X3_f1 := X3.out.frozen 1
      have X3_c2 := X3.out.at (i := 2) rfl; have X3_f2 := X3.out.frozen 2
      have X3_c3 := X3.out.at (i := 3) rfl; have X3_f3 := X3.out.frozen 3
      have X3_c4 := X3.out.at (i := 4) rfl; have X3_f4 := X3.out.frozen 4
      have KS : Hid (∀ W', Below w5.heap.size w5 W' → (W'.cell? ⟨w1.heap.size, 0, none⟩ = some (.int .i64 t.n) ∧ W'.cell? ⟨w1.heap.size, 1, none⟩ = some (.int .i64 t.room) ∧ W'.cell? ⟨w1.heap.size, 2, none⟩ = some (.int .i64 t.f) ∧ W'.cell? ⟨w1.heap.size, 3, none⟩ = some (.int .i64 t.d) ∧ W'.cell? ⟨w1.heap.size, 4, none⟩ = some (.slice P t.rs.length p))) := fun W' bb => ⟨(X3.out.below bb).at rfl, (X3.out.below bb).at rfl, (X3.out.below bb).at rfl, (X3.out.below bb).at rfl, (X3.out.below bb).at rfl⟩
      have KK : Hid (Below w5.heap.size w5 w5.drew) := (Below.refl _ _).drew
      first | (go_region_held3 (fun W => (W.cell? ⟨w1.heap.size, 0, none⟩ = some (.int .i64 t.n) ∧ W.cell? ⟨w1.heap.size, 1, none⟩ = some (.int .i64 t.room) ∧ W.cell? ⟨w1.heap.size, 2, none⟩ = some (.int .i64 t.f) ∧ W.cell? ⟨w1.heap.size, 3, none⟩ = some (.int .i64 t.d) ∧ W.cell? ⟨w1.heap.size, 4, none⟩ = some (.slice P t.rs.length p))) (first | (go_keep; done) | exact KS.out _ KK.out) (first | (go_at_call 21; (with_reducible refine (inState_any P p t 1 _ ?_ (by omega)).mono ?_); exact PR.out.rds.below KK.out; rw [← HZ1.out]; rintro e v ⟨rfl, bb⟩; replace KK := hide (bthen KK.out bb); have zKK := KK.out.size; clear bb))) | fail
      rename ((v.cell? ⟨w1.heap.size, 0, none⟩ = some (.int .i64 t.n) ∧ v.cell? ⟨w1.heap.size, 1, none⟩ = some (.int .i64 t.room) ∧ v.cell? ⟨w1.heap.size, 2, none⟩ = some (.int .i64 t.f) ∧ v.cell? ⟨w1.heap.size, 3, none⟩ = some (.int .i64 t.d) ∧ v.cell? ⟨w1.heap.size, 4, none⟩ = some (.slice P t.rs.length p))) => hHeldX
      clear KS hHeldX
      clear X3_lt X3_c0 X3_f0 X3_c1 X3_f1 X3_c2 X3_f2 X3_c3 X3_f3 X3_c4 X3_f4
      replace PR := hide (PR.out.below KK.out)
      replace X3 := hide (X3.out.below KK.out)
      replace Q := hide (Q.out.below KK.out)
      replace X4 := hide (X4.out.below KK.out)
      replace BW := hide (bthen BW.out KK.out)
      clear KK
      have X4_lt := X4.out.lt
      have X4_c0 := X4.out.at (i := 0) rfl; have X4_f0 := X4.out.frozen 0
      have X4_c1 := X4.out.at (i := 1) rfl; have X4_f1 := X4.out.frozen 1
      have X4_c2 := X4.out.at (i := 2) rfl; have X4_f2 := X4.out.frozen 2
      go_wp2_with fail
      go_loop [6] (fun i => ∃ k : Nat, k ≤ C.car.length ∧ i = .int .i64 k) (fun i => C.car.length - (intOf i).toNat)
      case atStart => exact ⟨0, by omega, rfl⟩
      case round =>
        obtain ⟨k, hk, rfl⟩ := hrel
        by_cases hlt : k < C.car.length
        · obtain ⟨b0, o0, x0, rfl, g0, y0, k0⟩ := Q.out.cr.up.at (k := k) (by have := HL.out; omega)
          obtain ⟨b1, o1, x1, rfl, g1, y1', k1⟩ := Q.out.cr.dn.at (k := k) (by have := HL.out; omega)
          obtain rfl := (HF2.out k x0).1 y0.out
          obtain rfl := (HF2.out k x1).2 y1'.out
          have q0' : (k : Int) < (C.up.length : Int) := by have := HL.out; omega
          have q1' : (k : Int) < (C.dn.length : Int) := by have := HL.out; omega
          clear y0 y1'
          go_wp2_with fail
          go_round
          case rel => exact ⟨k + 1, by omega, by go_num⟩
          case measure => simp [intOf]; omega
        · have qq2 : (decide (0 < m) == decide (z2 < (t.rs.length : Int))) = true := by rw [HI.out]; simp
          go_upto_region 15 with fail
          have X3_lt := X3.out.lt
          have X3_c0 := X3.out.at (i := 0) rfl; have X3_f0 := X3.out.frozen 0
          have X3_c1 := X3.out.at (i := 1) rfl; have X3_f1 := X3.out.frozen 1
          have X3_c2 := X3.out.at (i := 2) rfl; have X3_f2 := X3.out.frozen 2
          have X3_c3 := X3.out.at (i := 3) rfl; have X3_f3 := X3.out.frozen 3
          have X3_c4 := X3.out.at (i := 4) rfl; have X3_f4 := X3.out.frozen 4
          have KS : Hid (∀ W', Below v.heap.size v W' → (W'.cell? ⟨w1.heap.size, 0, none⟩ = some (.int .i64 t.n) ∧ W'.cell? ⟨w1.heap.size, 1, none⟩ = some (.int .i64 t.room) ∧ W'.cell? ⟨w1.heap.size, 2, none⟩ = some (.int .i64 t.f) ∧ W'.cell? ⟨w1.heap.size, 3, none⟩ = some (.int .i64 t.d) ∧ W'.cell? ⟨w1.heap.size, 4, none⟩ = some (.slice P t.rs.length p)) ∧ (W'.cell? ⟨w2.heap.size, 0, none⟩ = some (.slice Q0 C.up.length q0) ∧ W'.cell? ⟨w2.heap.size, 1, none⟩ = some (.slice Q1 C.dn.length q1) ∧ W'.cell? ⟨w2.heap.size, 2, none⟩ = some (.slice Q2 C.car.length q2))) := fun W' bb => ⟨⟨(X3.out.below bb).at rfl, (X3.out.below bb).at rfl, (X3.out.below bb).at rfl, (X3.out.below bb).at rfl, (X3.out.below bb).at rfl⟩, ⟨(X4.out.below bb).at rfl, (X4.out.below bb).at rfl, (X4.out.below bb).at rfl⟩⟩
          have KK : Hid (Below v.heap.size v v.drew) := (Below.refl _ _).drew
          first | (go_region_held3 (fun W => (W.cell? ⟨w1.heap.size, 0, none⟩ = some (.int .i64 t.n) ∧ W.cell? ⟨w1.heap.size, 1, none⟩ = some (.int .i64 t.room) ∧ W.cell? ⟨w1.heap.size, 2, none⟩ = some (.int .i64 t.f) ∧ W.cell? ⟨w1.heap.size, 3, none⟩ = some (.int .i64 t.d) ∧ W.cell? ⟨w1.heap.size, 4, none⟩ = some (.slice P t.rs.length p)) ∧ (W.cell? ⟨w2.heap.size, 0, none⟩ = some (.slice Q0 C.up.length q0) ∧ W.cell? ⟨w2.heap.size, 1, none⟩ = some (.slice Q1 C.dn.length q1) ∧ W.cell? ⟨w2.heap.size, 2, none⟩ = some (.slice Q2 C.car.length q2))) (first | (go_keep; done) | exact KS.out _ KK.out) (first | (go_at_call 36; (with_reducible refine (implCallsValid Q0 Q1 Q2 q0 q1 q2 C _ ?_).mono ?_); exact Q.out.cr.below KK.out; rw [HV1.out]; rintro e v ⟨rfl, bb⟩; replace KK := hide (bthen KK.out bb); have zKK := KK.out.size; clear bb) | (go_at_call 22; (with_reducible refine (implCallsMany Q0 Q1 Q2 q0 q1 q2 C _ ?_).mono ?_); exact Q.out.cr.below KK.out; rw [HM.out]; rintro e v ⟨rfl, bb⟩; replace KK := hide (bthen KK.out bb); have zKK := KK.out.size; clear bb) | (go_at_call 21; (with_reducible refine (inState_any P p t 2 _ ?_ (by omega)).mono ?_); exact PR.out.rds.below KK.out; rw [← HZ2.out]; rintro e v ⟨rfl, bb⟩; replace KK := hide (bthen KK.out bb); have zKK := KK.out.size; clear bb))) | fail
          rename ((v.cell? ⟨w1.heap.size, 0, none⟩ = some (.int .i64 t.n) ∧ v.cell? ⟨w1.heap.size, 1, none⟩ = some (.int .i64 t.room) ∧ v.cell? ⟨w1.heap.size, 2, none⟩ = some (.int .i64 t.f) ∧ v.cell? ⟨w1.heap.size, 3, none⟩ = some (.int .i64 t.d) ∧ v.cell? ⟨w1.heap.size, 4, none⟩ = some (.slice P t.rs.length p)) ∧ (v.cell? ⟨w2.heap.size, 0, none⟩ = some (.slice Q0 C.up.length q0) ∧ v.cell? ⟨w2.heap.size, 1, none⟩ = some (.slice Q1 C.dn.length q1) ∧ v.cell? ⟨w2.heap.size, 2, none⟩ = some (.slice Q2 C.car.length q2))) => hHeldX
          clear KS hHeldX
          go_wp2_with fail
          go_ret
          exact ⟨rfl, bthen BW.out KK.out⟩
    · have hfb : (z1 == t.room) = false := by simpa using hf
      clear hf
      go_upto_region 9 with fail
      have X3_lt := X3.out.lt
      have X3_c0 := X3.out.at (i := 0) rfl; have X3_f0 := X3.out.frozen 0
      have X3_c1 := X3.out.at (i := 1) rfl; have X3_f1 := X3.out.frozen 1
      have X3_c2 := X3.out.at (i := 2) rfl; have X3_f2 := X3.out.frozen 2
      have X3_c3 := X3.out.at (i := 3) rfl; have X3_f3 := X3.out.frozen 3
      have X3_c4 := X3.out.at (i := 4) rfl; have X3_f4 := X3.out.frozen 4
      have KS : Hid (∀ W', Below w5.heap.size w5 W' → (W'.cell? ⟨w1.heap.size, 0, none⟩ = some (.int .i64 t.n) ∧ W'.cell? ⟨w1.heap.size, 1, none⟩ = some (.int .i64 t.room) ∧ W'.cell? ⟨w1.heap.size, 2, none⟩ = some (.int .i64 t.f) ∧ W'.cell? ⟨w1.heap.size, 3, none⟩ = some (.int .i64 t.d) ∧ W'.cell? ⟨w1.heap.size, 4, none⟩ = some (.slice P t.rs.length p))) := fun W' bb => ⟨(X3.out.below bb).at rfl, (X3.out.below bb).at rfl, (X3.out.below bb).at rfl, (X3.out.below bb).at rfl, (X3.out.below bb).at rfl⟩
      have KK : Hid (Below w5.heap.size w5 w5.drew) := (Below.refl _ _).drew
      first | (go_region_held3 (fun W => (W.cell? ⟨w1.heap.size, 0, none⟩ = some (.int .i64 t.n) ∧ W.cell? ⟨w1.heap.size, 1, none⟩ = some (.int .i64 t.room) ∧ W.cell? ⟨w1.heap.size, 2, none⟩ = some (.int .i64 t.f) ∧ W.cell? ⟨w1.heap.size, 3, none⟩ = some (.int .i64 t.d) ∧ W.cell? ⟨w1.heap.size, 4, none⟩ = some (.slice P t.rs.length p))) (first | (go_keep; done) | exact KS.out _ KK.out) (first | (go_at_call 21; (with_reducible refine (inState_any P p t 1 _ ?_ (by omega)).mono ?_); exact PR.out.rds.below KK.out; rw [← HZ1.out]; rintro e v ⟨rfl, bb⟩; replace KK := hide (bthen KK.out bb); have zKK := KK.out.size; clear bb))) | fail
      rename ((v.cell? ⟨w1.heap.size, 0, none⟩ = some (.int .i64 t.n) ∧ v.cell? ⟨w1.heap.size, 1, none⟩ = some (.int .i64 t.room) ∧ v.cell? ⟨w1.heap.size, 2, none⟩ = some (.int .i64 t.f) ∧ v.cell? ⟨w1.heap.size, 3, none⟩ = some (.int .i64 t.d) ∧ v.cell? ⟨w1.heap.size, 4, none⟩ = some (.slice P t.rs.length p))) => hHeldX
      clear KS hHeldX
      clear X3_lt X3_c0 X3_f0 X3_c1 X3_f1 X3_c2 X3_f2 X3_c3 X3_f3 X3_c4 X3_f4
      replace PR := hide (PR.out.below KK.out)
      replace X3 := hide (X3.out.below KK.out)
      replace Q := hide (Q.out.below KK.out)
      replace X4 := hide (X4.out.below KK.out)
      replace BW := hide (bthen BW.out KK.out)
      clear KK
      have X4_lt := X4.out.lt
      have X4_c0 := X4.out.at (i := 0) rfl; have X4_f0 := X4.out.frozen 0
      have X4_c1 := X4.out.at (i := 1) rfl; have X4_f1 := X4.out.frozen 1
      have X4_c2 := X4.out.at (i := 2) rfl; have X4_f2 := X4.out.frozen 2
      go_wp2_with fail
      go_loop [6] (fun i => ∃ k : Nat, k ≤ C.car.length ∧ i = .int .i64 k) (fun i => C.car.length - (intOf i).toNat)
      case atStart => exact ⟨0, by omega, rfl⟩
      case round =>
        obtain ⟨k, hk, rfl⟩ := hrel
        by_cases hlt : k < C.car.length
        · go_wp2_with fail
          go_round
          case rel => exact ⟨k + 1, by omega, by go_num⟩
          case measure => simp [intOf]; omega
        · have qq2 : (decide (0 < m) == decide (z2 < (t.rs.length : Int))) = true := by rw [HI.out]; simp
          go_upto_region 15 with fail
          have X3_lt := X3.out.lt
          have X3_c0 := X3.out.at (i := 0) rfl; have X3_f0 := X3.out.frozen 0
          have X3_c1 := X3.out.at (i := 1) rfl; have X3_f1 := X3.out.frozen 1
          have X3_c2 := X3.out.at (i := 2) rfl; have X3_f2 := X3.out.frozen 2
          have X3_c3 := X3.out.at (i := 3) rfl; have X3_f3 := X3.out.frozen 3
          have X3_c4 := X3.out.at (i := 4) rfl; have X3_f4 := X3.out.frozen 4
          have KS : Hid (∀ W', Below v.heap.size v W' → (W'.cell? ⟨w1.heap.size, 0, none⟩ = some (.int .i64 t.n) ∧ W'.cell? ⟨w1.heap.size, 1, none⟩ = some (.int .i64 t.room) ∧ W'.cell? ⟨w1.heap.size, 2, none⟩ = some (.int .i64 t.f) ∧ W'.cell? ⟨w1.heap.size, 3, none⟩ = some (.int .i64 t.d) ∧ W'.cell? ⟨w1.heap.size, 4, none⟩ = some (.slice P t.rs.length p)) ∧ (W'.cell? ⟨w2.heap.size, 0, none⟩ = some (.slice Q0 C.up.length q0) ∧ W'.cell? ⟨w2.heap.size, 1, none⟩ = some (.slice Q1 C.dn.length q1) ∧ W'.cell? ⟨w2.heap.size, 2, none⟩ = some (.slice Q2 C.car.length q2))) := fun W' bb => ⟨⟨(X3.out.below bb).at rfl, (X3.out.below bb).at rfl, (X3.out.below bb).at rfl, (X3.out.below bb).at rfl, (X3.out.below bb).at rfl⟩, ⟨(X4.out.below bb).at rfl, (X4.out.below bb).at rfl, (X4.out.below bb).at rfl⟩⟩
          have KK : Hid (Below v.heap.size v v.drew) := (Below.refl _ _).drew
          first | (go_region_held3 (fun W => (W.cell? ⟨w1.heap.size, 0, none⟩ = some (.int .i64 t.n) ∧ W.cell? ⟨w1.heap.size, 1, none⟩ = some (.int .i64 t.room) ∧ W.cell? ⟨w1.heap.size, 2, none⟩ = some (.int .i64 t.f) ∧ W.cell? ⟨w1.heap.size, 3, none⟩ = some (.int .i64 t.d) ∧ W.cell? ⟨w1.heap.size, 4, none⟩ = some (.slice P t.rs.length p)) ∧ (W.cell? ⟨w2.heap.size, 0, none⟩ = some (.slice Q0 C.up.length q0) ∧ W.cell? ⟨w2.heap.size, 1, none⟩ = some (.slice Q1 C.dn.length q1) ∧ W.cell? ⟨w2.heap.size, 2, none⟩ = some (.slice Q2 C.car.length q2))) (first | (go_keep; done) | exact KS.out _ KK.out) (first | (go_at_call 36; (with_reducible refine (implCallsValid Q0 Q1 Q2 q0 q1 q2 C _ ?_).mono ?_); exact Q.out.cr.below KK.out; rw [HV1.out]; rintro e v ⟨rfl, bb⟩; replace KK := hide (bthen KK.out bb); have zKK := KK.out.size; clear bb) | (go_at_call 22; (with_reducible refine (implCallsMany Q0 Q1 Q2 q0 q1 q2 C _ ?_).mono ?_); exact Q.out.cr.below KK.out; rw [HM.out]; rintro e v ⟨rfl, bb⟩; replace KK := hide (bthen KK.out bb); have zKK := KK.out.size; clear bb) | (go_at_call 21; (with_reducible refine (inState_any P p t 2 _ ?_ (by omega)).mono ?_); exact PR.out.rds.below KK.out; rw [← HZ2.out]; rintro e v ⟨rfl, bb⟩; replace KK := hide (bthen KK.out bb); have zKK := KK.out.size; clear bb))) | fail
          rename ((v.cell? ⟨w1.heap.size, 0, none⟩ = some (.int .i64 t.n) ∧ v.cell? ⟨w1.heap.size, 1, none⟩ = some (.int .i64 t.room) ∧ v.cell? ⟨w1.heap.size, 2, none⟩ = some (.int .i64 t.f) ∧ v.cell? ⟨w1.heap.size, 3, none⟩ = some (.int .i64 t.d) ∧ v.cell? ⟨w1.heap.size, 4, none⟩ = some (.slice P t.rs.length p)) ∧ (v.cell? ⟨w2.heap.size, 0, none⟩ = some (.slice Q0 C.up.length q0) ∧ v.cell? ⟨w2.heap.size, 1, none⟩ = some (.slice Q1 C.dn.length q1) ∧ v.cell? ⟨w2.heap.size, 2, none⟩ = some (.slice Q2 C.car.length q2))) => hHeldX
          clear KS hHeldX
          go_wp2_with fail
          go_ret
          exact ⟨rfl, bthen BW.out KK.out⟩
end Go.Proofs.Ytbkjgiomamlajaa
