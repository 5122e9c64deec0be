import Derived.Test.YtbkjgiomamlajaaFrameC
import Derived.Test.YtbkjgiomamlajaaDrawTrip
import Derived.Test.YtbkjgiomamlajaaRidE
import Derived.Test.YtbkjgiomamlajaaRidM
import Derived.Test.YtbkjgiomamlajaaTripLaw
import Derived.Test.YtbkjgiomamlajaaAlive
import Derived.Deep.RegionHeld3
import Derived.Deep.CutRange
namespace Go.Proofs.Ytbkjgiomamlajaa
open Go.RowKit
attribute [local go_sem ↓] Go.wp_at_zero Go.wp_at_succ

set_option maxRecDepth 100000 in
set_option maxHeartbeats 4000000 in
theorem wTripStep (A : Option Addr) (c : Nat) (bs : List Int) (w : World) (h0 : InRow .u8 w A c bs) :
    Calls Try.prog 9 #[.slice A bs.length c] w fun e w' => e = .returned (.bool true) ∧ Below w.heap.size w w' := by
  have HB := hide h0.byte
  obtain ⟨h, hc, hc2, -⟩ := h0
  have H : Hid (Sl w A (bvs bs)) := h
  clear h
  by_cases hl : ¬ bs.length ≤ 1048576
  · go_enter Try.func9, Try.ntmps9
    go_wp2
    go_ret
    exact ⟨rfl, Below.refl _ _⟩
  have hl : bs.length ≤ 1048576 := by omega
  clear hc2
  go_enter Try.func9, Try.ntmps9
  go_wp2_with fail
  refine (drawTripStep_any A c bs _ H.out HB.out hl hc).mono ?_
  rintro e w1 ⟨P, p, t, rfl, PR, h9, b⟩
  have BW := hide b; replace PR := hide PR
  have zw1 := b.size
  have h9' : (t.rs.length : Int) ≤ 9 := by omega
  clear b h9
  obtain ⟨D, x, hs⟩ : ∃ D x, stepB t = (D, x) := ⟨_, _, rfl⟩
  have hlen := stepB_len t
  rw [hs] at hlen
  have d8 : (D.rs.length : Int) ≤ 8 := hlen
  have HS := hide hs
  clear hlen hs
  go_wp2_with fail
  refine calls_name fun W hW => ?_
  have X3 := hide (Box.new' (g := w1.heap.size) hW rfl)
  have b : Below w1.heap.size w1 W := by rw [hW]; exact (Below.refl _ _).alloc (Nat.le_refl _) _
  replace PR := hide (PR.out.below b)
  replace BW := hide (bthen BW.out b)
  have zX3 := X3.out.lt
  clear b hW
  refine (implTripStep_at P p t D x (by rw [HS.out]) (by rw [HS.out]) _ PR.out.rds (by omega)).mono ?_
  rintro e w2 ⟨Q, q, rfl, QR, b⟩
  replace QR := hide QR
  have z2 := b.size
  replace X3 := hide (X3.out.below b)
  replace PR := hide (PR.out.below b)
  replace BW := hide (bthen BW.out b)
  clear b
  have X3_lt := X3.out.lt
  have X3_c0 := X3.out.at (i := 0) rfl; have X3_f0 := X3.out.frozen 0
  have X3_c1 := X3.out.at (i := 1) rfl; have X3_f1 := X3.out.frozen 1
  have X3_c2 := X3.out.at (i := 2) rfl; have X3_f2 := X3.out.frozen 2
  have X3_c3 := X3.out.at (i := 3) rfl; have X3_f3 := X3.out.frozen 3
  have X3_c4 := X3.out.at (i := 4) rfl; have X3_f4 := X3.out.frozen 4
  go_wp2_with fail
  clear X3_lt X3_c0 X3_f0 X3_c1 X3_f1 X3_c2 X3_f2 X3_c3 X3_f3 X3_c4 X3_f4
  refine calls_name fun W3 hW => ?_
  have X4 := hide (Box.new' (g := w2.heap.size) hW rfl)
  have b : Below w2.heap.size w2 W3 := by rw [hW]; exact (Below.refl _ _).alloc (Nat.le_refl _) _
  replace X3 := hide (X3.out.below b)
  replace PR := hide (PR.out.below b)
  replace QR := hide (QR.out.below b)
  replace BW := hide (bthen BW.out b)
  clear b
  clear hW
  refine (specTripStep_at P p t D x (by rw [HS.out]) (by rw [HS.out]) _ PR.out.rds (by omega)).mono ?_
  rintro e w3 ⟨U, u, rfl, UR, b⟩
  replace UR := hide UR
  replace X3 := hide (X3.out.below b)
  replace X4 := hide (X4.out.below b)
  replace PR := hide (PR.out.below b)
  replace QR := hide (QR.out.below b)
  replace BW := hide (bthen BW.out b)
  clear b
  have e0 : (x != x) = false := by simp
  have X4_lt := X4.out.lt
  have X4_c0 := X4.out.at (i := 0) rfl; have X4_f0 := X4.out.frozen 0
  have X4_c1 := X4.out.at (i := 1) rfl; have X4_f1 := X4.out.frozen 1
  have X4_c2 := X4.out.at (i := 2) rfl; have X4_f2 := X4.out.frozen 2
  have X4_c3 := X4.out.at (i := 3) rfl; have X4_f3 := X4.out.frozen 3
  have X4_c4 := X4.out.at (i := 4) rfl; have X4_f4 := X4.out.frozen 4
  go_wp2_with fail
  clear X4_lt X4_c0 X4_f0 X4_c1 X4_f1 X4_c2 X4_f2 X4_c3 X4_f3 X4_c4 X4_f4
  refine calls_name fun W4 hW => ?_
  have X5 := hide (Box.new' (g := w3.heap.size) hW rfl)
  have b : Below w3.heap.size w3 W4 := by rw [hW]; exact (Below.refl _ _).alloc (Nat.le_refl _) _
  replace X3 := hide (X3.out.below b)
  replace X4 := hide (X4.out.below b)
  replace PR := hide (PR.out.below b)
  replace QR := hide (QR.out.below b)
  replace UR := hide (UR.out.below b)
  replace BW := hide (bthen BW.out b)
  clear b
  clear hW
  refine (sameTrip_self Q U q u D _ QR.out.rds UR.out.rds (by omega)).mono ?_
  rintro e w4 ⟨rfl, b⟩
  replace X3 := hide (X3.out.below b)
  replace X4 := hide (X4.out.below b)
  replace X5 := hide (X5.out.below b)
  replace PR := hide (PR.out.below b)
  replace QR := hide (QR.out.below b)
  replace UR := hide (UR.out.below b)
  replace BW := hide (bthen BW.out b)
  clear b
  clear X5 UR
  cases x
  · cases hv : tripB t
    · have he : D = ⟨0, 0, 0, 0, []⟩ := by have := HS.out; rw [stepB_no hv] at this; injection this with this; exact this.symm
      have HV := hide hv
      have H0 : Hid (D.rs = []) := by unfold Hid; rw [he]
      clear he hv
      have X3_lt := X3.out.lt
      have X3_c0 := X3.out.at (i := 0) rfl; have X3_f0 := X3.out.frozen 0
      have X3_c1 := X3.out.at (i := 1) rfl; have X3_f1 := X3.out.frozen 1
      have X3_c2 := X3.out.at (i := 2) rfl; have X3_f2 := X3.out.frozen 2
      have X3_c3 := X3.out.at (i := 3) rfl; have X3_f3 := X3.out.frozen 3
      have X3_c4 := X3.out.at (i := 4) rfl; have X3_f4 := X3.out.frozen 4
      have X4_lt := X4.out.lt
      have X4_c0 := X4.out.at (i := 0) rfl; have X4_f0 := X4.out.frozen 0
      have X4_c1 := X4.out.at (i := 1) rfl; have X4_f1 := X4.out.frozen 1
      have X4_c2 := X4.out.at (i := 2) rfl; have X4_f2 := X4.out.frozen 2
      have X4_c3 := X4.out.at (i := 3) rfl; have X4_f3 := X4.out.frozen 3
      have X4_c4 := X4.out.at (i := 4) rfl; have X4_f4 := X4.out.frozen 4
      go_wp2_with fail
      clear X4_lt X4_c0 X4_f0 X4_c1 X4_f1 X4_c2 X4_f2 X4_c3 X4_f3 X4_c4 X4_f4
      clear X3_lt X3_c0 X3_f0 X3_c1 X3_f1 X3_c2 X3_f2 X3_c3 X3_f3 X3_c4 X3_f4
      refine (sameTrip_nil Q P q p D t _ H0.out (by omega)).mono ?_
      rintro e w5 ⟨y, rfl, b⟩
      replace X3 := hide (X3.out.below b)
      replace X4 := hide (X4.out.below b)
      replace PR := hide (PR.out.below b)
      replace QR := hide (QR.out.below b)
      replace BW := hide (bthen BW.out b)
      clear b
      cases y
      · have X3_lt := X3.out.lt
        have X3_c0 := X3.out.at (i := 0) rfl; have X3_f0 := X3.out.frozen 0
        have X3_c1 := X3.out.at (i := 1) rfl; have X3_f1 := X3.out.frozen 1
        have X3_c2 := X3.out.at (i := 2) rfl; have X3_f2 := X3.out.frozen 2
        have X3_c3 := X3.out.at (i := 3) rfl; have X3_f3 := X3.out.frozen 3
        have X3_c4 := X3.out.at (i := 4) rfl; have X3_f4 := X3.out.frozen 4
        go_wp2_with fail
        clear X3_lt X3_c0 X3_f0 X3_c1 X3_f1 X3_c2 X3_f2 X3_c3 X3_f3 X3_c4 X3_f4
        refine (implTripValid P p t _ PR.out.rds (by omega)).mono ?_
        rw [HV.out]
        rintro e w6 ⟨rfl, b⟩
        replace BW := hide (bthen BW.out b)
        clear b
        go_wp2_with fail
        refine (alive_any _).mono ?_
        rintro e w9 ⟨rfl, b9⟩
        have B9 := hide b9
        clear b9
        go_wp2_with fail
        go_ret
        exact ⟨rfl, bthen BW.out B9.out⟩
      · skip
        go_wp2_with fail
        refine (alive_any _).mono ?_
        rintro e w9 ⟨rfl, b9⟩
        have B9 := hide b9
        clear b9
        go_wp2_with fail
        go_ret
        exact ⟨rfl, bthen BW.out B9.out⟩
    · have hp := tripB_iff.1 hv
      have he : D = t := by
        have h1 := HS.out
        unfold stepB at h1; rw [hv] at h1
        cases h2 : stepO t with
        | none => rw [h2] at h1; simp at h1; exact h1.symm
        | some t' => rw [h2] at h1; simp at h1
      clear hp hv
      subst he
      have X3_lt := X3.out.lt
      have X3_c0 := X3.out.at (i := 0) rfl; have X3_f0 := X3.out.frozen 0
      have X3_c1 := X3.out.at (i := 1) rfl; have X3_f1 := X3.out.frozen 1
      have X3_c2 := X3.out.at (i := 2) rfl; have X3_f2 := X3.out.frozen 2
      have X3_c3 := X3.out.at (i := 3) rfl; have X3_f3 := X3.out.frozen 3
      have X3_c4 := X3.out.at (i := 4) rfl; have X3_f4 := X3.out.frozen 4
      have X4_lt := X4.out.lt
      have X4_c0 := X4.out.at (i := 0) rfl; have X4_f0 := X4.out.frozen 0
      have X4_c1 := X4.out.at (i := 1) rfl; have X4_f1 := X4.out.frozen 1
      have X4_c2 := X4.out.at (i := 2) rfl; have X4_f2 := X4.out.frozen 2
      have X4_c3 := X4.out.at (i := 3) rfl; have X4_f3 := X4.out.frozen 3
      have X4_c4 := X4.out.at (i := 4) rfl; have X4_f4 := X4.out.frozen 4
      go_wp2_with fail
      clear X4_lt X4_c0 X4_f0 X4_c1 X4_f1 X4_c2 X4_f2 X4_c3 X4_f3 X4_c4 X4_f4
      clear X3_lt X3_c0 X3_f0 X3_c1 X3_f1 X3_c2 X3_f2 X3_c3 X3_f3 X3_c4 X3_f4
      refine (sameTrip_self Q P q p D _ QR.out.rds PR.out.rds (by omega)).mono ?_
      rintro e w5 ⟨rfl, b⟩
      replace X3 := hide (X3.out.below b)
      replace X4 := hide (X4.out.below b)
      replace PR := hide (PR.out.below b)
      replace QR := hide (QR.out.below b)
      replace BW := hide (bthen BW.out b)
      clear b
      go_wp2_with fail
      refine (alive_any _).mono ?_
      rintro e w9 ⟨rfl, b9⟩
      have B9 := hide b9
      clear b9
      go_wp2_with fail
      go_ret
      exact ⟨rfl, bthen BW.out B9.out⟩
  · have hv : tripB t = true := by
      cases h1 : tripB t with
      | true => rfl
      | false => have h2 := HS.out; rw [stepB_no h1] at h2; simp at h2
    have hp := tripB_iff.1 hv
    obtain ⟨g, e, hn⟩ : ∃ g e, nextO (tripC t) t.f t.d = some (g, e) := by
      cases hn : nextO (tripC t) t.f t.d with
      | none => have h2 := HS.out; rw [stepB_none hv hn] at h2; simp at h2
      | some r => exact ⟨r.1, r.2, rfl⟩
    have he : D = stepTo t g e := by have h2 := HS.out; rw [stepB_some hv hn] at h2; injection h2 with h2; exact h2.symm
    have HV1 : Hid (tripB D = true) := by rw [he]; exact tripB_iff.2 (step_valid hp hn)
    have HMV : Hid (mvTo t.rs D.rs t.rs.length = true) := by rw [he]; exact step_mv hp hn
    have HFI : Hid (∀ (k : Nat) (a : Rr), t.rs[k]? = some a → ∃ b, D.rs[k]? = some b ∧ fineR t.f D.f a b) := by rw [he]; exact fun k a ha => step_fine hp hn ha
    obtain ⟨z1, hz1⟩ : ∃ z, z = inN 1 D.rs := ⟨_, rfl⟩
    have hroom : z1 ≤ D.room := by rw [hz1]; exact (tripB_iff.1 HV1.out).2.2.2.2.2.2
    have HZ1 := hide hz1
    have HRM := hide (decide_eq_true hroom)
    have HDL : Hid (D.rs.length = t.rs.length) := by unfold Hid; rw [he]; unfold stepTo; simp only [board_len, List.length_map]
    clear hv hp hn he hz1 hroom HS
    go_wp2_with fail
    have zX3 := X3.out.lt; have zX4 := X4.out.lt
    go_loopw [8, 9] (fun mv i wr => ∃ k : Nat, k ≤ t.rs.length ∧ i = .int .i64 (k : Int) ∧ mv = .bool (mvTo t.rs D.rs k) ∧ Hid (Below w4.heap.size w4 wr)) (fun _ i _ => t.rs.length - (intOf i).toNat)
    case atStart => exact ⟨0, Nat.zero_le _, rfl, by rw [mv_zero], Below.refl _ _⟩
    case round =>
      obtain ⟨k, hk, rfl, rfl, hB⟩ := hrel
      have zB := hB.out.size
      have Y3 := hide (X3.out.below hB.out); have Y4 := hide (X4.out.below hB.out)
      by_cases hlt : k < t.rs.length
      · obtain ⟨b1, o1, ra, rfl, hb1, hra, c0, c1, c2⟩ := (PR.out.rds.below hB.out).at hlt
        obtain ⟨b2, o2, rb, rfl, hb2, hrb, d0, d1, d2⟩ := (QR.out.rds.below hB.out).at (k := k) (by have := HDL.out; omega)
        have hfi : fineR t.f D.f ra rb := by
          obtain ⟨b', hb', hf⟩ := HFI.out k ra hra.out
          rw [hrb.out] at hb'; injection hb' with hb'; subst hb'; exact hf
        have HST := hide (mv_step hra.out hrb.out)
        obtain ⟨m, hm⟩ : ∃ m, m = mvTo t.rs D.rs k := ⟨_, rfl⟩
        rw [← hm] at HST ⊢
        clear hra hrb hm
        obtain ⟨a0, a1, a2⟩ := ra
        obtain ⟨r0, r1, r2⟩ := rb
        obtain ⟨f1, f2, f3, ⟨f4, f5, f6⟩, f7⟩ := hfi
        simp only at f1 f2 f3 f4 f7
        subst f2; subst f3
        have q0 : (k : Int) < (D.rs.length : Int) := by have := HDL.out; omega
        have q1 : (r0 != r0) = false := by simp
        have q2 : (r1 != r1) = false := by simp
        have p0 : IntKind.i64.wrap (r1 - t.f) = r1 - t.f := IntWalk.i64_in _ (by omega)
        have p1 : IntKind.i64.wrap (t.f - r1) = t.f - r1 := IntWalk.i64_in _ (by omega)
        have p2 : IntKind.i64.wrap (r1 - D.f) = r1 - D.f := IntWalk.i64_in _ (by omega)
        have p3 : IntKind.i64.wrap (D.f - r1) = D.f - r1 := IntWalk.i64_in _ (by omega)
        have q3 : decide (r2 < a2) = false := decide_eq_false f1
        clear f1
        dsimp only at c0 c1 c2 d0 d1 d2 HST
        have r0' : (0 : Int) ≤ (k : Int) := by omega
        have r1' : (k : Int) < (t.rs.length : Int) := by omega
        clear X3 X4
        have hm : m = true ∨ (m = false ∧ (a2 != r2) = false) ∨ (m = false ∧ (a2 != r2) = true) := by cases m <;> cases a2 != r2 <;> simp
        have h1 : a2 = 1 ∨ (a2 == 1) = false := by by_cases h : a2 = 1 <;> simp [h]
        rcases hm with rfl | ⟨rfl, h2⟩ | ⟨rfl, h2⟩
        all_goals
          rcases h1 with rfl | h1
          · have F7 := hide (f7 rfl)
            clear f7
            have Y3_lt := Y3.out.lt
            have Y3_c0 := Y3.out.at (i := 0) rfl; have Y3_f0 := Y3.out.frozen 0
            have Y3_c1 := Y3.out.at (i := 1) rfl; have Y3_f1 := Y3.out.frozen 1
            have Y3_c2 := Y3.out.at (i := 2) rfl; have Y3_f2 := Y3.out.frozen 2
            have Y3_c3 := Y3.out.at (i := 3) rfl; have Y3_f3 := Y3.out.frozen 3
            have Y3_c4 := Y3.out.at (i := 4) rfl; have Y3_f4 := Y3.out.frozen 4
            have Y4_lt := Y4.out.lt
            have Y4_c0 := Y4.out.at (i := 0) rfl; have Y4_f0 := Y4.out.frozen 0
            have Y4_c1 := Y4.out.at (i := 1) rfl; have Y4_f1 := Y4.out.frozen 1
            have Y4_c2 := Y4.out.at (i := 2) rfl; have Y4_f2 := Y4.out.frozen 2
            have Y4_c3 := Y4.out.at (i := 3) rfl; have Y4_f3 := Y4.out.frozen 3
            have Y4_c4 := Y4.out.at (i := 4) rfl; have Y4_f4 := Y4.out.frozen 4
            go_wp2_with fail
            all_goals (try (exfalso; have f8 := F7.out; omega))
            all_goals
              go_roundw
              case rel => exact ⟨k + 1, by omega, by go_num, by rw [HST.out]; simp [*], (hB.out.alloc (by omega) _).alloc (by simp; omega) _⟩
              case measure => simp [intOf]; omega
          · clear f7
            have Y3_lt := Y3.out.lt
            have Y3_c0 := Y3.out.at (i := 0) rfl; have Y3_f0 := Y3.out.frozen 0
            have Y3_c1 := Y3.out.at (i := 1) rfl; have Y3_f1 := Y3.out.frozen 1
            have Y3_c2 := Y3.out.at (i := 2) rfl; have Y3_f2 := Y3.out.frozen 2
            have Y3_c3 := Y3.out.at (i := 3) rfl; have Y3_f3 := Y3.out.frozen 3
            have Y3_c4 := Y3.out.at (i := 4) rfl; have Y3_f4 := Y3.out.frozen 4
            have Y4_lt := Y4.out.lt
            have Y4_c0 := Y4.out.at (i := 0) rfl; have Y4_f0 := Y4.out.frozen 0
            have Y4_c1 := Y4.out.at (i := 1) rfl; have Y4_f1 := Y4.out.frozen 1
            have Y4_c2 := Y4.out.at (i := 2) rfl; have Y4_f2 := Y4.out.frozen 2
            have Y4_c3 := Y4.out.at (i := 3) rfl; have Y4_f3 := Y4.out.frozen 3
            have Y4_c4 := Y4.out.at (i := 4) rfl; have Y4_f4 := Y4.out.frozen 4
            go_wp2_with fail
            all_goals
              go_roundw
              case rel => exact ⟨k + 1, by omega, by go_num, by rw [HST.out]; simp [*], (hB.out.alloc (by omega) _).alloc (by simp; omega) _⟩
              case measure => simp [intOf]; omega
      · obtain rfl : k = t.rs.length := by omega
        rw [HMV.out]
        have QB := hide (QR.out.below hB.out)
        have q4 := HRM.out
        have Y3_lt := Y3.out.lt
        have Y3_c4 := Y3.out.at (i := 4) rfl; have Y3_f4 := Y3.out.frozen 4
        go_upto_region 23 with fail
        clear Y3_lt Y3_c4 Y3_f4
        have Y4_lt := Y4.out.lt
        have Y4_c0 := Y4.out.at (i := 0) rfl; have Y4_f0 := Y4.out.frozen 0
        have Y4_c1 := Y4.out.at (i := 1) rfl; have Y4_f1 := Y4.out.frozen 1
        have Y4_c2 := Y4.out.at (i := 2) rfl; have Y4_f2 := Y4.out.frozen 2
        have Y4_c3 := Y4.out.at (i := 3) rfl; have Y4_f3 := Y4.out.frozen 3
        have Y4_c4 := Y4.out.at (i := 4) rfl; have Y4_f4 := Y4.out.frozen 4
        have KS : Hid (∀ W', Below wr.heap.size wr W' → (W'.cell? ⟨w2.heap.size, 0, none⟩ = some (.int .i64 D.n) ∧ W'.cell? ⟨w2.heap.size, 1, none⟩ = some (.int .i64 D.room) ∧ W'.cell? ⟨w2.heap.size, 2, none⟩ = some (.int .i64 D.f) ∧ W'.cell? ⟨w2.heap.size, 3, none⟩ = some (.int .i64 D.d) ∧ W'.cell? ⟨w2.heap.size, 4, none⟩ = some (.slice Q D.rs.length q))) := fun W' bb => ⟨(Y4.out.below bb).at rfl, (Y4.out.below bb).at rfl, (Y4.out.below bb).at rfl, (Y4.out.below bb).at rfl, (Y4.out.below bb).at rfl⟩
        have KK : Hid (Below wr.heap.size wr wr.drew) := (Below.refl _ _).drew
        first | (go_region_held3 (fun W => (W.cell? ⟨w2.heap.size, 0, none⟩ = some (.int .i64 D.n) ∧ W.cell? ⟨w2.heap.size, 1, none⟩ = some (.int .i64 D.room) ∧ W.cell? ⟨w2.heap.size, 2, none⟩ = some (.int .i64 D.f) ∧ W.cell? ⟨w2.heap.size, 3, none⟩ = some (.int .i64 D.d) ∧ W.cell? ⟨w2.heap.size, 4, none⟩ = some (.slice Q D.rs.length q))) (first | (go_keep; done) | exact KS.out _ KK.out) (first | (go_at_call 20; (with_reducible refine (implTripValid Q q D _ ?_ (by omega)).mono ?_); exact QB.out.rds.below KK.out; rw [HV1.out]; rintro e v ⟨rfl, bb⟩; replace KK := hide (bthen KK.out bb); have zKK := KK.out.size; clear bb) | (go_at_call 21; (with_reducible refine (inState_any Q q D 1 _ ?_ (by omega)).mono ?_); exact QB.out.rds.below KK.out; rw [← HZ1.out]; rintro e v ⟨rfl, bb⟩; replace KK := hide (bthen KK.out bb); have zKK := KK.out.size; clear bb))) | fail
        rename ((v.cell? ⟨w2.heap.size, 0, none⟩ = some (.int .i64 D.n) ∧ v.cell? ⟨w2.heap.size, 1, none⟩ = some (.int .i64 D.room) ∧ v.cell? ⟨w2.heap.size, 2, none⟩ = some (.int .i64 D.f) ∧ v.cell? ⟨w2.heap.size, 3, none⟩ = some (.int .i64 D.d) ∧ v.cell? ⟨w2.heap.size, 4, none⟩ = some (.slice Q D.rs.length q))) => hHeldX
        clear KS hHeldX
        go_wp2_with fail
        go_ret
        exact ⟨rfl, bthen (bthen BW.out hB.out) KK.out⟩
end Go.Proofs.Ytbkjgiomamlajaa
