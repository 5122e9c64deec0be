import Derived.Test.YtbkjgiomamlajaaFrameC
import Derived.Test.YtbkjgiomamlajaaDrawTrip
import Derived.Test.YtbkjgiomamlajaaRidM
import Derived.Test.YtbkjgiomamlajaaTripLaw
import Derived.Test.YtbkjgiomamlajaaAlive
import Derived.Deep.RegionHeld3
import Derived.Deep.CutRange
namespace Go.Proofs.Ytbkjgiomamlajaa
open Go.RowKit
attribute [local go_sem ↓] Go.wp_at_zero Go.wp_at_succ

theorem doneTo_step {rs : List Rr} {k : Nat} {r : Rr} (hr : rs[k]? = some r) : (rs.take (k + 1)).map doneR = (rs.take k).map doneR ++ [(r.1, r.2.1, 2)] := by
  rw [take_snoc' rs k r hr, List.map_append]; rfl
theorem only_of_below {B : Nat} {w w' : World} (b : Below B w w') : Only B w.heap.size w w' := ⟨b.os, b.tape, b.output, b.size, fun k hk h => b.block k (by omega)⟩
set_option maxRecDepth 100000 in
set_option maxHeartbeats 4000000 in
theorem wTripValid (A : Option Addr) (c : Nat) (bs : List Int) (w : World) (h0 : InRow .u8 w A c bs) :
    Calls Try.prog 6 #[.slice A bs.length c] w fun e w' => e = .returned (.bool true) ∧ Below w.heap.size w w' := by
  have HB := hide h0.byte
  obtain ⟨h, hc, hc2, -⟩ := h0
  have H : Hid (Sl w A (bvs bs)) := h
  clear h
  by_cases hl : ¬ bs.length ≤ 1048576
  · go_enter Try.func6, Try.ntmps6
    go_wp2
    go_ret
    exact ⟨rfl, Below.refl _ _⟩
  have hl : bs.length ≤ 1048576 := by omega
  clear hc2
  go_enter Try.func6, Try.ntmps6
  go_wp2_with fail
  refine (drawTripValid_any A c bs _ H.out HB.out hl hc).mono ?_
  rintro e w1 ⟨P, p, t, rfl, PR, h9, b⟩
  have BW := hide b; replace PR := hide PR
  have zw1 := b.size
  have h9' : (t.rs.length : Int) ≤ 9 := by omega
  clear b
  have e0 : (tripB t != tripB t) = false := by simp
  go_wp2_with fail
  refine calls_name fun W hW => ?_
  have X3 := hide (Box.new' (g := w1.heap.size) hW rfl)
  have b : Below w1.heap.size w1 W := by rw [hW]; exact (Below.refl _ _).alloc (Nat.le_refl _) _
  replace PR := hide (PR.out.below b)
  replace BW := hide (bthen BW.out b)
  have zX3 := X3.out.lt
  clear b hW
  refine (implTripValid P p t _ PR.out.rds (by omega)).mono ?_
  rintro e w2 ⟨rfl, b⟩
  replace X3 := hide (X3.out.below b)
  replace PR := hide (PR.out.below b)
  replace BW := hide (bthen BW.out b)
  clear b
  have X3_lt := X3.out.lt
  have X3_c0 := X3.out.at (i := 0) rfl; have X3_f0 := X3.out.frozen 0
  have X3_c1 := X3.out.at (i := 1) rfl; have X3_f1 := X3.out.frozen 1
  have X3_c2 := X3.out.at (i := 2) rfl; have X3_f2 := X3.out.frozen 2
  have X3_c3 := X3.out.at (i := 3) rfl; have X3_f3 := X3.out.frozen 3
  have X3_c4 := X3.out.at (i := 4) rfl; have X3_f4 := X3.out.frozen 4
  go_wp2_with fail
  clear X3_lt X3_c0 X3_f0 X3_c1 X3_f1 X3_c2 X3_f2 X3_c3 X3_f3 X3_c4 X3_f4
  refine (specTripValid P p t _ PR.out.rds (by omega)).mono ?_
  rintro e w3 ⟨rfl, b⟩
  replace X3 := hide (X3.out.below b)
  replace PR := hide (PR.out.below b)
  replace BW := hide (bthen BW.out b)
  clear b
  cases hv : tripB t
  · have hz : tripB ⟨0, 0, 0, 0, []⟩ = false := tripB_f.2 zero_not
    clear hv
    go_wp2_with fail
    refine (implTripValid none 0 ⟨0, 0, 0, 0, []⟩ _ (Rds.nil _ _) (by simp)).mono ?_
    rw [hz]
    rintro e w4 ⟨rfl, b⟩
    replace BW := hide (bthen BW.out b)
    clear b
    go_wp2_with fail
    refine (alive_any _).mono ?_
    rintro e w9 ⟨rfl, b9⟩
    have B9 := hide b9
    clear b9
    go_wp2_with fail
    go_ret
    exact ⟨rfl, bthen BW.out B9.out⟩
  · have hp := tripB_iff.1 hv
    have HV1 := hide (tripB_iff.2 (done_valid hp))
    have HV2 := hide (tripB_iff.2 (none_valid hp))
    have HV3 := hide (tripB_f.2 (nowhere_not t))
    clear hv hp
    go_wp2_with fail
    refine code_name fun W4 hW => ?_
    have X5 : Hid (OwnR w3.heap.size W4 (.slice (some ⟨w3.heap.size, 0, none⟩) 0 0) []) := by rw [hW]; exact OwnR.lit0 (Nat.le_refl _)
    have b : Below w3.heap.size w3 W4 := by rw [hW]; exact (Below.refl _ _).alloc (Nat.le_refl _) _
    have z4 : w3.heap.size ≤ W4.heap.size := b.size
    have zX3 := X3.out.lt
    have zp := PR.out.rds
    replace X3 := hide (X3.out.below b)
    replace PR := hide (PR.out.below b)
    replace BW := hide (bthen BW.out b)
    clear b
    clear hW zp
    go_loopw [5, 6] (fun v i wr => ∃ k : Nat, k ≤ t.rs.length ∧ i = .int .i64 (k : Int) ∧ Hid (OwnR w3.heap.size wr v ((t.rs.take k).map doneR)) ∧ Hid (Below w3.heap.size W4 wr)) (fun _ i _ => t.rs.length - (intOf i).toNat)
    case atStart => exact ⟨0, Nat.zero_le _, rfl, X5, Below.refl _ _⟩
    case round =>
      clear X5
      obtain ⟨k, hk, rfl, X5, hB⟩ := hrel
      have zB := hB.out.size
      have Y3 := hide (X3.out.belowAt hB.out zX3)
      have PB := hide (PR.out.only (only_of_below hB.out) (.inl (by omega)))
      by_cases hlt : k < t.rs.length
      · obtain ⟨b, off, r, rfl, ⟨hb1, hb2, hb3⟩, hr, ⟨c0, c1, c2⟩, -⟩ := PB.out.at hlt
        have HS := hide (doneTo_step hr.out)
        have hbl : b < w3.heap.size := by omega
        have r0' : (0 : Int) ≤ (k : Int) := by omega
        have r1' : (k : Int) < (t.rs.length : Int) := by omega
        have KS : Hid (∀ W', Below w3.heap.size wr W' → W'.cell? ⟨w1.heap.size, 4, none⟩ = some (.slice (some ⟨b, off, none⟩) t.rs.length p) ∧ W'.cell? ⟨b, off + k * 3, none⟩ = some (.int .i64 r.1) ∧ W'.cell? ⟨b, off + k * 3 + 1, none⟩ = some (.int .i64 r.2.1)) :=
          fun W' bb => ⟨(Y3.out.belowAt bb zX3).at rfl, (World.cell?_of_block (bb.block b hbl)).trans c0, (World.cell?_of_block (bb.block b hbl)).trans c1⟩
        have B0 : Hid (Below w3.heap.size wr wr.drew) := (Below.refl _ _).drew
        have B1 : Hid (∀ o : Obj, Below w3.heap.size wr (wr.drew.alloc o)) := fun o => B0.out.alloc (by have := B0.out.size; omega) o
        have hr0 : Hid (r = (r.1, r.2.1, r.2.2)) := rfl
        have lk : (List.map doneR (List.take k t.rs)).length ≤ 9 := by simp; omega
        have Y3_lt := Y3.out.lt
        have Y3_c4 := Y3.out.at (i := 4) rfl; have Y3_f4 := Y3.out.frozen 4
        clear hr X3 PR
        go_wp2_with fail
        go_region_held3 (fun W => W.cell? ⟨w1.heap.size, 4, none⟩ = some (.slice (some ⟨b, off, none⟩) t.rs.length p) ∧ W.cell? ⟨b, off + k * 3, none⟩ = some (.int .i64 r.1) ∧ W.cell? ⟨b, off + k * 3 + 1, none⟩ = some (.int .i64 r.2.1)) (first | (exact KS.out _ B0.out) | (exact KS.out _ (B1.out _)) | (exact KS.out _ B2.out)) (first | (refine step_appR (by rfl) (.tmp 35) (.tmp 49) (by rfl) w3.heap.size _ u5 ((t.rs.take k).map doneR) _ 1 1 [(r.1, r.2.1, 2)] rfl (by rfl) (by rfl) (X5.out.below ((Below.refl _ _).drew.alloc (by simp) _)) (lit_rider (w := wr.drew) _ _ _) (by simp; omega) (by simp; omega) ?_; intro v' w10 own b10; have OW := hide own; have B2 := hide ((B1.out _).trans b10); clear own b10))
        go_wp2_with fail
        go_roundw
        case rel => exact ⟨k + 1, by omega, by go_num, by rw [HS.out]; exact OW, hB.out.trans B2.out⟩
        case measure => simp [intOf]; omega
      · have HE : Hid ((t.rs.take k).map doneR = t.rs.map doneR) := by unfold Hid; rw [List.take_of_length_le (by omega)]
        rw [HE.out] at X5
        clear HE
        obtain ⟨l5, hl5⟩ : ∃ l, l = t.rs.map doneR := ⟨_, rfl⟩
        have h5 : l5.length ≤ 9 := by rw [hl5]; simp; omega
        rw [← hl5] at X5 HV1
        clear hl5
        obtain ⟨Q, q, rfl, QR⟩ := OwnR.form X5.out
        have QR := hide QR
        clear X3 PR
        have Y3_lt := Y3.out.lt
        have Y3_c4 := Y3.out.at (i := 4) rfl; have Y3_f4 := Y3.out.frozen 4
        have b0 : Below wr.heap.size wr (wr.alloc (.cells #[] 50)) := (Below.refl _ _).alloc (Nat.le_refl _) _
        go_wp2_with (at_builtin; first | (refine wp_appR rfl (.tmp 51) (.tmp 53) rfl wr.heap.size _ (.slice (some ⟨wr.heap.size, 0, none⟩) 0 0) [] P t.rs.length p t.rs rfl rfl rfl (OwnR.lit0 (Nat.le_refl _)) (PB.out.rds.below b0) (by simp; omega) b0.size ?_; intro v6 w6 own6 b6; rw [List.nil_append] at own6; have OW6 := hide own6; have B6 := hide (b0.trans b6); have z6 := B6.out.size; clear own6 b6) | (refine wp_appR rfl (.tmp 54) (.tmp 56) rfl wr.heap.size _ v6 t.rs (some ⟨w6.heap.size, 0, none⟩) 1 1 [(0, 0, 0)] rfl rfl rfl (OW6.out.below ((Below.refl _ _).alloc (Nat.le_refl _) _)) (lit_rider _ _ _) (by simp; omega) (by simp; omega) ?_; intro v7 w7 own7 b7; obtain ⟨l7, hl7, own7⟩ : ∃ l7 : List Rr, l7 = t.rs ++ [(0, 0, 0)] ∧ OwnR wr.heap.size w7 v7 l7 := ⟨_, rfl, own7⟩; obtain ⟨N, n, rfl, nr⟩ := OwnR.form own7; have NR := hide nr; have HL7 := hide hl7; have B7 := hide ((B6.out.alloc (by omega) _).trans b7); clear own7 b7 nr hl7 Y3_lt Y3_c4 Y3_f4; have Z3 := hide (Y3.out.below B7.out); have Z3_c0 := Z3.out.at (i := 0) rfl; have Z3_c1 := Z3.out.at (i := 1) rfl; have Z3_c2 := Z3.out.at (i := 2) rfl; have Z3_c3 := Z3.out.at (i := 3) rfl; have Z3_lt := Z3.out.lt))
        have h7 : (l7.length : Int) ≤ 10 := by rw [HL7.out]; simp; omega
        rw [← HL7.out] at HV3
        clear Z3_c0 Z3_c1 Z3_c2 Z3_c3 Z3_lt
        have QR7 := hide (QR.out.below B7.out)
        replace BW := hide (bthen (Only.then BW.out (only_of_below hB.out) (by omega) (by omega)) B7.out)
        refine (implTripValid Q q ⟨t.n, t.room, t.f, t.d, l5⟩ _ QR7.out.rds (by show (l5.length : Int) ≤ _; omega)).mono ?_
        rw [HV1.out]
        rintro e w8 ⟨rfl, b⟩
        replace Z3 := hide (Z3.out.below b)
        replace NR := hide (NR.out.below b)
        replace BW := hide (bthen BW.out b)
        clear b
        have Z3_lt := Z3.out.lt
        have Z3_c0 := Z3.out.at (i := 0) rfl; have Z3_f0 := Z3.out.frozen 0
        have Z3_c1 := Z3.out.at (i := 1) rfl; have Z3_f1 := Z3.out.frozen 1
        have Z3_c2 := Z3.out.at (i := 2) rfl; have Z3_f2 := Z3.out.frozen 2
        have Z3_c3 := Z3.out.at (i := 3) rfl; have Z3_f3 := Z3.out.frozen 3
        go_wp2_with fail
        clear Z3_lt Z3_c0 Z3_f0 Z3_c1 Z3_f1 Z3_c2 Z3_f2 Z3_c3 Z3_f3
        refine (implTripValid none 0 ⟨t.n, t.room, t.f, t.d, []⟩ _ (Rds.nil _ _) (by simp)).mono ?_
        rw [HV2.out]
        rintro e w9 ⟨rfl, b⟩
        replace Z3 := hide (Z3.out.below b)
        replace NR := hide (NR.out.below b)
        replace BW := hide (bthen BW.out b)
        clear b
        have Z3_lt := Z3.out.lt
        have Z3_c0 := Z3.out.at (i := 0) rfl; have Z3_f0 := Z3.out.frozen 0
        have Z3_c1 := Z3.out.at (i := 1) rfl; have Z3_f1 := Z3.out.frozen 1
        have Z3_c2 := Z3.out.at (i := 2) rfl; have Z3_f2 := Z3.out.frozen 2
        have Z3_c3 := Z3.out.at (i := 3) rfl; have Z3_f3 := Z3.out.frozen 3
        go_wp2_with fail
        clear Z3_lt Z3_c0 Z3_f0 Z3_c1 Z3_f1 Z3_c2 Z3_f2 Z3_c3 Z3_f3
        refine (implTripValid N n ⟨t.n, t.room, t.f, t.d, l7⟩ _ NR.out.rds (by show (l7.length : Int) ≤ _; omega)).mono ?_
        rw [HV3.out]
        rintro e w10 ⟨rfl, b⟩
        replace BW := hide (bthen BW.out b)
        clear b
        go_wp2_with fail
        go_ret
        exact ⟨rfl, BW.out⟩
end Go.Proofs.Ytbkjgiomamlajaa
