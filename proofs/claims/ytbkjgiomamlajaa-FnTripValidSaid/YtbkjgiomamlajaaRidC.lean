/- Trips: TripValid, the program's and the reference's. -/
import Derived.Test.YtbkjgiomamlajaaRidB
namespace Go.Proofs.Ytbkjgiomamlajaa
open Go.RowKit

/-- The first k riders are fit. -/
def RidTo (t : Tp) (k : Nat) : Prop := ∀ (j : Nat) (r : Rr), j < k → t.rs[j]? = some r → ridP t.n r ∧ (r.2.2 = 1 → wayP r t.f t.d)
theorem RidTo.zero (t : Tp) : RidTo t 0 := fun j _ hj => by omega
theorem RidTo.step {t : Tp} {k : Nat} {r : Rr} (h : RidTo t k) (hr : t.rs[k]? = some r) (h1 : ridP t.n r) (h2 : r.2.2 = 1 → wayP r t.f t.d) : RidTo t (k + 1) := by
  intro j x hj hx
  rcases Nat.lt_succ_iff_lt_or_eq.1 hj with h' | rfl
  · exact h j x h' hx
  · rw [hr] at hx; injection hx with hx; subst hx; exact ⟨h1, h2⟩
theorem RidTo.all {t : Tp} {k : Nat} (h : RidTo t k) (hk : t.rs.length ≤ k) : ∀ r ∈ t.rs, ridP t.n r ∧ (r.2.2 = 1 → wayP r t.f t.d) := by
  intro r hr
  obtain ⟨j, hj⟩ := List.mem_iff_getElem?.1 hr
  exact h j r (by have := getElem?_lt hj; omega) hj
theorem tripB_bad {t : Tp} {k : Nat} {r : Rr} (hr : t.rs[k]? = some r) (h : ¬ (ridP t.n r ∧ (r.2.2 = 1 → wayP r t.f t.d))) : tripB t = false := tripB_f.2 fun hp => h (hp.2.2.2.2.2.1 r (List.mem_of_getElem? hr))
theorem tripB_end {t : Tp} (h : (1 ≤ t.n ∧ t.n ≤ 8) ∧ (1 ≤ t.room ∧ t.room ≤ 8) ∧ (0 ≤ t.f ∧ t.f < t.n) ∧ (t.d = 1 ∨ t.d = -1) ∧ t.rs.length ≤ 8) (hr : RidTo t t.rs.length) : tripB t = decide (inN 1 t.rs ≤ t.room) := by
  rw [Bool.eq_iff_iff, tripB_iff, decide_eq_true_eq]
  obtain ⟨h1, h2, h3, h4, h5⟩ := h
  exact ⟨fun hp => hp.2.2.2.2.2.2, fun hi => ⟨h1, h2, h3, h4, h5, hr.all (Nat.le_refl _), hi⟩⟩
set_option maxHeartbeats 4000000 in
theorem implTripValid (A : Option Addr) (c : Nat) (t : Tp) (w : World) (h : Rds w A t.rs) (hl : (t.rs.length : Int) ≤ 9223372036854775807) :
    Calls Try.prog 20 #[.agg #[.int .i64 t.n, .int .i64 t.room, .int .i64 t.f, .int .i64 t.d, .slice A t.rs.length c]] w fun e w' => e = .returned (.bool (tripB t)) ∧ Below w.heap.size w w' := by
  have H := hide h; clear h
  by_cases a0 : t.n < 1
  · have HE : Hid (tripB t = false) := tripB_f.2 fun hp => by have := hp.1; omega
    go_enter Try.func20, Try.ntmps20
    go_wp2_with fail
    go_ret
    exact ⟨ret_bool HE.out.symm, (Below.refl _ _).alloc (Nat.le_refl _) _⟩
  by_cases a1 : 8 < t.n
  · have HE : Hid (tripB t = false) := tripB_f.2 fun hp => by have := hp.1; omega
    go_enter Try.func20, Try.ntmps20
    go_wp2_with fail
    go_ret
    exact ⟨ret_bool HE.out.symm, (Below.refl _ _).alloc (Nat.le_refl _) _⟩
  by_cases a2 : t.room < 1
  · have HE : Hid (tripB t = false) := tripB_f.2 fun hp => by have := hp.2.1; omega
    go_enter Try.func20, Try.ntmps20
    go_wp2_with fail
    go_ret
    exact ⟨ret_bool HE.out.symm, (Below.refl _ _).alloc (Nat.le_refl _) _⟩
  by_cases a3 : 8 < t.room
  · have HE : Hid (tripB t = false) := tripB_f.2 fun hp => by have := hp.2.1; omega
    go_enter Try.func20, Try.ntmps20
    go_wp2_with fail
    go_ret
    exact ⟨ret_bool HE.out.symm, (Below.refl _ _).alloc (Nat.le_refl _) _⟩
  have hn : 1 ≤ t.n ∧ t.n ≤ 8 := by omega
  have hm : 1 ≤ t.room ∧ t.room ≤ 8 := by omega
  have HNM := hide (And.intro hn hm)
  go_enter Try.func20, Try.ntmps20
  go_wp2_with fail
  refine calls_name fun W hW => ?_
  have X1 := hide (Box.new' (g := w.heap.size) hW rfl)
  have BW : Hid (Below w.heap.size w W) := by rw [hW]; exact (Below.refl _ _).alloc (Nat.le_refl _) _
  have z0 := X1.out.lt
  clear hW
  refine (stopValid_any t.f t.d t.n _).mono ?_
  rintro e w1 ⟨rfl, b⟩
  have z1 := b.size
  replace X1 := hide (X1.out.below b)
  replace BW := hide (bthen BW.out b)
  clear b
  cases hs : stopOkB t.n t.f t.d
  · have HE : Hid (tripB t = false) := tripB_f.2 fun hp => by rw [stopOkB_iff.2 ⟨hp.2.2.1, hp.2.2.2.1⟩] at hs; cases hs
    go_wp2_with fail
    go_ret
    exact ⟨ret_bool HE.out.symm, BW.out⟩
  obtain ⟨hf, hd⟩ := stopOkB_iff.1 hs
  have HF := hide hf; have HD := hide hd
  clear hf hd hs
  by_cases h8 : 8 < t.rs.length
  · have HE : Hid (tripB t = false) := tripB_f.2 fun hp => by have := hp.2.2.2.2.1; omega
    have X1_lt := X1.out.lt
    have X1_c0 := X1.out.at (i := 0) rfl; have X1_f0 := X1.out.frozen 0
    have X1_c1 := X1.out.at (i := 1) rfl; have X1_f1 := X1.out.frozen 1
    have X1_c2 := X1.out.at (i := 2) rfl; have X1_f2 := X1.out.frozen 2
    have X1_c3 := X1.out.at (i := 3) rfl; have X1_f3 := X1.out.frozen 3
    have X1_c4 := X1.out.at (i := 4) rfl; have X1_f4 := X1.out.frozen 4
    go_wp2_with fail
    go_ret
    exact ⟨ret_bool HE.out.symm, BW.out⟩
  have h8' : t.rs.length ≤ 8 := by omega
  have X1_lt := X1.out.lt
  have X1_c0 := X1.out.at (i := 0) rfl; have X1_f0 := X1.out.frozen 0
  have X1_c1 := X1.out.at (i := 1) rfl; have X1_f1 := X1.out.frozen 1
  have X1_c2 := X1.out.at (i := 2) rfl; have X1_f2 := X1.out.frozen 2
  have X1_c3 := X1.out.at (i := 3) rfl; have X1_f3 := X1.out.frozen 3
  have X1_c4 := X1.out.at (i := 4) rfl; have X1_f4 := X1.out.frozen 4
  go_wp2_with fail
  clear X1_lt X1_c0 X1_f0 X1_c1 X1_f1 X1_c2 X1_f2 X1_c3 X1_f3 X1_c4 X1_f4
  go_loopw [38] (fun i wr => ∃ k : Nat, k ≤ t.rs.length ∧ i = .int .i64 k ∧ Hid (RidTo t k) ∧ Hid (Box wr w.heap.size #[.int .i64 t.n, .int .i64 t.room, .int .i64 t.f, .int .i64 t.d, .slice A t.rs.length c]) ∧ Hid (Below w.heap.size w wr)) (fun i _ => t.rs.length - (intOf i).toNat)
  case atStart => exact ⟨0, by omega, rfl, RidTo.zero t, X1, BW⟩
  case round =>
    clear X1 BW
    obtain ⟨k, hk, rfl, HR, X1, BW⟩ := hrel
    by_cases hlt : k < t.rs.length
    · obtain ⟨b, off, r, rfl, hb, hr, c0, c1, c2⟩ := (H.out.below BW.out).at hlt
      have hnb : ¬ b = wr.heap.size := by omega
      have X1_lt := X1.out.lt
      have X1_c0 := X1.out.at (i := 0) rfl; have X1_f0 := X1.out.frozen 0
      have X1_c1 := X1.out.at (i := 1) rfl; have X1_f1 := X1.out.frozen 1
      have X1_c2 := X1.out.at (i := 2) rfl; have X1_f2 := X1.out.frozen 2
      have X1_c3 := X1.out.at (i := 3) rfl; have X1_f3 := X1.out.frozen 3
      have X1_c4 := X1.out.at (i := 4) rfl; have X1_f4 := X1.out.frozen 4
      go_upto_region 8 with fail
      clear X1_lt X1_c0 X1_f0 X1_c1 X1_f1 X1_c2 X1_f2 X1_c3 X1_f3 X1_c4 X1_f4
      refine code_name fun W4 hW => ?_
      have X4 := hide (Box.new' (g := wr.heap.size) hW rfl)
      have b : Below wr.heap.size wr W4 := by rw [hW]; exact (Below.refl _ _).alloc (Nat.le_refl _) _
      replace X1 := hide (X1.out.below b)
      replace BW := hide (bthen BW.out b)
      clear b
      clear hW c0 c1 c2 hnb
      have X1_lt := X1.out.lt
      have X1_c0 := X1.out.at (i := 0) rfl; have X1_f0 := X1.out.frozen 0
      have X1_c1 := X1.out.at (i := 1) rfl; have X1_f1 := X1.out.frozen 1
      have X1_c2 := X1.out.at (i := 2) rfl; have X1_f2 := X1.out.frozen 2
      have X1_c3 := X1.out.at (i := 3) rfl; have X1_f3 := X1.out.frozen 3
      have X1_c4 := X1.out.at (i := 4) rfl; have X1_f4 := X1.out.frozen 4
      have X4_lt := X4.out.lt
      have X4_c0 := X4.out.at (i := 0) rfl; have X4_f0 := X4.out.frozen 0
      have X4_c1 := X4.out.at (i := 1) rfl; have X4_f1 := X4.out.frozen 1
      have X4_c2 := X4.out.at (i := 2) rfl; have X4_f2 := X4.out.frozen 2
      go_wp2_with fail
      clear X1_lt X1_c0 X1_f0 X1_c1 X1_f1 X1_c2 X1_f2 X1_c3 X1_f3 X1_c4 X1_f4
      clear X4_lt X4_c0 X4_f0 X4_c1 X4_f1 X4_c2 X4_f2
      refine (implRiderValid r t.n _).mono ?_
      rintro e w5 ⟨rfl, b⟩
      replace X1 := hide (X1.out.below b)
      replace X4 := hide (X4.out.below b)
      replace BW := hide (bthen BW.out b)
      clear b
      cases hv : ridB t.n r
      · have HE := hide (tripB_bad hr.out fun hp => ridB_f.1 hv hp.1)
        go_wp2_with fail
        go_ret
        exact ⟨ret_bool HE.out.symm, BW.out⟩
      have HV := hide (ridB_iff.1 hv)
      clear hv
      by_cases h1 : r.2.2 = 1
      · have h1' : (r.2.2 == 1) = true := by simpa using h1
        have H1 := hide h1
        clear h1
        have X1_lt := X1.out.lt
        have X1_c0 := X1.out.at (i := 0) rfl; have X1_f0 := X1.out.frozen 0
        have X1_c1 := X1.out.at (i := 1) rfl; have X1_f1 := X1.out.frozen 1
        have X1_c2 := X1.out.at (i := 2) rfl; have X1_f2 := X1.out.frozen 2
        have X1_c3 := X1.out.at (i := 3) rfl; have X1_f3 := X1.out.frozen 3
        have X1_c4 := X1.out.at (i := 4) rfl; have X1_f4 := X1.out.frozen 4
        have X4_lt := X4.out.lt
        have X4_c0 := X4.out.at (i := 0) rfl; have X4_f0 := X4.out.frozen 0
        have X4_c1 := X4.out.at (i := 1) rfl; have X4_f1 := X4.out.frozen 1
        have X4_c2 := X4.out.at (i := 2) rfl; have X4_f2 := X4.out.frozen 2
        go_wp2_with fail
        clear X1_lt X1_c0 X1_f0 X1_c1 X1_f1 X1_c2 X1_f2 X1_c3 X1_f3 X1_c4 X1_f4
        clear X4_lt X4_c0 X4_f0 X4_c1 X4_f1 X4_c2 X4_f2
        refine (onTheWay_any r t.f t.d t.n _ HV.out HF.out hn.2 HD.out).mono ?_
        rintro e w6 ⟨rfl, b⟩
        replace X1 := hide (X1.out.below b)
        replace BW := hide (bthen BW.out b)
        clear b
        cases hw : wayB r t.f t.d
        · have HE := hide (tripB_bad hr.out fun hp => wayB_f.1 hw (hp.2 H1.out))
          go_wp2_with fail
          go_ret
          exact ⟨ret_bool HE.out.symm, BW.out⟩
        have HR2 := hide (HR.out.step hr.out HV.out fun _ => wayB_iff.1 hw)
        clear hw
        go_wp2_with fail
        go_roundw
        case rel => exact ⟨k + 1, by omega, by go_num, HR2, X1, BW⟩
        case measure => simp [intOf]; omega
      · have h1' : (r.2.2 == 1) = false := by simpa using h1
        have HR2 := hide (HR.out.step hr.out HV.out fun h => absurd h h1)
        clear h1
        have X4_lt := X4.out.lt
        have X4_c0 := X4.out.at (i := 0) rfl; have X4_f0 := X4.out.frozen 0
        have X4_c1 := X4.out.at (i := 1) rfl; have X4_f1 := X4.out.frozen 1
        have X4_c2 := X4.out.at (i := 2) rfl; have X4_f2 := X4.out.frozen 2
        go_wp2_with fail
        go_roundw
        case rel => exact ⟨k + 1, by omega, by go_num, HR2, X1, BW⟩
        case measure => simp [intOf]; omega
    · obtain rfl : k = t.rs.length := by omega
      have HE := hide (tripB_end ⟨hn, hm, HF.out, HD.out, h8'⟩ HR.out)
      go_wp2_with fail
      obtain ⟨W9, rfl⟩ : ∃ W9 : World, W9 = wr := ⟨_, rfl⟩
      have H9 := hide (H.out.below BW.out)
      have X1_lt := X1.out.lt
      have X1_c0 := X1.out.at (i := 0) rfl; have X1_f0 := X1.out.frozen 0
      have X1_c1 := X1.out.at (i := 1) rfl; have X1_f1 := X1.out.frozen 1
      have X1_c2 := X1.out.at (i := 2) rfl; have X1_f2 := X1.out.frozen 2
      have X1_c3 := X1.out.at (i := 3) rfl; have X1_f3 := X1.out.frozen 3
      have X1_c4 := X1.out.at (i := 4) rfl; have X1_f4 := X1.out.frozen 4
      have KS : Hid (∀ W', Below W9.heap.size W9 W' → (W'.cell? ⟨w.heap.size, 0, none⟩ = some (.int .i64 t.n) ∧ W'.cell? ⟨w.heap.size, 1, none⟩ = some (.int .i64 t.room)) ∧ W'.cell? ⟨w.heap.size, 4, none⟩ = some (.slice A t.rs.length c)) := fun W' bb => ⟨⟨(X1.out.below bb).at rfl, (X1.out.below bb).at rfl⟩, (X1.out.below bb).at rfl⟩
      have KK : Hid (Below W9.heap.size W9 W9.drew) := (Below.refl _ _).drew
      first | (go_region_held3 (fun W => (W.cell? ⟨w.heap.size, 0, none⟩ = some (.int .i64 t.n) ∧ W.cell? ⟨w.heap.size, 1, none⟩ = some (.int .i64 t.room)) ∧ W.cell? ⟨w.heap.size, 4, none⟩ = some (.slice A t.rs.length c)) (first | (go_keep; done) | exact KS.out _ KK.out) (first | (go_at_call 50; (with_reducible refine (ridersInside_any A c t.rs _ ?_ (by omega)).mono ?_); exact H9.out.below KK.out; rintro e v ⟨rfl, bb⟩; replace KK := hide (bthen KK.out bb); have zKK := KK.out.size; clear bb))) | fail
      rename ((v.cell? ⟨w.heap.size, 0, none⟩ = some (.int .i64 t.n) ∧ v.cell? ⟨w.heap.size, 1, none⟩ = some (.int .i64 t.room)) ∧ v.cell? ⟨w.heap.size, 4, none⟩ = some (.slice A t.rs.length c)) => hHeldX
      clear KS hHeldX
      go_wp2_with fail
      go_ret
      exact ⟨ret_bool HE.out.symm, bthen BW.out KK.out⟩
set_option maxRecDepth 100000 in
set_option maxHeartbeats 4000000 in
theorem specTripValid (A : Option Addr) (c : Nat) (t : Tp) (w : World) (h : Rds w A t.rs) (hl : (t.rs.length : Int) ≤ 9223372036854775807) :
    Calls Try.prog 17 #[.agg #[.int .i64 t.n, .int .i64 t.room, .int .i64 t.f, .int .i64 t.d, .slice A t.rs.length c]] w fun e w' => e = .returned (.bool (tripB t)) ∧ Below w.heap.size w w' := by
  have H := hide h; clear h
  cases a0 : inB t.n 1 8
  · have HE : Hid (tripB t = false) := tripB_f.2 fun hp => by have := (inB_f _ _ _).1 a0; have := hp.1; omega
    go_enter Try.func17, Try.ntmps17
    go_wp2_with (go_at_call 44; refine (l1In_any _ _ _ _).mono ?_; rintro e w' ⟨rfl, rfl⟩)
    go_ret
    exact ⟨ret_bool HE.out.symm, (Below.refl _ _).alloc (Nat.le_refl _) _⟩
  have hn := (inB_iff _ _ _).1 a0
  cases a1 : inB t.room 1 8
  · have HE : Hid (tripB t = false) := tripB_f.2 fun hp => by have := (inB_f _ _ _).1 a1; have := hp.2.1; omega
    go_enter Try.func17, Try.ntmps17
    go_wp2_with (go_at_call 44; refine (l1In_any _ _ _ _).mono ?_; rintro e w' ⟨rfl, rfl⟩)
    go_ret
    exact ⟨ret_bool HE.out.symm, (Below.refl _ _).alloc (Nat.le_refl _) _⟩
  have hm := (inB_iff _ _ _).1 a1
  cases a2 : inB t.f 0 (t.n - 1)
  · have HE : Hid (tripB t = false) := tripB_f.2 fun hp => by have := (inB_f _ _ _).1 a2; have := hp.2.2.1; omega
    go_enter Try.func17, Try.ntmps17
    go_wp2_with (go_at_call 44; refine (l1In_any _ _ _ _).mono ?_; rintro e w' ⟨rfl, rfl⟩)
    go_ret
    exact ⟨ret_bool HE.out.symm, (Below.refl _ _).alloc (Nat.le_refl _) _⟩
  have hf : 0 ≤ t.f ∧ t.f < t.n := by have := (inB_iff _ _ _).1 a2; omega
  by_cases hd : t.d = 1 ∨ t.d = -1
  rotate_left
  · have HE : Hid (tripB t = false) := tripB_f.2 fun hp => hd hp.2.2.2.1
    have d1 : (t.d != 1) = true := by simp; omega
    have d2 : (t.d != -1) = true := by simp; omega
    clear hd
    go_enter Try.func17, Try.ntmps17
    go_wp2_with (go_at_call 44; refine (l1In_any _ _ _ _).mono ?_; rintro e w' ⟨rfl, rfl⟩)
    go_ret
    exact ⟨ret_bool HE.out.symm, (Below.refl _ _).alloc (Nat.le_refl _) _⟩
  have dd : Hid (((t.d != 1) = false) ∨ ((t.d != 1) = true ∧ (t.d != -1) = false)) := by
    rcases hd with h | h
    · exact .inl (by simp [h])
    · exact .inr ⟨by simp [h], by simp [h]⟩
  have HD := hide hd
  clear hd
  by_cases h8 : 8 < t.rs.length
  · have HE : Hid (tripB t = false) := tripB_f.2 fun hp => by have := hp.2.2.2.2.1; omega
    rcases dd.out with d1 | ⟨d1, d2⟩
    · go_enter Try.func17, Try.ntmps17
      go_wp2_with (go_at_call 44; refine (l1In_any _ _ _ _).mono ?_; rintro e w' ⟨rfl, rfl⟩)
      go_ret
      exact ⟨ret_bool HE.out.symm, (Below.refl _ _).alloc (Nat.le_refl _) _⟩
    · go_enter Try.func17, Try.ntmps17
      go_wp2_with (go_at_call 44; refine (l1In_any _ _ _ _).mono ?_; rintro e w' ⟨rfl, rfl⟩)
      go_ret
      exact ⟨ret_bool HE.out.symm, (Below.refl _ _).alloc (Nat.le_refl _) _⟩
  have h8' : t.rs.length ≤ 8 := by omega
  have HF := hide hf
  rcases dd.out with d1 | ⟨d1, d2⟩
  all_goals
    go_enter Try.func17, Try.ntmps17
    go_wp2_with (go_at_call 44; refine (l1In_any _ _ _ _).mono ?_; rintro e w' ⟨rfl, rfl⟩)
    refine code_name fun W hW => ?_
    have X1 := hide (Box.new' (g := w.heap.size) hW rfl)
    have BW : Hid (Below w.heap.size w W) := by rw [hW]; exact (Below.refl _ _).alloc (Nat.le_refl _) _
    have z0 := X1.out.lt
    clear hW
    go_loopw [3] (fun i wr => ∃ k : Nat, k ≤ t.rs.length ∧ i = .int .i64 k ∧ Hid (RidTo t k) ∧ Hid (Box wr w.heap.size #[.int .i64 t.n, .int .i64 t.room, .int .i64 t.f, .int .i64 t.d, .slice A t.rs.length c]) ∧ Hid (Below w.heap.size w wr)) (fun i _ => t.rs.length - (intOf i).toNat)
    case atStart => exact ⟨0, by omega, rfl, RidTo.zero t, X1, BW⟩
    case round =>
      clear X1 BW
      obtain ⟨k, hk, rfl, HR, X1, BW⟩ := hrel
      by_cases hlt : k < t.rs.length
      · obtain ⟨b, off, r, rfl, hb, hr, c0, c1, c2⟩ := (H.out.below BW.out).at hlt
        have hnb : ¬ b = wr.heap.size := by omega
        have X1_lt := X1.out.lt
        have X1_c0 := X1.out.at (i := 0) rfl; have X1_f0 := X1.out.frozen 0
        have X1_c1 := X1.out.at (i := 1) rfl; have X1_f1 := X1.out.frozen 1
        have X1_c2 := X1.out.at (i := 2) rfl; have X1_f2 := X1.out.frozen 2
        have X1_c3 := X1.out.at (i := 3) rfl; have X1_f3 := X1.out.frozen 3
        have X1_c4 := X1.out.at (i := 4) rfl; have X1_f4 := X1.out.frozen 4
        go_upto_region 7 with fail
        clear X1_lt X1_c0 X1_f0 X1_c1 X1_f1 X1_c2 X1_f2 X1_c3 X1_f3 X1_c4 X1_f4
        refine code_name fun W4 hW => ?_
        have X4 := hide (Box.new' (g := wr.heap.size) hW rfl)
        have b : Below wr.heap.size wr W4 := by rw [hW]; exact (Below.refl _ _).alloc (Nat.le_refl _) _
        replace X1 := hide (X1.out.below b)
        replace BW := hide (bthen BW.out b)
        clear b
        clear hW c0 c1 c2 hnb
        by_cases hp : ridP t.n r
        rotate_left
        · have HE := hide (tripB_bad hr.out fun hp' => hp hp'.1)
          have hcase : inB r.1 0 (t.n - 1) = false ∨ (inB r.1 0 (t.n - 1) = true ∧ inB r.2.1 0 (t.n - 1) = false) ∨ (inB r.1 0 (t.n - 1) = true ∧ inB r.2.1 0 (t.n - 1) = true ∧ (r.1 == r.2.1) = true) ∨ (inB r.1 0 (t.n - 1) = true ∧ inB r.2.1 0 (t.n - 1) = true ∧ (r.1 == r.2.1) = false ∧ inB r.2.2 0 2 = false) := by
            cases h1 : inB r.1 0 (t.n - 1)
            · exact .inl rfl
            · cases h2 : inB r.2.1 0 (t.n - 1)
              · exact .inr (.inl ⟨rfl, rfl⟩)
              · by_cases h3 : r.1 = r.2.1
                · exact .inr (.inr (.inl ⟨rfl, rfl, by simp [h3]⟩))
                · cases h4 : inB r.2.2 0 2
                  · exact .inr (.inr (.inr ⟨rfl, rfl, by simp [h3], rfl⟩))
                  · exfalso; apply hp
                    have q1 := (inB_iff _ _ _).1 h1; have q2 := (inB_iff _ _ _).1 h2; have q4 := (inB_iff _ _ _).1 h4
                    exact ⟨by omega, by omega, h3, q4⟩
          clear hp
          rcases hcase with q1 | ⟨q1, q2⟩ | ⟨q1, q2, q3⟩ | ⟨q1, q2, q3, q4⟩
          all_goals
            have X1_lt := X1.out.lt
            have X1_c0 := X1.out.at (i := 0) rfl; have X1_f0 := X1.out.frozen 0
            have X1_c1 := X1.out.at (i := 1) rfl; have X1_f1 := X1.out.frozen 1
            have X1_c2 := X1.out.at (i := 2) rfl; have X1_f2 := X1.out.frozen 2
            have X1_c3 := X1.out.at (i := 3) rfl; have X1_f3 := X1.out.frozen 3
            have X1_c4 := X1.out.at (i := 4) rfl; have X1_f4 := X1.out.frozen 4
            have X4_lt := X4.out.lt
            have X4_c0 := X4.out.at (i := 0) rfl; have X4_f0 := X4.out.frozen 0
            have X4_c1 := X4.out.at (i := 1) rfl; have X4_f1 := X4.out.frozen 1
            have X4_c2 := X4.out.at (i := 2) rfl; have X4_f2 := X4.out.frozen 2
            go_wp2_with (go_at_call 44; refine (l1In_any _ _ _ _).mono ?_; rintro e w' ⟨rfl, rfl⟩)
            go_ret
            exact ⟨ret_bool HE.out.symm, BW.out⟩
        · have HP := hide hp
          have q1 : inB r.1 0 (t.n - 1) = true := inB_t (by have := hp.1; omega)
          have q2 : inB r.2.1 0 (t.n - 1) = true := inB_t (by have := hp.2.1; omega)
          have q3 : (r.1 == r.2.1) = false := by have := hp.2.2.1; simpa using this
          have q4 : inB r.2.2 0 2 = true := inB_t hp.2.2.2
          have e1 : IntKind.i64.wrap (t.f - r.1) = t.f - r.1 := IntWalk.i64_in _ (by have := hp.1; omega)
          have e2 : IntKind.i64.wrap (t.d * (t.f - r.1)) = t.d * (t.f - r.1) := by have := hp.1; rcases HD.out with h | h <;> rw [h] <;> exact IntWalk.i64_in _ (by omega)
          have e3 : IntKind.i64.wrap (r.2.1 - t.f) = r.2.1 - t.f := IntWalk.i64_in _ (by have := hp.2.1; omega)
          have e4 : IntKind.i64.wrap (t.d * (r.2.1 - t.f)) = t.d * (r.2.1 - t.f) := by have := hp.2.1; rcases HD.out with h | h <;> rw [h] <;> exact IntWalk.i64_in _ (by omega)
          clear hp
          by_cases h1 : r.2.2 = 1
          rotate_left
          · have h1' : (r.2.2 == 1) = false := by simpa using h1
            have HR2 := hide (HR.out.step hr.out HP.out fun h => absurd h h1)
            clear h1 e1 e2 e3 e4
            have X1_lt := X1.out.lt
            have X1_c0 := X1.out.at (i := 0) rfl; have X1_f0 := X1.out.frozen 0
            have X1_c1 := X1.out.at (i := 1) rfl; have X1_f1 := X1.out.frozen 1
            have X1_c2 := X1.out.at (i := 2) rfl; have X1_f2 := X1.out.frozen 2
            have X1_c3 := X1.out.at (i := 3) rfl; have X1_f3 := X1.out.frozen 3
            have X1_c4 := X1.out.at (i := 4) rfl; have X1_f4 := X1.out.frozen 4
            have X4_lt := X4.out.lt
            have X4_c0 := X4.out.at (i := 0) rfl; have X4_f0 := X4.out.frozen 0
            have X4_c1 := X4.out.at (i := 1) rfl; have X4_f1 := X4.out.frozen 1
            have X4_c2 := X4.out.at (i := 2) rfl; have X4_f2 := X4.out.frozen 2
            go_wp2_with (go_at_call 44; refine (l1In_any _ _ _ _).mono ?_; rintro e w' ⟨rfl, rfl⟩)
            go_roundw
            case rel => exact ⟨k + 1, by omega, by go_num, HR2, X1, BW⟩
            case measure => simp [intOf]; omega
          have h1' : (r.2.2 == 1) = true := by simpa using h1
          have H1 := hide h1
          clear h1
          have X1_lt := X1.out.lt
          have X1_c0 := X1.out.at (i := 0) rfl; have X1_f0 := X1.out.frozen 0
          have X1_c1 := X1.out.at (i := 1) rfl; have X1_f1 := X1.out.frozen 1
          have X1_c2 := X1.out.at (i := 2) rfl; have X1_f2 := X1.out.frozen 2
          have X1_c3 := X1.out.at (i := 3) rfl; have X1_f3 := X1.out.frozen 3
          have X1_c4 := X1.out.at (i := 4) rfl; have X1_f4 := X1.out.frozen 4
          have X4_lt := X4.out.lt
          have X4_c0 := X4.out.at (i := 0) rfl; have X4_f0 := X4.out.frozen 0
          have X4_c1 := X4.out.at (i := 1) rfl; have X4_f1 := X4.out.frozen 1
          have X4_c2 := X4.out.at (i := 2) rfl; have X4_f2 := X4.out.frozen 2
          go_wp2_with (go_at_call 44; refine (l1In_any _ _ _ _).mono ?_; rintro e w' ⟨rfl, rfl⟩)
          clear X1_lt X1_c0 X1_f0 X1_c1 X1_f1 X1_c2 X1_f2 X1_c3 X1_f3 X1_c4 X1_f4
          clear X4_lt X4_c0 X4_f0 X4_c1 X4_f1 X4_c2 X4_f2
          refine (l11Dir_any r _).mono ?_
          rintro e w6 ⟨rfl, b⟩
          replace X1 := hide (X1.out.below b)
          replace X4 := hide (X4.out.below b)
          replace BW := hide (bthen BW.out b)
          clear b
          by_cases p1 : dirR r = t.d
          rotate_left
          · have HE := hide (tripB_bad hr.out fun hp => p1 (hp.2 H1.out).1)
            have p1' : (dirR r != t.d) = true := by simpa using p1
            clear p1 e1 e2 e3 e4
            go_wp2_with fail
            go_ret
            exact ⟨ret_bool HE.out.symm, BW.out⟩
          have p1' : (dirR r != t.d) = false := by simpa using p1
          have P1 := hide p1
          clear p1
          have X1_lt := X1.out.lt
          have X1_c0 := X1.out.at (i := 0) rfl; have X1_f0 := X1.out.frozen 0
          have X1_c1 := X1.out.at (i := 1) rfl; have X1_f1 := X1.out.frozen 1
          have X1_c2 := X1.out.at (i := 2) rfl; have X1_f2 := X1.out.frozen 2
          have X1_c3 := X1.out.at (i := 3) rfl; have X1_f3 := X1.out.frozen 3
          have X1_c4 := X1.out.at (i := 4) rfl; have X1_f4 := X1.out.frozen 4
          have X4_lt := X4.out.lt
          have X4_c0 := X4.out.at (i := 0) rfl; have X4_f0 := X4.out.frozen 0
          have X4_c1 := X4.out.at (i := 1) rfl; have X4_f1 := X4.out.frozen 1
          have X4_c2 := X4.out.at (i := 2) rfl; have X4_f2 := X4.out.frozen 2
          by_cases p2 : t.d * (t.f - r.1) < 0
          · have HE := hide (tripB_bad hr.out fun hp => by have := (hp.2 H1.out).2.1; rw [Int.mul_comm] at this; omega)
            go_wp2_with fail
            go_ret
            exact ⟨ret_bool HE.out.symm, BW.out⟩
          by_cases p3 : t.d * (r.2.1 - t.f) ≤ 0
          · have HE := hide (tripB_bad hr.out fun hp => by have := (hp.2 H1.out).2.2; rw [Int.mul_comm] at this; omega)
            go_wp2_with fail
            go_ret
            exact ⟨ret_bool HE.out.symm, BW.out⟩
          have HR2 := hide (HR.out.step hr.out HP.out fun _ => ⟨P1.out, by rw [Int.mul_comm]; omega, by rw [Int.mul_comm]; omega⟩)
          go_wp2_with fail
          go_roundw
          case rel => exact ⟨k + 1, by omega, by go_num, HR2, X1, BW⟩
          case measure => simp [intOf]; omega
      · obtain rfl : k = t.rs.length := by omega
        have HE := hide (tripB_end ⟨hn, hm, HF.out, HD.out, h8'⟩ HR.out)
        have X1_lt := X1.out.lt
        have X1_c0 := X1.out.at (i := 0) rfl; have X1_f0 := X1.out.frozen 0
        have X1_c1 := X1.out.at (i := 1) rfl; have X1_f1 := X1.out.frozen 1
        have X1_c2 := X1.out.at (i := 2) rfl; have X1_f2 := X1.out.frozen 2
        have X1_c3 := X1.out.at (i := 3) rfl; have X1_f3 := X1.out.frozen 3
        have X1_c4 := X1.out.at (i := 4) rfl; have X1_f4 := X1.out.frozen 4
        go_wp2_with fail
        obtain ⟨W9, rfl⟩ : ∃ W9 : World, W9 = wr := ⟨_, rfl⟩
        have H9 := hide (H.out.below BW.out)
        have KS : Hid (∀ W', Below W9.heap.size W9 W' → (W'.cell? ⟨w.heap.size, 0, none⟩ = some (.int .i64 t.n) ∧ W'.cell? ⟨w.heap.size, 1, none⟩ = some (.int .i64 t.room)) ∧ (W'.cell? ⟨w.heap.size, 2, none⟩ = some (.int .i64 t.f) ∧ W'.cell? ⟨w.heap.size, 3, none⟩ = some (.int .i64 t.d)) ∧ W'.cell? ⟨w.heap.size, 4, none⟩ = some (.slice A t.rs.length c)) := fun W' bb => ⟨⟨(X1.out.below bb).at rfl, (X1.out.below bb).at rfl⟩, ⟨(X1.out.below bb).at rfl, (X1.out.below bb).at rfl⟩, (X1.out.below bb).at rfl⟩
        have KK : Hid (Below W9.heap.size W9 W9.drew) := (Below.refl _ _).drew
        first | (go_region_held3 (fun W => (W.cell? ⟨w.heap.size, 0, none⟩ = some (.int .i64 t.n) ∧ W.cell? ⟨w.heap.size, 1, none⟩ = some (.int .i64 t.room)) ∧ (W.cell? ⟨w.heap.size, 2, none⟩ = some (.int .i64 t.f) ∧ W.cell? ⟨w.heap.size, 3, none⟩ = some (.int .i64 t.d)) ∧ W.cell? ⟨w.heap.size, 4, none⟩ = some (.slice A t.rs.length c)) (first | (go_keep; done) | exact KS.out _ KK.out) (first | (go_at_call 46; (with_reducible refine (l11Inside_any A c t _ ?_ (by omega)).mono ?_); exact H9.out.below KK.out; rintro e v ⟨rfl, bb⟩; replace KK := hide (bthen KK.out bb); have zKK := KK.out.size; clear bb))) | fail
        rename ((v.cell? ⟨w.heap.size, 0, none⟩ = some (.int .i64 t.n) ∧ v.cell? ⟨w.heap.size, 1, none⟩ = some (.int .i64 t.room)) ∧ (v.cell? ⟨w.heap.size, 2, none⟩ = some (.int .i64 t.f) ∧ v.cell? ⟨w.heap.size, 3, none⟩ = some (.int .i64 t.d)) ∧ v.cell? ⟨w.heap.size, 4, none⟩ = some (.slice A t.rs.length c)) => hHeldX
        clear KS hHeldX
        go_wp2_with fail
        go_ret
        exact ⟨ret_bool HE.out.symm, bthen BW.out KK.out⟩
end Go.Proofs.Ytbkjgiomamlajaa
