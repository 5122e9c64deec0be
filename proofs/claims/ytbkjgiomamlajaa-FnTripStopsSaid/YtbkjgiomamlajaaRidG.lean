/- Trips: TripStops and TripEnd, the reference's. -/
import Derived.Test.YtbkjgiomamlajaaRidF
import Derived.Test.YtbkjgiomamlajaaRidS
namespace Go.Proofs.Ytbkjgiomamlajaa
open Go.RowKit

/-- x: t' is a trip that has just been stepped to, i stops were told so far. -/
def Told (t t' : Tp) (i : Int) (x : Bool) : Prop := (x = true ∧ 0 ≤ i ∧ Made t t' (i + 1)) ∨ (x = false ∧ i = stopsT t ∧ t'.rs.length ≤ 8)
def tellN (t : Tp) (x : Bool) : Nat := if x then (measT t).toNat + 1 else 0
theorem Told.next {t t' : Tp} {i : Int} (ht : tripP t) (h : Made t t' i) : Told t (stepB t').1 i (stepB t').2 ∧ tellN (stepB t').1 (stepB t').2 < (measT t').toNat + 1 := by
  cases hs : stepO t' with
  | none => rw [stepB_end h.1 hs]; exact ⟨.inr ⟨rfl, (h.done hs).1, h.1.2.2.2.2.1⟩, by simp [tellN]⟩
  | some t2 =>
    obtain ⟨a, b, c⟩ := h.step ht hs
    rw [stepB_on h.1 hs]
    exact ⟨.inl ⟨rfl, h.2.1, a⟩, by show (measT t2).toNat + 1 < _; omega⟩
theorem Made.zero {t t' : Tp} (h : Made t t' (stopsT t)) : t' = endT t := by
  cases hs : stepO t' with
  | none => exact (h.done hs).2
  | some t2 =>
    obtain ⟨hp, h0, h1, h2, h3⟩ := h
    obtain ⟨c, d⟩ := run_some hp hs
    have := (stops_bd t2 (stepO_cases hp hs).1).1
    omega
theorem Made.more {t t' : Tp} {i : Int} (h : Made t t' i) (ht : tripP t) (hi : i < stopsT t) : ∃ t2, stepB t' = (t2, true) ∧ Made t t2 (i + 1) ∧ t2.rs.length ≤ 8 := by
  cases hs : stepO t' with
  | none => have := (h.done hs).1; omega
  | some t2 => exact ⟨t2, stepB_on h.1 hs, (h.step ht hs).1, (h.step ht hs).1.1.2.2.2.2.1⟩
set_option maxHeartbeats 4000000 in
theorem specTripStops (A : Option Addr) (c : Nat) (t : Tp) (w : World) (h : Rds w A t.rs) (hl : (t.rs.length : Int) ≤ 9223372036854775807) :
    Calls Try.prog 39 #[.agg #[.int .i64 t.n, .int .i64 t.room, .int .i64 t.f, .int .i64 t.d, .slice A t.rs.length c]] w fun e w' => e = .returned (.int .i64 (stopsB t)) ∧ Below w.heap.size w w' := by
  have H := hide h; clear h
  go_enter Try.func39, Try.ntmps39
  go_wp2_with fail
  refine calls_name fun W hW => ?_
  have X1 := hide (Box.new' (g := w.heap.size) hW rfl)
  have BW : Hid (Below w.heap.size w W) := by rw [hW]; exact (Below.refl _ _).alloc (Nat.le_refl _) _
  have z0 := X1.out.lt
  clear hW
  refine (specTripValid A c t _ (H.out.below BW.out) hl).mono ?_
  rintro e w1 ⟨rfl, b⟩
  have z1 := b.size
  replace X1 := hide (X1.out.below b)
  replace BW := hide (bthen BW.out b)
  clear b
  cases hv : tripB t
  · have HE := hide (stopsB_no hv)
    go_wp2_with fail
    go_ret
    exact ⟨ret_int HE.out.symm, BW.out⟩
  have HE := hide (stopsB_yes hv)
  have HP := hide (tripB_iff.1 hv)
  clear hv
  have X1_lt := X1.out.lt
  have X1_c0 := X1.out.at (i := 0) rfl; have X1_f0 := X1.out.frozen 0
  have X1_c1 := X1.out.at (i := 1) rfl; have X1_f1 := X1.out.frozen 1
  have X1_c2 := X1.out.at (i := 2) rfl; have X1_f2 := X1.out.frozen 2
  have X1_c3 := X1.out.at (i := 3) rfl; have X1_f3 := X1.out.frozen 3
  have X1_c4 := X1.out.at (i := 4) rfl; have X1_f4 := X1.out.frozen 4
  go_wp2_with fail
  clear X1_lt X1_c0 X1_f0 X1_c1 X1_f1 X1_c2 X1_f2 X1_c3 X1_f3 X1_c4 X1_f4
  refine (specTripStep A c t _ (H.out.below BW.out) hl).mono ?_
  rintro e w2 ⟨A2, c2, rfl, R, b⟩
  have z2 := b.size
  replace X1 := hide (X1.out.below b)
  replace BW := hide (bthen BW.out b)
  clear b
  replace R := hide R.rds
  obtain ⟨hT, -⟩ := Told.next HP.out (Made.start HP.out)
  generalize stepB t = s at hT R
  obtain ⟨t1, x1⟩ := s
  have HT := hide hT
  clear hT
  go_upto_region 5 with fail
  refine code_name fun W3 hW => ?_
  have X4 := hide (Box.new' (g := w2.heap.size) hW rfl)
  have b : Below w2.heap.size w2 W3 := by rw [hW]; exact (Below.refl _ _).alloc (Nat.le_refl _) _
  have z3 := X4.out.lt
  replace R := hide (R.out.below b)
  replace BW := hide (bthen BW.out b)
  clear b
  clear hW X1
  go_loopg [3, 5] (tellN t1 x1) (fun n v1 v2 wr => ∃ (A' : Option Addr) (c' : Nat) (t' : Tp) (i : Int) (x : Bool), n = tellN t' x ∧ v1 = .int .i64 i ∧ v2 = .bool x ∧ Hid (Told t t' i x) ∧ Hid (Rds wr A' t'.rs) ∧ Hid (Box wr w2.heap.size #[.int .i64 t'.n, .int .i64 t'.room, .int .i64 t'.f, .int .i64 t'.d, .slice A' t'.rs.length c']) ∧ Hid (Below w.heap.size w wr) ∧ W3.heap.size ≤ wr.heap.size)
  case atStart => exact ⟨A2, c2, t1, 0, x1, rfl, rfl, rfl, HT, R, X4, BW, Nat.le_refl _⟩
  case round =>
    clear X4 BW HT R
    obtain ⟨A', c', t', i, x, rfl, rfl, rfl, HT, R, X4, BW, zr⟩ := hrel
    rcases HT.out with ⟨rfl, hi0, hM⟩ | ⟨rfl, rfl, -⟩
    rotate_left
    · go_wp2_with fail
      go_ret
      exact ⟨ret_int HE.out.symm, BW.out⟩
    have HM := hide hM
    have hi16 := hM.2.2.1
    have ew : IntKind.i64.wrap (i + 1) = i + 1 := IntWalk.i64_in _ (by omega)
    clear hM HT
    have X4_lt := X4.out.lt
    have X4_c0 := X4.out.at (i := 0) rfl; have X4_f0 := X4.out.frozen 0
    have X4_c1 := X4.out.at (i := 1) rfl; have X4_f1 := X4.out.frozen 1
    have X4_c2 := X4.out.at (i := 2) rfl; have X4_f2 := X4.out.frozen 2
    have X4_c3 := X4.out.at (i := 3) rfl; have X4_f3 := X4.out.frozen 3
    have X4_c4 := X4.out.at (i := 4) rfl; have X4_f4 := X4.out.frozen 4
    go_wp2_with fail
    clear X4_lt X4_c0 X4_f0 X4_c1 X4_f1 X4_c2 X4_f2 X4_c3 X4_f3 X4_c4 X4_f4
    refine (specTripStep A' c' t' _ R.out (by have := HM.out.1.2.2.2.2.1; omega)).mono ?_
    rintro e w4 ⟨A3, c3, rfl, R2, b⟩
    have z4 := b.size
    replace X4 := hide (X4.out.below b)
    replace BW := hide (bthen BW.out b)
    clear b
    obtain ⟨hT, hms⟩ := Told.next HP.out HM.out
    generalize stepB t' = s at hT hms R2
    obtain ⟨t2, x2⟩ := s
    replace R2 := hide R2
    have HT := hide hT
    clear hT R
    go_upto_region 8 with fail
    refine code_name fun W5 hW => ?_
    have X6 := hide (Box.new' (g := w4.heap.size) hW rfl)
    have b : Below w4.heap.size w4 W5 := by rw [hW]; exact (Below.refl _ _).alloc (Nat.le_refl _) _
    have z5 := X6.out.lt
    replace X4 := hide (X4.out.below b)
    replace R2 := hide (R2.out.below b)
    replace BW := hide (bthen BW.out b)
    clear b
    clear hW
    have X4_lt := X4.out.lt
    have X4_c0 := X4.out.at (i := 0) rfl; have X4_f0 := X4.out.frozen 0
    have X4_c1 := X4.out.at (i := 1) rfl; have X4_f1 := X4.out.frozen 1
    have X4_c2 := X4.out.at (i := 2) rfl; have X4_f2 := X4.out.frozen 2
    have X4_c3 := X4.out.at (i := 3) rfl; have X4_f3 := X4.out.frozen 3
    have X4_c4 := X4.out.at (i := 4) rfl; have X4_f4 := X4.out.frozen 4
    have X6_lt := X6.out.lt
    have X6_c0 := X6.out.at (i := 0) rfl; have X6_f0 := X6.out.frozen 0
    have X6_c1 := X6.out.at (i := 1) rfl; have X6_f1 := X6.out.frozen 1
    have X6_c2 := X6.out.at (i := 2) rfl; have X6_f2 := X6.out.frozen 2
    have X6_c3 := X6.out.at (i := 3) rfl; have X6_f3 := X6.out.frozen 3
    have X6_c4 := X6.out.at (i := 4) rfl; have X6_f4 := X6.out.frozen 4
    go_wp2_with fail
    go_roundg (tellN t2 x2)
    case measure => simpa [tellN] using hms
    case rel =>
      have o := onlyW5 (g := w2.heap.size) W5 (.int .i64 t2.n) (.int .i64 t2.room) (.int .i64 t2.f) (.int .i64 t2.d) (.slice A3 t2.rs.length c3)
      exact ⟨A3, c3, t2, i + 1, x2, rfl, rfl, rfl, HT, (R2.out.only o (by omega)).rds, X4.out.setW5 _ _ _ _ _, Only.then BW.out o (by omega) (by omega), by simp; omega⟩
set_option maxHeartbeats 4000000 in
theorem specTripEnd (A : Option Addr) (c : Nat) (t : Tp) (w : World) (h : Rds w A t.rs) (hl : (t.rs.length : Int) ≤ 9223372036854775807) :
    Calls Try.prog 16 #[.agg #[.int .i64 t.n, .int .i64 t.room, .int .i64 t.f, .int .i64 t.d, .slice A t.rs.length c]] w (GivesE (endB t) w) := by
  have H := hide h; clear h
  go_enter Try.func16, Try.ntmps16
  go_wp2_with fail
  refine calls_name fun W hW => ?_
  have X1 : Hid (Box W w.heap.size #[.int .i64 t.n, .int .i64 t.room, .int .i64 t.f, .int .i64 t.d, .slice A t.rs.length c]) := by rw [hW]; exact (Box.new rfl).alloc _
  have X2 : Hid (Box W (w.heap.size + 1) #[.int .i64 0, .int .i64 0, .int .i64 0, .int .i64 0, .slice none 0 0]) := by rw [hW]; exact Box.new (by simp)
  have BW : Hid (Below w.heap.size w W) := by rw [hW]; exact ((Below.refl _ _).alloc (Nat.le_refl _) _).alloc (by simp) _
  have z0 : w.heap.size + 1 < W.heap.size := by rw [hW]; simp
  clear hW
  refine (specTripStops A c t _ (H.out.below BW.out) hl).mono ?_
  rintro e w1 ⟨rfl, b⟩
  have z1 := b.size
  replace X1 := hide (X1.out.below b)
  replace X2 := hide (X2.out.below b)
  replace BW := hide (bthen BW.out b)
  clear b
  cases hv : tripB t
  · have HE := hide (endB_no hv)
    rw [stopsB_no hv]
    have X2_lt := X2.out.lt
    have X2_c0 := X2.out.at (i := 0) rfl; have X2_f0 := X2.out.frozen 0
    have X2_c1 := X2.out.at (i := 1) rfl; have X2_f1 := X2.out.frozen 1
    have X2_c2 := X2.out.at (i := 2) rfl; have X2_f2 := X2.out.frozen 2
    have X2_c3 := X2.out.at (i := 3) rfl; have X2_f3 := X2.out.frozen 3
    have X2_c4 := X2.out.at (i := 4) rfl; have X2_f4 := X2.out.frozen 4
    go_wp2_with fail
    refine bodyPost_ret (by simp [results, Try.results16, go_sem, X2_c0, X2_c1, X2_c2, X2_c3, X2_c4]; rfl) rfl ?_
    rw [HE.out]
    exact ⟨none, 0, rfl, RW.empty _ _ _ _, Only.then BW.out (onlyW5 _ _ _ _ _ _) (by omega) (by omega)⟩
  have HE := hide (endB_yes hv)
  have HP := hide (tripB_iff.1 hv)
  have h8 : t.rs.length ≤ 8 := HP.out.2.2.2.2.1
  obtain ⟨S, hS⟩ : ∃ S, S = stopsT t := ⟨_, rfl⟩
  rw [stopsB_yes hv, ← hS]
  have hS0 : 0 ≤ S ∧ S ≤ 16 := by have := (stops_bd t HP.out).1; have := stops_16 HP.out; omega
  have HS := hide hS
  clear hv hS
  have X1_lt := X1.out.lt
  have X1_c0 := X1.out.at (i := 0) rfl; have X1_f0 := X1.out.frozen 0
  have X1_c1 := X1.out.at (i := 1) rfl; have X1_f1 := X1.out.frozen 1
  have X1_c2 := X1.out.at (i := 2) rfl; have X1_f2 := X1.out.frozen 2
  have X1_c3 := X1.out.at (i := 3) rfl; have X1_f3 := X1.out.frozen 3
  have X1_c4 := X1.out.at (i := 4) rfl; have X1_f4 := X1.out.frozen 4
  go_upto_region 5 with fail
  clear X1_lt X1_c0 X1_f0 X1_c1 X1_f1 X1_c2 X1_f2 X1_c3 X1_f3 X1_c4 X1_f4
  refine code_name fun W3 hW => ?_
  have X4 := hide (Box.new' (g := w1.heap.size) hW rfl)
  have b : Below w1.heap.size w1 W3 := by rw [hW]; exact (Below.refl _ _).alloc (Nat.le_refl _) _
  have z3 := X4.out.lt
  replace X1 := hide (X1.out.below b)
  replace X2 := hide (X2.out.below b)
  replace BW := hide (bthen BW.out b)
  clear b
  clear hW
  have X1_lt := X1.out.lt
  have X1_c0 := X1.out.at (i := 0) rfl; have X1_f0 := X1.out.frozen 0
  have X1_c1 := X1.out.at (i := 1) rfl; have X1_f1 := X1.out.frozen 1
  have X1_c2 := X1.out.at (i := 2) rfl; have X1_f2 := X1.out.frozen 2
  have X1_c3 := X1.out.at (i := 3) rfl; have X1_f3 := X1.out.frozen 3
  have X1_c4 := X1.out.at (i := 4) rfl; have X1_f4 := X1.out.frozen 4
  have b0 : Below W3.heap.size W3 (W3.alloc (.cells #[] 50)) := (Below.refl _ _).alloc (Nat.le_refl _) _
  have X4_lt := X4.out.lt
  go_upto_region 6 with (at_builtin; refine wp_appR rfl (.tmp 14) (.tmp 16) rfl W3.heap.size _ (.slice (some ⟨W3.heap.size, 0, none⟩) 0 0) [] A t.rs.length c t.rs rfl rfl rfl (OwnR.lit0 (Nat.le_refl _)) ((H.out.below BW.out).below b0) (by simp; omega) b0.size ?_; intro v' w4 hown hb; rw [List.nil_append] at hown; have b := hide (b0.trans hb); have RF := hown.form; clear hown; obtain ⟨V, cv, rfl, RG⟩ := RF; have RO := hide RG; clear RG hb; have qc4 := (X4.out.below b.out).at (i := 4) rfl; have qf4 := (X4.out.below b.out).frozen 4)
  replace b := b.out
  have z4 := b.size
  clear b0 qc4 qf4 X4_lt
  clear X1_lt X1_c0 X1_f0 X1_c1 X1_f1 X1_c2 X1_f2 X1_c3 X1_f3 X1_c4 X1_f4
  replace X2 := hide (X2.out.below b)
  replace X4 := hide (X4.out.below b)
  replace BW := hide (bthen BW.out b)
  clear b
  refine code_name fun W5 hW => ?_
  replace X4 : Hid (Box W5 w1.heap.size #[.int .i64 t.n, .int .i64 t.room, .int .i64 t.f, .int .i64 t.d, .slice V t.rs.length cv]) := Box.set' hW X4.out
  replace X2 := hide (X2.out.far' hW (by simp; omega))
  replace RO := hide (RO.out.far' hW (by simp; omega))
  replace BW := hide (below_set' hW BW.out (by simp; omega))
  have z5 : W5.heap.size = w4.heap.size := size_set' hW
  clear hW X1
  replace RO : Hid (RW W3.heap.size W5.heap.size W5 V t.rs) := RO.out.mono (Nat.le_refl _) (by omega)
  have HM := hide (Made.start HP.out)
  go_wp2_with fail
  go_loopw [5] (fun v wr => ∃ (A' : Option Addr) (c' : Nat) (t' : Tp) (i : Int), v = .int .i64 i ∧ Hid (Made t t' i) ∧ i ≤ S ∧ Hid (RW W3.heap.size wr.heap.size wr A' t'.rs) ∧ Hid (Box wr w1.heap.size #[.int .i64 t'.n, .int .i64 t'.room, .int .i64 t'.f, .int .i64 t'.d, .slice A' t'.rs.length c']) ∧ Hid (Box wr (w.heap.size + 1) #[.int .i64 0, .int .i64 0, .int .i64 0, .int .i64 0, .slice none 0 0]) ∧ Hid (Below w.heap.size w wr) ∧ W5.heap.size ≤ wr.heap.size) (fun v _ => (S - intOf v).toNat)
  case atStart => exact ⟨V, cv, t, 0, rfl, HM, hS0.1, RO, X4, X2, BW, Nat.le_refl _⟩
  case round =>
    clear X4 X2 BW HM RO
    obtain ⟨A', c', t', i, rfl, HM, hiS, RO, X4, X2, BW, zr⟩ := hrel
    have hi0 := HM.out.2.1
    by_cases hi : i < S
    · obtain ⟨t2, hs, hm, hl2⟩ := HM.out.more HP.out (by rw [← HS.out]; exact hi)
      have HM2 := hide hm
      clear hm
      have X4_lt := X4.out.lt
      have X4_c0 := X4.out.at (i := 0) rfl; have X4_f0 := X4.out.frozen 0
      have X4_c1 := X4.out.at (i := 1) rfl; have X4_f1 := X4.out.frozen 1
      have X4_c2 := X4.out.at (i := 2) rfl; have X4_f2 := X4.out.frozen 2
      have X4_c3 := X4.out.at (i := 3) rfl; have X4_f3 := X4.out.frozen 3
      have X4_c4 := X4.out.at (i := 4) rfl; have X4_f4 := X4.out.frozen 4
      go_wp2_with fail
      clear X4_lt X4_c0 X4_f0 X4_c1 X4_f1 X4_c2 X4_f2 X4_c3 X4_f3 X4_c4 X4_f4
      refine (specTripStep A' c' t' _ RO.out.rds (by have := HM.out.1.2.2.2.2.1; omega)).mono ?_
      rintro e w6 ⟨A3, c3, rfl, R2, b⟩
      rw [hs] at R2 ⊢
      replace R2 := hide R2
      have z6 := b.size
      replace X4 := hide (X4.out.below b)
      replace X2 := hide (X2.out.below b)
      replace BW := hide (bthen BW.out b)
      clear b
      clear hs RO HM
      go_upto_region 10 with fail
      refine code_name fun W7 hW => ?_
      have X6 := hide (Box.new' (g := w6.heap.size) hW rfl)
      have b : Below w6.heap.size w6 W7 := by rw [hW]; exact (Below.refl _ _).alloc (Nat.le_refl _) _
      have z7 := X6.out.lt
      replace X4 := hide (X4.out.below b)
      replace X2 := hide (X2.out.below b)
      replace R2 := hide (R2.out.below b)
      replace BW := hide (bthen BW.out b)
      clear b
      clear hW
      have ew : IntKind.i64.wrap (i + 1) = i + 1 := IntWalk.i64_in _ (by omega)
      have X4_lt := X4.out.lt
      have X4_c0 := X4.out.at (i := 0) rfl; have X4_f0 := X4.out.frozen 0
      have X4_c1 := X4.out.at (i := 1) rfl; have X4_f1 := X4.out.frozen 1
      have X4_c2 := X4.out.at (i := 2) rfl; have X4_f2 := X4.out.frozen 2
      have X4_c3 := X4.out.at (i := 3) rfl; have X4_f3 := X4.out.frozen 3
      have X4_c4 := X4.out.at (i := 4) rfl; have X4_f4 := X4.out.frozen 4
      have X6_lt := X6.out.lt
      have X6_c0 := X6.out.at (i := 0) rfl; have X6_f0 := X6.out.frozen 0
      have X6_c1 := X6.out.at (i := 1) rfl; have X6_f1 := X6.out.frozen 1
      have X6_c2 := X6.out.at (i := 2) rfl; have X6_f2 := X6.out.frozen 2
      have X6_c3 := X6.out.at (i := 3) rfl; have X6_f3 := X6.out.frozen 3
      have X6_c4 := X6.out.at (i := 4) rfl; have X6_f4 := X6.out.frozen 4
      go_wp2_with fail
      go_roundw
      case measure => simp [intOf]; omega
      case rel =>
        have o := onlyW5 (g := w1.heap.size) W7 (.int .i64 t2.n) (.int .i64 t2.room) (.int .i64 t2.f) (.int .i64 t2.d) (.slice A3 t2.rs.length c3)
        exact ⟨A3, c3, t2, i + 1, rfl, HM2, by omega, (R2.out.only o (by omega)).mono (by omega) (by simp; omega), X4.out.setW5 _ _ _ _ _, X2.out.only o (by omega), Only.then BW.out o (by omega) (by omega), by simp; omega⟩
    · obtain rfl : i = S := by omega
      have hE : t' = endT t := Made.zero (by rw [← HS.out]; exact HM.out)
      have X4_lt := X4.out.lt
      have X4_c0 := X4.out.at (i := 0) rfl; have X4_f0 := X4.out.frozen 0
      have X4_c1 := X4.out.at (i := 1) rfl; have X4_f1 := X4.out.frozen 1
      have X4_c2 := X4.out.at (i := 2) rfl; have X4_f2 := X4.out.frozen 2
      have X4_c3 := X4.out.at (i := 3) rfl; have X4_f3 := X4.out.frozen 3
      have X4_c4 := X4.out.at (i := 4) rfl; have X4_f4 := X4.out.frozen 4
      have X2_lt := X2.out.lt
      have X2_c0 := X2.out.at (i := 0) rfl; have X2_f0 := X2.out.frozen 0
      have X2_c1 := X2.out.at (i := 1) rfl; have X2_f1 := X2.out.frozen 1
      have X2_c2 := X2.out.at (i := 2) rfl; have X2_f2 := X2.out.frozen 2
      have X2_c3 := X2.out.at (i := 3) rfl; have X2_f3 := X2.out.frozen 3
      have X2_c4 := X2.out.at (i := 4) rfl; have X2_f4 := X2.out.frozen 4
      go_wp2_with fail
      refine bodyPost_ret (by simp [results, Try.results16, go_sem, X2_c0, X2_c1, X2_c2, X2_c3, X2_c4]; rfl) rfl ?_
      rw [HE.out, ← hE]
      have o := onlyW5 (g := w.heap.size + 1) wr (.int .i64 t'.n) (.int .i64 t'.room) (.int .i64 t'.f) (.int .i64 t'.d) (.slice A' t'.rs.length c')
      exact ⟨A', c', rfl, (RO.out.only o (by omega)).mono (by omega) (by simp), Only.then BW.out o (by omega) (by omega)⟩
theorem specTripEnd_at (A : Option Addr) (c : Nat) (t : Tp) (D : Tp) (hD : D = endB t) (w : World) (h : Rds w A t.rs) (hl : (t.rs.length : Int) ≤ 9223372036854775807) :
    Calls Try.prog 16 #[.agg #[.int .i64 t.n, .int .i64 t.room, .int .i64 t.f, .int .i64 t.d, .slice A t.rs.length c]] w (GivesE D w) := by subst hD; exact specTripEnd A c t w h hl
end Go.Proofs.Ytbkjgiomamlajaa
