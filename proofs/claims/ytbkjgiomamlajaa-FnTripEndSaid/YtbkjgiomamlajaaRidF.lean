/- Trips: TripStops and TripEnd, the program's. -/
import Derived.Test.YtbkjgiomamlajaaRidE
namespace Go.Proofs.Ytbkjgiomamlajaa
open Go.RowKit

/-- TripStops, TripEnd, for all arguments. -/
noncomputable def stopsB (t : Tp) : Int := if tripB t then stopsT t else -1
noncomputable def endB (t : Tp) : Tp := if tripB t then endT t else ⟨0, 0, 0, 0, []⟩
theorem stopsB_no {t : Tp} (h : tripB t = false) : stopsB t = -1 := by unfold stopsB; rw [h]; rfl
theorem stopsB_yes {t : Tp} (h : tripB t = true) : stopsB t = stopsT t := by unfold stopsB; rw [h]; rfl
theorem endB_no {t : Tp} (h : tripB t = false) : endB t = ⟨0, 0, 0, 0, []⟩ := by unfold endB; rw [h]; rfl
theorem endB_yes {t : Tp} (h : tripB t = true) : endB t = endT t := by unfold endB; rw [h]; rfl
theorem endB_len (t : Tp) : ((endB t).rs.length : Int) ≤ 8 := by
  cases h : tripB t
  · rw [endB_no h]; simp
  · have hp := tripB_iff.1 h
    rw [endB_yes h, (end_good t hp).2.2.1]
    have := hp.2.2.2.2.1; omega
theorem stepB_end {t : Tp} (h : tripP t) (hs : stepO t = none) : stepB t = (t, false) := by unfold stepB; rw [tripB_iff.2 h, hs]; rfl
theorem stepB_on {t t' : Tp} (h : tripP t) (hs : stepO t = some t') : stepB t = (t', true) := by unfold stepB; rw [tripB_iff.2 h, hs]; rfl
theorem onlyW5' {g : Nat} {w W : World} {a b c d x : Value} (hW : W = (((((w.setCell ⟨g, 0, none⟩ a).setCell ⟨g, 1, none⟩ b).setCell ⟨g, 2, none⟩ c).setCell ⟨g, 3, none⟩ d).setCell ⟨g, 4, none⟩ x)) : Only g (g + 1) w W := by rw [hW]; exact onlyW5 _ _ _ _ _ _
theorem Box.setW5 {w : World} {g : Nat} {a b c d x : Value} (h : Box w g #[a, b, c, d, x]) (a' b' c' d' x' : Value) : Box (((((w.setCell ⟨g, 0, none⟩ a').setCell ⟨g, 1, none⟩ b').setCell ⟨g, 2, none⟩ c').setCell ⟨g, 3, none⟩ d').setCell ⟨g, 4, none⟩ x') g #[a', b', c', d', x'] := ((((h.set 0 a').set 1 b').set 2 c').set 3 d').set 4 x'
/-- i stops were made, t' is left to do. -/
def Made (t t' : Tp) (i : Int) : Prop := tripP t' ∧ 0 ≤ i ∧ i ≤ 16 ∧ i + stopsT t' = stopsT t ∧ endT t' = endT t
theorem Made.start {t : Tp} (h : tripP t) : Made t t 0 := ⟨h, Int.le_refl _, by omega, by omega, rfl⟩
theorem Made.done {t t' : Tp} {i : Int} (h : Made t t' i) (hs : stepO t' = none) : i = stopsT t ∧ t' = endT t := by
  obtain ⟨hp, h0, h1, h2, h3⟩ := h
  obtain ⟨a, b⟩ := run_none hs
  exact ⟨by omega, by rw [← h3, a]⟩
theorem stops_16 {t : Tp} (h : tripP t) : stopsT t ≤ 16 := by
  have := (stops_bd t h).2
  have h8 := h.2.2.2.2.1
  have hs : inN 0 t.rs + inN 1 t.rs ≤ t.rs.length := by
    clear h h8 this
    generalize t.rs = l
    induction l with
    | nil => simp [inN_nil]
    | cons r rest ih => rw [inN_cons, inN_cons, List.length_cons]; split <;> split <;> omega
  unfold measT at this
  have := inN_bd 0 t.rs; have := inN_bd 1 t.rs
  omega
theorem Made.step {t t' t2 : Tp} {i : Int} (h : Made t t' i) (ht : tripP t) (hs : stepO t' = some t2) : Made t t2 (i + 1) ∧ (measT t2).toNat < (measT t').toNat ∧ i ≤ 15 := by
  obtain ⟨hp, h0, h1, h2, h3⟩ := h
  obtain ⟨a, b⟩ := stepO_cases hp hs
  obtain ⟨c, d⟩ := run_some hp hs
  have := measT_nonneg t2
  have h16 := stops_16 ht
  have := (stops_bd t2 a).1
  exact ⟨⟨a, by omega, by omega, by omega, by rw [← h3, c]⟩, by omega, by omega⟩
set_option maxHeartbeats 4000000 in
theorem implTripStops (A : Option Addr) (c : Nat) (t : Tp) (w : World) (h : Rds w A t.rs) (hl : (t.rs.length : Int) ≤ 9223372036854775807) :
    Calls Try.prog 40 #[.agg #[.int .i64 t.n, .int .i64 t.room, .int .i64 t.f, .int .i64 t.d, .slice A t.rs.length c]] w fun e w' => e = .returned (.int .i64 (stopsB t)) ∧ Below w.heap.size w w' := by
  have H := hide h; clear h
  go_enter Try.func40, Try.ntmps40
  go_wp2_with fail
  refine calls_name fun W hW => ?_
  have X1 := hide (Box.new' (g := w.heap.size) hW rfl)
  have BW : Hid (Below w.heap.size w W) := by rw [hW]; exact (Below.refl _ _).alloc (Nat.le_refl _) _
  have z0 := X1.out.lt
  clear hW
  refine (implTripValid A c t _ (H.out.below BW.out) hl).mono ?_
  rintro e w1 ⟨rfl, b⟩
  have z1 := b.size
  replace X1 := hide (X1.out.below b)
  replace BW := hide (bthen BW.out b)
  clear b
  cases hv : tripB t
  · have HE := hide (stopsB_no hv)
    go_wp2_with fail
    go_ret
    exact ⟨ret_int HE.out.symm, BW.out⟩
  have HE := hide (stopsB_yes hv)
  have HP := hide (tripB_iff.1 hv)
  have HM := hide (Made.start HP.out)
  have H1 := hide (H.out.below BW.out)
  clear hv
  go_wp2_with fail
  go_loopg [3] (measT t).toNat (fun n v wr => ∃ (A' : Option Addr) (c' : Nat) (t' : Tp) (i : Int), n = (measT t').toNat ∧ v = .int .i64 i ∧ Hid (Made t t' i) ∧ Hid (Rds wr A' t'.rs) ∧ Hid (Box wr w.heap.size #[.int .i64 t'.n, .int .i64 t'.room, .int .i64 t'.f, .int .i64 t'.d, .slice A' t'.rs.length c']) ∧ Hid (Below w.heap.size w wr) ∧ w1.heap.size ≤ wr.heap.size)
  case atStart => exact ⟨A, c, t, 0, rfl, rfl, HM, H1, X1, BW, Nat.le_refl _⟩
  case round =>
    clear X1 BW HM H1
    obtain ⟨A', c', t', i, rfl, rfl, HM, H1, X1, BW, zr⟩ := hrel
    have X1_lt := X1.out.lt
    have X1_c0 := X1.out.at (i := 0) rfl; have X1_f0 := X1.out.frozen 0
    have X1_c1 := X1.out.at (i := 1) rfl; have X1_f1 := X1.out.frozen 1
    have X1_c2 := X1.out.at (i := 2) rfl; have X1_f2 := X1.out.frozen 2
    have X1_c3 := X1.out.at (i := 3) rfl; have X1_f3 := X1.out.frozen 3
    have X1_c4 := X1.out.at (i := 4) rfl; have X1_f4 := X1.out.frozen 4
    go_wp2_with fail
    clear X1_lt X1_c0 X1_f0 X1_c1 X1_f1 X1_c2 X1_f2 X1_c3 X1_f3 X1_c4 X1_f4
    refine (implTripStep A' c' t' _ H1.out (by have := HM.out.1.2.2.2.2.1; omega)).mono ?_
    rintro e w2 ⟨A2, c2, rfl, R, b⟩
    have z2 := b.size
    replace X1 := hide (X1.out.below b)
    replace BW := hide (bthen BW.out b)
    clear b
    clear H1
    cases hs : stepO t' with
    | none =>
      have HD := hide (HM.out.done hs).1
      rw [stepB_end HM.out.1 hs] at R ⊢
      clear hs R
      go_wp2_with fail
      go_ret
      exact ⟨ret_int (by rw [HE.out]; exact HD.out), by first | exact BW.out.alloc (by omega) _ | exact BW.out⟩
    | some t2 =>
      obtain ⟨hm2, hms, hi⟩ := HM.out.step HP.out hs
      have h0 := HM.out.2.1
      rw [stepB_on HM.out.1 hs] at R ⊢
      replace R := hide R
      replace HM := hide hm2
      clear hs hm2
      go_upto_region 7 with fail
      refine code_name fun W3 hW => ?_
      have X4 := hide (Box.new' (g := w2.heap.size) hW rfl)
      have b : Below w2.heap.size w2 W3 := by rw [hW]; exact (Below.refl _ _).alloc (Nat.le_refl _) _
      have z3 := X4.out.lt
      replace X1 := hide (X1.out.below b)
      replace R := hide (R.out.below b)
      replace BW := hide (bthen BW.out b)
      clear b
      clear hW
      have ew : IntKind.i64.wrap (i + 1) = i + 1 := IntWalk.i64_in _ (by omega)
      have X1_lt := X1.out.lt
      have X1_c0 := X1.out.at (i := 0) rfl; have X1_f0 := X1.out.frozen 0
      have X1_c1 := X1.out.at (i := 1) rfl; have X1_f1 := X1.out.frozen 1
      have X1_c2 := X1.out.at (i := 2) rfl; have X1_f2 := X1.out.frozen 2
      have X1_c3 := X1.out.at (i := 3) rfl; have X1_f3 := X1.out.frozen 3
      have X1_c4 := X1.out.at (i := 4) rfl; have X1_f4 := X1.out.frozen 4
      have X4_lt := X4.out.lt
      have X4_c0 := X4.out.at (i := 0) rfl; have X4_f0 := X4.out.frozen 0
      have X4_c1 := X4.out.at (i := 1) rfl; have X4_f1 := X4.out.frozen 1
      have X4_c2 := X4.out.at (i := 2) rfl; have X4_f2 := X4.out.frozen 2
      have X4_c3 := X4.out.at (i := 3) rfl; have X4_f3 := X4.out.frozen 3
      have X4_c4 := X4.out.at (i := 4) rfl; have X4_f4 := X4.out.frozen 4
      go_wp2_with fail
      go_roundg (measT t2).toNat
      case measure => exact hms
      case rel =>
        have o := onlyW5 (g := w.heap.size) W3 (.int .i64 t2.n) (.int .i64 t2.room) (.int .i64 t2.f) (.int .i64 t2.d) (.slice A2 t2.rs.length c2)
        exact ⟨A2, c2, t2, i + 1, rfl, rfl, HM, (R.out.only o (by omega)).rds, X1.out.setW5 _ _ _ _ _, Only.then BW.out o (by omega) (by omega), by simp; omega⟩
theorem stepB_cases (t : Tp) : stepB t = (endB t, false) ∨ ∃ t2, stepB t = (t2, true) ∧ endB t2 = endB t ∧ (measT t2).toNat < (measT t).toNat ∧ t2.rs.length ≤ 8 := by
  cases h : tripB t
  · exact .inl (by rw [stepB_no h, endB_no h])
  · have hp := tripB_iff.1 h
    cases hs : stepO t with
    | none => exact .inl (by rw [stepB_end hp hs, endB_yes h, (run_none hs).1])
    | some t2 =>
      obtain ⟨a, b⟩ := stepO_cases hp hs
      have := measT_nonneg t2
      exact .inr ⟨t2, stepB_on hp hs, by rw [endB_yes h, endB_yes (tripB_iff.2 a), (run_some hp hs).1], by omega, a.2.2.2.2.1⟩
def GivesE (D : Tp) (w : World) (e : Ending) (w' : World) : Prop := ∃ A' c', e = .returned (.agg #[.int .i64 D.n, .int .i64 D.room, .int .i64 D.f, .int .i64 D.d, .slice A' D.rs.length c']) ∧ RW w.heap.size w'.heap.size w' A' D.rs ∧ Below w.heap.size w w'
set_option maxHeartbeats 4000000 in
theorem implTripEnd (A : Option Addr) (c : Nat) (t : Tp) (w : World) (h : Rds w A t.rs) (hl : (t.rs.length : Int) ≤ 9223372036854775807) :
    Calls Try.prog 14 #[.agg #[.int .i64 t.n, .int .i64 t.room, .int .i64 t.f, .int .i64 t.d, .slice A t.rs.length c]] w (GivesE (endB t) w) := by
  have H := hide h; clear h
  go_enter Try.func14, Try.ntmps14
  go_wp2_with fail
  refine code_name fun W hW => ?_
  have X1 : Hid (Box W w.heap.size #[.int .i64 t.n, .int .i64 t.room, .int .i64 t.f, .int .i64 t.d, .slice A t.rs.length c]) := by rw [hW]; exact (Box.new rfl).alloc _
  have X2 : Hid (Box W (w.heap.size + 1) #[.int .i64 0, .int .i64 0, .int .i64 0, .int .i64 0, .slice none 0 0]) := by rw [hW]; exact Box.new (by simp)
  have BW : Hid (Below w.heap.size w W) := by rw [hW]; exact ((Below.refl _ _).alloc (Nat.le_refl _) _).alloc (by simp) _
  have z0 : w.heap.size + 1 < W.heap.size := by rw [hW]; simp
  clear hW
  have H1 := hide (H.out.below BW.out)
  go_loopg [4] (measT t).toNat (fun n v wr => ∃ (A' : Option Addr) (c' : Nat) (t' : Tp), n = (measT t').toNat ∧ Hid (endB t' = endB t) ∧ Hid (Rds wr A' t'.rs) ∧ Hid ((t'.rs.length : Int) ≤ 9223372036854775807) ∧ Hid (Box wr w.heap.size #[.int .i64 t'.n, .int .i64 t'.room, .int .i64 t'.f, .int .i64 t'.d, .slice A' t'.rs.length c']) ∧ Hid (Box wr (w.heap.size + 1) #[.int .i64 0, .int .i64 0, .int .i64 0, .int .i64 0, .slice none 0 0]) ∧ Hid (Below w.heap.size w wr) ∧ W.heap.size ≤ wr.heap.size)
  case atStart => exact ⟨A, c, t, rfl, rfl, H1, hl, X1, X2, BW, Nat.le_refl _⟩
  case round =>
    clear X1 X2 BW H1
    obtain ⟨A', c', t', rfl, HE, H1, HL, X1, X2, BW, zr⟩ := hrel
    have X1_lt := X1.out.lt
    have X1_c0 := X1.out.at (i := 0) rfl; have X1_f0 := X1.out.frozen 0
    have X1_c1 := X1.out.at (i := 1) rfl; have X1_f1 := X1.out.frozen 1
    have X1_c2 := X1.out.at (i := 2) rfl; have X1_f2 := X1.out.frozen 2
    have X1_c3 := X1.out.at (i := 3) rfl; have X1_f3 := X1.out.frozen 3
    have X1_c4 := X1.out.at (i := 4) rfl; have X1_f4 := X1.out.frozen 4
    go_wp2_with fail
    clear X1_lt X1_c0 X1_f0 X1_c1 X1_f1 X1_c2 X1_f2 X1_c3 X1_f3 X1_c4 X1_f4
    refine (implTripStep A' c' t' _ H1.out HL.out).mono ?_
    rintro e w2 ⟨A2, c2, rfl, R, b⟩
    have z2 := b.size
    replace X1 := hide (X1.out.below b)
    replace X2 := hide (X2.out.below b)
    replace BW := hide (bthen BW.out b)
    clear b
    clear H1 HL
    rcases stepB_cases t' with hs | ⟨t2, hs, he, hms, h8⟩
    · rw [hs, HE.out] at R ⊢
      replace R := hide R
      clear hs
      go_upto_region 3 with fail
      refine code_name fun W3 hW => ?_
      have X4 := hide (Box.new' (g := w2.heap.size) hW rfl)
      have b : Below w2.heap.size w2 W3 := by rw [hW]; exact (Below.refl _ _).alloc (Nat.le_refl _) _
      have z3 := X4.out.lt
      replace X2 := hide (X2.out.below b)
      replace R := hide (R.out.below b)
      replace BW := hide (bthen BW.out b)
      clear b
      clear hW
      have X2_lt := X2.out.lt
      have X2_c0 := X2.out.at (i := 0) rfl; have X2_f0 := X2.out.frozen 0
      have X2_c1 := X2.out.at (i := 1) rfl; have X2_f1 := X2.out.frozen 1
      have X2_c2 := X2.out.at (i := 2) rfl; have X2_f2 := X2.out.frozen 2
      have X2_c3 := X2.out.at (i := 3) rfl; have X2_f3 := X2.out.frozen 3
      have X2_c4 := X2.out.at (i := 4) rfl; have X2_f4 := X2.out.frozen 4
      have X4_lt := X4.out.lt
      have X4_c0 := X4.out.at (i := 0) rfl; have X4_f0 := X4.out.frozen 0
      have X4_c1 := X4.out.at (i := 1) rfl; have X4_f1 := X4.out.frozen 1
      have X4_c2 := X4.out.at (i := 2) rfl; have X4_f2 := X4.out.frozen 2
      have X4_c3 := X4.out.at (i := 3) rfl; have X4_f3 := X4.out.frozen 3
      have X4_c4 := X4.out.at (i := 4) rfl; have X4_f4 := X4.out.frozen 4
      go_wp2_with fail
      refine bodyPost_ret (by simp [results, Try.results14, go_sem, X2_c0, X2_c1, X2_c2, X2_c3, X2_c4]; rfl) rfl ?_
      have o := onlyW5 (g := w.heap.size + 1) W3 (.int .i64 (endB t).n) (.int .i64 (endB t).room) (.int .i64 (endB t).f) (.int .i64 (endB t).d) (.slice A2 (endB t).rs.length c2)
      exact ⟨A2, c2, rfl, (R.out.only o (by omega)).mono (by omega) (by simp; omega), Only.then BW.out o (by omega) (by omega)⟩
    · rw [hs] at R ⊢
      replace R := hide R
      replace HE := hide (he.trans HE.out)
      clear hs he
      go_upto_region 4 with fail
      refine code_name fun W3 hW => ?_
      have X4 := hide (Box.new' (g := w2.heap.size) hW rfl)
      have b : Below w2.heap.size w2 W3 := by rw [hW]; exact (Below.refl _ _).alloc (Nat.le_refl _) _
      have z3 := X4.out.lt
      replace X1 := hide (X1.out.below b)
      replace X2 := hide (X2.out.below b)
      replace R := hide (R.out.below b)
      replace BW := hide (bthen BW.out b)
      clear b
      clear hW
      have X1_lt := X1.out.lt
      have X1_c0 := X1.out.at (i := 0) rfl; have X1_f0 := X1.out.frozen 0
      have X1_c1 := X1.out.at (i := 1) rfl; have X1_f1 := X1.out.frozen 1
      have X1_c2 := X1.out.at (i := 2) rfl; have X1_f2 := X1.out.frozen 2
      have X1_c3 := X1.out.at (i := 3) rfl; have X1_f3 := X1.out.frozen 3
      have X1_c4 := X1.out.at (i := 4) rfl; have X1_f4 := X1.out.frozen 4
      have X4_lt := X4.out.lt
      have X4_c0 := X4.out.at (i := 0) rfl; have X4_f0 := X4.out.frozen 0
      have X4_c1 := X4.out.at (i := 1) rfl; have X4_f1 := X4.out.frozen 1
      have X4_c2 := X4.out.at (i := 2) rfl; have X4_f2 := X4.out.frozen 2
      have X4_c3 := X4.out.at (i := 3) rfl; have X4_f3 := X4.out.frozen 3
      have X4_c4 := X4.out.at (i := 4) rfl; have X4_f4 := X4.out.frozen 4
      go_wp2_with fail
      go_roundg (measT t2).toNat
      case measure => exact hms
      case rel =>
        have o := onlyW5 (g := w.heap.size) W3 (.int .i64 t2.n) (.int .i64 t2.room) (.int .i64 t2.f) (.int .i64 t2.d) (.slice A2 t2.rs.length c2)
        exact ⟨A2, c2, t2, rfl, HE, (R.out.only o (by omega)).rds, (by unfold Hid; omega), X1.out.setW5 _ _ _ _ _, X2.out.only o (by omega), Only.then BW.out o (by omega) (by omega), by simp; omega⟩
theorem implTripEnd_at (A : Option Addr) (c : Nat) (t : Tp) (D : Tp) (hD : D = endB t) (w : World) (h : Rds w A t.rs) (hl : (t.rs.length : Int) ≤ 9223372036854775807) :
    Calls Try.prog 14 #[.agg #[.int .i64 t.n, .int .i64 t.room, .int .i64 t.f, .int .i64 t.d, .slice A t.rs.length c]] w (GivesE D w) := by subst hD; exact implTripEnd A c t w h hl
end Go.Proofs.Ytbkjgiomamlajaa
