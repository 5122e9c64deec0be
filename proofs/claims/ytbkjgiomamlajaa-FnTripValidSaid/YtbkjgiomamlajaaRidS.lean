/- Trips: TripStep, the program's and the reference's. -/
import Derived.Test.YtbkjgiomamlajaaRidN
import Derived.Test.YtbkjgiomamlajaaStopsE
import Derived.Test.YtbkjgiomamlajaaStopsL
import Derived.BigQuiet
namespace Go.Proofs.Ytbkjgiomamlajaa
open Go.RowKit

set_option maxRecDepth 100000 in
set_option maxHeartbeats 4000000 in
theorem specTripStepO (A : Option Addr) (c : Nat) (t : Tp) (w : World) (h : Rds w A t.rs) (hl : (t.rs.length : Int) ≤ 9223372036854775807) :
    Calls Try.prog 38 #[.agg #[.int .i64 t.n, .int .i64 t.room, .int .i64 t.f, .int .i64 t.d, .slice A t.rs.length c]] w (GivesTO (stepB t) w) := by
  have H := hide h; clear h
  go_enter Try.func38, Try.ntmps38
  go_wp2_with fail
  refine calls_name fun W hW => ?_
  have X1 : Hid (Box W w.heap.size #[.int .i64 t.n, .int .i64 t.room, .int .i64 t.f, .int .i64 t.d, .slice A t.rs.length c]) := by rw [hW]; exact (Box.new rfl).alloc _
  have X2 : Hid (Box W (w.heap.size + 1) #[.int .i64 0, .int .i64 0, .int .i64 0, .int .i64 0, .slice none 0 0]) := by rw [hW]; exact Box.new (by simp)
  have BW : Hid (Below w.heap.size w W) := by rw [hW]; exact ((Below.refl _ _).alloc (Nat.le_refl _) _).alloc (by simp) _
  have z0 : w.heap.size + 1 < W.heap.size := by rw [hW]; simp
  clear hW
  refine (specTripValid A c t _ (H.out.below BW.out) hl).mono ?_
  rintro e w1 ⟨rfl, b⟩
  have z1 := b.size
  replace X1 := hide (X1.out.below b)
  replace X2 := hide (X2.out.below b)
  replace BW := hide (bthen BW.out b)
  clear b
  cases hv : tripB t
  · have HE := hide (stepB_no hv)
    have X2_lt := X2.out.lt
    have X2_c0 := X2.out.at (i := 0) rfl; have X2_f0 := X2.out.frozen 0
    have X2_c1 := X2.out.at (i := 1) rfl; have X2_f1 := X2.out.frozen 1
    have X2_c2 := X2.out.at (i := 2) rfl; have X2_f2 := X2.out.frozen 2
    have X2_c3 := X2.out.at (i := 3) rfl; have X2_f3 := X2.out.frozen 3
    have X2_c4 := X2.out.at (i := 4) rfl; have X2_f4 := X2.out.frozen 4
    go_wp2_with fail
    refine bodyPost_ret (by simp [results, Try.results38, go_sem, X2_c0, X2_c1, X2_c2, X2_c3, X2_c4]; rfl) rfl ?_
    rw [HE.out]
    exact ⟨none, 0, rfl, RW.empty _ _ _ _, Only.then BW.out (onlyW5 _ _ _ _ _ _) (by omega) (by omega), fun h => by cases h⟩
  have hp := tripB_iff.1 hv
  have HV := hide hv
  have HP := hide hp
  have hn := hp.1
  have hm := hp.2.1
  have h8 : t.rs.length ≤ 8 := hp.2.2.2.2.1
  have HNX := hide (trip_next hp)
  obtain ⟨C, hC⟩ : ∃ C, C = tripCB t := ⟨_, rfl⟩
  have HC := hide hC
  have HC2 := hide (hC.trans (tripCB_yes hv))
  obtain ⟨N, hN⟩ : ∃ N, N = nextB C t.f t.d := ⟨_, rfl⟩
  have HN := hide hN
  have HN2 : Hid (nextO (tripC t) t.f t.d = N) := by unfold Hid; rw [hN, ← HNX.out, HC2.out]
  clear hp hv hC hN HNX
  have X1_lt := X1.out.lt
  have X1_c0 := X1.out.at (i := 0) rfl; have X1_f0 := X1.out.frozen 0
  have X1_c1 := X1.out.at (i := 1) rfl; have X1_f1 := X1.out.frozen 1
  have X1_c2 := X1.out.at (i := 2) rfl; have X1_f2 := X1.out.frozen 2
  have X1_c3 := X1.out.at (i := 3) rfl; have X1_f3 := X1.out.frozen 3
  have X1_c4 := X1.out.at (i := 4) rfl; have X1_f4 := X1.out.frozen 4
  go_upto_region 4 with fail
  clear X1_lt X1_c0 X1_f0 X1_c1 X1_f1 X1_c2 X1_f2 X1_c3 X1_f3 X1_c4 X1_f4
  refine code_name fun W3 hW => ?_
  have X4 := hide (Box.new' (g := w1.heap.size) hW rfl)
  have b : Below w1.heap.size w1 W3 := by rw [hW]; exact (Below.refl _ _).alloc (Nat.le_refl _) _
  have z3 := X4.out.lt
  replace X1 := hide (X1.out.below b)
  replace X2 := hide (X2.out.below b)
  replace BW := hide (bthen BW.out b)
  clear b
  clear hW
  have X1_lt := X1.out.lt
  have X1_c0 := X1.out.at (i := 0) rfl; have X1_f0 := X1.out.frozen 0
  have X1_c1 := X1.out.at (i := 1) rfl; have X1_f1 := X1.out.frozen 1
  have X1_c2 := X1.out.at (i := 2) rfl; have X1_f2 := X1.out.frozen 2
  have X1_c3 := X1.out.at (i := 3) rfl; have X1_f3 := X1.out.frozen 3
  have X1_c4 := X1.out.at (i := 4) rfl; have X1_f4 := X1.out.frozen 4
  have b0 : Below W3.heap.size W3 (W3.alloc (.cells #[] 50)) := (Below.refl _ _).alloc (Nat.le_refl _) _
  have X4_lt := X4.out.lt
  go_upto_region 5 with (at_builtin; refine wp_appR rfl (.tmp 14) (.tmp 16) rfl W3.heap.size _ (.slice (some ⟨W3.heap.size, 0, none⟩) 0 0) [] A t.rs.length c t.rs rfl rfl rfl (OwnR.lit0 (Nat.le_refl _)) ((H.out.below BW.out).below b0) (by simp; omega) b0.size ?_; intro v' w4 hown hb; rw [List.nil_append] at hown; have b := hide (b0.trans hb); have HU := hown; have RF := hown.form; clear hown; obtain ⟨V, cv, rfl, RG⟩ := RF; have RO := hide RG; have HCP := hide (Cap.ofOwn HU); clear RG hb HU; have qc4 := (X4.out.below b.out).at (i := 4) rfl; have qf4 := (X4.out.below b.out).frozen 4)
  replace b := b.out
  have z4 := b.size
  clear b0 qc4 qf4 X4_lt
  clear X1_lt X1_c0 X1_f0 X1_c1 X1_f1 X1_c2 X1_f2 X1_c3 X1_f3 X1_c4 X1_f4
  replace X1 := hide (X1.out.below b)
  replace X2 := hide (X2.out.below b)
  replace X4 := hide (X4.out.below b)
  replace BW := hide (bthen BW.out b)
  clear b
  refine code_name fun W5 hW => ?_
  replace X4 : Hid (Box W5 w1.heap.size #[.int .i64 t.n, .int .i64 t.room, .int .i64 t.f, .int .i64 t.d, .slice V t.rs.length cv]) := Box.set' hW X4.out
  replace X1 := hide (X1.out.far' hW (by simp; omega))
  replace X2 := hide (X2.out.far' hW (by simp; omega))
  replace RO := hide (RO.out.far' hW (by simp; omega))
  replace HCP := hide (HCP.out.set' hW)
  replace BW := hide (below_set' hW BW.out (by simp; omega))
  have Z5 := hide (size_set' hW)
  clear hW
  have H0 := hide (H.out.below BW.out)
  have X1_lt := X1.out.lt
  have X1_c0 := X1.out.at (i := 0) rfl; have X1_f0 := X1.out.frozen 0
  have X1_c1 := X1.out.at (i := 1) rfl; have X1_f1 := X1.out.frozen 1
  have X1_c2 := X1.out.at (i := 2) rfl; have X1_f2 := X1.out.frozen 2
  have X1_c3 := X1.out.at (i := 3) rfl; have X1_f3 := X1.out.frozen 3
  have X1_c4 := X1.out.at (i := 4) rfl; have X1_f4 := X1.out.frozen 4
  have KK : Hid (Below W5.heap.size W5 W5.drew) := (Below.refl _ _).drew
  have zzX1 := X1.out.lt
  go_cut [5] from 19 to 23 (fun s wx => ∃ g6, s = .pointer (some ⟨g6, 0, none⟩) ∧ W5.heap.size ≤ g6 ∧ Hid (Box wx g6 #[.int .i64 (stF N), .int .i64 (stD N)]) ∧ Hid (Below W5.heap.size W5 wx))
  case first =>
    go_region_held3 (fun W => W.cell? ⟨w.heap.size, 0, none⟩ = some (.int .i64 t.n) ∧ W.cell? ⟨w.heap.size, 1, none⟩ = some (.int .i64 t.room) ∧ W.cell? ⟨w.heap.size, 2, none⟩ = some (.int .i64 t.f) ∧ W.cell? ⟨w.heap.size, 3, none⟩ = some (.int .i64 t.d) ∧ W.cell? ⟨w.heap.size, 4, none⟩ = some (.slice A t.rs.length c)) (first | (go_keep; done) | with_reducible exact ⟨(X1.out.below KK.out).at (by with_unfolding_all rfl), (X1.out.below KK.out).at (by with_unfolding_all rfl), (X1.out.below KK.out).at (by with_unfolding_all rfl), (X1.out.below KK.out).at (by with_unfolding_all rfl), (X1.out.below KK.out).at (by with_unfolding_all rfl)⟩ | with_reducible exact ⟨(X1.out.below (bthen KK.out ((Below.refl _ _).alloc (Nat.le_refl _) _))).at (by with_unfolding_all rfl), (X1.out.below (bthen KK.out ((Below.refl _ _).alloc (Nat.le_refl _) _))).at (by with_unfolding_all rfl), (X1.out.below (bthen KK.out ((Below.refl _ _).alloc (Nat.le_refl _) _))).at (by with_unfolding_all rfl), (X1.out.below (bthen KK.out ((Below.refl _ _).alloc (Nat.le_refl _) _))).at (by with_unfolding_all rfl), (X1.out.below (bthen KK.out ((Below.refl _ _).alloc (Nat.le_refl _) _))).at (by with_unfolding_all rfl)⟩ | exact ⟨((X1.out.below KK.out).only (onlyW2 _ _ _) (by omega)).at rfl, ((X1.out.below KK.out).only (onlyW2 _ _ _) (by omega)).at rfl, ((X1.out.below KK.out).only (onlyW2 _ _ _) (by omega)).at rfl, ((X1.out.below KK.out).only (onlyW2 _ _ _) (by omega)).at rfl, ((X1.out.below KK.out).only (onlyW2 _ _ _) (by omega)).at rfl⟩) (first | (go_at_call 30; refine (specTripCalls_at A c t C HC.out _ ?_ hl).mono ?_; (first | exact H0.out.below KK.out | exact H0.out.below (bthen KK.out ((Below.refl _ _).alloc (Nat.le_refl _) _))); (first | have zlt := ZZ.out.lt | skip); rintro e v ⟨P0, P1, P2, p0, p1, p2, rfl, P, bb⟩; replace P := hide P; (first | (have ZZ : Hid (Box v W5.heap.size #[.int .i64 0, .int .i64 0]) := Box.below (show Box ((W5.alloc (.cells #[.int .i64 0, .int .i64 0] 24)).drew) W5.heap.size #[.int .i64 0, .int .i64 0] from (Box.new rfl).drew) bb) | replace ZZ := hide (ZZ.out.below bb) | (have zz2 := Box.newLt (cs := #[.int .i64 0, .int .i64 0]) (t := 24) bb; have zlt := zz2.2; have ZZ := hide zz2.1; clear zz2) | skip); (first | replace KK := hide (bthen KK.out bb) | replace KK := hide (bthen (bthen KK.out ((Below.refl _ _).alloc (Nat.le_refl _) _)) bb)); have zKK := KK.out.size; (first | (have jc0 := ZZ.out.at (i := 0) rfl; have jf0 := ZZ.out.frozen 0; have jc1 := ZZ.out.at (i := 1) rfl; have jf1 := ZZ.out.frozen 1) | skip); clear bb) | (go_at_call 69; refine (specNextStop P0 P1 P2 p0 p1 p2 C t.f t.d _ ?_).mono ?_; (first | exact P.out.cr | exact (P.out.below ((Below.refl _ _).alloc (Nat.le_refl _) _)).cr); rw [← HN.out, stC_eq]; (first | have zlt := ZZ.out.lt | skip); rintro e v ⟨rfl, bb⟩; (first | replace P := hide (P.out.below bb) | replace P := hide ((P.out.below ((Below.refl _ _).alloc (Nat.le_refl _) _)).below bb) | skip); (first | (have ZZ : Hid (Box v W5.heap.size #[.int .i64 0, .int .i64 0]) := Box.below (show Box ((W5.alloc (.cells #[.int .i64 0, .int .i64 0] 24)).drew) W5.heap.size #[.int .i64 0, .int .i64 0] from (Box.new rfl).drew) bb) | replace ZZ := hide (ZZ.out.below bb) | (have zz2 := Box.newLt (cs := #[.int .i64 0, .int .i64 0]) (t := 24) bb; have zlt := zz2.2; have ZZ := hide zz2.1; clear zz2) | skip); (first | replace KK := hide (bthen KK.out bb) | replace KK := hide (bthen (bthen KK.out ((Below.refl _ _).alloc (Nat.le_refl _) _)) bb)); have zKK := KK.out.size; (first | (have jc0 := ZZ.out.at (i := 0) rfl; have jf0 := ZZ.out.frozen 0; have jc1 := ZZ.out.at (i := 1) rfl; have jf1 := ZZ.out.frozen 1) | skip); clear bb))
    all_goals
      go_wp2_with fail
      go_meet
      case rel => first | exact ⟨_, rfl, by omega, Box.setW2 ZZ.out _ _, (Only.then KK.out (onlyW2 _ _ _) (by omega) (by omega))⟩ | exact ⟨_, rfl, by omega, Box.new rfl, KK.out.alloc (by omega) _⟩
  case rest =>
    obtain ⟨gw, rfl, gwl, XW, KW⟩ := hcut
    rename World => w6
    have z5 := Z5.out
    have z6 := KW.out.size
    have zgw := XW.out.lt
    clear X1_lt X1_c0 X1_f0 X1_c1 X1_f1 X1_c2 X1_f2 X1_c3 X1_f3 X1_c4 X1_f4
    replace X1 := hide (X1.out.below KW.out)
    replace X2 := hide (X2.out.below KW.out)
    replace X4 := hide (X4.out.below KW.out)
    replace RO := hide (RO.out.below KW.out)
    replace HCP := hide (HCP.out.below KW.out)
    replace BW := hide (bthen BW.out KW.out)
    clear KW H0
    rcases N with _ | ⟨g, e⟩
    · have HE := hide (stepB_none HV.out HN2.out)
      rw [show stF none = -1 from rfl, show stD none = 0 from rfl] at XW
      have X4_lt := X4.out.lt
      have X4_c0 := X4.out.at (i := 0) rfl; have X4_f0 := X4.out.frozen 0
      have X4_c1 := X4.out.at (i := 1) rfl; have X4_f1 := X4.out.frozen 1
      have X4_c2 := X4.out.at (i := 2) rfl; have X4_f2 := X4.out.frozen 2
      have X4_c3 := X4.out.at (i := 3) rfl; have X4_f3 := X4.out.frozen 3
      have X4_c4 := X4.out.at (i := 4) rfl; have X4_f4 := X4.out.frozen 4
      have X2_lt := X2.out.lt
      have X2_c0 := X2.out.at (i := 0) rfl; have X2_f0 := X2.out.frozen 0
      have X2_c1 := X2.out.at (i := 1) rfl; have X2_f1 := X2.out.frozen 1
      have X2_c2 := X2.out.at (i := 2) rfl; have X2_f2 := X2.out.frozen 2
      have X2_c3 := X2.out.at (i := 3) rfl; have X2_f3 := X2.out.frozen 3
      have X2_c4 := X2.out.at (i := 4) rfl; have X2_f4 := X2.out.frozen 4
      have XW_lt := XW.out.lt
      have XW_c0 := XW.out.at (i := 0) rfl; have XW_f0 := XW.out.frozen 0
      have XW_c1 := XW.out.at (i := 1) rfl; have XW_f1 := XW.out.frozen 1
      go_wp2_with fail
      refine bodyPost_ret (by simp [results, Try.results38, go_sem, X2_c0, X2_c1, X2_c2, X2_c3, X2_c4]; rfl) rfl ?_
      rw [HE.out]
      have o := onlyW5 (g := w.heap.size + 1) w6 (.int .i64 t.n) (.int .i64 t.room) (.int .i64 t.f) (.int .i64 t.d) (.slice V t.rs.length cv)
      exact ⟨V, cv, rfl, (RO.out.only o (by omega)).mono (by omega) (by simp; omega), Only.then BW.out o (by omega) (by omega), fun h => by cases h⟩
    have HE := hide (stepB_some HV.out HN2.out)
    have hg : 0 ≤ g := by
      have := next_good (by have := HP.out.2.2.1; have := (tripC_len HP.out); unfold Len at this; omega) HP.out.2.2.2.1 HN2.out; omega
    rw [show stF (some (g, e)) = g from rfl, show stD (some (g, e)) = e from rfl] at XW
    have X4_lt := X4.out.lt
    have X4_c0 := X4.out.at (i := 0) rfl; have X4_f0 := X4.out.frozen 0
    have X4_c1 := X4.out.at (i := 1) rfl; have X4_f1 := X4.out.frozen 1
    have X4_c2 := X4.out.at (i := 2) rfl; have X4_f2 := X4.out.frozen 2
    have X4_c3 := X4.out.at (i := 3) rfl; have X4_f3 := X4.out.frozen 3
    have X4_c4 := X4.out.at (i := 4) rfl; have X4_f4 := X4.out.frozen 4
    have XW_lt := XW.out.lt
    have XW_c0 := XW.out.at (i := 0) rfl; have XW_f0 := XW.out.frozen 0
    have XW_c1 := XW.out.at (i := 1) rfl; have XW_f1 := XW.out.frozen 1
    go_upto_region 9 with fail
    clear X4_lt X4_c0 X4_f0 X4_c1 X4_f1 X4_c2 X4_f2 X4_c3 X4_f3 X4_c4 X4_f4
    clear XW_lt XW_c0 XW_f0 XW_c1 XW_f1
    refine code_name fun W7 hW => ?_
    have o : Only w1.heap.size (w1.heap.size + 1) w6 W7 := by rw [hW]; exact ((Only.refl _ _ w6).setCell (p := ⟨w1.heap.size, 2, none⟩) (Nat.le_refl _) (Nat.lt_succ_self _) _).setCell (p := ⟨w1.heap.size, 3, none⟩) (Nat.le_refl _) (Nat.lt_succ_self _) _
    replace X4 : Hid (Box W7 w1.heap.size #[.int .i64 t.n, .int .i64 t.room, .int .i64 g, .int .i64 e, .slice V t.rs.length cv]) := by rw [hW]; exact (X4.out.set 2 (.int .i64 g)).set 3 (.int .i64 e)
    replace HCP : Hid (Cap W3.heap.size W7 V t.rs.length cv) := by rw [hW]; exact (HCP.out.setCell _ _ _).setCell _ _ _
    have z7 : W7.heap.size = w6.heap.size := by rw [hW]; simp [World.setCell]
    replace X2 := hide (X2.out.only o (by omega))
    replace XW := hide (XW.out.only o (by omega))
    replace RO := hide (RO.out.only o (by omega))
    replace BW := hide (Only.then BW.out o (by omega) (by omega))
    clear hW o X1
    have RO : Hid (RW W3.heap.size w4.heap.size W7 V (outTo g t.rs 0)) := by rw [outTo_zero]; exact RO
    go_wp2_with fail
    go_loopw [6] (fun i wr => ∃ k : Nat, k ≤ t.rs.length ∧ i = .int .i64 k ∧ Hid (RW W3.heap.size w4.heap.size wr V (outTo g t.rs k)) ∧ Hid (Box wr w1.heap.size #[.int .i64 t.n, .int .i64 t.room, .int .i64 g, .int .i64 e, .slice V t.rs.length cv]) ∧ Hid (Box wr (w.heap.size + 1) #[.int .i64 0, .int .i64 0, .int .i64 0, .int .i64 0, .slice none 0 0]) ∧ Hid (Box wr gw #[.int .i64 g, .int .i64 e]) ∧ Hid (Below w.heap.size w wr) ∧ W7.heap.size ≤ wr.heap.size ∧ Hid (Cap W3.heap.size wr V t.rs.length cv)) (fun i _ => t.rs.length - (intOf i).toNat)
    case atStart => exact ⟨0, by omega, rfl, RO, X4, X2, XW, BW, Nat.le_refl _, HCP⟩
    case round =>
      clear X4 X2 XW BW RO HCP
      obtain ⟨k, hk, rfl, RO, X4, X2, XW, BW, zr, HCP⟩ := hrel
      by_cases hlt : k < t.rs.length
      · obtain ⟨b, off, r, rfl, hb, hr, ⟨c0, c1, c2⟩, f0, f1, f2⟩ := RO.out.at (k := k) (by rw [outTo_len]; exact hlt)
        replace hr := hide ((outTo_get (g := g) (by omega)).symm.trans hr.out)
        have nb1 : ¬ b = w1.heap.size := by omega
        have p0 : (0 : Int) ≤ (k : Int) := by omega
        have p1 : (k : Int) < (t.rs.length : Int) := by omega
        have X4_lt := X4.out.lt
        have X4_c0 := X4.out.at (i := 0) rfl; have X4_f0 := X4.out.frozen 0
        have X4_c1 := X4.out.at (i := 1) rfl; have X4_f1 := X4.out.frozen 1
        have X4_c2 := X4.out.at (i := 2) rfl; have X4_f2 := X4.out.frozen 2
        have X4_c3 := X4.out.at (i := 3) rfl; have X4_f3 := X4.out.frozen 3
        have X4_c4 := X4.out.at (i := 4) rfl; have X4_f4 := X4.out.frozen 4
        have XW_lt := XW.out.lt
        have XW_c0 := XW.out.at (i := 0) rfl; have XW_f0 := XW.out.frozen 0
        have XW_c1 := XW.out.at (i := 1) rfl; have XW_f1 := XW.out.frozen 1
        by_cases h1 : r.2.2 = 1
        · have h1' : (r.2.2 == 1) = true := by simpa using h1
          by_cases h2 : r.2.1 = g
          · have h2' : (r.2.1 == g) = true := by simpa using h2
            have HS := hide (outTo_yes (g := g) hr.out h1 h2)
            clear h1 h2
            go_wp2_with fail
            go_quiet (fail)
            refine exit_name fun W6 hW => ?_
            have bb : Below wr.heap.size wr W6 := by rw [hW]; exact below_drewN (Below.refl _ _) _
            have zq := bb.size
            clear c0 c1 c2 f0 f1 f2
            clear X4_lt X4_c0 X4_f0 X4_c1 X4_f1 X4_c2 X4_f2 X4_c3 X4_f3 X4_c4 X4_f4
            clear XW_lt XW_c0 XW_f0 XW_c1 XW_f1
            replace X4 := hide (X4.out.below bb)
            replace X2 := hide (X2.out.below bb)
            replace XW := hide (XW.out.below bb)
            replace RO := hide (RO.out.below bb)
            replace HCP := hide (HCP.out.below bb)
            replace BW := hide (bthen BW.out bb)
            clear bb
            clear hW
            obtain ⟨b', off', r', e', hb', hr', ⟨c0, c1, c2⟩, f0, f1, f2⟩ := RO.out.at (k := k) (by rw [outTo_len]; exact hlt)
            injection e' with e'; injection e' with e1 e2; subst e1; subst e2
            have er : r' = r := by have := hr'.out; rw [outTo_get (by omega), hr.out] at this; injection this with this; exact this.symm
            subst er
            have Q2 := hide (RO.out.set2 hr'.out 2)
            clear hr'
            have X4_lt := X4.out.lt
            have X4_c0 := X4.out.at (i := 0) rfl; have X4_f0 := X4.out.frozen 0
            have X4_c1 := X4.out.at (i := 1) rfl; have X4_f1 := X4.out.frozen 1
            have X4_c2 := X4.out.at (i := 2) rfl; have X4_f2 := X4.out.frozen 2
            have X4_c3 := X4.out.at (i := 3) rfl; have X4_f3 := X4.out.frozen 3
            have X4_c4 := X4.out.at (i := 4) rfl; have X4_f4 := X4.out.frozen 4
            go_wp2_with fail
            go_roundw
            case rel =>
              have o := (Only.refl b (b + 1) W6).setCell (p := ⟨b, off + k * 3 + 2, none⟩) (Nat.le_refl _) (Nat.lt_succ_self _) (.int .i64 2)
              exact ⟨k + 1, by omega, by go_num, by rw [HS.out]; exact Q2, X4.out.only o (by omega), X2.out.only o (by omega), XW.out.only o (by omega), Only.then BW.out o (by omega) (by omega), by first | omega | (simp [World.setCell]; omega), HCP.out.setCell _ _ _⟩
            case measure => simp [intOf]; omega
          · have h2' : (r.2.1 == g) = false := by simpa using h2
            have HS := hide (outTo_no (g := g) hr.out fun h => h2 h.2)
            clear h1 h2
            go_wp2_with fail
            go_quiet (fail)
            refine exit_name fun W6 hW => ?_
            have bb : Below wr.heap.size wr W6 := by rw [hW]; exact below_drewN (Below.refl _ _) _
            have zq := bb.size
            clear c0 c1 c2 f0 f1 f2
            clear X4_lt X4_c0 X4_f0 X4_c1 X4_f1 X4_c2 X4_f2 X4_c3 X4_f3 X4_c4 X4_f4
            clear XW_lt XW_c0 XW_f0 XW_c1 XW_f1
            replace X4 := hide (X4.out.below bb)
            replace X2 := hide (X2.out.below bb)
            replace XW := hide (XW.out.below bb)
            replace RO := hide (RO.out.below bb)
            replace HCP := hide (HCP.out.below bb)
            replace BW := hide (bthen BW.out bb)
            clear bb
            clear hW
            go_wp2_with fail
            go_roundw
            case rel => exact ⟨k + 1, by omega, by go_num, by rw [HS.out]; exact RO, X4, X2, XW, BW, by omega, HCP⟩
            case measure => simp [intOf]; omega
        · have h1' : (r.2.2 == 1) = false := by simpa using h1
          have HS := hide (outTo_no (g := g) hr.out fun h => h1 h.1)
          clear h1
          go_wp2_with fail
          go_quiet (fail)
          refine exit_name fun W6 hW => ?_
          have bb : Below wr.heap.size wr W6 := by rw [hW]; exact below_drewN (Below.refl _ _) _
          have zq := bb.size
          clear c0 c1 c2 f0 f1 f2
          clear X4_lt X4_c0 X4_f0 X4_c1 X4_f1 X4_c2 X4_f2 X4_c3 X4_f3 X4_c4 X4_f4
          clear XW_lt XW_c0 XW_f0 XW_c1 XW_f1
          replace X4 := hide (X4.out.below bb)
          replace X2 := hide (X2.out.below bb)
          replace XW := hide (XW.out.below bb)
          replace RO := hide (RO.out.below bb)
          replace HCP := hide (HCP.out.below bb)
          replace BW := hide (bthen BW.out bb)
          clear bb
          clear hW
          go_wp2_with fail
          go_roundw
          case rel => exact ⟨k + 1, by omega, by go_num, by rw [HS.out]; exact RO, X4, X2, XW, BW, by omega, HCP⟩
          case measure => simp [intOf]; omega
      · obtain ⟨L, hL⟩ : ∃ L, L = t.rs.map (outR g) := ⟨_, rfl⟩
        have HL := hide hL
        have hLl : L.length = t.rs.length := by rw [hL, List.length_map]
        have hi := inN_bd 1 L
        rw [outTo_all (by omega), ← hL] at RO
        have hroom : inN 1 L ≤ t.room := by have := (out_in g t.rs).1; have := HP.out.2.2.2.2.2.2; rw [hL]; omega
        clear hL
        obtain ⟨m, hm0⟩ : ∃ m, m = t.room - inN 1 L := ⟨_, rfl⟩
        have HM := hide hm0
        have hm1 : 0 ≤ m ∧ m ≤ 8 := by omega
        obtain ⟨W9, rfl⟩ : ∃ W9 : World, W9 = wr := ⟨_, rfl⟩
        have RO : Hid (RW W3.heap.size w4.heap.size W9 V (boardTo g e m L 0)) := by rw [boardTo_zero]; exact RO
        clear hm0 hroom hi
        have X4_lt := X4.out.lt
        have X4_c0 := X4.out.at (i := 0) rfl; have X4_f0 := X4.out.frozen 0
        have X4_c1 := X4.out.at (i := 1) rfl; have X4_f1 := X4.out.frozen 1
        have X4_c2 := X4.out.at (i := 2) rfl; have X4_f2 := X4.out.frozen 2
        have X4_c3 := X4.out.at (i := 3) rfl; have X4_f3 := X4.out.frozen 3
        have X4_c4 := X4.out.at (i := 4) rfl; have X4_f4 := X4.out.frozen 4
        go_wp2_with fail
        clear X4_lt X4_c0 X4_f0 X4_c1 X4_f1 X4_c2 X4_f2 X4_c3 X4_f3 X4_c4 X4_f4
        clear hk hlt
        go_loopw [7] (fun i wr => ∃ k : Nat, k ≤ L.length ∧ i = .int .i64 k ∧ Hid (RW W3.heap.size w4.heap.size wr V (boardTo g e m L k)) ∧ Hid (Box wr w1.heap.size #[.int .i64 t.n, .int .i64 t.room, .int .i64 g, .int .i64 e, .slice V t.rs.length cv]) ∧ Hid (Box wr (w.heap.size + 1) #[.int .i64 0, .int .i64 0, .int .i64 0, .int .i64 0, .slice none 0 0]) ∧ Hid (Box wr gw #[.int .i64 g, .int .i64 e]) ∧ Hid (Below w.heap.size w wr) ∧ W9.heap.size ≤ wr.heap.size ∧ Hid (Cap W3.heap.size wr V t.rs.length cv)) (fun i _ => t.rs.length - (intOf i).toNat)
        case atStart => exact ⟨0, by omega, rfl, RO, X4, X2, XW, BW, Nat.le_refl _, HCP⟩
        case round =>
          clear X4 X2 XW BW RO HCP
          obtain ⟨k, hk, rfl, RO, X4, X2, XW, BW, zs, HCP⟩ := hrel
          have hlb := leftTo_bd (g := g) (e := e) (l := L) (k := k) hm1.1
          obtain ⟨M, hM⟩ : ∃ M, M = leftTo g e m L k := ⟨_, rfl⟩
          rw [← hM] at hlb
          have HMM := hide hM
          obtain ⟨x, hx⟩ : ∃ x, x = inN 1 (boardTo g e m L k) := ⟨_, rfl⟩
          have hxM : x = t.room - M := by have := boardTo_in (g := g) (e := e) (m := m) (l := L) (k := k); have := HM.out; rw [hM]; omega
          have HX := hide hx.symm
          clear hx hM
          by_cases hlt : k < L.length
          · obtain ⟨b, off, r, rfl, hb, hr, ⟨c0, c1, c2⟩, f0, f1, f2⟩ := RO.out.at (k := k) (by rw [boardTo_len]; exact hlt)
            replace hr := hide ((boardTo_get (g := g) (e := e) (m := m) (by omega)).symm.trans hr.out)
            have hnb : ¬ b = wr.heap.size := by omega
            have hkl : k < t.rs.length := by omega
            have nb1 : ¬ b = w1.heap.size := by omega
            have p0 : (0 : Int) ≤ (k : Int) := by omega
            have p1 : (k : Int) < (t.rs.length : Int) := by omega
            have X4_lt := X4.out.lt
            have X4_c0 := X4.out.at (i := 0) rfl; have X4_f0 := X4.out.frozen 0
            have X4_c1 := X4.out.at (i := 1) rfl; have X4_f1 := X4.out.frozen 1
            have X4_c2 := X4.out.at (i := 2) rfl; have X4_f2 := X4.out.frozen 2
            have X4_c3 := X4.out.at (i := 3) rfl; have X4_f3 := X4.out.frozen 3
            have X4_c4 := X4.out.at (i := 4) rfl; have X4_f4 := X4.out.frozen 4
            go_upto_region 18 with fail
            clear X4_lt X4_c0 X4_f0 X4_c1 X4_f1 X4_c2 X4_f2 X4_c3 X4_f3 X4_c4 X4_f4
            refine code_name fun W6 hW => ?_
            have X6 := hide (Box.new' (g := wr.heap.size) hW rfl)
            have bb : Below wr.heap.size wr W6 := by rw [hW]; exact (Below.refl _ _).alloc (Nat.le_refl _) _
            have z8 := X6.out.lt
            replace X4 := hide (X4.out.below bb)
            replace X2 := hide (X2.out.below bb)
            replace XW := hide (XW.out.below bb)
            replace RO := hide (RO.out.below bb)
            replace HCP := hide (HCP.out.below bb)
            replace BW := hide (bthen BW.out bb)
            clear bb
            clear hW c0 c1 c2 f0 f1 f2
            have HXM := hide hxM
            have H9 := hide RO.out.rds
            obtain ⟨fr, tg, st⟩ := r
            by_cases h1 : st = 0
            rotate_left
            · have q2 : (st == 0) = false := by simpa using h1
              have HS := hide (boardTo_no (g := g) (e := e) (m := m) hr.out fun h => h1 h.2.1)
              clear hxM h1
              have X6_lt := X6.out.lt
              have X6_c0 := X6.out.at (i := 0) rfl; have X6_f0 := X6.out.frozen 0
              have X6_c1 := X6.out.at (i := 1) rfl; have X6_f1 := X6.out.frozen 1
              have X6_c2 := X6.out.at (i := 2) rfl; have X6_f2 := X6.out.frozen 2
              have XW_lt := XW.out.lt
              have XW_c0 := XW.out.at (i := 0) rfl; have XW_f0 := XW.out.frozen 0
              have XW_c1 := XW.out.at (i := 1) rfl; have XW_f1 := XW.out.frozen 1
              have X4_lt := X4.out.lt
              have X4_c0 := X4.out.at (i := 0) rfl; have X4_f0 := X4.out.frozen 0
              have X4_c1 := X4.out.at (i := 1) rfl; have X4_f1 := X4.out.frozen 1
              have X4_c2 := X4.out.at (i := 2) rfl; have X4_f2 := X4.out.frozen 2
              have X4_c3 := X4.out.at (i := 3) rfl; have X4_f3 := X4.out.frozen 3
              have X4_c4 := X4.out.at (i := 4) rfl; have X4_f4 := X4.out.frozen 4
              have KS : Hid (∀ W', Below W6.heap.size W6 W' → (W'.cell? ⟨wr.heap.size, 0, none⟩ = some (.int .i64 fr) ∧ W'.cell? ⟨wr.heap.size, 1, none⟩ = some (.int .i64 tg) ∧ W'.cell? ⟨wr.heap.size, 2, none⟩ = some (.int .i64 st)) ∧ (W'.cell? ⟨gw, 0, none⟩ = some (.int .i64 g) ∧ W'.cell? ⟨gw, 1, none⟩ = some (.int .i64 e)) ∧ W'.cell? ⟨w1.heap.size, 0, none⟩ = some (.int .i64 t.n) ∧ W'.cell? ⟨w1.heap.size, 1, none⟩ = some (.int .i64 t.room) ∧ W'.cell? ⟨w1.heap.size, 2, none⟩ = some (.int .i64 g) ∧ W'.cell? ⟨w1.heap.size, 3, none⟩ = some (.int .i64 e) ∧ W'.cell? ⟨w1.heap.size, 4, none⟩ = some (.slice (some ⟨b, off, none⟩) t.rs.length cv)) := fun W' bb => ⟨⟨(X6.out.below bb).at rfl, (X6.out.below bb).at rfl, (X6.out.below bb).at rfl⟩, ⟨(XW.out.below bb).at rfl, (XW.out.below bb).at rfl⟩, (X4.out.below bb).at rfl, (X4.out.below bb).at rfl, (X4.out.below bb).at rfl, (X4.out.below bb).at rfl, (X4.out.below bb).at rfl⟩
              have KK : Hid (Below W6.heap.size W6 W6.drew) := (Below.refl _ _).drew
              refine wp_region_noPanic ?_
              refine wp_region_held_drew (S := (fun W => (W.cell? ⟨wr.heap.size, 0, none⟩ = some (.int .i64 fr) ∧ W.cell? ⟨wr.heap.size, 1, none⟩ = some (.int .i64 tg) ∧ W.cell? ⟨wr.heap.size, 2, none⟩ = some (.int .i64 st)) ∧ (W.cell? ⟨gw, 0, none⟩ = some (.int .i64 g) ∧ W.cell? ⟨gw, 1, none⟩ = some (.int .i64 e)) ∧ W.cell? ⟨w1.heap.size, 0, none⟩ = some (.int .i64 t.n) ∧ W.cell? ⟨w1.heap.size, 1, none⟩ = some (.int .i64 t.room) ∧ W.cell? ⟨w1.heap.size, 2, none⟩ = some (.int .i64 g) ∧ W.cell? ⟨w1.heap.size, 3, none⟩ = some (.int .i64 e) ∧ W.cell? ⟨w1.heap.size, 4, none⟩ = some (.slice (some ⟨b, off, none⟩) t.rs.length cv))) (by kernel_rfl) ?_ (fun hHeld => ?_)
              · exact KS.out _ KK.out
              (refine take_in (i := 0) (v := ?_) rfl (by rfl) (by kernel_rfl) (by kernel_rfl) (by kernel_rfl) (fun _ _ _ h => h) (by rfl) ?_ (by assumption) ?_; rotate_left; (focus ((intro w hSw; (try dsimp only at hSw); go_simp); (try with_reducible rfl); done)); (try simp only [List.setIfInBounds_toArray, List.set_cons_succ, List.set_cons_zero]))
              (refine take_in (i := 1) (v := ?_) rfl (by rfl) (by kernel_rfl) (by kernel_rfl) (by kernel_rfl) (fun _ _ _ h => h) (by rfl) ?_ (by assumption) ?_; rotate_left; (focus ((intro w hSw; (try dsimp only at hSw); go_simp); (try with_reducible rfl); done)); (try simp only [List.setIfInBounds_toArray, List.set_cons_succ, List.set_cons_zero]))
              (refine take_in (i := 2) (v := ?_) rfl (by rfl) (by kernel_rfl) (by kernel_rfl) (by kernel_rfl) (fun _ _ _ h => h) (by rfl) ?_ (by assumption) ?_; rotate_left; (focus ((intro w hSw; (try dsimp only at hSw); go_simp); (try with_reducible rfl); done)); (try simp only [List.setIfInBounds_toArray, List.set_cons_succ, List.set_cons_zero]))
              (refine take_in (i := 3) (v := ?_) rfl (by rfl) (by kernel_rfl) (by kernel_rfl) (by kernel_rfl) (fun _ _ _ h => h) (by rfl) ?_ (by assumption) ?_; rotate_left; (focus ((intro w hSw; (try dsimp only at hSw); go_simp); (try with_reducible rfl); done)); (try simp only [List.setIfInBounds_toArray, List.set_cons_succ, List.set_cons_zero]))
              first | (refine take_in (i := 4) (v := ?_) rfl (by rfl) (by kernel_rfl) (by kernel_rfl) (by kernel_rfl) (fun _ _ _ h => h) (by rfl) ?_ (by assumption) ?_; rotate_left; (focus ((intro w hSw; (try dsimp only at hSw); go_simp); (try with_reducible rfl); done)); (try simp only [List.setIfInBounds_toArray, List.set_cons_succ, List.set_cons_zero])) | (refine take_out (i := 4) rfl (by rfl) (by kernel_rfl) (by kernel_rfl) (by kernel_rfl) (fun _ _ _ h => h) (by rfl) (by assumption) ?_; (try simp only [List.setIfInBounds_toArray, List.set_cons_succ, List.set_cons_zero]))
              first | (refine take_in (i := 5) (v := ?_) rfl (by rfl) (by kernel_rfl) (by kernel_rfl) (by kernel_rfl) (fun _ _ _ h => h) (by rfl) ?_ (by assumption) ?_; rotate_left; (focus ((intro w hSw; (try dsimp only at hSw); go_simp); (try with_reducible rfl); done)); (try simp only [List.setIfInBounds_toArray, List.set_cons_succ, List.set_cons_zero])) | (refine take_out (i := 5) rfl (by rfl) (by kernel_rfl) (by kernel_rfl) (by kernel_rfl) (fun _ _ _ h => h) (by rfl) (by assumption) ?_; (try simp only [List.setIfInBounds_toArray, List.set_cons_succ, List.set_cons_zero]))
              first | (refine take_in (i := 6) (v := ?_) rfl (by rfl) (by kernel_rfl) (by kernel_rfl) (by kernel_rfl) (fun _ _ _ h => h) (by rfl) ?_ (by assumption) ?_; rotate_left; (focus ((intro w hSw; (try dsimp only at hSw); go_simp); (try with_reducible rfl); done)); (try simp only [List.setIfInBounds_toArray, List.set_cons_succ, List.set_cons_zero])) | (refine take_out (i := 6) rfl (by rfl) (by kernel_rfl) (by kernel_rfl) (by kernel_rfl) (fun _ _ _ h => h) (by rfl) (by assumption) ?_; (try simp only [List.setIfInBounds_toArray, List.set_cons_succ, List.set_cons_zero]))
              first | (refine take_in (i := 7) (v := ?_) rfl (by rfl) (by kernel_rfl) (by kernel_rfl) (by kernel_rfl) (fun _ _ _ h => h) (by rfl) ?_ (by assumption) ?_; rotate_left; (focus ((intro w hSw; (try dsimp only at hSw); go_simp); (try with_reducible rfl); done)); (try simp only [List.setIfInBounds_toArray, List.set_cons_succ, List.set_cons_zero])) | (refine take_out (i := 7) rfl (by rfl) (by kernel_rfl) (by kernel_rfl) (by kernel_rfl) (fun _ _ _ h => h) (by rfl) (by assumption) ?_; (try simp only [List.setIfInBounds_toArray, List.set_cons_succ, List.set_cons_zero]))
              first | (refine take_in (i := 8) (v := ?_) rfl (by rfl) (by kernel_rfl) (by kernel_rfl) (by kernel_rfl) (fun _ _ _ h => h) (by rfl) ?_ (by assumption) ?_; rotate_left; (focus ((intro w hSw; (try dsimp only at hSw); go_simp); (try with_reducible rfl); done)); (try simp only [List.setIfInBounds_toArray, List.set_cons_succ, List.set_cons_zero])) | (refine take_out (i := 8) rfl (by rfl) (by kernel_rfl) (by kernel_rfl) (by kernel_rfl) (fun _ _ _ h => h) (by rfl) (by assumption) ?_; (try simp only [List.setIfInBounds_toArray, List.set_cons_succ, List.set_cons_zero]))
              (refine take_in (i := 9) (v := ?_) rfl (by rfl) (by kernel_rfl) (by kernel_rfl) (by kernel_rfl) (fun _ _ _ h => h) (by rfl) ?_ (by assumption) ?_; rotate_left; (focus ((intro w hSw; (try dsimp only at hSw); go_simp); (try with_reducible rfl); done)); (try simp only [List.setIfInBounds_toArray, List.set_cons_succ, List.set_cons_zero]))
              (refine take_in (i := 10) (v := ?_) rfl (by rfl) (by kernel_rfl) (by kernel_rfl) (by kernel_rfl) (fun _ _ _ h => h) (by rfl) ?_ (by assumption) ?_; rotate_left; (focus ((intro w hSw; (try dsimp only at hSw); go_simp); (try with_reducible rfl); done)); (try simp only [List.setIfInBounds_toArray, List.set_cons_succ, List.set_cons_zero]))
              first | (refine take_in (i := 11) (v := ?_) rfl (by rfl) (by kernel_rfl) (by kernel_rfl) (by kernel_rfl) (fun _ _ _ h => h) (by rfl) ?_ (by assumption) ?_; rotate_left; (focus ((intro w hSw; (try dsimp only at hSw); go_simp); (try with_reducible rfl); done)); (try simp only [List.setIfInBounds_toArray, List.set_cons_succ, List.set_cons_zero])) | (refine take_out (i := 11) rfl (by rfl) (by kernel_rfl) (by kernel_rfl) (by kernel_rfl) (fun _ _ _ h => h) (by rfl) (by assumption) ?_; (try simp only [List.setIfInBounds_toArray, List.set_cons_succ, List.set_cons_zero]))
              (refine take_out (i := 12) rfl (by rfl) (by kernel_rfl) (by kernel_rfl) (by kernel_rfl) (fun _ _ _ h => h) (by rfl) (by assumption) ?_; (try simp only [List.setIfInBounds_toArray, List.set_cons_succ, List.set_cons_zero]))
              first | (refine take_in (i := 13) (v := ?_) rfl (by rfl) (by kernel_rfl) (by kernel_rfl) (by kernel_rfl) (fun _ _ _ h => h) (by rfl) ?_ (by assumption) ?_; rotate_left; (focus ((intro w hSw; (try dsimp only at hSw); go_simp); (try with_reducible rfl); done)); (try simp only [List.setIfInBounds_toArray, List.set_cons_succ, List.set_cons_zero])) | (refine take_out (i := 13) rfl (by rfl) (by kernel_rfl) (by kernel_rfl) (by kernel_rfl) (fun _ _ _ h => h) (by rfl) (by assumption) ?_; (try simp only [List.setIfInBounds_toArray, List.set_cons_succ, List.set_cons_zero]))
              first | (refine take_in (i := 14) (v := ?_) rfl (by rfl) (by kernel_rfl) (by kernel_rfl) (by kernel_rfl) (fun _ _ _ h => h) (by rfl) ?_ (by assumption) ?_; rotate_left; (focus ((intro w hSw; (try dsimp only at hSw); go_simp); (try with_reducible rfl); done)); (try simp only [List.setIfInBounds_toArray, List.set_cons_succ, List.set_cons_zero])) | (refine take_out (i := 14) rfl (by rfl) (by kernel_rfl) (by kernel_rfl) (by kernel_rfl) (fun _ _ _ h => h) (by rfl) (by assumption) ?_; (try simp only [List.setIfInBounds_toArray, List.set_cons_succ, List.set_cons_zero]))
              first | (refine take_in (i := 15) (v := ?_) rfl (by rfl) (by kernel_rfl) (by kernel_rfl) (by kernel_rfl) (fun _ _ _ h => h) (by rfl) ?_ (by assumption) ?_; rotate_left; (focus ((intro w hSw; (try dsimp only at hSw); go_simp); (try with_reducible rfl); done)); (try simp only [List.setIfInBounds_toArray, List.set_cons_succ, List.set_cons_zero])) | (refine take_out (i := 15) rfl (by rfl) (by kernel_rfl) (by kernel_rfl) (by kernel_rfl) (fun _ _ _ h => h) (by rfl) (by assumption) ?_; (try simp only [List.setIfInBounds_toArray, List.set_cons_succ, List.set_cons_zero]))
              (refine take_in (i := 16) (v := ?_) rfl (by rfl) (by kernel_rfl) (by kernel_rfl) (by kernel_rfl) (fun _ _ _ h => h) (by rfl) ?_ (by assumption) ?_; rotate_left; (focus ((intro w hSw; (try dsimp only at hSw); go_simp); (try with_reducible rfl); done)); (try simp only [List.setIfInBounds_toArray, List.set_cons_succ, List.set_cons_zero]))
              (refine take_in (i := 17) (v := ?_) rfl (by rfl) (by kernel_rfl) (by kernel_rfl) (by kernel_rfl) (fun _ _ _ h => h) (by rfl) ?_ (by assumption) ?_; rotate_left; (focus ((intro w hSw; (try dsimp only at hSw); go_simp); (try with_reducible rfl); done)); (try simp only [List.setIfInBounds_toArray, List.set_cons_succ, List.set_cons_zero]))
              first | (refine take_in (i := 18) (v := ?_) rfl (by rfl) (by kernel_rfl) (by kernel_rfl) (by kernel_rfl) (fun _ _ _ h => h) (by rfl) ?_ (by assumption) ?_; rotate_left; (focus ((intro w hSw; (try dsimp only at hSw); go_simp); (try with_reducible rfl); done)); (try simp only [List.setIfInBounds_toArray, List.set_cons_succ, List.set_cons_zero])) | (refine take_out (i := 18) rfl (by rfl) (by kernel_rfl) (by kernel_rfl) (by kernel_rfl) (fun _ _ _ h => h) (by rfl) (by assumption) ?_; (try simp only [List.setIfInBounds_toArray, List.set_cons_succ, List.set_cons_zero]))
              (refine take_out (i := 19) rfl (by rfl) (by kernel_rfl) (by kernel_rfl) (by kernel_rfl) (fun _ _ _ h => h) (by rfl) (by assumption) ?_; (try simp only [List.setIfInBounds_toArray, List.set_cons_succ, List.set_cons_zero]))
              first | (refine take_in (i := 20) (v := ?_) rfl (by rfl) (by kernel_rfl) (by kernel_rfl) (by kernel_rfl) (fun _ _ _ h => h) (by rfl) ?_ (by assumption) ?_; rotate_left; (focus ((intro w hSw; (try dsimp only at hSw); go_simp); (try with_reducible rfl); done)); (try simp only [List.setIfInBounds_toArray, List.set_cons_succ, List.set_cons_zero])) | (refine take_out (i := 20) rfl (by rfl) (by kernel_rfl) (by kernel_rfl) (by kernel_rfl) (fun _ _ _ h => h) (by rfl) (by assumption) ?_; (try simp only [List.setIfInBounds_toArray, List.set_cons_succ, List.set_cons_zero]))
              first | (refine take_in (i := 21) (v := ?_) rfl (by rfl) (by kernel_rfl) (by kernel_rfl) (by kernel_rfl) (fun _ _ _ h => h) (by rfl) ?_ (by assumption) ?_; rotate_left; (focus ((intro w hSw; (try dsimp only at hSw); go_simp); (try with_reducible rfl); done)); (try simp only [List.setIfInBounds_toArray, List.set_cons_succ, List.set_cons_zero])) | (refine take_out (i := 21) rfl (by rfl) (by kernel_rfl) (by kernel_rfl) (by kernel_rfl) (fun _ _ _ h => h) (by rfl) (by assumption) ?_; (try simp only [List.setIfInBounds_toArray, List.set_cons_succ, List.set_cons_zero]))
              first | (refine take_in (i := 22) (v := ?_) rfl (by rfl) (by kernel_rfl) (by kernel_rfl) (by kernel_rfl) (fun _ _ _ h => h) (by rfl) ?_ (by assumption) ?_; rotate_left; (focus ((intro w hSw; (try dsimp only at hSw); go_simp); (try with_reducible rfl); done)); (try simp only [List.setIfInBounds_toArray, List.set_cons_succ, List.set_cons_zero])) | (refine take_out (i := 22) rfl (by rfl) (by kernel_rfl) (by kernel_rfl) (by kernel_rfl) (fun _ _ _ h => h) (by rfl) (by assumption) ?_; (try simp only [List.setIfInBounds_toArray, List.set_cons_succ, List.set_cons_zero]))
              (refine take_in (i := 23) (v := ?_) rfl (by rfl) (by kernel_rfl) (by kernel_rfl) (by kernel_rfl) (fun _ _ _ h => h) (by rfl) ?_ (by assumption) ?_; rotate_left; (focus ((intro w hSw; (try dsimp only at hSw); go_simp); (try with_reducible rfl); done)); (try simp only [List.setIfInBounds_toArray, List.set_cons_succ, List.set_cons_zero]))
              refine wpAnyH_done (by kernel_rfl) ?_ _
              refine NoPanic.normal ?_
              clear KS
              clear X6_lt X6_c0 X6_f0 X6_c1 X6_f1 X6_c2 X6_f2
              clear XW_lt XW_c0 XW_f0 XW_c1 XW_f1
              clear X4_lt X4_c0 X4_f0 X4_c1 X4_f1 X4_c2 X4_f2 X4_c3 X4_f3 X4_c4 X4_f4
              have bb := KK.out
              have zbE := bb.size
              replace X4 := hide (X4.out.below bb)
              replace X2 := hide (X2.out.below bb)
              replace XW := hide (XW.out.below bb)
              replace RO := hide (RO.out.below bb)
              replace HCP := hide (HCP.out.below bb)
              replace BW := hide (bthen BW.out bb)
              clear bb
              go_wp2_with fail
              go_roundw
              case rel => exact ⟨k + 1, by omega, by go_num, by rw [HS.out.1]; exact RO, X4, X2, XW, BW, by omega, HCP⟩
              case measure => simp [intOf]; omega
            have q2 : (st == 0) = true := by simpa using h1
            have H1 := hide h1
            clear h1
            by_cases h2 : fr = g
            rotate_left
            · have q3 : (fr == g) = false := by simpa using h2
              have HS := hide (boardTo_no (g := g) (e := e) (m := m) hr.out fun h => h2 h.2.2.1)
              clear hxM h2
              have X6_lt := X6.out.lt
              have X6_c0 := X6.out.at (i := 0) rfl; have X6_f0 := X6.out.frozen 0
              have X6_c1 := X6.out.at (i := 1) rfl; have X6_f1 := X6.out.frozen 1
              have X6_c2 := X6.out.at (i := 2) rfl; have X6_f2 := X6.out.frozen 2
              have XW_lt := XW.out.lt
              have XW_c0 := XW.out.at (i := 0) rfl; have XW_f0 := XW.out.frozen 0
              have XW_c1 := XW.out.at (i := 1) rfl; have XW_f1 := XW.out.frozen 1
              have X4_lt := X4.out.lt
              have X4_c0 := X4.out.at (i := 0) rfl; have X4_f0 := X4.out.frozen 0
              have X4_c1 := X4.out.at (i := 1) rfl; have X4_f1 := X4.out.frozen 1
              have X4_c2 := X4.out.at (i := 2) rfl; have X4_f2 := X4.out.frozen 2
              have X4_c3 := X4.out.at (i := 3) rfl; have X4_f3 := X4.out.frozen 3
              have X4_c4 := X4.out.at (i := 4) rfl; have X4_f4 := X4.out.frozen 4
              have KS : Hid (∀ W', Below W6.heap.size W6 W' → (W'.cell? ⟨wr.heap.size, 0, none⟩ = some (.int .i64 fr) ∧ W'.cell? ⟨wr.heap.size, 1, none⟩ = some (.int .i64 tg) ∧ W'.cell? ⟨wr.heap.size, 2, none⟩ = some (.int .i64 st)) ∧ (W'.cell? ⟨gw, 0, none⟩ = some (.int .i64 g) ∧ W'.cell? ⟨gw, 1, none⟩ = some (.int .i64 e)) ∧ W'.cell? ⟨w1.heap.size, 0, none⟩ = some (.int .i64 t.n) ∧ W'.cell? ⟨w1.heap.size, 1, none⟩ = some (.int .i64 t.room) ∧ W'.cell? ⟨w1.heap.size, 2, none⟩ = some (.int .i64 g) ∧ W'.cell? ⟨w1.heap.size, 3, none⟩ = some (.int .i64 e) ∧ W'.cell? ⟨w1.heap.size, 4, none⟩ = some (.slice (some ⟨b, off, none⟩) t.rs.length cv)) := fun W' bb => ⟨⟨(X6.out.below bb).at rfl, (X6.out.below bb).at rfl, (X6.out.below bb).at rfl⟩, ⟨(XW.out.below bb).at rfl, (XW.out.below bb).at rfl⟩, (X4.out.below bb).at rfl, (X4.out.below bb).at rfl, (X4.out.below bb).at rfl, (X4.out.below bb).at rfl, (X4.out.below bb).at rfl⟩
              have KK : Hid (Below W6.heap.size W6 W6.drew) := (Below.refl _ _).drew
              refine wp_region_noPanic ?_
              refine wp_region_held_drew (S := (fun W => (W.cell? ⟨wr.heap.size, 0, none⟩ = some (.int .i64 fr) ∧ W.cell? ⟨wr.heap.size, 1, none⟩ = some (.int .i64 tg) ∧ W.cell? ⟨wr.heap.size, 2, none⟩ = some (.int .i64 st)) ∧ (W.cell? ⟨gw, 0, none⟩ = some (.int .i64 g) ∧ W.cell? ⟨gw, 1, none⟩ = some (.int .i64 e)) ∧ W.cell? ⟨w1.heap.size, 0, none⟩ = some (.int .i64 t.n) ∧ W.cell? ⟨w1.heap.size, 1, none⟩ = some (.int .i64 t.room) ∧ W.cell? ⟨w1.heap.size, 2, none⟩ = some (.int .i64 g) ∧ W.cell? ⟨w1.heap.size, 3, none⟩ = some (.int .i64 e) ∧ W.cell? ⟨w1.heap.size, 4, none⟩ = some (.slice (some ⟨b, off, none⟩) t.rs.length cv))) (by kernel_rfl) ?_ (fun hHeld => ?_)
              · exact KS.out _ KK.out
              (refine take_in (i := 0) (v := ?_) rfl (by rfl) (by kernel_rfl) (by kernel_rfl) (by kernel_rfl) (fun _ _ _ h => h) (by rfl) ?_ (by assumption) ?_; rotate_left; (focus ((intro w hSw; (try dsimp only at hSw); go_simp); (try with_reducible rfl); done)); (try simp only [List.setIfInBounds_toArray, List.set_cons_succ, List.set_cons_zero]))
              (refine take_in (i := 1) (v := ?_) rfl (by rfl) (by kernel_rfl) (by kernel_rfl) (by kernel_rfl) (fun _ _ _ h => h) (by rfl) ?_ (by assumption) ?_; rotate_left; (focus ((intro w hSw; (try dsimp only at hSw); go_simp); (try with_reducible rfl); done)); (try simp only [List.setIfInBounds_toArray, List.set_cons_succ, List.set_cons_zero]))
              (refine take_in (i := 2) (v := ?_) rfl (by rfl) (by kernel_rfl) (by kernel_rfl) (by kernel_rfl) (fun _ _ _ h => h) (by rfl) ?_ (by assumption) ?_; rotate_left; (focus ((intro w hSw; (try dsimp only at hSw); go_simp); (try with_reducible rfl); done)); (try simp only [List.setIfInBounds_toArray, List.set_cons_succ, List.set_cons_zero]))
              (refine take_in (i := 3) (v := ?_) rfl (by rfl) (by kernel_rfl) (by kernel_rfl) (by kernel_rfl) (fun _ _ _ h => h) (by rfl) ?_ (by assumption) ?_; rotate_left; (focus ((intro w hSw; (try dsimp only at hSw); go_simp); (try with_reducible rfl); done)); (try simp only [List.setIfInBounds_toArray, List.set_cons_succ, List.set_cons_zero]))
              first | (refine take_in (i := 4) (v := ?_) rfl (by rfl) (by kernel_rfl) (by kernel_rfl) (by kernel_rfl) (fun _ _ _ h => h) (by rfl) ?_ (by assumption) ?_; rotate_left; (focus ((intro w hSw; (try dsimp only at hSw); go_simp); (try with_reducible rfl); done)); (try simp only [List.setIfInBounds_toArray, List.set_cons_succ, List.set_cons_zero])) | (refine take_out (i := 4) rfl (by rfl) (by kernel_rfl) (by kernel_rfl) (by kernel_rfl) (fun _ _ _ h => h) (by rfl) (by assumption) ?_; (try simp only [List.setIfInBounds_toArray, List.set_cons_succ, List.set_cons_zero]))
              first | (refine take_in (i := 5) (v := ?_) rfl (by rfl) (by kernel_rfl) (by kernel_rfl) (by kernel_rfl) (fun _ _ _ h => h) (by rfl) ?_ (by assumption) ?_; rotate_left; (focus ((intro w hSw; (try dsimp only at hSw); go_simp); (try with_reducible rfl); done)); (try simp only [List.setIfInBounds_toArray, List.set_cons_succ, List.set_cons_zero])) | (refine take_out (i := 5) rfl (by rfl) (by kernel_rfl) (by kernel_rfl) (by kernel_rfl) (fun _ _ _ h => h) (by rfl) (by assumption) ?_; (try simp only [List.setIfInBounds_toArray, List.set_cons_succ, List.set_cons_zero]))
              first | (refine take_in (i := 6) (v := ?_) rfl (by rfl) (by kernel_rfl) (by kernel_rfl) (by kernel_rfl) (fun _ _ _ h => h) (by rfl) ?_ (by assumption) ?_; rotate_left; (focus ((intro w hSw; (try dsimp only at hSw); go_simp); (try with_reducible rfl); done)); (try simp only [List.setIfInBounds_toArray, List.set_cons_succ, List.set_cons_zero])) | (refine take_out (i := 6) rfl (by rfl) (by kernel_rfl) (by kernel_rfl) (by kernel_rfl) (fun _ _ _ h => h) (by rfl) (by assumption) ?_; (try simp only [List.setIfInBounds_toArray, List.set_cons_succ, List.set_cons_zero]))
              first | (refine take_in (i := 7) (v := ?_) rfl (by rfl) (by kernel_rfl) (by kernel_rfl) (by kernel_rfl) (fun _ _ _ h => h) (by rfl) ?_ (by assumption) ?_; rotate_left; (focus ((intro w hSw; (try dsimp only at hSw); go_simp); (try with_reducible rfl); done)); (try simp only [List.setIfInBounds_toArray, List.set_cons_succ, List.set_cons_zero])) | (refine take_out (i := 7) rfl (by rfl) (by kernel_rfl) (by kernel_rfl) (by kernel_rfl) (fun _ _ _ h => h) (by rfl) (by assumption) ?_; (try simp only [List.setIfInBounds_toArray, List.set_cons_succ, List.set_cons_zero]))
              first | (refine take_in (i := 8) (v := ?_) rfl (by rfl) (by kernel_rfl) (by kernel_rfl) (by kernel_rfl) (fun _ _ _ h => h) (by rfl) ?_ (by assumption) ?_; rotate_left; (focus ((intro w hSw; (try dsimp only at hSw); go_simp); (try with_reducible rfl); done)); (try simp only [List.setIfInBounds_toArray, List.set_cons_succ, List.set_cons_zero])) | (refine take_out (i := 8) rfl (by rfl) (by kernel_rfl) (by kernel_rfl) (by kernel_rfl) (fun _ _ _ h => h) (by rfl) (by assumption) ?_; (try simp only [List.setIfInBounds_toArray, List.set_cons_succ, List.set_cons_zero]))
              (refine take_in (i := 9) (v := ?_) rfl (by rfl) (by kernel_rfl) (by kernel_rfl) (by kernel_rfl) (fun _ _ _ h => h) (by rfl) ?_ (by assumption) ?_; rotate_left; (focus ((intro w hSw; (try dsimp only at hSw); go_simp); (try with_reducible rfl); done)); (try simp only [List.setIfInBounds_toArray, List.set_cons_succ, List.set_cons_zero]))
              (refine take_in (i := 10) (v := ?_) rfl (by rfl) (by kernel_rfl) (by kernel_rfl) (by kernel_rfl) (fun _ _ _ h => h) (by rfl) ?_ (by assumption) ?_; rotate_left; (focus ((intro w hSw; (try dsimp only at hSw); go_simp); (try with_reducible rfl); done)); (try simp only [List.setIfInBounds_toArray, List.set_cons_succ, List.set_cons_zero]))
              first | (refine take_in (i := 11) (v := ?_) rfl (by rfl) (by kernel_rfl) (by kernel_rfl) (by kernel_rfl) (fun _ _ _ h => h) (by rfl) ?_ (by assumption) ?_; rotate_left; (focus ((intro w hSw; (try dsimp only at hSw); go_simp); (try with_reducible rfl); done)); (try simp only [List.setIfInBounds_toArray, List.set_cons_succ, List.set_cons_zero])) | (refine take_out (i := 11) rfl (by rfl) (by kernel_rfl) (by kernel_rfl) (by kernel_rfl) (fun _ _ _ h => h) (by rfl) (by assumption) ?_; (try simp only [List.setIfInBounds_toArray, List.set_cons_succ, List.set_cons_zero]))
              (refine take_out (i := 12) rfl (by rfl) (by kernel_rfl) (by kernel_rfl) (by kernel_rfl) (fun _ _ _ h => h) (by rfl) (by assumption) ?_; (try simp only [List.setIfInBounds_toArray, List.set_cons_succ, List.set_cons_zero]))
              first | (refine take_in (i := 13) (v := ?_) rfl (by rfl) (by kernel_rfl) (by kernel_rfl) (by kernel_rfl) (fun _ _ _ h => h) (by rfl) ?_ (by assumption) ?_; rotate_left; (focus ((intro w hSw; (try dsimp only at hSw); go_simp); (try with_reducible rfl); done)); (try simp only [List.setIfInBounds_toArray, List.set_cons_succ, List.set_cons_zero])) | (refine take_out (i := 13) rfl (by rfl) (by kernel_rfl) (by kernel_rfl) (by kernel_rfl) (fun _ _ _ h => h) (by rfl) (by assumption) ?_; (try simp only [List.setIfInBounds_toArray, List.set_cons_succ, List.set_cons_zero]))
              first | (refine take_in (i := 14) (v := ?_) rfl (by rfl) (by kernel_rfl) (by kernel_rfl) (by kernel_rfl) (fun _ _ _ h => h) (by rfl) ?_ (by assumption) ?_; rotate_left; (focus ((intro w hSw; (try dsimp only at hSw); go_simp); (try with_reducible rfl); done)); (try simp only [List.setIfInBounds_toArray, List.set_cons_succ, List.set_cons_zero])) | (refine take_out (i := 14) rfl (by rfl) (by kernel_rfl) (by kernel_rfl) (by kernel_rfl) (fun _ _ _ h => h) (by rfl) (by assumption) ?_; (try simp only [List.setIfInBounds_toArray, List.set_cons_succ, List.set_cons_zero]))
              first | (refine take_in (i := 15) (v := ?_) rfl (by rfl) (by kernel_rfl) (by kernel_rfl) (by kernel_rfl) (fun _ _ _ h => h) (by rfl) ?_ (by assumption) ?_; rotate_left; (focus ((intro w hSw; (try dsimp only at hSw); go_simp); (try with_reducible rfl); done)); (try simp only [List.setIfInBounds_toArray, List.set_cons_succ, List.set_cons_zero])) | (refine take_out (i := 15) rfl (by rfl) (by kernel_rfl) (by kernel_rfl) (by kernel_rfl) (fun _ _ _ h => h) (by rfl) (by assumption) ?_; (try simp only [List.setIfInBounds_toArray, List.set_cons_succ, List.set_cons_zero]))
              (refine take_in (i := 16) (v := ?_) rfl (by rfl) (by kernel_rfl) (by kernel_rfl) (by kernel_rfl) (fun _ _ _ h => h) (by rfl) ?_ (by assumption) ?_; rotate_left; (focus ((intro w hSw; (try dsimp only at hSw); go_simp); (try with_reducible rfl); done)); (try simp only [List.setIfInBounds_toArray, List.set_cons_succ, List.set_cons_zero]))
              (refine take_in (i := 17) (v := ?_) rfl (by rfl) (by kernel_rfl) (by kernel_rfl) (by kernel_rfl) (fun _ _ _ h => h) (by rfl) ?_ (by assumption) ?_; rotate_left; (focus ((intro w hSw; (try dsimp only at hSw); go_simp); (try with_reducible rfl); done)); (try simp only [List.setIfInBounds_toArray, List.set_cons_succ, List.set_cons_zero]))
              first | (refine take_in (i := 18) (v := ?_) rfl (by rfl) (by kernel_rfl) (by kernel_rfl) (by kernel_rfl) (fun _ _ _ h => h) (by rfl) ?_ (by assumption) ?_; rotate_left; (focus ((intro w hSw; (try dsimp only at hSw); go_simp); (try with_reducible rfl); done)); (try simp only [List.setIfInBounds_toArray, List.set_cons_succ, List.set_cons_zero])) | (refine take_out (i := 18) rfl (by rfl) (by kernel_rfl) (by kernel_rfl) (by kernel_rfl) (fun _ _ _ h => h) (by rfl) (by assumption) ?_; (try simp only [List.setIfInBounds_toArray, List.set_cons_succ, List.set_cons_zero]))
              (refine take_out (i := 19) rfl (by rfl) (by kernel_rfl) (by kernel_rfl) (by kernel_rfl) (fun _ _ _ h => h) (by rfl) (by assumption) ?_; (try simp only [List.setIfInBounds_toArray, List.set_cons_succ, List.set_cons_zero]))
              first | (refine take_in (i := 20) (v := ?_) rfl (by rfl) (by kernel_rfl) (by kernel_rfl) (by kernel_rfl) (fun _ _ _ h => h) (by rfl) ?_ (by assumption) ?_; rotate_left; (focus ((intro w hSw; (try dsimp only at hSw); go_simp); (try with_reducible rfl); done)); (try simp only [List.setIfInBounds_toArray, List.set_cons_succ, List.set_cons_zero])) | (refine take_out (i := 20) rfl (by rfl) (by kernel_rfl) (by kernel_rfl) (by kernel_rfl) (fun _ _ _ h => h) (by rfl) (by assumption) ?_; (try simp only [List.setIfInBounds_toArray, List.set_cons_succ, List.set_cons_zero]))
              first | (refine take_in (i := 21) (v := ?_) rfl (by rfl) (by kernel_rfl) (by kernel_rfl) (by kernel_rfl) (fun _ _ _ h => h) (by rfl) ?_ (by assumption) ?_; rotate_left; (focus ((intro w hSw; (try dsimp only at hSw); go_simp); (try with_reducible rfl); done)); (try simp only [List.setIfInBounds_toArray, List.set_cons_succ, List.set_cons_zero])) | (refine take_out (i := 21) rfl (by rfl) (by kernel_rfl) (by kernel_rfl) (by kernel_rfl) (fun _ _ _ h => h) (by rfl) (by assumption) ?_; (try simp only [List.setIfInBounds_toArray, List.set_cons_succ, List.set_cons_zero]))
              first | (refine take_in (i := 22) (v := ?_) rfl (by rfl) (by kernel_rfl) (by kernel_rfl) (by kernel_rfl) (fun _ _ _ h => h) (by rfl) ?_ (by assumption) ?_; rotate_left; (focus ((intro w hSw; (try dsimp only at hSw); go_simp); (try with_reducible rfl); done)); (try simp only [List.setIfInBounds_toArray, List.set_cons_succ, List.set_cons_zero])) | (refine take_out (i := 22) rfl (by rfl) (by kernel_rfl) (by kernel_rfl) (by kernel_rfl) (fun _ _ _ h => h) (by rfl) (by assumption) ?_; (try simp only [List.setIfInBounds_toArray, List.set_cons_succ, List.set_cons_zero]))
              (refine take_in (i := 23) (v := ?_) rfl (by rfl) (by kernel_rfl) (by kernel_rfl) (by kernel_rfl) (fun _ _ _ h => h) (by rfl) ?_ (by assumption) ?_; rotate_left; (focus ((intro w hSw; (try dsimp only at hSw); go_simp); (try with_reducible rfl); done)); (try simp only [List.setIfInBounds_toArray, List.set_cons_succ, List.set_cons_zero]))
              refine wpAnyH_done (by kernel_rfl) ?_ _
              refine NoPanic.normal ?_
              clear KS
              clear X6_lt X6_c0 X6_f0 X6_c1 X6_f1 X6_c2 X6_f2
              clear XW_lt XW_c0 XW_f0 XW_c1 XW_f1
              clear X4_lt X4_c0 X4_f0 X4_c1 X4_f1 X4_c2 X4_f2 X4_c3 X4_f3 X4_c4 X4_f4
              have bb := KK.out
              have zbE := bb.size
              replace X4 := hide (X4.out.below bb)
              replace X2 := hide (X2.out.below bb)
              replace XW := hide (XW.out.below bb)
              replace RO := hide (RO.out.below bb)
              replace HCP := hide (HCP.out.below bb)
              replace BW := hide (bthen BW.out bb)
              clear bb
              go_wp2_with fail
              go_roundw
              case rel => exact ⟨k + 1, by omega, by go_num, by rw [HS.out.1]; exact RO, X4, X2, XW, BW, by omega, HCP⟩
              case measure => simp [intOf]; omega
            have q3 : (fr == g) = true := by simpa using h2
            have H2 := hide h2
            clear h2
            by_cases h3 : dirR (fr, tg, st) = e
            rotate_left
            · have q4 : (dirR (fr, tg, st) == e) = false := by simpa using h3
              have HS := hide (boardTo_no (g := g) (e := e) (m := m) hr.out fun h => h3 h.2.2.2)
              clear hxM h3
              have X6_lt := X6.out.lt
              have X6_c0 := X6.out.at (i := 0) rfl; have X6_f0 := X6.out.frozen 0
              have X6_c1 := X6.out.at (i := 1) rfl; have X6_f1 := X6.out.frozen 1
              have X6_c2 := X6.out.at (i := 2) rfl; have X6_f2 := X6.out.frozen 2
              have XW_lt := XW.out.lt
              have XW_c0 := XW.out.at (i := 0) rfl; have XW_f0 := XW.out.frozen 0
              have XW_c1 := XW.out.at (i := 1) rfl; have XW_f1 := XW.out.frozen 1
              have X4_lt := X4.out.lt
              have X4_c0 := X4.out.at (i := 0) rfl; have X4_f0 := X4.out.frozen 0
              have X4_c1 := X4.out.at (i := 1) rfl; have X4_f1 := X4.out.frozen 1
              have X4_c2 := X4.out.at (i := 2) rfl; have X4_f2 := X4.out.frozen 2
              have X4_c3 := X4.out.at (i := 3) rfl; have X4_f3 := X4.out.frozen 3
              have X4_c4 := X4.out.at (i := 4) rfl; have X4_f4 := X4.out.frozen 4
              have KS : Hid (∀ W', Below W6.heap.size W6 W' → (W'.cell? ⟨wr.heap.size, 0, none⟩ = some (.int .i64 fr) ∧ W'.cell? ⟨wr.heap.size, 1, none⟩ = some (.int .i64 tg) ∧ W'.cell? ⟨wr.heap.size, 2, none⟩ = some (.int .i64 st)) ∧ (W'.cell? ⟨gw, 0, none⟩ = some (.int .i64 g) ∧ W'.cell? ⟨gw, 1, none⟩ = some (.int .i64 e)) ∧ W'.cell? ⟨w1.heap.size, 0, none⟩ = some (.int .i64 t.n) ∧ W'.cell? ⟨w1.heap.size, 1, none⟩ = some (.int .i64 t.room) ∧ W'.cell? ⟨w1.heap.size, 2, none⟩ = some (.int .i64 g) ∧ W'.cell? ⟨w1.heap.size, 3, none⟩ = some (.int .i64 e) ∧ W'.cell? ⟨w1.heap.size, 4, none⟩ = some (.slice (some ⟨b, off, none⟩) t.rs.length cv)) := fun W' bb => ⟨⟨(X6.out.below bb).at rfl, (X6.out.below bb).at rfl, (X6.out.below bb).at rfl⟩, ⟨(XW.out.below bb).at rfl, (XW.out.below bb).at rfl⟩, (X4.out.below bb).at rfl, (X4.out.below bb).at rfl, (X4.out.below bb).at rfl, (X4.out.below bb).at rfl, (X4.out.below bb).at rfl⟩
              have KK : Hid (Below W6.heap.size W6 W6.drew) := (Below.refl _ _).drew
              refine wp_region_noPanic ?_
              refine wp_region_held_drew (S := (fun W => (W.cell? ⟨wr.heap.size, 0, none⟩ = some (.int .i64 fr) ∧ W.cell? ⟨wr.heap.size, 1, none⟩ = some (.int .i64 tg) ∧ W.cell? ⟨wr.heap.size, 2, none⟩ = some (.int .i64 st)) ∧ (W.cell? ⟨gw, 0, none⟩ = some (.int .i64 g) ∧ W.cell? ⟨gw, 1, none⟩ = some (.int .i64 e)) ∧ W.cell? ⟨w1.heap.size, 0, none⟩ = some (.int .i64 t.n) ∧ W.cell? ⟨w1.heap.size, 1, none⟩ = some (.int .i64 t.room) ∧ W.cell? ⟨w1.heap.size, 2, none⟩ = some (.int .i64 g) ∧ W.cell? ⟨w1.heap.size, 3, none⟩ = some (.int .i64 e) ∧ W.cell? ⟨w1.heap.size, 4, none⟩ = some (.slice (some ⟨b, off, none⟩) t.rs.length cv))) (by kernel_rfl) ?_ (fun hHeld => ?_)
              · exact KS.out _ KK.out
              (refine take_in (i := 0) (v := ?_) rfl (by rfl) (by kernel_rfl) (by kernel_rfl) (by kernel_rfl) (fun _ _ _ h => h) (by rfl) ?_ (by assumption) ?_; rotate_left; (focus ((intro w hSw; (try dsimp only at hSw); go_simp); (try with_reducible rfl); done)); (try simp only [List.setIfInBounds_toArray, List.set_cons_succ, List.set_cons_zero]))
              (refine take_in (i := 1) (v := ?_) rfl (by rfl) (by kernel_rfl) (by kernel_rfl) (by kernel_rfl) (fun _ _ _ h => h) (by rfl) ?_ (by assumption) ?_; rotate_left; (focus ((intro w hSw; (try dsimp only at hSw); go_simp); (try with_reducible rfl); done)); (try simp only [List.setIfInBounds_toArray, List.set_cons_succ, List.set_cons_zero]))
              (refine take_in (i := 2) (v := ?_) rfl (by rfl) (by kernel_rfl) (by kernel_rfl) (by kernel_rfl) (fun _ _ _ h => h) (by rfl) ?_ (by assumption) ?_; rotate_left; (focus ((intro w hSw; (try dsimp only at hSw); go_simp); (try with_reducible rfl); done)); (try simp only [List.setIfInBounds_toArray, List.set_cons_succ, List.set_cons_zero]))
              (refine take_in (i := 3) (v := ?_) rfl (by rfl) (by kernel_rfl) (by kernel_rfl) (by kernel_rfl) (fun _ _ _ h => h) (by rfl) ?_ (by assumption) ?_; rotate_left; (focus ((intro w hSw; (try dsimp only at hSw); go_simp); (try with_reducible rfl); done)); (try simp only [List.setIfInBounds_toArray, List.set_cons_succ, List.set_cons_zero]))
              first | (refine take_in (i := 4) (v := ?_) rfl (by rfl) (by kernel_rfl) (by kernel_rfl) (by kernel_rfl) (fun _ _ _ h => h) (by rfl) ?_ (by assumption) ?_; rotate_left; (focus ((intro w hSw; (try dsimp only at hSw); go_simp); (try with_reducible rfl); done)); (try simp only [List.setIfInBounds_toArray, List.set_cons_succ, List.set_cons_zero])) | (refine take_out (i := 4) rfl (by rfl) (by kernel_rfl) (by kernel_rfl) (by kernel_rfl) (fun _ _ _ h => h) (by rfl) (by assumption) ?_; (try simp only [List.setIfInBounds_toArray, List.set_cons_succ, List.set_cons_zero]))
              first | (refine take_in (i := 5) (v := ?_) rfl (by rfl) (by kernel_rfl) (by kernel_rfl) (by kernel_rfl) (fun _ _ _ h => h) (by rfl) ?_ (by assumption) ?_; rotate_left; (focus ((intro w hSw; (try dsimp only at hSw); go_simp); (try with_reducible rfl); done)); (try simp only [List.setIfInBounds_toArray, List.set_cons_succ, List.set_cons_zero])) | (refine take_out (i := 5) rfl (by rfl) (by kernel_rfl) (by kernel_rfl) (by kernel_rfl) (fun _ _ _ h => h) (by rfl) (by assumption) ?_; (try simp only [List.setIfInBounds_toArray, List.set_cons_succ, List.set_cons_zero]))
              first | (refine take_in (i := 6) (v := ?_) rfl (by rfl) (by kernel_rfl) (by kernel_rfl) (by kernel_rfl) (fun _ _ _ h => h) (by rfl) ?_ (by assumption) ?_; rotate_left; (focus ((intro w hSw; (try dsimp only at hSw); go_simp); (try with_reducible rfl); done)); (try simp only [List.setIfInBounds_toArray, List.set_cons_succ, List.set_cons_zero])) | (refine take_out (i := 6) rfl (by rfl) (by kernel_rfl) (by kernel_rfl) (by kernel_rfl) (fun _ _ _ h => h) (by rfl) (by assumption) ?_; (try simp only [List.setIfInBounds_toArray, List.set_cons_succ, List.set_cons_zero]))
              first | (refine take_in (i := 7) (v := ?_) rfl (by rfl) (by kernel_rfl) (by kernel_rfl) (by kernel_rfl) (fun _ _ _ h => h) (by rfl) ?_ (by assumption) ?_; rotate_left; (focus ((intro w hSw; (try dsimp only at hSw); go_simp); (try with_reducible rfl); done)); (try simp only [List.setIfInBounds_toArray, List.set_cons_succ, List.set_cons_zero])) | (refine take_out (i := 7) rfl (by rfl) (by kernel_rfl) (by kernel_rfl) (by kernel_rfl) (fun _ _ _ h => h) (by rfl) (by assumption) ?_; (try simp only [List.setIfInBounds_toArray, List.set_cons_succ, List.set_cons_zero]))
              first | (refine take_in (i := 8) (v := ?_) rfl (by rfl) (by kernel_rfl) (by kernel_rfl) (by kernel_rfl) (fun _ _ _ h => h) (by rfl) ?_ (by assumption) ?_; rotate_left; (focus ((intro w hSw; (try dsimp only at hSw); go_simp); (try with_reducible rfl); done)); (try simp only [List.setIfInBounds_toArray, List.set_cons_succ, List.set_cons_zero])) | (refine take_out (i := 8) rfl (by rfl) (by kernel_rfl) (by kernel_rfl) (by kernel_rfl) (fun _ _ _ h => h) (by rfl) (by assumption) ?_; (try simp only [List.setIfInBounds_toArray, List.set_cons_succ, List.set_cons_zero]))
              (refine take_in (i := 9) (v := ?_) rfl (by rfl) (by kernel_rfl) (by kernel_rfl) (by kernel_rfl) (fun _ _ _ h => h) (by rfl) ?_ (by assumption) ?_; rotate_left; (focus ((intro w hSw; (try dsimp only at hSw); go_simp); (try with_reducible rfl); done)); (try simp only [List.setIfInBounds_toArray, List.set_cons_succ, List.set_cons_zero]))
              (refine take_in (i := 10) (v := ?_) rfl (by rfl) (by kernel_rfl) (by kernel_rfl) (by kernel_rfl) (fun _ _ _ h => h) (by rfl) ?_ (by assumption) ?_; rotate_left; (focus ((intro w hSw; (try dsimp only at hSw); go_simp); (try with_reducible rfl); done)); (try simp only [List.setIfInBounds_toArray, List.set_cons_succ, List.set_cons_zero]))
              first | (refine take_in (i := 11) (v := ?_) rfl (by rfl) (by kernel_rfl) (by kernel_rfl) (by kernel_rfl) (fun _ _ _ h => h) (by rfl) ?_ (by assumption) ?_; rotate_left; (focus ((intro w hSw; (try dsimp only at hSw); go_simp); (try with_reducible rfl); done)); (try simp only [List.setIfInBounds_toArray, List.set_cons_succ, List.set_cons_zero])) | (refine take_out (i := 11) rfl (by rfl) (by kernel_rfl) (by kernel_rfl) (by kernel_rfl) (fun _ _ _ h => h) (by rfl) (by assumption) ?_; (try simp only [List.setIfInBounds_toArray, List.set_cons_succ, List.set_cons_zero]))
              first | (refine take_in (i := 13) (v := ?_) rfl (by rfl) (by kernel_rfl) (by kernel_rfl) (by kernel_rfl) (fun _ _ _ h => h) (by rfl) ?_ (by assumption) ?_; rotate_left; (focus ((intro w hSw; (try dsimp only at hSw); go_simp); (try with_reducible rfl); done)); (try simp only [List.setIfInBounds_toArray, List.set_cons_succ, List.set_cons_zero])) | (refine take_out (i := 13) rfl (by rfl) (by kernel_rfl) (by kernel_rfl) (by kernel_rfl) (fun _ _ _ h => h) (by rfl) (by assumption) ?_; (try simp only [List.setIfInBounds_toArray, List.set_cons_succ, List.set_cons_zero]))
              first | (refine take_in (i := 14) (v := ?_) rfl (by rfl) (by kernel_rfl) (by kernel_rfl) (by kernel_rfl) (fun _ _ _ h => h) (by rfl) ?_ (by assumption) ?_; rotate_left; (focus ((intro w hSw; (try dsimp only at hSw); go_simp); (try with_reducible rfl); done)); (try simp only [List.setIfInBounds_toArray, List.set_cons_succ, List.set_cons_zero])) | (refine take_out (i := 14) rfl (by rfl) (by kernel_rfl) (by kernel_rfl) (by kernel_rfl) (fun _ _ _ h => h) (by rfl) (by assumption) ?_; (try simp only [List.setIfInBounds_toArray, List.set_cons_succ, List.set_cons_zero]))
              refine wpAnyH_ready (rs := [12]) (by kernel_rfl) (by simp) ?_
              refine AllReadyH.cons rfl (fun K hK => ?_) AllReadyH.nil
              go_simp
              go_at_call 45
              refine (l11Dir_any (fr, tg, st) _).mono ?_
              rintro e v ⟨rfl, bb⟩
              replace KK := hide (bthen KK.out bb)
              have zKK := KK.out.size
              clear bb
              go_wp2_with fail
              refine hK.out _ _ ?_ (fun hHeld => ?_)
              · exact KS.out _ KK.out
              clear hK K
              (try simp only [Act.put, List.setIfInBounds_toArray, List.set_cons_zero, List.set_cons_succ])
              first | (refine take_in (i := 15) (v := ?_) rfl (by rfl) (by kernel_rfl) (by kernel_rfl) (by kernel_rfl) (fun _ _ _ h => h) (by rfl) ?_ (by assumption) ?_; rotate_left; (focus ((intro w hSw; (try dsimp only at hSw); go_simp); (try with_reducible rfl); done)); (try simp only [List.setIfInBounds_toArray, List.set_cons_succ, List.set_cons_zero])) | (refine take_out (i := 15) rfl (by rfl) (by kernel_rfl) (by kernel_rfl) (by kernel_rfl) (fun _ _ _ h => h) (by rfl) (by assumption) ?_; (try simp only [List.setIfInBounds_toArray, List.set_cons_succ, List.set_cons_zero]))
              (refine take_in (i := 16) (v := ?_) rfl (by rfl) (by kernel_rfl) (by kernel_rfl) (by kernel_rfl) (fun _ _ _ h => h) (by rfl) ?_ (by assumption) ?_; rotate_left; (focus ((intro w hSw; (try dsimp only at hSw); go_simp); (try with_reducible rfl); done)); (try simp only [List.setIfInBounds_toArray, List.set_cons_succ, List.set_cons_zero]))
              (refine take_in (i := 17) (v := ?_) rfl (by rfl) (by kernel_rfl) (by kernel_rfl) (by kernel_rfl) (fun _ _ _ h => h) (by rfl) ?_ (by assumption) ?_; rotate_left; (focus ((intro w hSw; (try dsimp only at hSw); go_simp); (try with_reducible rfl); done)); (try simp only [List.setIfInBounds_toArray, List.set_cons_succ, List.set_cons_zero]))
              first | (refine take_in (i := 18) (v := ?_) rfl (by rfl) (by kernel_rfl) (by kernel_rfl) (by kernel_rfl) (fun _ _ _ h => h) (by rfl) ?_ (by assumption) ?_; rotate_left; (focus ((intro w hSw; (try dsimp only at hSw); go_simp); (try with_reducible rfl); done)); (try simp only [List.setIfInBounds_toArray, List.set_cons_succ, List.set_cons_zero])) | (refine take_out (i := 18) rfl (by rfl) (by kernel_rfl) (by kernel_rfl) (by kernel_rfl) (fun _ _ _ h => h) (by rfl) (by assumption) ?_; (try simp only [List.setIfInBounds_toArray, List.set_cons_succ, List.set_cons_zero]))
              (refine take_out (i := 19) rfl (by rfl) (by kernel_rfl) (by kernel_rfl) (by kernel_rfl) (fun _ _ _ h => h) (by rfl) (by assumption) ?_; (try simp only [List.setIfInBounds_toArray, List.set_cons_succ, List.set_cons_zero]))
              first | (refine take_in (i := 20) (v := ?_) rfl (by rfl) (by kernel_rfl) (by kernel_rfl) (by kernel_rfl) (fun _ _ _ h => h) (by rfl) ?_ (by assumption) ?_; rotate_left; (focus ((intro w hSw; (try dsimp only at hSw); go_simp); (try with_reducible rfl); done)); (try simp only [List.setIfInBounds_toArray, List.set_cons_succ, List.set_cons_zero])) | (refine take_out (i := 20) rfl (by rfl) (by kernel_rfl) (by kernel_rfl) (by kernel_rfl) (fun _ _ _ h => h) (by rfl) (by assumption) ?_; (try simp only [List.setIfInBounds_toArray, List.set_cons_succ, List.set_cons_zero]))
              first | (refine take_in (i := 21) (v := ?_) rfl (by rfl) (by kernel_rfl) (by kernel_rfl) (by kernel_rfl) (fun _ _ _ h => h) (by rfl) ?_ (by assumption) ?_; rotate_left; (focus ((intro w hSw; (try dsimp only at hSw); go_simp); (try with_reducible rfl); done)); (try simp only [List.setIfInBounds_toArray, List.set_cons_succ, List.set_cons_zero])) | (refine take_out (i := 21) rfl (by rfl) (by kernel_rfl) (by kernel_rfl) (by kernel_rfl) (fun _ _ _ h => h) (by rfl) (by assumption) ?_; (try simp only [List.setIfInBounds_toArray, List.set_cons_succ, List.set_cons_zero]))
              first | (refine take_in (i := 22) (v := ?_) rfl (by rfl) (by kernel_rfl) (by kernel_rfl) (by kernel_rfl) (fun _ _ _ h => h) (by rfl) ?_ (by assumption) ?_; rotate_left; (focus ((intro w hSw; (try dsimp only at hSw); go_simp); (try with_reducible rfl); done)); (try simp only [List.setIfInBounds_toArray, List.set_cons_succ, List.set_cons_zero])) | (refine take_out (i := 22) rfl (by rfl) (by kernel_rfl) (by kernel_rfl) (by kernel_rfl) (fun _ _ _ h => h) (by rfl) (by assumption) ?_; (try simp only [List.setIfInBounds_toArray, List.set_cons_succ, List.set_cons_zero]))
              (refine take_in (i := 23) (v := ?_) rfl (by rfl) (by kernel_rfl) (by kernel_rfl) (by kernel_rfl) (fun _ _ _ h => h) (by rfl) ?_ (by assumption) ?_; rotate_left; (focus ((intro w hSw; (try dsimp only at hSw); go_simp); (try with_reducible rfl); done)); (try simp only [List.setIfInBounds_toArray, List.set_cons_succ, List.set_cons_zero]))
              refine wpAnyH_done (by kernel_rfl) ?_ _
              refine NoPanic.normal ?_
              clear KS
              clear X6_lt X6_c0 X6_f0 X6_c1 X6_f1 X6_c2 X6_f2
              clear XW_lt XW_c0 XW_f0 XW_c1 XW_f1
              clear X4_lt X4_c0 X4_f0 X4_c1 X4_f1 X4_c2 X4_f2 X4_c3 X4_f3 X4_c4 X4_f4
              have bb := KK.out
              have zbE := bb.size
              replace X4 := hide (X4.out.below bb)
              replace X2 := hide (X2.out.below bb)
              replace XW := hide (XW.out.below bb)
              replace RO := hide (RO.out.below bb)
              replace HCP := hide (HCP.out.below bb)
              replace BW := hide (bthen BW.out bb)
              clear bb
              go_wp2_with fail
              go_roundw
              case rel => exact ⟨k + 1, by omega, by go_num, by rw [HS.out.1]; exact RO, X4, X2, XW, BW, by omega, HCP⟩
              case measure => simp [intOf]; omega
            have q4 : (dirR (fr, tg, st) == e) = true := by simpa using h3
            have H3 := hide h3
            clear h3
            by_cases h0 : x < t.room
            rotate_left
            · have q1 : decide (x < t.room) = false := decide_eq_false h0
              have HS := hide (boardTo_no (g := g) (e := e) (m := m) hr.out fun h => h0 (by have := h.1; rw [← HMM.out] at this; omega))
              clear hxM h0
              have X6_lt := X6.out.lt
              have X6_c0 := X6.out.at (i := 0) rfl; have X6_f0 := X6.out.frozen 0
              have X6_c1 := X6.out.at (i := 1) rfl; have X6_f1 := X6.out.frozen 1
              have X6_c2 := X6.out.at (i := 2) rfl; have X6_f2 := X6.out.frozen 2
              have XW_lt := XW.out.lt
              have XW_c0 := XW.out.at (i := 0) rfl; have XW_f0 := XW.out.frozen 0
              have XW_c1 := XW.out.at (i := 1) rfl; have XW_f1 := XW.out.frozen 1
              have X4_lt := X4.out.lt
              have X4_c0 := X4.out.at (i := 0) rfl; have X4_f0 := X4.out.frozen 0
              have X4_c1 := X4.out.at (i := 1) rfl; have X4_f1 := X4.out.frozen 1
              have X4_c2 := X4.out.at (i := 2) rfl; have X4_f2 := X4.out.frozen 2
              have X4_c3 := X4.out.at (i := 3) rfl; have X4_f3 := X4.out.frozen 3
              have X4_c4 := X4.out.at (i := 4) rfl; have X4_f4 := X4.out.frozen 4
              have KS : Hid (∀ W', Below W6.heap.size W6 W' → (W'.cell? ⟨wr.heap.size, 0, none⟩ = some (.int .i64 fr) ∧ W'.cell? ⟨wr.heap.size, 1, none⟩ = some (.int .i64 tg) ∧ W'.cell? ⟨wr.heap.size, 2, none⟩ = some (.int .i64 st)) ∧ (W'.cell? ⟨gw, 0, none⟩ = some (.int .i64 g) ∧ W'.cell? ⟨gw, 1, none⟩ = some (.int .i64 e)) ∧ W'.cell? ⟨w1.heap.size, 0, none⟩ = some (.int .i64 t.n) ∧ W'.cell? ⟨w1.heap.size, 1, none⟩ = some (.int .i64 t.room) ∧ W'.cell? ⟨w1.heap.size, 2, none⟩ = some (.int .i64 g) ∧ W'.cell? ⟨w1.heap.size, 3, none⟩ = some (.int .i64 e) ∧ W'.cell? ⟨w1.heap.size, 4, none⟩ = some (.slice (some ⟨b, off, none⟩) t.rs.length cv)) := fun W' bb => ⟨⟨(X6.out.below bb).at rfl, (X6.out.below bb).at rfl, (X6.out.below bb).at rfl⟩, ⟨(XW.out.below bb).at rfl, (XW.out.below bb).at rfl⟩, (X4.out.below bb).at rfl, (X4.out.below bb).at rfl, (X4.out.below bb).at rfl, (X4.out.below bb).at rfl, (X4.out.below bb).at rfl⟩
              have KK : Hid (Below W6.heap.size W6 W6.drew) := (Below.refl _ _).drew
              refine wp_region_noPanic ?_
              refine wp_region_held_drew (S := (fun W => (W.cell? ⟨wr.heap.size, 0, none⟩ = some (.int .i64 fr) ∧ W.cell? ⟨wr.heap.size, 1, none⟩ = some (.int .i64 tg) ∧ W.cell? ⟨wr.heap.size, 2, none⟩ = some (.int .i64 st)) ∧ (W.cell? ⟨gw, 0, none⟩ = some (.int .i64 g) ∧ W.cell? ⟨gw, 1, none⟩ = some (.int .i64 e)) ∧ W.cell? ⟨w1.heap.size, 0, none⟩ = some (.int .i64 t.n) ∧ W.cell? ⟨w1.heap.size, 1, none⟩ = some (.int .i64 t.room) ∧ W.cell? ⟨w1.heap.size, 2, none⟩ = some (.int .i64 g) ∧ W.cell? ⟨w1.heap.size, 3, none⟩ = some (.int .i64 e) ∧ W.cell? ⟨w1.heap.size, 4, none⟩ = some (.slice (some ⟨b, off, none⟩) t.rs.length cv))) (by kernel_rfl) ?_ (fun hHeld => ?_)
              · exact KS.out _ KK.out
              (refine take_in (i := 0) (v := ?_) rfl (by rfl) (by kernel_rfl) (by kernel_rfl) (by kernel_rfl) (fun _ _ _ h => h) (by rfl) ?_ (by assumption) ?_; rotate_left; (focus ((intro w hSw; (try dsimp only at hSw); go_simp); (try with_reducible rfl); done)); (try simp only [List.setIfInBounds_toArray, List.set_cons_succ, List.set_cons_zero]))
              (refine take_in (i := 1) (v := ?_) rfl (by rfl) (by kernel_rfl) (by kernel_rfl) (by kernel_rfl) (fun _ _ _ h => h) (by rfl) ?_ (by assumption) ?_; rotate_left; (focus ((intro w hSw; (try dsimp only at hSw); go_simp); (try with_reducible rfl); done)); (try simp only [List.setIfInBounds_toArray, List.set_cons_succ, List.set_cons_zero]))
              (refine take_in (i := 2) (v := ?_) rfl (by rfl) (by kernel_rfl) (by kernel_rfl) (by kernel_rfl) (fun _ _ _ h => h) (by rfl) ?_ (by assumption) ?_; rotate_left; (focus ((intro w hSw; (try dsimp only at hSw); go_simp); (try with_reducible rfl); done)); (try simp only [List.setIfInBounds_toArray, List.set_cons_succ, List.set_cons_zero]))
              (refine take_in (i := 3) (v := ?_) rfl (by rfl) (by kernel_rfl) (by kernel_rfl) (by kernel_rfl) (fun _ _ _ h => h) (by rfl) ?_ (by assumption) ?_; rotate_left; (focus ((intro w hSw; (try dsimp only at hSw); go_simp); (try with_reducible rfl); done)); (try simp only [List.setIfInBounds_toArray, List.set_cons_succ, List.set_cons_zero]))
              first | (refine take_in (i := 4) (v := ?_) rfl (by rfl) (by kernel_rfl) (by kernel_rfl) (by kernel_rfl) (fun _ _ _ h => h) (by rfl) ?_ (by assumption) ?_; rotate_left; (focus ((intro w hSw; (try dsimp only at hSw); go_simp); (try with_reducible rfl); done)); (try simp only [List.setIfInBounds_toArray, List.set_cons_succ, List.set_cons_zero])) | (refine take_out (i := 4) rfl (by rfl) (by kernel_rfl) (by kernel_rfl) (by kernel_rfl) (fun _ _ _ h => h) (by rfl) (by assumption) ?_; (try simp only [List.setIfInBounds_toArray, List.set_cons_succ, List.set_cons_zero]))
              first | (refine take_in (i := 5) (v := ?_) rfl (by rfl) (by kernel_rfl) (by kernel_rfl) (by kernel_rfl) (fun _ _ _ h => h) (by rfl) ?_ (by assumption) ?_; rotate_left; (focus ((intro w hSw; (try dsimp only at hSw); go_simp); (try with_reducible rfl); done)); (try simp only [List.setIfInBounds_toArray, List.set_cons_succ, List.set_cons_zero])) | (refine take_out (i := 5) rfl (by rfl) (by kernel_rfl) (by kernel_rfl) (by kernel_rfl) (fun _ _ _ h => h) (by rfl) (by assumption) ?_; (try simp only [List.setIfInBounds_toArray, List.set_cons_succ, List.set_cons_zero]))
              first | (refine take_in (i := 6) (v := ?_) rfl (by rfl) (by kernel_rfl) (by kernel_rfl) (by kernel_rfl) (fun _ _ _ h => h) (by rfl) ?_ (by assumption) ?_; rotate_left; (focus ((intro w hSw; (try dsimp only at hSw); go_simp); (try with_reducible rfl); done)); (try simp only [List.setIfInBounds_toArray, List.set_cons_succ, List.set_cons_zero])) | (refine take_out (i := 6) rfl (by rfl) (by kernel_rfl) (by kernel_rfl) (by kernel_rfl) (fun _ _ _ h => h) (by rfl) (by assumption) ?_; (try simp only [List.setIfInBounds_toArray, List.set_cons_succ, List.set_cons_zero]))
              first | (refine take_in (i := 7) (v := ?_) rfl (by rfl) (by kernel_rfl) (by kernel_rfl) (by kernel_rfl) (fun _ _ _ h => h) (by rfl) ?_ (by assumption) ?_; rotate_left; (focus ((intro w hSw; (try dsimp only at hSw); go_simp); (try with_reducible rfl); done)); (try simp only [List.setIfInBounds_toArray, List.set_cons_succ, List.set_cons_zero])) | (refine take_out (i := 7) rfl (by rfl) (by kernel_rfl) (by kernel_rfl) (by kernel_rfl) (fun _ _ _ h => h) (by rfl) (by assumption) ?_; (try simp only [List.setIfInBounds_toArray, List.set_cons_succ, List.set_cons_zero]))
              first | (refine take_in (i := 8) (v := ?_) rfl (by rfl) (by kernel_rfl) (by kernel_rfl) (by kernel_rfl) (fun _ _ _ h => h) (by rfl) ?_ (by assumption) ?_; rotate_left; (focus ((intro w hSw; (try dsimp only at hSw); go_simp); (try with_reducible rfl); done)); (try simp only [List.setIfInBounds_toArray, List.set_cons_succ, List.set_cons_zero])) | (refine take_out (i := 8) rfl (by rfl) (by kernel_rfl) (by kernel_rfl) (by kernel_rfl) (fun _ _ _ h => h) (by rfl) (by assumption) ?_; (try simp only [List.setIfInBounds_toArray, List.set_cons_succ, List.set_cons_zero]))
              (refine take_in (i := 9) (v := ?_) rfl (by rfl) (by kernel_rfl) (by kernel_rfl) (by kernel_rfl) (fun _ _ _ h => h) (by rfl) ?_ (by assumption) ?_; rotate_left; (focus ((intro w hSw; (try dsimp only at hSw); go_simp); (try with_reducible rfl); done)); (try simp only [List.setIfInBounds_toArray, List.set_cons_succ, List.set_cons_zero]))
              (refine take_in (i := 10) (v := ?_) rfl (by rfl) (by kernel_rfl) (by kernel_rfl) (by kernel_rfl) (fun _ _ _ h => h) (by rfl) ?_ (by assumption) ?_; rotate_left; (focus ((intro w hSw; (try dsimp only at hSw); go_simp); (try with_reducible rfl); done)); (try simp only [List.setIfInBounds_toArray, List.set_cons_succ, List.set_cons_zero]))
              first | (refine take_in (i := 11) (v := ?_) rfl (by rfl) (by kernel_rfl) (by kernel_rfl) (by kernel_rfl) (fun _ _ _ h => h) (by rfl) ?_ (by assumption) ?_; rotate_left; (focus ((intro w hSw; (try dsimp only at hSw); go_simp); (try with_reducible rfl); done)); (try simp only [List.setIfInBounds_toArray, List.set_cons_succ, List.set_cons_zero])) | (refine take_out (i := 11) rfl (by rfl) (by kernel_rfl) (by kernel_rfl) (by kernel_rfl) (fun _ _ _ h => h) (by rfl) (by assumption) ?_; (try simp only [List.setIfInBounds_toArray, List.set_cons_succ, List.set_cons_zero]))
              first | (refine take_in (i := 13) (v := ?_) rfl (by rfl) (by kernel_rfl) (by kernel_rfl) (by kernel_rfl) (fun _ _ _ h => h) (by rfl) ?_ (by assumption) ?_; rotate_left; (focus ((intro w hSw; (try dsimp only at hSw); go_simp); (try with_reducible rfl); done)); (try simp only [List.setIfInBounds_toArray, List.set_cons_succ, List.set_cons_zero])) | (refine take_out (i := 13) rfl (by rfl) (by kernel_rfl) (by kernel_rfl) (by kernel_rfl) (fun _ _ _ h => h) (by rfl) (by assumption) ?_; (try simp only [List.setIfInBounds_toArray, List.set_cons_succ, List.set_cons_zero]))
              first | (refine take_in (i := 14) (v := ?_) rfl (by rfl) (by kernel_rfl) (by kernel_rfl) (by kernel_rfl) (fun _ _ _ h => h) (by rfl) ?_ (by assumption) ?_; rotate_left; (focus ((intro w hSw; (try dsimp only at hSw); go_simp); (try with_reducible rfl); done)); (try simp only [List.setIfInBounds_toArray, List.set_cons_succ, List.set_cons_zero])) | (refine take_out (i := 14) rfl (by rfl) (by kernel_rfl) (by kernel_rfl) (by kernel_rfl) (fun _ _ _ h => h) (by rfl) (by assumption) ?_; (try simp only [List.setIfInBounds_toArray, List.set_cons_succ, List.set_cons_zero]))
              refine wpAnyH_ready (rs := [12]) (by kernel_rfl) (by simp) ?_
              refine AllReadyH.cons rfl (fun K hK => ?_) AllReadyH.nil
              go_simp
              go_at_call 45
              refine (l11Dir_any (fr, tg, st) _).mono ?_
              rintro e v ⟨rfl, bb⟩
              replace KK := hide (bthen KK.out bb)
              have zKK := KK.out.size
              clear bb
              go_wp2_with fail
              refine hK.out _ _ ?_ (fun hHeld => ?_)
              · exact KS.out _ KK.out
              clear hK K
              (try simp only [Act.put, List.setIfInBounds_toArray, List.set_cons_zero, List.set_cons_succ])
              first | (refine take_in (i := 15) (v := ?_) rfl (by rfl) (by kernel_rfl) (by kernel_rfl) (by kernel_rfl) (fun _ _ _ h => h) (by rfl) ?_ (by assumption) ?_; rotate_left; (focus ((intro w hSw; (try dsimp only at hSw); go_simp); (try with_reducible rfl); done)); (try simp only [List.setIfInBounds_toArray, List.set_cons_succ, List.set_cons_zero])) | (refine take_out (i := 15) rfl (by rfl) (by kernel_rfl) (by kernel_rfl) (by kernel_rfl) (fun _ _ _ h => h) (by rfl) (by assumption) ?_; (try simp only [List.setIfInBounds_toArray, List.set_cons_succ, List.set_cons_zero]))
              (refine take_in (i := 16) (v := ?_) rfl (by rfl) (by kernel_rfl) (by kernel_rfl) (by kernel_rfl) (fun _ _ _ h => h) (by rfl) ?_ (by assumption) ?_; rotate_left; (focus ((intro w hSw; (try dsimp only at hSw); go_simp); (try with_reducible rfl); done)); (try simp only [List.setIfInBounds_toArray, List.set_cons_succ, List.set_cons_zero]))
              (refine take_in (i := 17) (v := ?_) rfl (by rfl) (by kernel_rfl) (by kernel_rfl) (by kernel_rfl) (fun _ _ _ h => h) (by rfl) ?_ (by assumption) ?_; rotate_left; (focus ((intro w hSw; (try dsimp only at hSw); go_simp); (try with_reducible rfl); done)); (try simp only [List.setIfInBounds_toArray, List.set_cons_succ, List.set_cons_zero]))
              first | (refine take_in (i := 18) (v := ?_) rfl (by rfl) (by kernel_rfl) (by kernel_rfl) (by kernel_rfl) (fun _ _ _ h => h) (by rfl) ?_ (by assumption) ?_; rotate_left; (focus ((intro w hSw; (try dsimp only at hSw); go_simp); (try with_reducible rfl); done)); (try simp only [List.setIfInBounds_toArray, List.set_cons_succ, List.set_cons_zero])) | (refine take_out (i := 18) rfl (by rfl) (by kernel_rfl) (by kernel_rfl) (by kernel_rfl) (fun _ _ _ h => h) (by rfl) (by assumption) ?_; (try simp only [List.setIfInBounds_toArray, List.set_cons_succ, List.set_cons_zero]))
              first | (refine take_in (i := 20) (v := ?_) rfl (by rfl) (by kernel_rfl) (by kernel_rfl) (by kernel_rfl) (fun _ _ _ h => h) (by rfl) ?_ (by assumption) ?_; rotate_left; (focus ((intro w hSw; (try dsimp only at hSw); go_simp); (try with_reducible rfl); done)); (try simp only [List.setIfInBounds_toArray, List.set_cons_succ, List.set_cons_zero])) | (refine take_out (i := 20) rfl (by rfl) (by kernel_rfl) (by kernel_rfl) (by kernel_rfl) (fun _ _ _ h => h) (by rfl) (by assumption) ?_; (try simp only [List.setIfInBounds_toArray, List.set_cons_succ, List.set_cons_zero]))
              first | (refine take_in (i := 21) (v := ?_) rfl (by rfl) (by kernel_rfl) (by kernel_rfl) (by kernel_rfl) (fun _ _ _ h => h) (by rfl) ?_ (by assumption) ?_; rotate_left; (focus ((intro w hSw; (try dsimp only at hSw); go_simp); (try with_reducible rfl); done)); (try simp only [List.setIfInBounds_toArray, List.set_cons_succ, List.set_cons_zero])) | (refine take_out (i := 21) rfl (by rfl) (by kernel_rfl) (by kernel_rfl) (by kernel_rfl) (fun _ _ _ h => h) (by rfl) (by assumption) ?_; (try simp only [List.setIfInBounds_toArray, List.set_cons_succ, List.set_cons_zero]))
              refine wpAnyH_ready (rs := [19]) (by kernel_rfl) (by simp) ?_
              refine AllReadyH.cons rfl (fun K hK => ?_) AllReadyH.nil
              go_simp
              go_at_call 46
              refine (l11Inside_at (some ⟨b, off, none⟩) cv t.rs.length ⟨t.n, t.room, g, e, boardTo g e m L k⟩ x (by show (boardTo g e m L k).length = _; rw [boardTo_len]; exact hLl) HX.out _ ?_ (by omega)).mono ?_
              · exact H9.out.below KK.out
              rintro e v ⟨rfl, bb⟩
              replace KK := hide (bthen KK.out bb)
              have zKK := KK.out.size
              clear bb
              go_wp2_with fail
              refine hK.out _ _ ?_ (fun hHeld => ?_)
              · exact KS.out _ KK.out
              clear hK K
              (try simp only [Act.put, List.setIfInBounds_toArray, List.set_cons_zero, List.set_cons_succ])
              first | (refine take_in (i := 22) (v := ?_) rfl (by rfl) (by kernel_rfl) (by kernel_rfl) (by kernel_rfl) (fun _ _ _ h => h) (by rfl) ?_ (by assumption) ?_; rotate_left; (focus ((intro w hSw; (try dsimp only at hSw); go_simp); (try with_reducible rfl); done)); (try simp only [List.setIfInBounds_toArray, List.set_cons_succ, List.set_cons_zero])) | (refine take_out (i := 22) rfl (by rfl) (by kernel_rfl) (by kernel_rfl) (by kernel_rfl) (fun _ _ _ h => h) (by rfl) (by assumption) ?_; (try simp only [List.setIfInBounds_toArray, List.set_cons_succ, List.set_cons_zero]))
              (refine take_in (i := 23) (v := ?_) rfl (by rfl) (by kernel_rfl) (by kernel_rfl) (by kernel_rfl) (fun _ _ _ h => h) (by rfl) ?_ (by assumption) ?_; rotate_left; (focus ((intro w hSw; (try dsimp only at hSw); go_simp); (try with_reducible rfl); done)); (try simp only [List.setIfInBounds_toArray, List.set_cons_succ, List.set_cons_zero]))
              refine wpAnyH_done (by kernel_rfl) ?_ _
              refine NoPanic.normal ?_
              clear KS
              clear X6_lt X6_c0 X6_f0 X6_c1 X6_f1 X6_c2 X6_f2
              clear XW_lt XW_c0 XW_f0 XW_c1 XW_f1
              clear X4_lt X4_c0 X4_f0 X4_c1 X4_f1 X4_c2 X4_f2 X4_c3 X4_f3 X4_c4 X4_f4
              have bb := KK.out
              have zbE := bb.size
              replace X4 := hide (X4.out.below bb)
              replace X2 := hide (X2.out.below bb)
              replace XW := hide (XW.out.below bb)
              replace RO := hide (RO.out.below bb)
              replace HCP := hide (HCP.out.below bb)
              replace BW := hide (bthen BW.out bb)
              clear bb
              go_wp2_with fail
              go_roundw
              case rel => exact ⟨k + 1, by omega, by go_num, by rw [HS.out.1]; exact RO, X4, X2, XW, BW, by omega, HCP⟩
              case measure => simp [intOf]; omega
            have q1 : decide (x < t.room) = true := decide_eq_true h0
            have HS := hide (boardTo_yes (g := g) (e := e) (m := m) hr.out ⟨by rw [← HMM.out]; omega, H1.out, H2.out, H3.out⟩)
            clear h0
            clear hxM 
            have X6_lt := X6.out.lt
            have X6_c0 := X6.out.at (i := 0) rfl; have X6_f0 := X6.out.frozen 0
            have X6_c1 := X6.out.at (i := 1) rfl; have X6_f1 := X6.out.frozen 1
            have X6_c2 := X6.out.at (i := 2) rfl; have X6_f2 := X6.out.frozen 2
            have XW_lt := XW.out.lt
            have XW_c0 := XW.out.at (i := 0) rfl; have XW_f0 := XW.out.frozen 0
            have XW_c1 := XW.out.at (i := 1) rfl; have XW_f1 := XW.out.frozen 1
            have X4_lt := X4.out.lt
            have X4_c0 := X4.out.at (i := 0) rfl; have X4_f0 := X4.out.frozen 0
            have X4_c1 := X4.out.at (i := 1) rfl; have X4_f1 := X4.out.frozen 1
            have X4_c2 := X4.out.at (i := 2) rfl; have X4_f2 := X4.out.frozen 2
            have X4_c3 := X4.out.at (i := 3) rfl; have X4_f3 := X4.out.frozen 3
            have X4_c4 := X4.out.at (i := 4) rfl; have X4_f4 := X4.out.frozen 4
            have KS : Hid (∀ W', Below W6.heap.size W6 W' → (W'.cell? ⟨wr.heap.size, 0, none⟩ = some (.int .i64 fr) ∧ W'.cell? ⟨wr.heap.size, 1, none⟩ = some (.int .i64 tg) ∧ W'.cell? ⟨wr.heap.size, 2, none⟩ = some (.int .i64 st)) ∧ (W'.cell? ⟨gw, 0, none⟩ = some (.int .i64 g) ∧ W'.cell? ⟨gw, 1, none⟩ = some (.int .i64 e)) ∧ W'.cell? ⟨w1.heap.size, 0, none⟩ = some (.int .i64 t.n) ∧ W'.cell? ⟨w1.heap.size, 1, none⟩ = some (.int .i64 t.room) ∧ W'.cell? ⟨w1.heap.size, 2, none⟩ = some (.int .i64 g) ∧ W'.cell? ⟨w1.heap.size, 3, none⟩ = some (.int .i64 e) ∧ W'.cell? ⟨w1.heap.size, 4, none⟩ = some (.slice (some ⟨b, off, none⟩) t.rs.length cv)) := fun W' bb => ⟨⟨(X6.out.below bb).at rfl, (X6.out.below bb).at rfl, (X6.out.below bb).at rfl⟩, ⟨(XW.out.below bb).at rfl, (XW.out.below bb).at rfl⟩, (X4.out.below bb).at rfl, (X4.out.below bb).at rfl, (X4.out.below bb).at rfl, (X4.out.below bb).at rfl, (X4.out.below bb).at rfl⟩
            have KK : Hid (Below W6.heap.size W6 W6.drew) := (Below.refl _ _).drew
            refine wp_region_noPanic ?_
            refine wp_region_held_drew (S := (fun W => (W.cell? ⟨wr.heap.size, 0, none⟩ = some (.int .i64 fr) ∧ W.cell? ⟨wr.heap.size, 1, none⟩ = some (.int .i64 tg) ∧ W.cell? ⟨wr.heap.size, 2, none⟩ = some (.int .i64 st)) ∧ (W.cell? ⟨gw, 0, none⟩ = some (.int .i64 g) ∧ W.cell? ⟨gw, 1, none⟩ = some (.int .i64 e)) ∧ W.cell? ⟨w1.heap.size, 0, none⟩ = some (.int .i64 t.n) ∧ W.cell? ⟨w1.heap.size, 1, none⟩ = some (.int .i64 t.room) ∧ W.cell? ⟨w1.heap.size, 2, none⟩ = some (.int .i64 g) ∧ W.cell? ⟨w1.heap.size, 3, none⟩ = some (.int .i64 e) ∧ W.cell? ⟨w1.heap.size, 4, none⟩ = some (.slice (some ⟨b, off, none⟩) t.rs.length cv))) (by kernel_rfl) ?_ (fun hHeld => ?_)
            · exact KS.out _ KK.out
            (refine take_in (i := 0) (v := ?_) rfl (by rfl) (by kernel_rfl) (by kernel_rfl) (by kernel_rfl) (fun _ _ _ h => h) (by rfl) ?_ (by assumption) ?_; rotate_left; (focus ((intro w hSw; (try dsimp only at hSw); go_simp); (try with_reducible rfl); done)); (try simp only [List.setIfInBounds_toArray, List.set_cons_succ, List.set_cons_zero]))
            (refine take_in (i := 1) (v := ?_) rfl (by rfl) (by kernel_rfl) (by kernel_rfl) (by kernel_rfl) (fun _ _ _ h => h) (by rfl) ?_ (by assumption) ?_; rotate_left; (focus ((intro w hSw; (try dsimp only at hSw); go_simp); (try with_reducible rfl); done)); (try simp only [List.setIfInBounds_toArray, List.set_cons_succ, List.set_cons_zero]))
            (refine take_in (i := 2) (v := ?_) rfl (by rfl) (by kernel_rfl) (by kernel_rfl) (by kernel_rfl) (fun _ _ _ h => h) (by rfl) ?_ (by assumption) ?_; rotate_left; (focus ((intro w hSw; (try dsimp only at hSw); go_simp); (try with_reducible rfl); done)); (try simp only [List.setIfInBounds_toArray, List.set_cons_succ, List.set_cons_zero]))
            (refine take_in (i := 3) (v := ?_) rfl (by rfl) (by kernel_rfl) (by kernel_rfl) (by kernel_rfl) (fun _ _ _ h => h) (by rfl) ?_ (by assumption) ?_; rotate_left; (focus ((intro w hSw; (try dsimp only at hSw); go_simp); (try with_reducible rfl); done)); (try simp only [List.setIfInBounds_toArray, List.set_cons_succ, List.set_cons_zero]))
            first | (refine take_in (i := 4) (v := ?_) rfl (by rfl) (by kernel_rfl) (by kernel_rfl) (by kernel_rfl) (fun _ _ _ h => h) (by rfl) ?_ (by assumption) ?_; rotate_left; (focus ((intro w hSw; (try dsimp only at hSw); go_simp); (try with_reducible rfl); done)); (try simp only [List.setIfInBounds_toArray, List.set_cons_succ, List.set_cons_zero])) | (refine take_out (i := 4) rfl (by rfl) (by kernel_rfl) (by kernel_rfl) (by kernel_rfl) (fun _ _ _ h => h) (by rfl) (by assumption) ?_; (try simp only [List.setIfInBounds_toArray, List.set_cons_succ, List.set_cons_zero]))
            first | (refine take_in (i := 5) (v := ?_) rfl (by rfl) (by kernel_rfl) (by kernel_rfl) (by kernel_rfl) (fun _ _ _ h => h) (by rfl) ?_ (by assumption) ?_; rotate_left; (focus ((intro w hSw; (try dsimp only at hSw); go_simp); (try with_reducible rfl); done)); (try simp only [List.setIfInBounds_toArray, List.set_cons_succ, List.set_cons_zero])) | (refine take_out (i := 5) rfl (by rfl) (by kernel_rfl) (by kernel_rfl) (by kernel_rfl) (fun _ _ _ h => h) (by rfl) (by assumption) ?_; (try simp only [List.setIfInBounds_toArray, List.set_cons_succ, List.set_cons_zero]))
            first | (refine take_in (i := 6) (v := ?_) rfl (by rfl) (by kernel_rfl) (by kernel_rfl) (by kernel_rfl) (fun _ _ _ h => h) (by rfl) ?_ (by assumption) ?_; rotate_left; (focus ((intro w hSw; (try dsimp only at hSw); go_simp); (try with_reducible rfl); done)); (try simp only [List.setIfInBounds_toArray, List.set_cons_succ, List.set_cons_zero])) | (refine take_out (i := 6) rfl (by rfl) (by kernel_rfl) (by kernel_rfl) (by kernel_rfl) (fun _ _ _ h => h) (by rfl) (by assumption) ?_; (try simp only [List.setIfInBounds_toArray, List.set_cons_succ, List.set_cons_zero]))
            first | (refine take_in (i := 7) (v := ?_) rfl (by rfl) (by kernel_rfl) (by kernel_rfl) (by kernel_rfl) (fun _ _ _ h => h) (by rfl) ?_ (by assumption) ?_; rotate_left; (focus ((intro w hSw; (try dsimp only at hSw); go_simp); (try with_reducible rfl); done)); (try simp only [List.setIfInBounds_toArray, List.set_cons_succ, List.set_cons_zero])) | (refine take_out (i := 7) rfl (by rfl) (by kernel_rfl) (by kernel_rfl) (by kernel_rfl) (fun _ _ _ h => h) (by rfl) (by assumption) ?_; (try simp only [List.setIfInBounds_toArray, List.set_cons_succ, List.set_cons_zero]))
            first | (refine take_in (i := 8) (v := ?_) rfl (by rfl) (by kernel_rfl) (by kernel_rfl) (by kernel_rfl) (fun _ _ _ h => h) (by rfl) ?_ (by assumption) ?_; rotate_left; (focus ((intro w hSw; (try dsimp only at hSw); go_simp); (try with_reducible rfl); done)); (try simp only [List.setIfInBounds_toArray, List.set_cons_succ, List.set_cons_zero])) | (refine take_out (i := 8) rfl (by rfl) (by kernel_rfl) (by kernel_rfl) (by kernel_rfl) (fun _ _ _ h => h) (by rfl) (by assumption) ?_; (try simp only [List.setIfInBounds_toArray, List.set_cons_succ, List.set_cons_zero]))
            (refine take_in (i := 9) (v := ?_) rfl (by rfl) (by kernel_rfl) (by kernel_rfl) (by kernel_rfl) (fun _ _ _ h => h) (by rfl) ?_ (by assumption) ?_; rotate_left; (focus ((intro w hSw; (try dsimp only at hSw); go_simp); (try with_reducible rfl); done)); (try simp only [List.setIfInBounds_toArray, List.set_cons_succ, List.set_cons_zero]))
            (refine take_in (i := 10) (v := ?_) rfl (by rfl) (by kernel_rfl) (by kernel_rfl) (by kernel_rfl) (fun _ _ _ h => h) (by rfl) ?_ (by assumption) ?_; rotate_left; (focus ((intro w hSw; (try dsimp only at hSw); go_simp); (try with_reducible rfl); done)); (try simp only [List.setIfInBounds_toArray, List.set_cons_succ, List.set_cons_zero]))
            first | (refine take_in (i := 11) (v := ?_) rfl (by rfl) (by kernel_rfl) (by kernel_rfl) (by kernel_rfl) (fun _ _ _ h => h) (by rfl) ?_ (by assumption) ?_; rotate_left; (focus ((intro w hSw; (try dsimp only at hSw); go_simp); (try with_reducible rfl); done)); (try simp only [List.setIfInBounds_toArray, List.set_cons_succ, List.set_cons_zero])) | (refine take_out (i := 11) rfl (by rfl) (by kernel_rfl) (by kernel_rfl) (by kernel_rfl) (fun _ _ _ h => h) (by rfl) (by assumption) ?_; (try simp only [List.setIfInBounds_toArray, List.set_cons_succ, List.set_cons_zero]))
            first | (refine take_in (i := 13) (v := ?_) rfl (by rfl) (by kernel_rfl) (by kernel_rfl) (by kernel_rfl) (fun _ _ _ h => h) (by rfl) ?_ (by assumption) ?_; rotate_left; (focus ((intro w hSw; (try dsimp only at hSw); go_simp); (try with_reducible rfl); done)); (try simp only [List.setIfInBounds_toArray, List.set_cons_succ, List.set_cons_zero])) | (refine take_out (i := 13) rfl (by rfl) (by kernel_rfl) (by kernel_rfl) (by kernel_rfl) (fun _ _ _ h => h) (by rfl) (by assumption) ?_; (try simp only [List.setIfInBounds_toArray, List.set_cons_succ, List.set_cons_zero]))
            first | (refine take_in (i := 14) (v := ?_) rfl (by rfl) (by kernel_rfl) (by kernel_rfl) (by kernel_rfl) (fun _ _ _ h => h) (by rfl) ?_ (by assumption) ?_; rotate_left; (focus ((intro w hSw; (try dsimp only at hSw); go_simp); (try with_reducible rfl); done)); (try simp only [List.setIfInBounds_toArray, List.set_cons_succ, List.set_cons_zero])) | (refine take_out (i := 14) rfl (by rfl) (by kernel_rfl) (by kernel_rfl) (by kernel_rfl) (fun _ _ _ h => h) (by rfl) (by assumption) ?_; (try simp only [List.setIfInBounds_toArray, List.set_cons_succ, List.set_cons_zero]))
            refine wpAnyH_ready (rs := [12]) (by kernel_rfl) (by simp) ?_
            refine AllReadyH.cons rfl (fun K hK => ?_) AllReadyH.nil
            go_simp
            go_at_call 45
            refine (l11Dir_any (fr, tg, st) _).mono ?_
            rintro e v ⟨rfl, bb⟩
            replace KK := hide (bthen KK.out bb)
            have zKK := KK.out.size
            clear bb
            go_wp2_with fail
            refine hK.out _ _ ?_ (fun hHeld => ?_)
            · exact KS.out _ KK.out
            clear hK K
            (try simp only [Act.put, List.setIfInBounds_toArray, List.set_cons_zero, List.set_cons_succ])
            first | (refine take_in (i := 15) (v := ?_) rfl (by rfl) (by kernel_rfl) (by kernel_rfl) (by kernel_rfl) (fun _ _ _ h => h) (by rfl) ?_ (by assumption) ?_; rotate_left; (focus ((intro w hSw; (try dsimp only at hSw); go_simp); (try with_reducible rfl); done)); (try simp only [List.setIfInBounds_toArray, List.set_cons_succ, List.set_cons_zero])) | (refine take_out (i := 15) rfl (by rfl) (by kernel_rfl) (by kernel_rfl) (by kernel_rfl) (fun _ _ _ h => h) (by rfl) (by assumption) ?_; (try simp only [List.setIfInBounds_toArray, List.set_cons_succ, List.set_cons_zero]))
            (refine take_in (i := 16) (v := ?_) rfl (by rfl) (by kernel_rfl) (by kernel_rfl) (by kernel_rfl) (fun _ _ _ h => h) (by rfl) ?_ (by assumption) ?_; rotate_left; (focus ((intro w hSw; (try dsimp only at hSw); go_simp); (try with_reducible rfl); done)); (try simp only [List.setIfInBounds_toArray, List.set_cons_succ, List.set_cons_zero]))
            (refine take_in (i := 17) (v := ?_) rfl (by rfl) (by kernel_rfl) (by kernel_rfl) (by kernel_rfl) (fun _ _ _ h => h) (by rfl) ?_ (by assumption) ?_; rotate_left; (focus ((intro w hSw; (try dsimp only at hSw); go_simp); (try with_reducible rfl); done)); (try simp only [List.setIfInBounds_toArray, List.set_cons_succ, List.set_cons_zero]))
            first | (refine take_in (i := 18) (v := ?_) rfl (by rfl) (by kernel_rfl) (by kernel_rfl) (by kernel_rfl) (fun _ _ _ h => h) (by rfl) ?_ (by assumption) ?_; rotate_left; (focus ((intro w hSw; (try dsimp only at hSw); go_simp); (try with_reducible rfl); done)); (try simp only [List.setIfInBounds_toArray, List.set_cons_succ, List.set_cons_zero])) | (refine take_out (i := 18) rfl (by rfl) (by kernel_rfl) (by kernel_rfl) (by kernel_rfl) (fun _ _ _ h => h) (by rfl) (by assumption) ?_; (try simp only [List.setIfInBounds_toArray, List.set_cons_succ, List.set_cons_zero]))
            first | (refine take_in (i := 20) (v := ?_) rfl (by rfl) (by kernel_rfl) (by kernel_rfl) (by kernel_rfl) (fun _ _ _ h => h) (by rfl) ?_ (by assumption) ?_; rotate_left; (focus ((intro w hSw; (try dsimp only at hSw); go_simp); (try with_reducible rfl); done)); (try simp only [List.setIfInBounds_toArray, List.set_cons_succ, List.set_cons_zero])) | (refine take_out (i := 20) rfl (by rfl) (by kernel_rfl) (by kernel_rfl) (by kernel_rfl) (fun _ _ _ h => h) (by rfl) (by assumption) ?_; (try simp only [List.setIfInBounds_toArray, List.set_cons_succ, List.set_cons_zero]))
            first | (refine take_in (i := 21) (v := ?_) rfl (by rfl) (by kernel_rfl) (by kernel_rfl) (by kernel_rfl) (fun _ _ _ h => h) (by rfl) ?_ (by assumption) ?_; rotate_left; (focus ((intro w hSw; (try dsimp only at hSw); go_simp); (try with_reducible rfl); done)); (try simp only [List.setIfInBounds_toArray, List.set_cons_succ, List.set_cons_zero])) | (refine take_out (i := 21) rfl (by rfl) (by kernel_rfl) (by kernel_rfl) (by kernel_rfl) (fun _ _ _ h => h) (by rfl) (by assumption) ?_; (try simp only [List.setIfInBounds_toArray, List.set_cons_succ, List.set_cons_zero]))
            refine wpAnyH_ready (rs := [19]) (by kernel_rfl) (by simp) ?_
            refine AllReadyH.cons rfl (fun K hK => ?_) AllReadyH.nil
            go_simp
            go_at_call 46
            refine (l11Inside_at (some ⟨b, off, none⟩) cv t.rs.length ⟨t.n, t.room, g, e, boardTo g e m L k⟩ x (by show (boardTo g e m L k).length = _; rw [boardTo_len]; exact hLl) HX.out _ ?_ (by omega)).mono ?_
            · exact H9.out.below KK.out
            rintro e v ⟨rfl, bb⟩
            replace KK := hide (bthen KK.out bb)
            have zKK := KK.out.size
            clear bb
            go_wp2_with fail
            refine hK.out _ _ ?_ (fun hHeld => ?_)
            · exact KS.out _ KK.out
            clear hK K
            (try simp only [Act.put, List.setIfInBounds_toArray, List.set_cons_zero, List.set_cons_succ])
            first | (refine take_in (i := 22) (v := ?_) rfl (by rfl) (by kernel_rfl) (by kernel_rfl) (by kernel_rfl) (fun _ _ _ h => h) (by rfl) ?_ (by assumption) ?_; rotate_left; (focus ((intro w hSw; (try dsimp only at hSw); go_simp); (try with_reducible rfl); done)); (try simp only [List.setIfInBounds_toArray, List.set_cons_succ, List.set_cons_zero])) | (refine take_out (i := 22) rfl (by rfl) (by kernel_rfl) (by kernel_rfl) (by kernel_rfl) (fun _ _ _ h => h) (by rfl) (by assumption) ?_; (try simp only [List.setIfInBounds_toArray, List.set_cons_succ, List.set_cons_zero]))
            (refine take_in (i := 23) (v := ?_) rfl (by rfl) (by kernel_rfl) (by kernel_rfl) (by kernel_rfl) (fun _ _ _ h => h) (by rfl) ?_ (by assumption) ?_; rotate_left; (focus ((intro w hSw; (try dsimp only at hSw); go_simp); (try with_reducible rfl); done)); (try simp only [List.setIfInBounds_toArray, List.set_cons_succ, List.set_cons_zero]))
            refine wpAnyH_done (by kernel_rfl) ?_ _
            refine NoPanic.normal ?_
            clear KS
            clear X6_lt X6_c0 X6_f0 X6_c1 X6_f1 X6_c2 X6_f2
            clear XW_lt XW_c0 XW_f0 XW_c1 XW_f1
            clear X4_lt X4_c0 X4_f0 X4_c1 X4_f1 X4_c2 X4_f2 X4_c3 X4_f3 X4_c4 X4_f4
            have bb := KK.out
            have zbE := bb.size
            replace X4 := hide (X4.out.below bb)
            replace X2 := hide (X2.out.below bb)
            replace XW := hide (XW.out.below bb)
            replace RO := hide (RO.out.below bb)
            replace HCP := hide (HCP.out.below bb)
            replace BW := hide (bthen BW.out bb)
            clear bb
            obtain ⟨b', off', r', e', hb', hr', ⟨c0, c1, c2⟩, f0, f1, f2⟩ := RO.out.at (k := k) (by rw [boardTo_len]; exact hlt)
            injection e' with e'; injection e' with e1 e2; subst e1; subst e2
            have er : r' = (fr, tg, st) := by have := hr'.out; rw [boardTo_get (by omega), hr.out] at this; injection this with this; exact this.symm
            subst er
            have Q2 := hide (RO.out.set2 hr'.out 1)
            clear hr'
            have X4_lt := X4.out.lt
            have X4_c0 := X4.out.at (i := 0) rfl; have X4_f0 := X4.out.frozen 0
            have X4_c1 := X4.out.at (i := 1) rfl; have X4_f1 := X4.out.frozen 1
            have X4_c2 := X4.out.at (i := 2) rfl; have X4_f2 := X4.out.frozen 2
            have X4_c3 := X4.out.at (i := 3) rfl; have X4_f3 := X4.out.frozen 3
            have X4_c4 := X4.out.at (i := 4) rfl; have X4_f4 := X4.out.frozen 4
            go_wp2_with fail
            go_roundw
            case rel =>
              have o := (Only.refl b (b + 1) v).setCell (p := ⟨b, off + k * 3 + 2, none⟩) (Nat.le_refl _) (Nat.lt_succ_self _) (.int .i64 1)
              exact ⟨k + 1, by omega, by go_num, by rw [HS.out.1]; exact Q2, X4.out.only o (by omega), X2.out.only o (by omega), XW.out.only o (by omega), Only.then BW.out o (by omega) (by omega), by first | omega | (simp [World.setCell]; omega), HCP.out.setCell _ _ _⟩
            case measure => simp [intOf]; omega
          · have HB := hide (boardTo_all (g := g) (e := e) (m := m) (l := L) (k := k) (by omega))
            have X4_lt := X4.out.lt
            have X4_c0 := X4.out.at (i := 0) rfl; have X4_f0 := X4.out.frozen 0
            have X4_c1 := X4.out.at (i := 1) rfl; have X4_f1 := X4.out.frozen 1
            have X4_c2 := X4.out.at (i := 2) rfl; have X4_f2 := X4.out.frozen 2
            have X4_c3 := X4.out.at (i := 3) rfl; have X4_f3 := X4.out.frozen 3
            have X4_c4 := X4.out.at (i := 4) rfl; have X4_f4 := X4.out.frozen 4
            have X2_lt := X2.out.lt
            have X2_c0 := X2.out.at (i := 0) rfl; have X2_f0 := X2.out.frozen 0
            have X2_c1 := X2.out.at (i := 1) rfl; have X2_f1 := X2.out.frozen 1
            have X2_c2 := X2.out.at (i := 2) rfl; have X2_f2 := X2.out.frozen 2
            have X2_c3 := X2.out.at (i := 3) rfl; have X2_f3 := X2.out.frozen 3
            have X2_c4 := X2.out.at (i := 4) rfl; have X2_f4 := X2.out.frozen 4
            go_wp2_with fail
            refine bodyPost_ret (by simp [results, Try.results38, go_sem, X2_c0, X2_c1, X2_c2, X2_c3, X2_c4]; rfl) rfl ?_
            rw [HE.out]
            have o := onlyW5 (g := w.heap.size + 1) wr (.int .i64 t.n) (.int .i64 t.room) (.int .i64 g) (.int .i64 e) (.slice V t.rs.length cv)
            rw [HB.out, HM.out, HL.out] at RO
            have hlen : (boardL g e (t.room - inN 1 (t.rs.map (outR g))) (t.rs.map (outR g))).length = t.rs.length := by rw [board_len, List.length_map]
            rw [← hlen] at HCP
            have OW := owns_only (HCP.out.own RO.out) o (by omega)
            exact ⟨V, cv, by unfold stepTo; simp only [board_len, List.length_map], (RO.out.only o (by omega)).mono (by omega) (by simp; omega), Only.then BW.out o (by omega) (by omega), fun _ => OwnR.mono OW (by omega)⟩
theorem specTripStep (A : Option Addr) (c : Nat) (t : Tp) (w : World) (h : Rds w A t.rs) (hl : (t.rs.length : Int) ≤ 9223372036854775807) :
    Calls Try.prog 38 #[.agg #[.int .i64 t.n, .int .i64 t.room, .int .i64 t.f, .int .i64 t.d, .slice A t.rs.length c]] w (GivesT (stepB t) w) := (specTripStepO A c t w h hl).mono fun _ _ h => h.give
theorem specTripStep_at (A : Option Addr) (c : Nat) (t : Tp) (D : Tp) (x : Bool) (hD : D = (stepB t).1) (hX : x = (stepB t).2) (w : World) (h : Rds w A t.rs) (hl : (t.rs.length : Int) ≤ 9223372036854775807) :
    Calls Try.prog 38 #[.agg #[.int .i64 t.n, .int .i64 t.room, .int .i64 t.f, .int .i64 t.d, .slice A t.rs.length c]] w (GivesT (D, x) w) := by subst hD; subst hX; exact specTripStep A c t w h hl
end Go.Proofs.Ytbkjgiomamlajaa
