/- Trips: TripStep, the program's and the reference's. -/
import Derived.Test.YtbkjgiomamlajaaRidN
import Derived.Test.YtbkjgiomamlajaaStopsE
import Derived.Test.YtbkjgiomamlajaaStopsL
import Derived.BigQuiet
namespace Go.Proofs.Ytbkjgiomamlajaa
open Go.RowKit

set_option maxRecDepth 100000 in
set_option maxHeartbeats 4000000 in
theorem implTripStep (A : Option Addr) (c : Nat) (t : Tp) (w : World) (h : Rds w A t.rs) (hl : (t.rs.length : Int) ≤ 9223372036854775807) :
    Calls Try.prog 19 #[.agg #[.int .i64 t.n, .int .i64 t.room, .int .i64 t.f, .int .i64 t.d, .slice A t.rs.length c]] w (GivesT (stepB t) w) := by
  have H := hide h; clear h
  go_enter Try.func19, Try.ntmps19
  go_wp2_with fail
  refine calls_name fun W hW => ?_
  have X1 : Hid (Box W w.heap.size #[.int .i64 t.n, .int .i64 t.room, .int .i64 t.f, .int .i64 t.d, .slice A t.rs.length c]) := by rw [hW]; exact (Box.new rfl).alloc _
  have X2 : Hid (Box W (w.heap.size + 1) #[.int .i64 0, .int .i64 0, .int .i64 0, .int .i64 0, .slice none 0 0]) := by rw [hW]; exact Box.new (by simp)
  have BW : Hid (Below w.heap.size w W) := by rw [hW]; exact ((Below.refl _ _).alloc (Nat.le_refl _) _).alloc (by simp) _
  have z0 : w.heap.size + 1 < W.heap.size := by rw [hW]; simp
  clear hW
  refine (implTripValid A c t _ (H.out.below BW.out) hl).mono ?_
  rintro e w1 ⟨rfl, b⟩
  have z1 := b.size
  replace X1 := hide (X1.out.below b)
  replace X2 := hide (X2.out.below b)
  replace BW := hide (bthen BW.out b)
  clear b
  cases hv : tripB t
  · have HE := hide (stepB_no hv)
    have X2_lt := X2.out.lt
    have X2_c0 := X2.out.at (i := 0) rfl; have X2_f0 := X2.out.frozen 0
    have X2_c1 := X2.out.at (i := 1) rfl; have X2_f1 := X2.out.frozen 1
    have X2_c2 := X2.out.at (i := 2) rfl; have X2_f2 := X2.out.frozen 2
    have X2_c3 := X2.out.at (i := 3) rfl; have X2_f3 := X2.out.frozen 3
    have X2_c4 := X2.out.at (i := 4) rfl; have X2_f4 := X2.out.frozen 4
    go_wp2_with fail
    refine bodyPost_ret (by simp [results, Try.results19, go_sem, X2_c0, X2_c1, X2_c2, X2_c3, X2_c4]; rfl) rfl ?_
    rw [HE.out]
    exact ⟨none, 0, rfl, RW.empty _ _ _ _, Only.then BW.out (onlyW5 _ _ _ _ _ _) (by omega) (by omega)⟩
  have hp := tripB_iff.1 hv
  have HV := hide hv
  have HP := hide hp
  have hn := hp.1
  have hm := hp.2.1
  have h8 : t.rs.length ≤ 8 := hp.2.2.2.2.1
  have HNX := hide (trip_next hp)
  obtain ⟨C, hC⟩ : ∃ C, C = tripCB t := ⟨_, rfl⟩
  have HC := hide hC
  have HC2 := hide (hC.trans (tripCB_yes hv))
  obtain ⟨N, hN⟩ : ∃ N, N = nextB C t.f t.d := ⟨_, rfl⟩
  have HN := hide hN
  have HN2 : Hid (nextO (tripC t) t.f t.d = N) := by unfold Hid; rw [hN, ← HNX.out, HC2.out]
  clear hp hv hC hN HNX
  have X1_lt := X1.out.lt
  have X1_c0 := X1.out.at (i := 0) rfl; have X1_f0 := X1.out.frozen 0
  have X1_c1 := X1.out.at (i := 1) rfl; have X1_f1 := X1.out.frozen 1
  have X1_c2 := X1.out.at (i := 2) rfl; have X1_f2 := X1.out.frozen 2
  have X1_c3 := X1.out.at (i := 3) rfl; have X1_f3 := X1.out.frozen 3
  have X1_c4 := X1.out.at (i := 4) rfl; have X1_f4 := X1.out.frozen 4
  go_upto_region 3 with fail
  have H0 := hide (H.out.below BW.out)
  have KK : Hid (Below w1.heap.size w1 w1.drew) := (Below.refl _ _).drew
  have zzX1 := X1.out.lt
  go_cut [4] from 14 to 18 (fun s wx => ∃ g6, s = .pointer (some ⟨g6, 0, none⟩) ∧ w1.heap.size ≤ g6 ∧ Hid (Box wx g6 #[.int .i64 (stF N), .int .i64 (stD N)]) ∧ Hid (Below w1.heap.size w1 wx))
  case first =>
    go_region_held3 (fun W => W.cell? ⟨w.heap.size, 0, none⟩ = some (.int .i64 t.n) ∧ W.cell? ⟨w.heap.size, 1, none⟩ = some (.int .i64 t.room) ∧ W.cell? ⟨w.heap.size, 2, none⟩ = some (.int .i64 t.f) ∧ W.cell? ⟨w.heap.size, 3, none⟩ = some (.int .i64 t.d) ∧ W.cell? ⟨w.heap.size, 4, none⟩ = some (.slice A t.rs.length c)) (first | (go_keep; done) | with_reducible exact ⟨(X1.out.below KK.out).at (by with_unfolding_all rfl), (X1.out.below KK.out).at (by with_unfolding_all rfl), (X1.out.below KK.out).at (by with_unfolding_all rfl), (X1.out.below KK.out).at (by with_unfolding_all rfl), (X1.out.below KK.out).at (by with_unfolding_all rfl)⟩ | with_reducible exact ⟨(X1.out.below (bthen KK.out ((Below.refl _ _).alloc (Nat.le_refl _) _))).at (by with_unfolding_all rfl), (X1.out.below (bthen KK.out ((Below.refl _ _).alloc (Nat.le_refl _) _))).at (by with_unfolding_all rfl), (X1.out.below (bthen KK.out ((Below.refl _ _).alloc (Nat.le_refl _) _))).at (by with_unfolding_all rfl), (X1.out.below (bthen KK.out ((Below.refl _ _).alloc (Nat.le_refl _) _))).at (by with_unfolding_all rfl), (X1.out.below (bthen KK.out ((Below.refl _ _).alloc (Nat.le_refl _) _))).at (by with_unfolding_all rfl)⟩ | exact ⟨((X1.out.below KK.out).only (onlyW2 _ _ _) (by omega)).at rfl, ((X1.out.below KK.out).only (onlyW2 _ _ _) (by omega)).at rfl, ((X1.out.below KK.out).only (onlyW2 _ _ _) (by omega)).at rfl, ((X1.out.below KK.out).only (onlyW2 _ _ _) (by omega)).at rfl, ((X1.out.below KK.out).only (onlyW2 _ _ _) (by omega)).at rfl⟩) (first | (go_at_call 23; refine (implTripCalls_at A c t C HC.out _ ?_ hl).mono ?_; (first | exact H0.out.below KK.out | exact H0.out.below (bthen KK.out ((Below.refl _ _).alloc (Nat.le_refl _) _))); (first | have zlt := ZZ.out.lt | skip); rintro e v ⟨P0, P1, P2, p0, p1, p2, rfl, P, bb⟩; replace P := hide P; (first | (have ZZ : Hid (Box v w1.heap.size #[.int .i64 0, .int .i64 0]) := Box.below (show Box ((w1.alloc (.cells #[.int .i64 0, .int .i64 0] 24)).drew) w1.heap.size #[.int .i64 0, .int .i64 0] from (Box.new rfl).drew) bb) | replace ZZ := hide (ZZ.out.below bb) | (have zz2 := Box.newLt (cs := #[.int .i64 0, .int .i64 0]) (t := 24) bb; have zlt := zz2.2; have ZZ := hide zz2.1; clear zz2) | skip); (first | replace KK := hide (bthen KK.out bb) | replace KK := hide (bthen (bthen KK.out ((Below.refl _ _).alloc (Nat.le_refl _) _)) bb)); have zKK := KK.out.size; (first | (have jc0 := ZZ.out.at (i := 0) rfl; have jf0 := ZZ.out.frozen 0; have jc1 := ZZ.out.at (i := 1) rfl; have jf1 := ZZ.out.frozen 1) | skip); clear bb) | (go_at_call 48; refine (implNextStop P0 P1 P2 p0 p1 p2 C t.f t.d _ ?_).mono ?_; (first | exact P.out.cr | exact (P.out.below ((Below.refl _ _).alloc (Nat.le_refl _) _)).cr); rw [← HN.out, stC_eq]; (first | have zlt := ZZ.out.lt | skip); rintro e v ⟨rfl, bb⟩; (first | replace P := hide (P.out.below bb) | replace P := hide ((P.out.below ((Below.refl _ _).alloc (Nat.le_refl _) _)).below bb) | skip); (first | (have ZZ : Hid (Box v w1.heap.size #[.int .i64 0, .int .i64 0]) := Box.below (show Box ((w1.alloc (.cells #[.int .i64 0, .int .i64 0] 24)).drew) w1.heap.size #[.int .i64 0, .int .i64 0] from (Box.new rfl).drew) bb) | replace ZZ := hide (ZZ.out.below bb) | (have zz2 := Box.newLt (cs := #[.int .i64 0, .int .i64 0]) (t := 24) bb; have zlt := zz2.2; have ZZ := hide zz2.1; clear zz2) | skip); (first | replace KK := hide (bthen KK.out bb) | replace KK := hide (bthen (bthen KK.out ((Below.refl _ _).alloc (Nat.le_refl _) _)) bb)); have zKK := KK.out.size; (first | (have jc0 := ZZ.out.at (i := 0) rfl; have jf0 := ZZ.out.frozen 0; have jc1 := ZZ.out.at (i := 1) rfl; have jf1 := ZZ.out.frozen 1) | skip); clear bb))
    all_goals
      go_wp2_with fail
      go_meet
      case rel => first | exact ⟨_, rfl, by omega, Box.setW2 ZZ.out _ _, (Only.then KK.out (onlyW2 _ _ _) (by omega) (by omega))⟩ | exact ⟨_, rfl, by omega, Box.new rfl, KK.out.alloc (by omega) _⟩
  case rest =>
    obtain ⟨gw, rfl, gwl, XW, KW⟩ := hcut
    rename World => w2
    have z2 := KW.out.size
    have zgw := XW.out.lt
    replace X1 := hide (X1.out.below KW.out)
    replace X2 := hide (X2.out.below KW.out)
    replace BW := hide (bthen BW.out KW.out)
    clear KW H0
    have X1_lt := X1.out.lt
    have X1_c0 := X1.out.at (i := 0) rfl; have X1_f0 := X1.out.frozen 0
    have X1_c1 := X1.out.at (i := 1) rfl; have X1_f1 := X1.out.frozen 1
    have X1_c2 := X1.out.at (i := 2) rfl; have X1_f2 := X1.out.frozen 2
    have X1_c3 := X1.out.at (i := 3) rfl; have X1_f3 := X1.out.frozen 3
    have X1_c4 := X1.out.at (i := 4) rfl; have X1_f4 := X1.out.frozen 4
    go_wp2_with fail
    clear X1_lt X1_c0 X1_f0 X1_c1 X1_f1 X1_c2 X1_f2 X1_c3 X1_f3 X1_c4 X1_f4
    refine (cloneR_any A c t.rs _ (H.out.below BW.out) (by omega)).mono ?_
    rintro e w3 ⟨v, rfl, O, b⟩
    obtain ⟨V, cv, rfl, RO⟩ := O.form
    replace RO := hide RO
    have z3 := b.size
    clear O
    replace X1 := hide (X1.out.below b)
    replace X2 := hide (X2.out.below b)
    replace XW := hide (XW.out.below b)
    replace BW := hide (bthen BW.out b)
    clear b
    have X1_lt := X1.out.lt
    have X1_c0 := X1.out.at (i := 0) rfl; have X1_f0 := X1.out.frozen 0
    have X1_c1 := X1.out.at (i := 1) rfl; have X1_f1 := X1.out.frozen 1
    have X1_c2 := X1.out.at (i := 2) rfl; have X1_f2 := X1.out.frozen 2
    have X1_c3 := X1.out.at (i := 3) rfl; have X1_f3 := X1.out.frozen 3
    have X1_c4 := X1.out.at (i := 4) rfl; have X1_f4 := X1.out.frozen 4
    go_upto_region 5 with fail
    clear X1_lt X1_c0 X1_f0 X1_c1 X1_f1 X1_c2 X1_f2 X1_c3 X1_f3 X1_c4 X1_f4
    refine code_name fun W4 hW => ?_
    replace X1 : Hid (Box W4 w.heap.size #[.int .i64 t.n, .int .i64 t.room, .int .i64 t.f, .int .i64 t.d, .slice V t.rs.length cv]) := Box.set' hW X1.out
    replace X2 := hide (X2.out.far' hW (by simp))
    replace XW := hide (XW.out.far' hW (by simp; omega))
    replace RO := hide (RO.out.far' hW (by simp; omega))
    replace BW := hide (below_set' hW BW.out (by simp))
    have z4 : W4.heap.size = w3.heap.size := size_set' hW
    clear hW
    rcases N with _ | ⟨g, e⟩
    · have HE := hide (stepB_none HV.out HN2.out)
      rw [show stF none = -1 from rfl, show stD none = 0 from rfl] at XW
      have X1_lt := X1.out.lt
      have X1_c0 := X1.out.at (i := 0) rfl; have X1_f0 := X1.out.frozen 0
      have X1_c1 := X1.out.at (i := 1) rfl; have X1_f1 := X1.out.frozen 1
      have X1_c2 := X1.out.at (i := 2) rfl; have X1_f2 := X1.out.frozen 2
      have X1_c3 := X1.out.at (i := 3) rfl; have X1_f3 := X1.out.frozen 3
      have X1_c4 := X1.out.at (i := 4) rfl; have X1_f4 := X1.out.frozen 4
      have X2_lt := X2.out.lt
      have X2_c0 := X2.out.at (i := 0) rfl; have X2_f0 := X2.out.frozen 0
      have X2_c1 := X2.out.at (i := 1) rfl; have X2_f1 := X2.out.frozen 1
      have X2_c2 := X2.out.at (i := 2) rfl; have X2_f2 := X2.out.frozen 2
      have X2_c3 := X2.out.at (i := 3) rfl; have X2_f3 := X2.out.frozen 3
      have X2_c4 := X2.out.at (i := 4) rfl; have X2_f4 := X2.out.frozen 4
      have XW_lt := XW.out.lt
      have XW_c0 := XW.out.at (i := 0) rfl; have XW_f0 := XW.out.frozen 0
      have XW_c1 := XW.out.at (i := 1) rfl; have XW_f1 := XW.out.frozen 1
      go_wp2_with fail
      refine bodyPost_ret (by simp [results, Try.results19, go_sem, X2_c0, X2_c1, X2_c2, X2_c3, X2_c4]; rfl) rfl ?_
      rw [HE.out]
      have o := onlyW5 (g := w.heap.size + 1) W4 (.int .i64 t.n) (.int .i64 t.room) (.int .i64 t.f) (.int .i64 t.d) (.slice V t.rs.length cv)
      exact ⟨V, cv, rfl, (RO.out.only o (by omega)).mono (by omega) (by simp; omega), Only.then BW.out o (by omega) (by omega)⟩
    have HE := hide (stepB_some HV.out HN2.out)
    have hg : 0 ≤ g := by
      have := next_good (by have := HP.out.2.2.1; have := (tripC_len HP.out); unfold Len at this; omega) HP.out.2.2.2.1 HN2.out; omega
    rw [show stF (some (g, e)) = g from rfl, show stD (some (g, e)) = e from rfl] at XW
    have X1_lt := X1.out.lt
    have X1_c0 := X1.out.at (i := 0) rfl; have X1_f0 := X1.out.frozen 0
    have X1_c1 := X1.out.at (i := 1) rfl; have X1_f1 := X1.out.frozen 1
    have X1_c2 := X1.out.at (i := 2) rfl; have X1_f2 := X1.out.frozen 2
    have X1_c3 := X1.out.at (i := 3) rfl; have X1_f3 := X1.out.frozen 3
    have X1_c4 := X1.out.at (i := 4) rfl; have X1_f4 := X1.out.frozen 4
    have XW_lt := XW.out.lt
    have XW_c0 := XW.out.at (i := 0) rfl; have XW_f0 := XW.out.frozen 0
    have XW_c1 := XW.out.at (i := 1) rfl; have XW_f1 := XW.out.frozen 1
    go_upto_region 8 with fail
    clear X1_lt X1_c0 X1_f0 X1_c1 X1_f1 X1_c2 X1_f2 X1_c3 X1_f3 X1_c4 X1_f4
    clear XW_lt XW_c0 XW_f0 XW_c1 XW_f1
    refine code_name fun W5 hW => ?_
    have o : Only w.heap.size (w.heap.size + 1) W4 W5 := by rw [hW]; exact ((Only.refl _ _ W4).setCell (p := ⟨w.heap.size, 2, none⟩) (Nat.le_refl _) (Nat.lt_succ_self _) _).setCell (p := ⟨w.heap.size, 3, none⟩) (Nat.le_refl _) (Nat.lt_succ_self _) _
    replace X1 : Hid (Box W5 w.heap.size #[.int .i64 t.n, .int .i64 t.room, .int .i64 g, .int .i64 e, .slice V t.rs.length cv]) := by rw [hW]; exact (X1.out.set 2 (.int .i64 g)).set 3 (.int .i64 e)
    have z5 : W5.heap.size = W4.heap.size := by rw [hW]; simp [World.setCell]
    replace X2 := hide (X2.out.only o (by omega))
    replace XW := hide (XW.out.only o (by omega))
    replace RO := hide (RO.out.only o (by omega))
    replace BW := hide (Only.then BW.out o (by omega) (by omega))
    clear hW o
    have RO : Hid (RW w2.heap.size w3.heap.size W5 V (outTo g t.rs 0)) := by rw [outTo_zero]; exact RO
    have X1_lt := X1.out.lt
    have X1_c0 := X1.out.at (i := 0) rfl; have X1_f0 := X1.out.frozen 0
    have X1_c1 := X1.out.at (i := 1) rfl; have X1_f1 := X1.out.frozen 1
    have X1_c2 := X1.out.at (i := 2) rfl; have X1_f2 := X1.out.frozen 2
    have X1_c3 := X1.out.at (i := 3) rfl; have X1_f3 := X1.out.frozen 3
    have X1_c4 := X1.out.at (i := 4) rfl; have X1_f4 := X1.out.frozen 4
    go_wp2_with fail
    clear X1_lt X1_c0 X1_f0 X1_c1 X1_f1 X1_c2 X1_f2 X1_c3 X1_f3 X1_c4 X1_f4
    go_loopw [32] (fun i wr => ∃ k : Nat, k ≤ t.rs.length ∧ i = .int .i64 k ∧ Hid (RW w2.heap.size w3.heap.size wr V (outTo g t.rs k)) ∧ Hid (Box wr w.heap.size #[.int .i64 t.n, .int .i64 t.room, .int .i64 g, .int .i64 e, .slice V t.rs.length cv]) ∧ Hid (Box wr (w.heap.size + 1) #[.int .i64 0, .int .i64 0, .int .i64 0, .int .i64 0, .slice none 0 0]) ∧ Hid (Box wr gw #[.int .i64 g, .int .i64 e]) ∧ Hid (Below w.heap.size w wr) ∧ W5.heap.size ≤ wr.heap.size) (fun i _ => t.rs.length - (intOf i).toNat)
    case atStart => exact ⟨0, by omega, rfl, RO, X1, X2, XW, BW, Nat.le_refl _⟩
    case round =>
      clear X1 X2 XW BW RO
      obtain ⟨k, hk, rfl, RO, X1, X2, XW, BW, zr⟩ := hrel
      by_cases hlt : k < t.rs.length
      · obtain ⟨b, off, r, rfl, hb, hr, ⟨c0, c1, c2⟩, f0, f1, f2⟩ := RO.out.at (k := k) (by rw [outTo_len]; exact hlt)
        replace hr := hide ((outTo_get (g := g) (by omega)).symm.trans hr.out)
        have hnb : ¬ b = wr.heap.size := by omega
        go_upto_region 11 with fail
        refine code_name fun W6 hW => ?_
        have X6 := hide (Box.new' (g := wr.heap.size) hW rfl)
        have bb : Below wr.heap.size wr W6 := by rw [hW]; exact (Below.refl _ _).alloc (Nat.le_refl _) _
        have z6 := X6.out.lt
        replace X1 := hide (X1.out.below bb)
        replace X2 := hide (X2.out.below bb)
        replace XW := hide (XW.out.below bb)
        replace RO := hide (RO.out.below bb)
        replace BW := hide (bthen BW.out bb)
        clear bb
        clear hW c0 c1 c2 f0 f1 f2
        by_cases h1 : r.2.2 = 1
        · have h1' : (r.2.2 == 1) = true := by simpa using h1
          by_cases h2 : r.2.1 = g
          · have h2' : (r.2.1 == g) = true := by simpa using h2
            have HS := hide (outTo_yes (g := g) hr.out h1 h2)
            obtain ⟨b', off', r', e', hb', hr', ⟨c0, c1, c2⟩, f0, f1, f2⟩ := RO.out.at (k := k) (by rw [outTo_len]; exact hlt)
            injection e' with e'; injection e' with e1 e2; subst e1; subst e2
            have er : r' = r := by have := hr'.out; rw [outTo_get (by omega), hr.out] at this; injection this with this; exact this.symm
            subst er
            have Q2 := hide (RO.out.set2 hr'.out 2)
            clear h1 h2 hr'
            have X1_lt := X1.out.lt
            have X1_c0 := X1.out.at (i := 0) rfl; have X1_f0 := X1.out.frozen 0
            have X1_c1 := X1.out.at (i := 1) rfl; have X1_f1 := X1.out.frozen 1
            have X1_c2 := X1.out.at (i := 2) rfl; have X1_f2 := X1.out.frozen 2
            have X1_c3 := X1.out.at (i := 3) rfl; have X1_f3 := X1.out.frozen 3
            have X1_c4 := X1.out.at (i := 4) rfl; have X1_f4 := X1.out.frozen 4
            have X6_lt := X6.out.lt
            have X6_c0 := X6.out.at (i := 0) rfl; have X6_f0 := X6.out.frozen 0
            have X6_c1 := X6.out.at (i := 1) rfl; have X6_f1 := X6.out.frozen 1
            have X6_c2 := X6.out.at (i := 2) rfl; have X6_f2 := X6.out.frozen 2
            have XW_lt := XW.out.lt
            have XW_c0 := XW.out.at (i := 0) rfl; have XW_f0 := XW.out.frozen 0
            have XW_c1 := XW.out.at (i := 1) rfl; have XW_f1 := XW.out.frozen 1
            have nb1 : ¬ b = w.heap.size := by omega
            go_wp2_with fail
            go_roundw
            case rel =>
              have o := (Only.refl b (b + 1) W6).setCell (p := ⟨b, off + k * 3 + 2, none⟩) (Nat.le_refl _) (Nat.lt_succ_self _) (.int .i64 2)
              exact ⟨k + 1, by omega, by go_num, by rw [HS.out]; exact Q2, X1.out.only o (by omega), X2.out.only o (by omega), XW.out.only o (by omega), Only.then BW.out o (by omega) (by omega), by simp [World.setCell]; omega⟩
            case measure => simp [intOf]; omega
          · have h2' : (r.2.1 == g) = false := by simpa using h2
            have HS := hide (outTo_no (g := g) hr.out fun h => h2 h.2)
            clear h1 h2
            have X1_lt := X1.out.lt
            have X1_c0 := X1.out.at (i := 0) rfl; have X1_f0 := X1.out.frozen 0
            have X1_c1 := X1.out.at (i := 1) rfl; have X1_f1 := X1.out.frozen 1
            have X1_c2 := X1.out.at (i := 2) rfl; have X1_f2 := X1.out.frozen 2
            have X1_c3 := X1.out.at (i := 3) rfl; have X1_f3 := X1.out.frozen 3
            have X1_c4 := X1.out.at (i := 4) rfl; have X1_f4 := X1.out.frozen 4
            have X6_lt := X6.out.lt
            have X6_c0 := X6.out.at (i := 0) rfl; have X6_f0 := X6.out.frozen 0
            have X6_c1 := X6.out.at (i := 1) rfl; have X6_f1 := X6.out.frozen 1
            have X6_c2 := X6.out.at (i := 2) rfl; have X6_f2 := X6.out.frozen 2
            have XW_lt := XW.out.lt
            have XW_c0 := XW.out.at (i := 0) rfl; have XW_f0 := XW.out.frozen 0
            have XW_c1 := XW.out.at (i := 1) rfl; have XW_f1 := XW.out.frozen 1
            go_wp2_with fail
            go_roundw
            case rel => exact ⟨k + 1, by omega, by go_num, by rw [HS.out]; exact RO, X1, X2, XW, BW, by omega⟩
            case measure => simp [intOf]; omega
        · have h1' : (r.2.2 == 1) = false := by simpa using h1
          have HS := hide (outTo_no (g := g) hr.out fun h => h1 h.1)
          clear h1
          have X6_lt := X6.out.lt
          have X6_c0 := X6.out.at (i := 0) rfl; have X6_f0 := X6.out.frozen 0
          have X6_c1 := X6.out.at (i := 1) rfl; have X6_f1 := X6.out.frozen 1
          have X6_c2 := X6.out.at (i := 2) rfl; have X6_f2 := X6.out.frozen 2
          go_wp2_with fail
          go_roundw
          case rel => exact ⟨k + 1, by omega, by go_num, by rw [HS.out]; exact RO, X1, X2, XW, BW, by omega⟩
          case measure => simp [intOf]; omega
      · obtain ⟨L, hL⟩ : ∃ L, L = t.rs.map (outR g) := ⟨_, rfl⟩
        have HL := hide hL
        have hLl : L.length = t.rs.length := by rw [hL, List.length_map]
        have hi := inN_bd 1 L
        rw [outTo_all (by omega), ← hL] at RO
        have hroom : inN 1 L ≤ t.room := by have := (out_in g t.rs).1; have := HP.out.2.2.2.2.2.2; rw [hL]; omega
        clear hL
        have X1_lt := X1.out.lt
        have X1_c0 := X1.out.at (i := 0) rfl; have X1_f0 := X1.out.frozen 0
        have X1_c1 := X1.out.at (i := 1) rfl; have X1_f1 := X1.out.frozen 1
        have X1_c2 := X1.out.at (i := 2) rfl; have X1_f2 := X1.out.frozen 2
        have X1_c3 := X1.out.at (i := 3) rfl; have X1_f3 := X1.out.frozen 3
        have X1_c4 := X1.out.at (i := 4) rfl; have X1_f4 := X1.out.frozen 4
        obtain ⟨W9, rfl⟩ : ∃ W9 : World, W9 = wr := ⟨_, rfl⟩
        go_wp2_with fail
        have R9 := hide RO.out.rds
        have KS : Hid (∀ W', Below W9.heap.size W9 W' → W'.cell? ⟨w.heap.size, 1, none⟩ = some (.int .i64 t.room) ∧ W'.cell? ⟨w.heap.size, 4, none⟩ = some (.slice V t.rs.length cv)) := fun W' bb => ⟨(X1.out.below bb).at rfl, (X1.out.below bb).at rfl⟩
        have KK : Hid (Below W9.heap.size W9 W9.drew) := (Below.refl _ _).drew
        first | (go_region_held3 (fun W => W.cell? ⟨w.heap.size, 1, none⟩ = some (.int .i64 t.room) ∧ W.cell? ⟨w.heap.size, 4, none⟩ = some (.slice V t.rs.length cv)) (first | (go_keep; done) | exact KS.out _ KK.out) (first | (go_at_call 50; (with_reducible refine (ridersInside_at V cv t.rs.length L hLl _ ?_ (by omega)).mono ?_); exact R9.out.below KK.out; rintro e v ⟨rfl, bb⟩; replace KK := hide (bthen KK.out bb); have zKK := KK.out.size; clear bb))) | fail
        rename (v.cell? ⟨w.heap.size, 1, none⟩ = some (.int .i64 t.room) ∧ v.cell? ⟨w.heap.size, 4, none⟩ = some (.slice V t.rs.length cv)) => hHeldX
        clear KS hHeldX
        clear X1_lt X1_c0 X1_f0 X1_c1 X1_f1 X1_c2 X1_f2 X1_c3 X1_f3 X1_c4 X1_f4
        have bb := KK.out
        have zv := bb.size
        replace X1 := hide (X1.out.below bb)
        replace X2 := hide (X2.out.below bb)
        replace XW := hide (XW.out.below bb)
        replace RO := hide (RO.out.below bb)
        replace BW := hide (bthen BW.out bb)
        clear bb
        clear KK R9
        obtain ⟨m, hm0⟩ : ∃ m, m = t.room - inN 1 L := ⟨_, rfl⟩
        have HM := hide hm0
        have ew : IntKind.i64.wrap (t.room - inN 1 L) = m := by rw [hm0]; exact IntWalk.i64_in _ (by omega)
        have hm1 : 0 ≤ m ∧ m ≤ 8 := by omega
        have RO : Hid (RW w2.heap.size w3.heap.size v V (boardTo g e m L 0)) := by rw [boardTo_zero]; exact RO
        clear hm0 hroom hi hk hlt
        have X1_lt := X1.out.lt
        have X1_c0 := X1.out.at (i := 0) rfl; have X1_f0 := X1.out.frozen 0
        have X1_c1 := X1.out.at (i := 1) rfl; have X1_f1 := X1.out.frozen 1
        have X1_c2 := X1.out.at (i := 2) rfl; have X1_f2 := X1.out.frozen 2
        have X1_c3 := X1.out.at (i := 3) rfl; have X1_f3 := X1.out.frozen 3
        have X1_c4 := X1.out.at (i := 4) rfl; have X1_f4 := X1.out.frozen 4
        go_wp2_with fail
        clear X1_lt X1_c0 X1_f0 X1_c1 X1_f1 X1_c2 X1_f2 X1_c3 X1_f3 X1_c4 X1_f4
        have EW := hide ew
        clear ew
        go_loopw [7, 62] (fun i1 i wr => ∃ k : Nat, k ≤ L.length ∧ i = .int .i64 k ∧ i1 = .int .i64 (leftTo g e m L k) ∧ Hid (RW w2.heap.size w3.heap.size wr V (boardTo g e m L k)) ∧ Hid (Box wr w.heap.size #[.int .i64 t.n, .int .i64 t.room, .int .i64 g, .int .i64 e, .slice V t.rs.length cv]) ∧ Hid (Box wr (w.heap.size + 1) #[.int .i64 0, .int .i64 0, .int .i64 0, .int .i64 0, .slice none 0 0]) ∧ Hid (Box wr gw #[.int .i64 g, .int .i64 e]) ∧ Hid (Below w.heap.size w wr) ∧ v.heap.size ≤ wr.heap.size) (fun _ i _ => t.rs.length - (intOf i).toNat)
        case atStart => exact ⟨0, by omega, rfl, by rw [leftTo_zero, EW.out], RO, X1, X2, XW, BW, Nat.le_refl _⟩
        case round =>
          clear X1 X2 XW BW RO
          obtain ⟨k, hk, rfl, rfl, RO, X1, X2, XW, BW, zs⟩ := hrel
          have hlb := leftTo_bd (g := g) (e := e) (l := L) (k := k) hm1.1
          obtain ⟨M, hM⟩ : ∃ M, M = leftTo g e m L k := ⟨_, rfl⟩
          rw [← hM] at hlb
          have HMM := hide hM
          by_cases hlt : k < L.length
          · obtain ⟨b, off, r, rfl, hb, hr, ⟨c0, c1, c2⟩, f0, f1, f2⟩ := RO.out.at (k := k) (by rw [boardTo_len]; exact hlt)
            replace hr := hide ((boardTo_get (g := g) (e := e) (m := m) (by omega)).symm.trans hr.out)
            have hnb : ¬ b = wr.heap.size := by omega
            have hkl : k < t.rs.length := by omega
            rw [← hM]
            go_upto_region 18 with fail
            refine code_name fun W6 hW => ?_
            have X6 := hide (Box.new' (g := wr.heap.size) hW rfl)
            have bb : Below wr.heap.size wr W6 := by rw [hW]; exact (Below.refl _ _).alloc (Nat.le_refl _) _
            have z6 := X6.out.lt
            replace X1 := hide (X1.out.below bb)
            replace X2 := hide (X2.out.below bb)
            replace XW := hide (XW.out.below bb)
            replace RO := hide (RO.out.below bb)
            replace BW := hide (bthen BW.out bb)
            clear bb
            clear hW c0 c1 c2 f0 f1 f2
            obtain ⟨fr, tg, st⟩ := r
            by_cases h0 : 0 < M
            rotate_left
            · have q1 : decide (0 < M) = false := decide_eq_false h0
              have HS := hide (boardTo_no (g := g) (e := e) (m := m) hr.out fun h => h0 (by rw [HMM.out]; exact h.1))
              clear hM h0
              have X6_lt := X6.out.lt
              have X6_c0 := X6.out.at (i := 0) rfl; have X6_f0 := X6.out.frozen 0
              have X6_c1 := X6.out.at (i := 1) rfl; have X6_f1 := X6.out.frozen 1
              have X6_c2 := X6.out.at (i := 2) rfl; have X6_f2 := X6.out.frozen 2
              have XW_lt := XW.out.lt
              have XW_c0 := XW.out.at (i := 0) rfl; have XW_f0 := XW.out.frozen 0
              have XW_c1 := XW.out.at (i := 1) rfl; have XW_f1 := XW.out.frozen 1
              have KS : Hid (∀ W', Below W6.heap.size W6 W' → (W'.cell? ⟨wr.heap.size, 0, none⟩ = some (.int .i64 fr) ∧ W'.cell? ⟨wr.heap.size, 1, none⟩ = some (.int .i64 tg) ∧ W'.cell? ⟨wr.heap.size, 2, none⟩ = some (.int .i64 st)) ∧ W'.cell? ⟨gw, 0, none⟩ = some (.int .i64 g) ∧ W'.cell? ⟨gw, 1, none⟩ = some (.int .i64 e)) := fun W' bb => ⟨⟨(X6.out.below bb).at rfl, (X6.out.below bb).at rfl, (X6.out.below bb).at rfl⟩, (XW.out.below bb).at rfl, (XW.out.below bb).at rfl⟩
              have KK : Hid (Below W6.heap.size W6 W6.drew) := (Below.refl _ _).drew
              refine wp_region_noPanic ?_
              refine wp_region_held_drew (S := (fun W => (W.cell? ⟨wr.heap.size, 0, none⟩ = some (.int .i64 fr) ∧ W.cell? ⟨wr.heap.size, 1, none⟩ = some (.int .i64 tg) ∧ W.cell? ⟨wr.heap.size, 2, none⟩ = some (.int .i64 st)) ∧ W.cell? ⟨gw, 0, none⟩ = some (.int .i64 g) ∧ W.cell? ⟨gw, 1, none⟩ = some (.int .i64 e))) (by kernel_rfl) ?_ (fun hHeld => ?_)
              · exact KS.out _ KK.out
              (refine take_in (i := 0) (v := ?_) rfl (by rfl) (by kernel_rfl) (by kernel_rfl) (by kernel_rfl) (fun _ _ _ h => h) (by rfl) ?_ (by assumption) ?_; rotate_left; (focus ((intro w hSw; (try dsimp only at hSw); go_simp); (try with_reducible rfl); done)); (try simp only [List.setIfInBounds_toArray, List.set_cons_succ, List.set_cons_zero]))
              (refine take_in (i := 1) (v := ?_) rfl (by rfl) (by kernel_rfl) (by kernel_rfl) (by kernel_rfl) (fun _ _ _ h => h) (by rfl) ?_ (by assumption) ?_; rotate_left; (focus ((intro w hSw; (try dsimp only at hSw); go_simp); (try with_reducible rfl); done)); (try simp only [List.setIfInBounds_toArray, List.set_cons_succ, List.set_cons_zero]))
              (refine take_in (i := 2) (v := ?_) rfl (by rfl) (by kernel_rfl) (by kernel_rfl) (by kernel_rfl) (fun _ _ _ h => h) (by rfl) ?_ (by assumption) ?_; rotate_left; (focus ((intro w hSw; (try dsimp only at hSw); go_simp); (try with_reducible rfl); done)); (try simp only [List.setIfInBounds_toArray, List.set_cons_succ, List.set_cons_zero]))
              first | (refine take_in (i := 3) (v := ?_) rfl (by rfl) (by kernel_rfl) (by kernel_rfl) (by kernel_rfl) (fun _ _ _ h => h) (by rfl) ?_ (by assumption) ?_; rotate_left; (focus ((intro w hSw; (try dsimp only at hSw); go_simp); (try with_reducible rfl); done)); (try simp only [List.setIfInBounds_toArray, List.set_cons_succ, List.set_cons_zero])) | (refine take_out (i := 3) rfl (by rfl) (by kernel_rfl) (by kernel_rfl) (by kernel_rfl) (fun _ _ _ h => h) (by rfl) (by assumption) ?_; (try simp only [List.setIfInBounds_toArray, List.set_cons_succ, List.set_cons_zero]))
              first | (refine take_in (i := 4) (v := ?_) rfl (by rfl) (by kernel_rfl) (by kernel_rfl) (by kernel_rfl) (fun _ _ _ h => h) (by rfl) ?_ (by assumption) ?_; rotate_left; (focus ((intro w hSw; (try dsimp only at hSw); go_simp); (try with_reducible rfl); done)); (try simp only [List.setIfInBounds_toArray, List.set_cons_succ, List.set_cons_zero])) | (refine take_out (i := 4) rfl (by rfl) (by kernel_rfl) (by kernel_rfl) (by kernel_rfl) (fun _ _ _ h => h) (by rfl) (by assumption) ?_; (try simp only [List.setIfInBounds_toArray, List.set_cons_succ, List.set_cons_zero]))
              first | (refine take_in (i := 5) (v := ?_) rfl (by rfl) (by kernel_rfl) (by kernel_rfl) (by kernel_rfl) (fun _ _ _ h => h) (by rfl) ?_ (by assumption) ?_; rotate_left; (focus ((intro w hSw; (try dsimp only at hSw); go_simp); (try with_reducible rfl); done)); (try simp only [List.setIfInBounds_toArray, List.set_cons_succ, List.set_cons_zero])) | (refine take_out (i := 5) rfl (by rfl) (by kernel_rfl) (by kernel_rfl) (by kernel_rfl) (fun _ _ _ h => h) (by rfl) (by assumption) ?_; (try simp only [List.setIfInBounds_toArray, List.set_cons_succ, List.set_cons_zero]))
              (refine take_in (i := 6) (v := ?_) rfl (by rfl) (by kernel_rfl) (by kernel_rfl) (by kernel_rfl) (fun _ _ _ h => h) (by rfl) ?_ (by assumption) ?_; rotate_left; (focus ((intro w hSw; (try dsimp only at hSw); go_simp); (try with_reducible rfl); done)); (try simp only [List.setIfInBounds_toArray, List.set_cons_succ, List.set_cons_zero]))
              (refine take_in (i := 7) (v := ?_) rfl (by rfl) (by kernel_rfl) (by kernel_rfl) (by kernel_rfl) (fun _ _ _ h => h) (by rfl) ?_ (by assumption) ?_; rotate_left; (focus ((intro w hSw; (try dsimp only at hSw); go_simp); (try with_reducible rfl); done)); (try simp only [List.setIfInBounds_toArray, List.set_cons_succ, List.set_cons_zero]))
              first | (refine take_in (i := 8) (v := ?_) rfl (by rfl) (by kernel_rfl) (by kernel_rfl) (by kernel_rfl) (fun _ _ _ h => h) (by rfl) ?_ (by assumption) ?_; rotate_left; (focus ((intro w hSw; (try dsimp only at hSw); go_simp); (try with_reducible rfl); done)); (try simp only [List.setIfInBounds_toArray, List.set_cons_succ, List.set_cons_zero])) | (refine take_out (i := 8) rfl (by rfl) (by kernel_rfl) (by kernel_rfl) (by kernel_rfl) (fun _ _ _ h => h) (by rfl) (by assumption) ?_; (try simp only [List.setIfInBounds_toArray, List.set_cons_succ, List.set_cons_zero]))
              first | (refine take_in (i := 9) (v := ?_) rfl (by rfl) (by kernel_rfl) (by kernel_rfl) (by kernel_rfl) (fun _ _ _ h => h) (by rfl) ?_ (by assumption) ?_; rotate_left; (focus ((intro w hSw; (try dsimp only at hSw); go_simp); (try with_reducible rfl); done)); (try simp only [List.setIfInBounds_toArray, List.set_cons_succ, List.set_cons_zero])) | (refine take_out (i := 9) rfl (by rfl) (by kernel_rfl) (by kernel_rfl) (by kernel_rfl) (fun _ _ _ h => h) (by rfl) (by assumption) ?_; (try simp only [List.setIfInBounds_toArray, List.set_cons_succ, List.set_cons_zero]))
              first | (refine take_in (i := 10) (v := ?_) rfl (by rfl) (by kernel_rfl) (by kernel_rfl) (by kernel_rfl) (fun _ _ _ h => h) (by rfl) ?_ (by assumption) ?_; rotate_left; (focus ((intro w hSw; (try dsimp only at hSw); go_simp); (try with_reducible rfl); done)); (try simp only [List.setIfInBounds_toArray, List.set_cons_succ, List.set_cons_zero])) | (refine take_out (i := 10) rfl (by rfl) (by kernel_rfl) (by kernel_rfl) (by kernel_rfl) (fun _ _ _ h => h) (by rfl) (by assumption) ?_; (try simp only [List.setIfInBounds_toArray, List.set_cons_succ, List.set_cons_zero]))
              first | (refine take_in (i := 11) (v := ?_) rfl (by rfl) (by kernel_rfl) (by kernel_rfl) (by kernel_rfl) (fun _ _ _ h => h) (by rfl) ?_ (by assumption) ?_; rotate_left; (focus ((intro w hSw; (try dsimp only at hSw); go_simp); (try with_reducible rfl); done)); (try simp only [List.setIfInBounds_toArray, List.set_cons_succ, List.set_cons_zero])) | (refine take_out (i := 11) rfl (by rfl) (by kernel_rfl) (by kernel_rfl) (by kernel_rfl) (fun _ _ _ h => h) (by rfl) (by assumption) ?_; (try simp only [List.setIfInBounds_toArray, List.set_cons_succ, List.set_cons_zero]))
              first | (refine take_in (i := 12) (v := ?_) rfl (by rfl) (by kernel_rfl) (by kernel_rfl) (by kernel_rfl) (fun _ _ _ h => h) (by rfl) ?_ (by assumption) ?_; rotate_left; (focus ((intro w hSw; (try dsimp only at hSw); go_simp); (try with_reducible rfl); done)); (try simp only [List.setIfInBounds_toArray, List.set_cons_succ, List.set_cons_zero])) | (refine take_out (i := 12) rfl (by rfl) (by kernel_rfl) (by kernel_rfl) (by kernel_rfl) (fun _ _ _ h => h) (by rfl) (by assumption) ?_; (try simp only [List.setIfInBounds_toArray, List.set_cons_succ, List.set_cons_zero]))
              (refine take_in (i := 13) (v := ?_) rfl (by rfl) (by kernel_rfl) (by kernel_rfl) (by kernel_rfl) (fun _ _ _ h => h) (by rfl) ?_ (by assumption) ?_; rotate_left; (focus ((intro w hSw; (try dsimp only at hSw); go_simp); (try with_reducible rfl); done)); (try simp only [List.setIfInBounds_toArray, List.set_cons_succ, List.set_cons_zero]))
              (refine take_in (i := 14) (v := ?_) rfl (by rfl) (by kernel_rfl) (by kernel_rfl) (by kernel_rfl) (fun _ _ _ h => h) (by rfl) ?_ (by assumption) ?_; rotate_left; (focus ((intro w hSw; (try dsimp only at hSw); go_simp); (try with_reducible rfl); done)); (try simp only [List.setIfInBounds_toArray, List.set_cons_succ, List.set_cons_zero]))
              first | (refine take_in (i := 15) (v := ?_) rfl (by rfl) (by kernel_rfl) (by kernel_rfl) (by kernel_rfl) (fun _ _ _ h => h) (by rfl) ?_ (by assumption) ?_; rotate_left; (focus ((intro w hSw; (try dsimp only at hSw); go_simp); (try with_reducible rfl); done)); (try simp only [List.setIfInBounds_toArray, List.set_cons_succ, List.set_cons_zero])) | (refine take_out (i := 15) rfl (by rfl) (by kernel_rfl) (by kernel_rfl) (by kernel_rfl) (fun _ _ _ h => h) (by rfl) (by assumption) ?_; (try simp only [List.setIfInBounds_toArray, List.set_cons_succ, List.set_cons_zero]))
              (refine take_out (i := 16) rfl (by rfl) (by kernel_rfl) (by kernel_rfl) (by kernel_rfl) (fun _ _ _ h => h) (by rfl) (by assumption) ?_; (try simp only [List.setIfInBounds_toArray, List.set_cons_succ, List.set_cons_zero]))
              first | (refine take_in (i := 17) (v := ?_) rfl (by rfl) (by kernel_rfl) (by kernel_rfl) (by kernel_rfl) (fun _ _ _ h => h) (by rfl) ?_ (by assumption) ?_; rotate_left; (focus ((intro w hSw; (try dsimp only at hSw); go_simp); (try with_reducible rfl); done)); (try simp only [List.setIfInBounds_toArray, List.set_cons_succ, List.set_cons_zero])) | (refine take_out (i := 17) rfl (by rfl) (by kernel_rfl) (by kernel_rfl) (by kernel_rfl) (fun _ _ _ h => h) (by rfl) (by assumption) ?_; (try simp only [List.setIfInBounds_toArray, List.set_cons_succ, List.set_cons_zero]))
              first | (refine take_in (i := 18) (v := ?_) rfl (by rfl) (by kernel_rfl) (by kernel_rfl) (by kernel_rfl) (fun _ _ _ h => h) (by rfl) ?_ (by assumption) ?_; rotate_left; (focus ((intro w hSw; (try dsimp only at hSw); go_simp); (try with_reducible rfl); done)); (try simp only [List.setIfInBounds_toArray, List.set_cons_succ, List.set_cons_zero])) | (refine take_out (i := 18) rfl (by rfl) (by kernel_rfl) (by kernel_rfl) (by kernel_rfl) (fun _ _ _ h => h) (by rfl) (by assumption) ?_; (try simp only [List.setIfInBounds_toArray, List.set_cons_succ, List.set_cons_zero]))
              first | (refine take_in (i := 19) (v := ?_) rfl (by rfl) (by kernel_rfl) (by kernel_rfl) (by kernel_rfl) (fun _ _ _ h => h) (by rfl) ?_ (by assumption) ?_; rotate_left; (focus ((intro w hSw; (try dsimp only at hSw); go_simp); (try with_reducible rfl); done)); (try simp only [List.setIfInBounds_toArray, List.set_cons_succ, List.set_cons_zero])) | (refine take_out (i := 19) rfl (by rfl) (by kernel_rfl) (by kernel_rfl) (by kernel_rfl) (fun _ _ _ h => h) (by rfl) (by assumption) ?_; (try simp only [List.setIfInBounds_toArray, List.set_cons_succ, List.set_cons_zero]))
              (refine take_in (i := 20) (v := ?_) rfl (by rfl) (by kernel_rfl) (by kernel_rfl) (by kernel_rfl) (fun _ _ _ h => h) (by rfl) ?_ (by assumption) ?_; rotate_left; (focus ((intro w hSw; (try dsimp only at hSw); go_simp); (try with_reducible rfl); done)); (try simp only [List.setIfInBounds_toArray, List.set_cons_succ, List.set_cons_zero]))
              refine wpAnyH_done (by kernel_rfl) ?_ _
              refine NoPanic.normal ?_
              clear KS
              clear X6_lt X6_c0 X6_f0 X6_c1 X6_f1 X6_c2 X6_f2
              clear XW_lt XW_c0 XW_f0 XW_c1 XW_f1
              have bb := KK.out
              have zbE := bb.size
              replace X1 := hide (X1.out.below bb)
              replace X2 := hide (X2.out.below bb)
              replace XW := hide (XW.out.below bb)
              replace RO := hide (RO.out.below bb)
              replace BW := hide (bthen BW.out bb)
              clear bb
              go_wp2_with fail
              go_roundw
              case rel => exact ⟨k + 1, by omega, by go_num, by rw [HS.out.2, ← HMM.out], by rw [HS.out.1]; exact RO, X1, X2, XW, BW, by omega⟩
              case measure => simp [intOf]; omega
            have q1 : decide (0 < M) = true := decide_eq_true h0
            by_cases h1 : st = 0
            rotate_left
            · have q2 : (st == 0) = false := by simpa using h1
              have HS := hide (boardTo_no (g := g) (e := e) (m := m) hr.out fun h => h1 h.2.1)
              clear hM h1
              have X6_lt := X6.out.lt
              have X6_c0 := X6.out.at (i := 0) rfl; have X6_f0 := X6.out.frozen 0
              have X6_c1 := X6.out.at (i := 1) rfl; have X6_f1 := X6.out.frozen 1
              have X6_c2 := X6.out.at (i := 2) rfl; have X6_f2 := X6.out.frozen 2
              have XW_lt := XW.out.lt
              have XW_c0 := XW.out.at (i := 0) rfl; have XW_f0 := XW.out.frozen 0
              have XW_c1 := XW.out.at (i := 1) rfl; have XW_f1 := XW.out.frozen 1
              have KS : Hid (∀ W', Below W6.heap.size W6 W' → (W'.cell? ⟨wr.heap.size, 0, none⟩ = some (.int .i64 fr) ∧ W'.cell? ⟨wr.heap.size, 1, none⟩ = some (.int .i64 tg) ∧ W'.cell? ⟨wr.heap.size, 2, none⟩ = some (.int .i64 st)) ∧ W'.cell? ⟨gw, 0, none⟩ = some (.int .i64 g) ∧ W'.cell? ⟨gw, 1, none⟩ = some (.int .i64 e)) := fun W' bb => ⟨⟨(X6.out.below bb).at rfl, (X6.out.below bb).at rfl, (X6.out.below bb).at rfl⟩, (XW.out.below bb).at rfl, (XW.out.below bb).at rfl⟩
              have KK : Hid (Below W6.heap.size W6 W6.drew) := (Below.refl _ _).drew
              refine wp_region_noPanic ?_
              refine wp_region_held_drew (S := (fun W => (W.cell? ⟨wr.heap.size, 0, none⟩ = some (.int .i64 fr) ∧ W.cell? ⟨wr.heap.size, 1, none⟩ = some (.int .i64 tg) ∧ W.cell? ⟨wr.heap.size, 2, none⟩ = some (.int .i64 st)) ∧ W.cell? ⟨gw, 0, none⟩ = some (.int .i64 g) ∧ W.cell? ⟨gw, 1, none⟩ = some (.int .i64 e))) (by kernel_rfl) ?_ (fun hHeld => ?_)
              · exact KS.out _ KK.out
              (refine take_in (i := 0) (v := ?_) rfl (by rfl) (by kernel_rfl) (by kernel_rfl) (by kernel_rfl) (fun _ _ _ h => h) (by rfl) ?_ (by assumption) ?_; rotate_left; (focus ((intro w hSw; (try dsimp only at hSw); go_simp); (try with_reducible rfl); done)); (try simp only [List.setIfInBounds_toArray, List.set_cons_succ, List.set_cons_zero]))
              (refine take_in (i := 1) (v := ?_) rfl (by rfl) (by kernel_rfl) (by kernel_rfl) (by kernel_rfl) (fun _ _ _ h => h) (by rfl) ?_ (by assumption) ?_; rotate_left; (focus ((intro w hSw; (try dsimp only at hSw); go_simp); (try with_reducible rfl); done)); (try simp only [List.setIfInBounds_toArray, List.set_cons_succ, List.set_cons_zero]))
              (refine take_in (i := 2) (v := ?_) rfl (by rfl) (by kernel_rfl) (by kernel_rfl) (by kernel_rfl) (fun _ _ _ h => h) (by rfl) ?_ (by assumption) ?_; rotate_left; (focus ((intro w hSw; (try dsimp only at hSw); go_simp); (try with_reducible rfl); done)); (try simp only [List.setIfInBounds_toArray, List.set_cons_succ, List.set_cons_zero]))
              first | (refine take_in (i := 3) (v := ?_) rfl (by rfl) (by kernel_rfl) (by kernel_rfl) (by kernel_rfl) (fun _ _ _ h => h) (by rfl) ?_ (by assumption) ?_; rotate_left; (focus ((intro w hSw; (try dsimp only at hSw); go_simp); (try with_reducible rfl); done)); (try simp only [List.setIfInBounds_toArray, List.set_cons_succ, List.set_cons_zero])) | (refine take_out (i := 3) rfl (by rfl) (by kernel_rfl) (by kernel_rfl) (by kernel_rfl) (fun _ _ _ h => h) (by rfl) (by assumption) ?_; (try simp only [List.setIfInBounds_toArray, List.set_cons_succ, List.set_cons_zero]))
              first | (refine take_in (i := 4) (v := ?_) rfl (by rfl) (by kernel_rfl) (by kernel_rfl) (by kernel_rfl) (fun _ _ _ h => h) (by rfl) ?_ (by assumption) ?_; rotate_left; (focus ((intro w hSw; (try dsimp only at hSw); go_simp); (try with_reducible rfl); done)); (try simp only [List.setIfInBounds_toArray, List.set_cons_succ, List.set_cons_zero])) | (refine take_out (i := 4) rfl (by rfl) (by kernel_rfl) (by kernel_rfl) (by kernel_rfl) (fun _ _ _ h => h) (by rfl) (by assumption) ?_; (try simp only [List.setIfInBounds_toArray, List.set_cons_succ, List.set_cons_zero]))
              first | (refine take_in (i := 5) (v := ?_) rfl (by rfl) (by kernel_rfl) (by kernel_rfl) (by kernel_rfl) (fun _ _ _ h => h) (by rfl) ?_ (by assumption) ?_; rotate_left; (focus ((intro w hSw; (try dsimp only at hSw); go_simp); (try with_reducible rfl); done)); (try simp only [List.setIfInBounds_toArray, List.set_cons_succ, List.set_cons_zero])) | (refine take_out (i := 5) rfl (by rfl) (by kernel_rfl) (by kernel_rfl) (by kernel_rfl) (fun _ _ _ h => h) (by rfl) (by assumption) ?_; (try simp only [List.setIfInBounds_toArray, List.set_cons_succ, List.set_cons_zero]))
              (refine take_in (i := 6) (v := ?_) rfl (by rfl) (by kernel_rfl) (by kernel_rfl) (by kernel_rfl) (fun _ _ _ h => h) (by rfl) ?_ (by assumption) ?_; rotate_left; (focus ((intro w hSw; (try dsimp only at hSw); go_simp); (try with_reducible rfl); done)); (try simp only [List.setIfInBounds_toArray, List.set_cons_succ, List.set_cons_zero]))
              (refine take_in (i := 7) (v := ?_) rfl (by rfl) (by kernel_rfl) (by kernel_rfl) (by kernel_rfl) (fun _ _ _ h => h) (by rfl) ?_ (by assumption) ?_; rotate_left; (focus ((intro w hSw; (try dsimp only at hSw); go_simp); (try with_reducible rfl); done)); (try simp only [List.setIfInBounds_toArray, List.set_cons_succ, List.set_cons_zero]))
              first | (refine take_in (i := 8) (v := ?_) rfl (by rfl) (by kernel_rfl) (by kernel_rfl) (by kernel_rfl) (fun _ _ _ h => h) (by rfl) ?_ (by assumption) ?_; rotate_left; (focus ((intro w hSw; (try dsimp only at hSw); go_simp); (try with_reducible rfl); done)); (try simp only [List.setIfInBounds_toArray, List.set_cons_succ, List.set_cons_zero])) | (refine take_out (i := 8) rfl (by rfl) (by kernel_rfl) (by kernel_rfl) (by kernel_rfl) (fun _ _ _ h => h) (by rfl) (by assumption) ?_; (try simp only [List.setIfInBounds_toArray, List.set_cons_succ, List.set_cons_zero]))
              first | (refine take_in (i := 9) (v := ?_) rfl (by rfl) (by kernel_rfl) (by kernel_rfl) (by kernel_rfl) (fun _ _ _ h => h) (by rfl) ?_ (by assumption) ?_; rotate_left; (focus ((intro w hSw; (try dsimp only at hSw); go_simp); (try with_reducible rfl); done)); (try simp only [List.setIfInBounds_toArray, List.set_cons_succ, List.set_cons_zero])) | (refine take_out (i := 9) rfl (by rfl) (by kernel_rfl) (by kernel_rfl) (by kernel_rfl) (fun _ _ _ h => h) (by rfl) (by assumption) ?_; (try simp only [List.setIfInBounds_toArray, List.set_cons_succ, List.set_cons_zero]))
              first | (refine take_in (i := 10) (v := ?_) rfl (by rfl) (by kernel_rfl) (by kernel_rfl) (by kernel_rfl) (fun _ _ _ h => h) (by rfl) ?_ (by assumption) ?_; rotate_left; (focus ((intro w hSw; (try dsimp only at hSw); go_simp); (try with_reducible rfl); done)); (try simp only [List.setIfInBounds_toArray, List.set_cons_succ, List.set_cons_zero])) | (refine take_out (i := 10) rfl (by rfl) (by kernel_rfl) (by kernel_rfl) (by kernel_rfl) (fun _ _ _ h => h) (by rfl) (by assumption) ?_; (try simp only [List.setIfInBounds_toArray, List.set_cons_succ, List.set_cons_zero]))
              first | (refine take_in (i := 11) (v := ?_) rfl (by rfl) (by kernel_rfl) (by kernel_rfl) (by kernel_rfl) (fun _ _ _ h => h) (by rfl) ?_ (by assumption) ?_; rotate_left; (focus ((intro w hSw; (try dsimp only at hSw); go_simp); (try with_reducible rfl); done)); (try simp only [List.setIfInBounds_toArray, List.set_cons_succ, List.set_cons_zero])) | (refine take_out (i := 11) rfl (by rfl) (by kernel_rfl) (by kernel_rfl) (by kernel_rfl) (fun _ _ _ h => h) (by rfl) (by assumption) ?_; (try simp only [List.setIfInBounds_toArray, List.set_cons_succ, List.set_cons_zero]))
              first | (refine take_in (i := 12) (v := ?_) rfl (by rfl) (by kernel_rfl) (by kernel_rfl) (by kernel_rfl) (fun _ _ _ h => h) (by rfl) ?_ (by assumption) ?_; rotate_left; (focus ((intro w hSw; (try dsimp only at hSw); go_simp); (try with_reducible rfl); done)); (try simp only [List.setIfInBounds_toArray, List.set_cons_succ, List.set_cons_zero])) | (refine take_out (i := 12) rfl (by rfl) (by kernel_rfl) (by kernel_rfl) (by kernel_rfl) (fun _ _ _ h => h) (by rfl) (by assumption) ?_; (try simp only [List.setIfInBounds_toArray, List.set_cons_succ, List.set_cons_zero]))
              (refine take_in (i := 13) (v := ?_) rfl (by rfl) (by kernel_rfl) (by kernel_rfl) (by kernel_rfl) (fun _ _ _ h => h) (by rfl) ?_ (by assumption) ?_; rotate_left; (focus ((intro w hSw; (try dsimp only at hSw); go_simp); (try with_reducible rfl); done)); (try simp only [List.setIfInBounds_toArray, List.set_cons_succ, List.set_cons_zero]))
              (refine take_in (i := 14) (v := ?_) rfl (by rfl) (by kernel_rfl) (by kernel_rfl) (by kernel_rfl) (fun _ _ _ h => h) (by rfl) ?_ (by assumption) ?_; rotate_left; (focus ((intro w hSw; (try dsimp only at hSw); go_simp); (try with_reducible rfl); done)); (try simp only [List.setIfInBounds_toArray, List.set_cons_succ, List.set_cons_zero]))
              first | (refine take_in (i := 15) (v := ?_) rfl (by rfl) (by kernel_rfl) (by kernel_rfl) (by kernel_rfl) (fun _ _ _ h => h) (by rfl) ?_ (by assumption) ?_; rotate_left; (focus ((intro w hSw; (try dsimp only at hSw); go_simp); (try with_reducible rfl); done)); (try simp only [List.setIfInBounds_toArray, List.set_cons_succ, List.set_cons_zero])) | (refine take_out (i := 15) rfl (by rfl) (by kernel_rfl) (by kernel_rfl) (by kernel_rfl) (fun _ _ _ h => h) (by rfl) (by assumption) ?_; (try simp only [List.setIfInBounds_toArray, List.set_cons_succ, List.set_cons_zero]))
              (refine take_out (i := 16) rfl (by rfl) (by kernel_rfl) (by kernel_rfl) (by kernel_rfl) (fun _ _ _ h => h) (by rfl) (by assumption) ?_; (try simp only [List.setIfInBounds_toArray, List.set_cons_succ, List.set_cons_zero]))
              first | (refine take_in (i := 17) (v := ?_) rfl (by rfl) (by kernel_rfl) (by kernel_rfl) (by kernel_rfl) (fun _ _ _ h => h) (by rfl) ?_ (by assumption) ?_; rotate_left; (focus ((intro w hSw; (try dsimp only at hSw); go_simp); (try with_reducible rfl); done)); (try simp only [List.setIfInBounds_toArray, List.set_cons_succ, List.set_cons_zero])) | (refine take_out (i := 17) rfl (by rfl) (by kernel_rfl) (by kernel_rfl) (by kernel_rfl) (fun _ _ _ h => h) (by rfl) (by assumption) ?_; (try simp only [List.setIfInBounds_toArray, List.set_cons_succ, List.set_cons_zero]))
              first | (refine take_in (i := 18) (v := ?_) rfl (by rfl) (by kernel_rfl) (by kernel_rfl) (by kernel_rfl) (fun _ _ _ h => h) (by rfl) ?_ (by assumption) ?_; rotate_left; (focus ((intro w hSw; (try dsimp only at hSw); go_simp); (try with_reducible rfl); done)); (try simp only [List.setIfInBounds_toArray, List.set_cons_succ, List.set_cons_zero])) | (refine take_out (i := 18) rfl (by rfl) (by kernel_rfl) (by kernel_rfl) (by kernel_rfl) (fun _ _ _ h => h) (by rfl) (by assumption) ?_; (try simp only [List.setIfInBounds_toArray, List.set_cons_succ, List.set_cons_zero]))
              first | (refine take_in (i := 19) (v := ?_) rfl (by rfl) (by kernel_rfl) (by kernel_rfl) (by kernel_rfl) (fun _ _ _ h => h) (by rfl) ?_ (by assumption) ?_; rotate_left; (focus ((intro w hSw; (try dsimp only at hSw); go_simp); (try with_reducible rfl); done)); (try simp only [List.setIfInBounds_toArray, List.set_cons_succ, List.set_cons_zero])) | (refine take_out (i := 19) rfl (by rfl) (by kernel_rfl) (by kernel_rfl) (by kernel_rfl) (fun _ _ _ h => h) (by rfl) (by assumption) ?_; (try simp only [List.setIfInBounds_toArray, List.set_cons_succ, List.set_cons_zero]))
              (refine take_in (i := 20) (v := ?_) rfl (by rfl) (by kernel_rfl) (by kernel_rfl) (by kernel_rfl) (fun _ _ _ h => h) (by rfl) ?_ (by assumption) ?_; rotate_left; (focus ((intro w hSw; (try dsimp only at hSw); go_simp); (try with_reducible rfl); done)); (try simp only [List.setIfInBounds_toArray, List.set_cons_succ, List.set_cons_zero]))
              refine wpAnyH_done (by kernel_rfl) ?_ _
              refine NoPanic.normal ?_
              clear KS
              clear X6_lt X6_c0 X6_f0 X6_c1 X6_f1 X6_c2 X6_f2
              clear XW_lt XW_c0 XW_f0 XW_c1 XW_f1
              have bb := KK.out
              have zbE := bb.size
              replace X1 := hide (X1.out.below bb)
              replace X2 := hide (X2.out.below bb)
              replace XW := hide (XW.out.below bb)
              replace RO := hide (RO.out.below bb)
              replace BW := hide (bthen BW.out bb)
              clear bb
              go_wp2_with fail
              go_roundw
              case rel => exact ⟨k + 1, by omega, by go_num, by rw [HS.out.2, ← HMM.out], by rw [HS.out.1]; exact RO, X1, X2, XW, BW, by omega⟩
              case measure => simp [intOf]; omega
            have q2 : (st == 0) = true := by simpa using h1
            have H1 := hide h1
            clear h1
            by_cases h2 : fr = g
            rotate_left
            · have q3 : (fr == g) = false := by simpa using h2
              have HS := hide (boardTo_no (g := g) (e := e) (m := m) hr.out fun h => h2 h.2.2.1)
              clear hM h2
              have X6_lt := X6.out.lt
              have X6_c0 := X6.out.at (i := 0) rfl; have X6_f0 := X6.out.frozen 0
              have X6_c1 := X6.out.at (i := 1) rfl; have X6_f1 := X6.out.frozen 1
              have X6_c2 := X6.out.at (i := 2) rfl; have X6_f2 := X6.out.frozen 2
              have XW_lt := XW.out.lt
              have XW_c0 := XW.out.at (i := 0) rfl; have XW_f0 := XW.out.frozen 0
              have XW_c1 := XW.out.at (i := 1) rfl; have XW_f1 := XW.out.frozen 1
              have KS : Hid (∀ W', Below W6.heap.size W6 W' → (W'.cell? ⟨wr.heap.size, 0, none⟩ = some (.int .i64 fr) ∧ W'.cell? ⟨wr.heap.size, 1, none⟩ = some (.int .i64 tg) ∧ W'.cell? ⟨wr.heap.size, 2, none⟩ = some (.int .i64 st)) ∧ W'.cell? ⟨gw, 0, none⟩ = some (.int .i64 g) ∧ W'.cell? ⟨gw, 1, none⟩ = some (.int .i64 e)) := fun W' bb => ⟨⟨(X6.out.below bb).at rfl, (X6.out.below bb).at rfl, (X6.out.below bb).at rfl⟩, (XW.out.below bb).at rfl, (XW.out.below bb).at rfl⟩
              have KK : Hid (Below W6.heap.size W6 W6.drew) := (Below.refl _ _).drew
              refine wp_region_noPanic ?_
              refine wp_region_held_drew (S := (fun W => (W.cell? ⟨wr.heap.size, 0, none⟩ = some (.int .i64 fr) ∧ W.cell? ⟨wr.heap.size, 1, none⟩ = some (.int .i64 tg) ∧ W.cell? ⟨wr.heap.size, 2, none⟩ = some (.int .i64 st)) ∧ W.cell? ⟨gw, 0, none⟩ = some (.int .i64 g) ∧ W.cell? ⟨gw, 1, none⟩ = some (.int .i64 e))) (by kernel_rfl) ?_ (fun hHeld => ?_)
              · exact KS.out _ KK.out
              (refine take_in (i := 0) (v := ?_) rfl (by rfl) (by kernel_rfl) (by kernel_rfl) (by kernel_rfl) (fun _ _ _ h => h) (by rfl) ?_ (by assumption) ?_; rotate_left; (focus ((intro w hSw; (try dsimp only at hSw); go_simp); (try with_reducible rfl); done)); (try simp only [List.setIfInBounds_toArray, List.set_cons_succ, List.set_cons_zero]))
              (refine take_in (i := 1) (v := ?_) rfl (by rfl) (by kernel_rfl) (by kernel_rfl) (by kernel_rfl) (fun _ _ _ h => h) (by rfl) ?_ (by assumption) ?_; rotate_left; (focus ((intro w hSw; (try dsimp only at hSw); go_simp); (try with_reducible rfl); done)); (try simp only [List.setIfInBounds_toArray, List.set_cons_succ, List.set_cons_zero]))
              (refine take_in (i := 2) (v := ?_) rfl (by rfl) (by kernel_rfl) (by kernel_rfl) (by kernel_rfl) (fun _ _ _ h => h) (by rfl) ?_ (by assumption) ?_; rotate_left; (focus ((intro w hSw; (try dsimp only at hSw); go_simp); (try with_reducible rfl); done)); (try simp only [List.setIfInBounds_toArray, List.set_cons_succ, List.set_cons_zero]))
              first | (refine take_in (i := 3) (v := ?_) rfl (by rfl) (by kernel_rfl) (by kernel_rfl) (by kernel_rfl) (fun _ _ _ h => h) (by rfl) ?_ (by assumption) ?_; rotate_left; (focus ((intro w hSw; (try dsimp only at hSw); go_simp); (try with_reducible rfl); done)); (try simp only [List.setIfInBounds_toArray, List.set_cons_succ, List.set_cons_zero])) | (refine take_out (i := 3) rfl (by rfl) (by kernel_rfl) (by kernel_rfl) (by kernel_rfl) (fun _ _ _ h => h) (by rfl) (by assumption) ?_; (try simp only [List.setIfInBounds_toArray, List.set_cons_succ, List.set_cons_zero]))
              first | (refine take_in (i := 4) (v := ?_) rfl (by rfl) (by kernel_rfl) (by kernel_rfl) (by kernel_rfl) (fun _ _ _ h => h) (by rfl) ?_ (by assumption) ?_; rotate_left; (focus ((intro w hSw; (try dsimp only at hSw); go_simp); (try with_reducible rfl); done)); (try simp only [List.setIfInBounds_toArray, List.set_cons_succ, List.set_cons_zero])) | (refine take_out (i := 4) rfl (by rfl) (by kernel_rfl) (by kernel_rfl) (by kernel_rfl) (fun _ _ _ h => h) (by rfl) (by assumption) ?_; (try simp only [List.setIfInBounds_toArray, List.set_cons_succ, List.set_cons_zero]))
              first | (refine take_in (i := 5) (v := ?_) rfl (by rfl) (by kernel_rfl) (by kernel_rfl) (by kernel_rfl) (fun _ _ _ h => h) (by rfl) ?_ (by assumption) ?_; rotate_left; (focus ((intro w hSw; (try dsimp only at hSw); go_simp); (try with_reducible rfl); done)); (try simp only [List.setIfInBounds_toArray, List.set_cons_succ, List.set_cons_zero])) | (refine take_out (i := 5) rfl (by rfl) (by kernel_rfl) (by kernel_rfl) (by kernel_rfl) (fun _ _ _ h => h) (by rfl) (by assumption) ?_; (try simp only [List.setIfInBounds_toArray, List.set_cons_succ, List.set_cons_zero]))
              (refine take_in (i := 6) (v := ?_) rfl (by rfl) (by kernel_rfl) (by kernel_rfl) (by kernel_rfl) (fun _ _ _ h => h) (by rfl) ?_ (by assumption) ?_; rotate_left; (focus ((intro w hSw; (try dsimp only at hSw); go_simp); (try with_reducible rfl); done)); (try simp only [List.setIfInBounds_toArray, List.set_cons_succ, List.set_cons_zero]))
              (refine take_in (i := 7) (v := ?_) rfl (by rfl) (by kernel_rfl) (by kernel_rfl) (by kernel_rfl) (fun _ _ _ h => h) (by rfl) ?_ (by assumption) ?_; rotate_left; (focus ((intro w hSw; (try dsimp only at hSw); go_simp); (try with_reducible rfl); done)); (try simp only [List.setIfInBounds_toArray, List.set_cons_succ, List.set_cons_zero]))
              first | (refine take_in (i := 8) (v := ?_) rfl (by rfl) (by kernel_rfl) (by kernel_rfl) (by kernel_rfl) (fun _ _ _ h => h) (by rfl) ?_ (by assumption) ?_; rotate_left; (focus ((intro w hSw; (try dsimp only at hSw); go_simp); (try with_reducible rfl); done)); (try simp only [List.setIfInBounds_toArray, List.set_cons_succ, List.set_cons_zero])) | (refine take_out (i := 8) rfl (by rfl) (by kernel_rfl) (by kernel_rfl) (by kernel_rfl) (fun _ _ _ h => h) (by rfl) (by assumption) ?_; (try simp only [List.setIfInBounds_toArray, List.set_cons_succ, List.set_cons_zero]))
              first | (refine take_in (i := 9) (v := ?_) rfl (by rfl) (by kernel_rfl) (by kernel_rfl) (by kernel_rfl) (fun _ _ _ h => h) (by rfl) ?_ (by assumption) ?_; rotate_left; (focus ((intro w hSw; (try dsimp only at hSw); go_simp); (try with_reducible rfl); done)); (try simp only [List.setIfInBounds_toArray, List.set_cons_succ, List.set_cons_zero])) | (refine take_out (i := 9) rfl (by rfl) (by kernel_rfl) (by kernel_rfl) (by kernel_rfl) (fun _ _ _ h => h) (by rfl) (by assumption) ?_; (try simp only [List.setIfInBounds_toArray, List.set_cons_succ, List.set_cons_zero]))
              first | (refine take_in (i := 10) (v := ?_) rfl (by rfl) (by kernel_rfl) (by kernel_rfl) (by kernel_rfl) (fun _ _ _ h => h) (by rfl) ?_ (by assumption) ?_; rotate_left; (focus ((intro w hSw; (try dsimp only at hSw); go_simp); (try with_reducible rfl); done)); (try simp only [List.setIfInBounds_toArray, List.set_cons_succ, List.set_cons_zero])) | (refine take_out (i := 10) rfl (by rfl) (by kernel_rfl) (by kernel_rfl) (by kernel_rfl) (fun _ _ _ h => h) (by rfl) (by assumption) ?_; (try simp only [List.setIfInBounds_toArray, List.set_cons_succ, List.set_cons_zero]))
              first | (refine take_in (i := 11) (v := ?_) rfl (by rfl) (by kernel_rfl) (by kernel_rfl) (by kernel_rfl) (fun _ _ _ h => h) (by rfl) ?_ (by assumption) ?_; rotate_left; (focus ((intro w hSw; (try dsimp only at hSw); go_simp); (try with_reducible rfl); done)); (try simp only [List.setIfInBounds_toArray, List.set_cons_succ, List.set_cons_zero])) | (refine take_out (i := 11) rfl (by rfl) (by kernel_rfl) (by kernel_rfl) (by kernel_rfl) (fun _ _ _ h => h) (by rfl) (by assumption) ?_; (try simp only [List.setIfInBounds_toArray, List.set_cons_succ, List.set_cons_zero]))
              first | (refine take_in (i := 12) (v := ?_) rfl (by rfl) (by kernel_rfl) (by kernel_rfl) (by kernel_rfl) (fun _ _ _ h => h) (by rfl) ?_ (by assumption) ?_; rotate_left; (focus ((intro w hSw; (try dsimp only at hSw); go_simp); (try with_reducible rfl); done)); (try simp only [List.setIfInBounds_toArray, List.set_cons_succ, List.set_cons_zero])) | (refine take_out (i := 12) rfl (by rfl) (by kernel_rfl) (by kernel_rfl) (by kernel_rfl) (fun _ _ _ h => h) (by rfl) (by assumption) ?_; (try simp only [List.setIfInBounds_toArray, List.set_cons_succ, List.set_cons_zero]))
              (refine take_in (i := 13) (v := ?_) rfl (by rfl) (by kernel_rfl) (by kernel_rfl) (by kernel_rfl) (fun _ _ _ h => h) (by rfl) ?_ (by assumption) ?_; rotate_left; (focus ((intro w hSw; (try dsimp only at hSw); go_simp); (try with_reducible rfl); done)); (try simp only [List.setIfInBounds_toArray, List.set_cons_succ, List.set_cons_zero]))
              (refine take_in (i := 14) (v := ?_) rfl (by rfl) (by kernel_rfl) (by kernel_rfl) (by kernel_rfl) (fun _ _ _ h => h) (by rfl) ?_ (by assumption) ?_; rotate_left; (focus ((intro w hSw; (try dsimp only at hSw); go_simp); (try with_reducible rfl); done)); (try simp only [List.setIfInBounds_toArray, List.set_cons_succ, List.set_cons_zero]))
              first | (refine take_in (i := 15) (v := ?_) rfl (by rfl) (by kernel_rfl) (by kernel_rfl) (by kernel_rfl) (fun _ _ _ h => h) (by rfl) ?_ (by assumption) ?_; rotate_left; (focus ((intro w hSw; (try dsimp only at hSw); go_simp); (try with_reducible rfl); done)); (try simp only [List.setIfInBounds_toArray, List.set_cons_succ, List.set_cons_zero])) | (refine take_out (i := 15) rfl (by rfl) (by kernel_rfl) (by kernel_rfl) (by kernel_rfl) (fun _ _ _ h => h) (by rfl) (by assumption) ?_; (try simp only [List.setIfInBounds_toArray, List.set_cons_succ, List.set_cons_zero]))
              (refine take_out (i := 16) rfl (by rfl) (by kernel_rfl) (by kernel_rfl) (by kernel_rfl) (fun _ _ _ h => h) (by rfl) (by assumption) ?_; (try simp only [List.setIfInBounds_toArray, List.set_cons_succ, List.set_cons_zero]))
              first | (refine take_in (i := 17) (v := ?_) rfl (by rfl) (by kernel_rfl) (by kernel_rfl) (by kernel_rfl) (fun _ _ _ h => h) (by rfl) ?_ (by assumption) ?_; rotate_left; (focus ((intro w hSw; (try dsimp only at hSw); go_simp); (try with_reducible rfl); done)); (try simp only [List.setIfInBounds_toArray, List.set_cons_succ, List.set_cons_zero])) | (refine take_out (i := 17) rfl (by rfl) (by kernel_rfl) (by kernel_rfl) (by kernel_rfl) (fun _ _ _ h => h) (by rfl) (by assumption) ?_; (try simp only [List.setIfInBounds_toArray, List.set_cons_succ, List.set_cons_zero]))
              first | (refine take_in (i := 18) (v := ?_) rfl (by rfl) (by kernel_rfl) (by kernel_rfl) (by kernel_rfl) (fun _ _ _ h => h) (by rfl) ?_ (by assumption) ?_; rotate_left; (focus ((intro w hSw; (try dsimp only at hSw); go_simp); (try with_reducible rfl); done)); (try simp only [List.setIfInBounds_toArray, List.set_cons_succ, List.set_cons_zero])) | (refine take_out (i := 18) rfl (by rfl) (by kernel_rfl) (by kernel_rfl) (by kernel_rfl) (fun _ _ _ h => h) (by rfl) (by assumption) ?_; (try simp only [List.setIfInBounds_toArray, List.set_cons_succ, List.set_cons_zero]))
              first | (refine take_in (i := 19) (v := ?_) rfl (by rfl) (by kernel_rfl) (by kernel_rfl) (by kernel_rfl) (fun _ _ _ h => h) (by rfl) ?_ (by assumption) ?_; rotate_left; (focus ((intro w hSw; (try dsimp only at hSw); go_simp); (try with_reducible rfl); done)); (try simp only [List.setIfInBounds_toArray, List.set_cons_succ, List.set_cons_zero])) | (refine take_out (i := 19) rfl (by rfl) (by kernel_rfl) (by kernel_rfl) (by kernel_rfl) (fun _ _ _ h => h) (by rfl) (by assumption) ?_; (try simp only [List.setIfInBounds_toArray, List.set_cons_succ, List.set_cons_zero]))
              (refine take_in (i := 20) (v := ?_) rfl (by rfl) (by kernel_rfl) (by kernel_rfl) (by kernel_rfl) (fun _ _ _ h => h) (by rfl) ?_ (by assumption) ?_; rotate_left; (focus ((intro w hSw; (try dsimp only at hSw); go_simp); (try with_reducible rfl); done)); (try simp only [List.setIfInBounds_toArray, List.set_cons_succ, List.set_cons_zero]))
              refine wpAnyH_done (by kernel_rfl) ?_ _
              refine NoPanic.normal ?_
              clear KS
              clear X6_lt X6_c0 X6_f0 X6_c1 X6_f1 X6_c2 X6_f2
              clear XW_lt XW_c0 XW_f0 XW_c1 XW_f1
              have bb := KK.out
              have zbE := bb.size
              replace X1 := hide (X1.out.below bb)
              replace X2 := hide (X2.out.below bb)
              replace XW := hide (XW.out.below bb)
              replace RO := hide (RO.out.below bb)
              replace BW := hide (bthen BW.out bb)
              clear bb
              go_wp2_with fail
              go_roundw
              case rel => exact ⟨k + 1, by omega, by go_num, by rw [HS.out.2, ← HMM.out], by rw [HS.out.1]; exact RO, X1, X2, XW, BW, by omega⟩
              case measure => simp [intOf]; omega
            have q3 : (fr == g) = true := by simpa using h2
            have H2 := hide h2
            clear h2
            by_cases h3 : dirR (fr, tg, st) = e
            rotate_left
            · have q4 : (dirR (fr, tg, st) == e) = false := by simpa using h3
              have HS := hide (boardTo_no (g := g) (e := e) (m := m) hr.out fun h => h3 h.2.2.2)
              clear hM h3
              have X6_lt := X6.out.lt
              have X6_c0 := X6.out.at (i := 0) rfl; have X6_f0 := X6.out.frozen 0
              have X6_c1 := X6.out.at (i := 1) rfl; have X6_f1 := X6.out.frozen 1
              have X6_c2 := X6.out.at (i := 2) rfl; have X6_f2 := X6.out.frozen 2
              have XW_lt := XW.out.lt
              have XW_c0 := XW.out.at (i := 0) rfl; have XW_f0 := XW.out.frozen 0
              have XW_c1 := XW.out.at (i := 1) rfl; have XW_f1 := XW.out.frozen 1
              have KS : Hid (∀ W', Below W6.heap.size W6 W' → (W'.cell? ⟨wr.heap.size, 0, none⟩ = some (.int .i64 fr) ∧ W'.cell? ⟨wr.heap.size, 1, none⟩ = some (.int .i64 tg) ∧ W'.cell? ⟨wr.heap.size, 2, none⟩ = some (.int .i64 st)) ∧ W'.cell? ⟨gw, 0, none⟩ = some (.int .i64 g) ∧ W'.cell? ⟨gw, 1, none⟩ = some (.int .i64 e)) := fun W' bb => ⟨⟨(X6.out.below bb).at rfl, (X6.out.below bb).at rfl, (X6.out.below bb).at rfl⟩, (XW.out.below bb).at rfl, (XW.out.below bb).at rfl⟩
              have KK : Hid (Below W6.heap.size W6 W6.drew) := (Below.refl _ _).drew
              refine wp_region_noPanic ?_
              refine wp_region_held_drew (S := (fun W => (W.cell? ⟨wr.heap.size, 0, none⟩ = some (.int .i64 fr) ∧ W.cell? ⟨wr.heap.size, 1, none⟩ = some (.int .i64 tg) ∧ W.cell? ⟨wr.heap.size, 2, none⟩ = some (.int .i64 st)) ∧ W.cell? ⟨gw, 0, none⟩ = some (.int .i64 g) ∧ W.cell? ⟨gw, 1, none⟩ = some (.int .i64 e))) (by kernel_rfl) ?_ (fun hHeld => ?_)
              · exact KS.out _ KK.out
              (refine take_in (i := 0) (v := ?_) rfl (by rfl) (by kernel_rfl) (by kernel_rfl) (by kernel_rfl) (fun _ _ _ h => h) (by rfl) ?_ (by assumption) ?_; rotate_left; (focus ((intro w hSw; (try dsimp only at hSw); go_simp); (try with_reducible rfl); done)); (try simp only [List.setIfInBounds_toArray, List.set_cons_succ, List.set_cons_zero]))
              (refine take_in (i := 1) (v := ?_) rfl (by rfl) (by kernel_rfl) (by kernel_rfl) (by kernel_rfl) (fun _ _ _ h => h) (by rfl) ?_ (by assumption) ?_; rotate_left; (focus ((intro w hSw; (try dsimp only at hSw); go_simp); (try with_reducible rfl); done)); (try simp only [List.setIfInBounds_toArray, List.set_cons_succ, List.set_cons_zero]))
              (refine take_in (i := 2) (v := ?_) rfl (by rfl) (by kernel_rfl) (by kernel_rfl) (by kernel_rfl) (fun _ _ _ h => h) (by rfl) ?_ (by assumption) ?_; rotate_left; (focus ((intro w hSw; (try dsimp only at hSw); go_simp); (try with_reducible rfl); done)); (try simp only [List.setIfInBounds_toArray, List.set_cons_succ, List.set_cons_zero]))
              first | (refine take_in (i := 3) (v := ?_) rfl (by rfl) (by kernel_rfl) (by kernel_rfl) (by kernel_rfl) (fun _ _ _ h => h) (by rfl) ?_ (by assumption) ?_; rotate_left; (focus ((intro w hSw; (try dsimp only at hSw); go_simp); (try with_reducible rfl); done)); (try simp only [List.setIfInBounds_toArray, List.set_cons_succ, List.set_cons_zero])) | (refine take_out (i := 3) rfl (by rfl) (by kernel_rfl) (by kernel_rfl) (by kernel_rfl) (fun _ _ _ h => h) (by rfl) (by assumption) ?_; (try simp only [List.setIfInBounds_toArray, List.set_cons_succ, List.set_cons_zero]))
              first | (refine take_in (i := 4) (v := ?_) rfl (by rfl) (by kernel_rfl) (by kernel_rfl) (by kernel_rfl) (fun _ _ _ h => h) (by rfl) ?_ (by assumption) ?_; rotate_left; (focus ((intro w hSw; (try dsimp only at hSw); go_simp); (try with_reducible rfl); done)); (try simp only [List.setIfInBounds_toArray, List.set_cons_succ, List.set_cons_zero])) | (refine take_out (i := 4) rfl (by rfl) (by kernel_rfl) (by kernel_rfl) (by kernel_rfl) (fun _ _ _ h => h) (by rfl) (by assumption) ?_; (try simp only [List.setIfInBounds_toArray, List.set_cons_succ, List.set_cons_zero]))
              first | (refine take_in (i := 5) (v := ?_) rfl (by rfl) (by kernel_rfl) (by kernel_rfl) (by kernel_rfl) (fun _ _ _ h => h) (by rfl) ?_ (by assumption) ?_; rotate_left; (focus ((intro w hSw; (try dsimp only at hSw); go_simp); (try with_reducible rfl); done)); (try simp only [List.setIfInBounds_toArray, List.set_cons_succ, List.set_cons_zero])) | (refine take_out (i := 5) rfl (by rfl) (by kernel_rfl) (by kernel_rfl) (by kernel_rfl) (fun _ _ _ h => h) (by rfl) (by assumption) ?_; (try simp only [List.setIfInBounds_toArray, List.set_cons_succ, List.set_cons_zero]))
              (refine take_in (i := 6) (v := ?_) rfl (by rfl) (by kernel_rfl) (by kernel_rfl) (by kernel_rfl) (fun _ _ _ h => h) (by rfl) ?_ (by assumption) ?_; rotate_left; (focus ((intro w hSw; (try dsimp only at hSw); go_simp); (try with_reducible rfl); done)); (try simp only [List.setIfInBounds_toArray, List.set_cons_succ, List.set_cons_zero]))
              (refine take_in (i := 7) (v := ?_) rfl (by rfl) (by kernel_rfl) (by kernel_rfl) (by kernel_rfl) (fun _ _ _ h => h) (by rfl) ?_ (by assumption) ?_; rotate_left; (focus ((intro w hSw; (try dsimp only at hSw); go_simp); (try with_reducible rfl); done)); (try simp only [List.setIfInBounds_toArray, List.set_cons_succ, List.set_cons_zero]))
              first | (refine take_in (i := 8) (v := ?_) rfl (by rfl) (by kernel_rfl) (by kernel_rfl) (by kernel_rfl) (fun _ _ _ h => h) (by rfl) ?_ (by assumption) ?_; rotate_left; (focus ((intro w hSw; (try dsimp only at hSw); go_simp); (try with_reducible rfl); done)); (try simp only [List.setIfInBounds_toArray, List.set_cons_succ, List.set_cons_zero])) | (refine take_out (i := 8) rfl (by rfl) (by kernel_rfl) (by kernel_rfl) (by kernel_rfl) (fun _ _ _ h => h) (by rfl) (by assumption) ?_; (try simp only [List.setIfInBounds_toArray, List.set_cons_succ, List.set_cons_zero]))
              first | (refine take_in (i := 9) (v := ?_) rfl (by rfl) (by kernel_rfl) (by kernel_rfl) (by kernel_rfl) (fun _ _ _ h => h) (by rfl) ?_ (by assumption) ?_; rotate_left; (focus ((intro w hSw; (try dsimp only at hSw); go_simp); (try with_reducible rfl); done)); (try simp only [List.setIfInBounds_toArray, List.set_cons_succ, List.set_cons_zero])) | (refine take_out (i := 9) rfl (by rfl) (by kernel_rfl) (by kernel_rfl) (by kernel_rfl) (fun _ _ _ h => h) (by rfl) (by assumption) ?_; (try simp only [List.setIfInBounds_toArray, List.set_cons_succ, List.set_cons_zero]))
              first | (refine take_in (i := 10) (v := ?_) rfl (by rfl) (by kernel_rfl) (by kernel_rfl) (by kernel_rfl) (fun _ _ _ h => h) (by rfl) ?_ (by assumption) ?_; rotate_left; (focus ((intro w hSw; (try dsimp only at hSw); go_simp); (try with_reducible rfl); done)); (try simp only [List.setIfInBounds_toArray, List.set_cons_succ, List.set_cons_zero])) | (refine take_out (i := 10) rfl (by rfl) (by kernel_rfl) (by kernel_rfl) (by kernel_rfl) (fun _ _ _ h => h) (by rfl) (by assumption) ?_; (try simp only [List.setIfInBounds_toArray, List.set_cons_succ, List.set_cons_zero]))
              first | (refine take_in (i := 11) (v := ?_) rfl (by rfl) (by kernel_rfl) (by kernel_rfl) (by kernel_rfl) (fun _ _ _ h => h) (by rfl) ?_ (by assumption) ?_; rotate_left; (focus ((intro w hSw; (try dsimp only at hSw); go_simp); (try with_reducible rfl); done)); (try simp only [List.setIfInBounds_toArray, List.set_cons_succ, List.set_cons_zero])) | (refine take_out (i := 11) rfl (by rfl) (by kernel_rfl) (by kernel_rfl) (by kernel_rfl) (fun _ _ _ h => h) (by rfl) (by assumption) ?_; (try simp only [List.setIfInBounds_toArray, List.set_cons_succ, List.set_cons_zero]))
              first | (refine take_in (i := 12) (v := ?_) rfl (by rfl) (by kernel_rfl) (by kernel_rfl) (by kernel_rfl) (fun _ _ _ h => h) (by rfl) ?_ (by assumption) ?_; rotate_left; (focus ((intro w hSw; (try dsimp only at hSw); go_simp); (try with_reducible rfl); done)); (try simp only [List.setIfInBounds_toArray, List.set_cons_succ, List.set_cons_zero])) | (refine take_out (i := 12) rfl (by rfl) (by kernel_rfl) (by kernel_rfl) (by kernel_rfl) (fun _ _ _ h => h) (by rfl) (by assumption) ?_; (try simp only [List.setIfInBounds_toArray, List.set_cons_succ, List.set_cons_zero]))
              (refine take_in (i := 13) (v := ?_) rfl (by rfl) (by kernel_rfl) (by kernel_rfl) (by kernel_rfl) (fun _ _ _ h => h) (by rfl) ?_ (by assumption) ?_; rotate_left; (focus ((intro w hSw; (try dsimp only at hSw); go_simp); (try with_reducible rfl); done)); (try simp only [List.setIfInBounds_toArray, List.set_cons_succ, List.set_cons_zero]))
              (refine take_in (i := 14) (v := ?_) rfl (by rfl) (by kernel_rfl) (by kernel_rfl) (by kernel_rfl) (fun _ _ _ h => h) (by rfl) ?_ (by assumption) ?_; rotate_left; (focus ((intro w hSw; (try dsimp only at hSw); go_simp); (try with_reducible rfl); done)); (try simp only [List.setIfInBounds_toArray, List.set_cons_succ, List.set_cons_zero]))
              first | (refine take_in (i := 15) (v := ?_) rfl (by rfl) (by kernel_rfl) (by kernel_rfl) (by kernel_rfl) (fun _ _ _ h => h) (by rfl) ?_ (by assumption) ?_; rotate_left; (focus ((intro w hSw; (try dsimp only at hSw); go_simp); (try with_reducible rfl); done)); (try simp only [List.setIfInBounds_toArray, List.set_cons_succ, List.set_cons_zero])) | (refine take_out (i := 15) rfl (by rfl) (by kernel_rfl) (by kernel_rfl) (by kernel_rfl) (fun _ _ _ h => h) (by rfl) (by assumption) ?_; (try simp only [List.setIfInBounds_toArray, List.set_cons_succ, List.set_cons_zero]))
              first | (refine take_in (i := 17) (v := ?_) rfl (by rfl) (by kernel_rfl) (by kernel_rfl) (by kernel_rfl) (fun _ _ _ h => h) (by rfl) ?_ (by assumption) ?_; rotate_left; (focus ((intro w hSw; (try dsimp only at hSw); go_simp); (try with_reducible rfl); done)); (try simp only [List.setIfInBounds_toArray, List.set_cons_succ, List.set_cons_zero])) | (refine take_out (i := 17) rfl (by rfl) (by kernel_rfl) (by kernel_rfl) (by kernel_rfl) (fun _ _ _ h => h) (by rfl) (by assumption) ?_; (try simp only [List.setIfInBounds_toArray, List.set_cons_succ, List.set_cons_zero]))
              first | (refine take_in (i := 18) (v := ?_) rfl (by rfl) (by kernel_rfl) (by kernel_rfl) (by kernel_rfl) (fun _ _ _ h => h) (by rfl) ?_ (by assumption) ?_; rotate_left; (focus ((intro w hSw; (try dsimp only at hSw); go_simp); (try with_reducible rfl); done)); (try simp only [List.setIfInBounds_toArray, List.set_cons_succ, List.set_cons_zero])) | (refine take_out (i := 18) rfl (by rfl) (by kernel_rfl) (by kernel_rfl) (by kernel_rfl) (fun _ _ _ h => h) (by rfl) (by assumption) ?_; (try simp only [List.setIfInBounds_toArray, List.set_cons_succ, List.set_cons_zero]))
              refine wpAnyH_ready (rs := [16]) (by kernel_rfl) (by simp) ?_
              refine AllReadyH.cons rfl (fun K hK => ?_) AllReadyH.nil
              go_simp
              go_at_call 51
              refine (riderDir_any (fr, tg, st) _).mono ?_
              rintro e v ⟨rfl, bb⟩
              replace KK := hide (bthen KK.out bb)
              have zKK := KK.out.size
              clear bb
              go_wp2_with fail
              refine hK.out _ _ ?_ (fun hHeld => ?_)
              · exact KS.out _ KK.out
              clear hK K
              (try simp only [Act.put, List.setIfInBounds_toArray, List.set_cons_zero, List.set_cons_succ])
              first | (refine take_in (i := 19) (v := ?_) rfl (by rfl) (by kernel_rfl) (by kernel_rfl) (by kernel_rfl) (fun _ _ _ h => h) (by rfl) ?_ (by assumption) ?_; rotate_left; (focus ((intro w hSw; (try dsimp only at hSw); go_simp); (try with_reducible rfl); done)); (try simp only [List.setIfInBounds_toArray, List.set_cons_succ, List.set_cons_zero])) | (refine take_out (i := 19) rfl (by rfl) (by kernel_rfl) (by kernel_rfl) (by kernel_rfl) (fun _ _ _ h => h) (by rfl) (by assumption) ?_; (try simp only [List.setIfInBounds_toArray, List.set_cons_succ, List.set_cons_zero]))
              (refine take_in (i := 20) (v := ?_) rfl (by rfl) (by kernel_rfl) (by kernel_rfl) (by kernel_rfl) (fun _ _ _ h => h) (by rfl) ?_ (by assumption) ?_; rotate_left; (focus ((intro w hSw; (try dsimp only at hSw); go_simp); (try with_reducible rfl); done)); (try simp only [List.setIfInBounds_toArray, List.set_cons_succ, List.set_cons_zero]))
              refine wpAnyH_done (by kernel_rfl) ?_ _
              refine NoPanic.normal ?_
              clear KS
              clear X6_lt X6_c0 X6_f0 X6_c1 X6_f1 X6_c2 X6_f2
              clear XW_lt XW_c0 XW_f0 XW_c1 XW_f1
              have bb := KK.out
              have zbE := bb.size
              replace X1 := hide (X1.out.below bb)
              replace X2 := hide (X2.out.below bb)
              replace XW := hide (XW.out.below bb)
              replace RO := hide (RO.out.below bb)
              replace BW := hide (bthen BW.out bb)
              clear bb
              go_wp2_with fail
              go_roundw
              case rel => exact ⟨k + 1, by omega, by go_num, by rw [HS.out.2, ← HMM.out], by rw [HS.out.1]; exact RO, X1, X2, XW, BW, by omega⟩
              case measure => simp [intOf]; omega
            have q4 : (dirR (fr, tg, st) == e) = true := by simpa using h3
            have HS := hide (boardTo_yes (g := g) (e := e) (m := m) hr.out ⟨by rw [← HMM.out]; exact h0, H1.out, H2.out, h3⟩)
            clear hM h3
            have X6_lt := X6.out.lt
            have X6_c0 := X6.out.at (i := 0) rfl; have X6_f0 := X6.out.frozen 0
            have X6_c1 := X6.out.at (i := 1) rfl; have X6_f1 := X6.out.frozen 1
            have X6_c2 := X6.out.at (i := 2) rfl; have X6_f2 := X6.out.frozen 2
            have XW_lt := XW.out.lt
            have XW_c0 := XW.out.at (i := 0) rfl; have XW_f0 := XW.out.frozen 0
            have XW_c1 := XW.out.at (i := 1) rfl; have XW_f1 := XW.out.frozen 1
            have KS : Hid (∀ W', Below W6.heap.size W6 W' → (W'.cell? ⟨wr.heap.size, 0, none⟩ = some (.int .i64 fr) ∧ W'.cell? ⟨wr.heap.size, 1, none⟩ = some (.int .i64 tg) ∧ W'.cell? ⟨wr.heap.size, 2, none⟩ = some (.int .i64 st)) ∧ W'.cell? ⟨gw, 0, none⟩ = some (.int .i64 g) ∧ W'.cell? ⟨gw, 1, none⟩ = some (.int .i64 e)) := fun W' bb => ⟨⟨(X6.out.below bb).at rfl, (X6.out.below bb).at rfl, (X6.out.below bb).at rfl⟩, (XW.out.below bb).at rfl, (XW.out.below bb).at rfl⟩
            have KK : Hid (Below W6.heap.size W6 W6.drew) := (Below.refl _ _).drew
            refine wp_region_noPanic ?_
            refine wp_region_held_drew (S := (fun W => (W.cell? ⟨wr.heap.size, 0, none⟩ = some (.int .i64 fr) ∧ W.cell? ⟨wr.heap.size, 1, none⟩ = some (.int .i64 tg) ∧ W.cell? ⟨wr.heap.size, 2, none⟩ = some (.int .i64 st)) ∧ W.cell? ⟨gw, 0, none⟩ = some (.int .i64 g) ∧ W.cell? ⟨gw, 1, none⟩ = some (.int .i64 e))) (by kernel_rfl) ?_ (fun hHeld => ?_)
            · exact KS.out _ KK.out
            (refine take_in (i := 0) (v := ?_) rfl (by rfl) (by kernel_rfl) (by kernel_rfl) (by kernel_rfl) (fun _ _ _ h => h) (by rfl) ?_ (by assumption) ?_; rotate_left; (focus ((intro w hSw; (try dsimp only at hSw); go_simp); (try with_reducible rfl); done)); (try simp only [List.setIfInBounds_toArray, List.set_cons_succ, List.set_cons_zero]))
            (refine take_in (i := 1) (v := ?_) rfl (by rfl) (by kernel_rfl) (by kernel_rfl) (by kernel_rfl) (fun _ _ _ h => h) (by rfl) ?_ (by assumption) ?_; rotate_left; (focus ((intro w hSw; (try dsimp only at hSw); go_simp); (try with_reducible rfl); done)); (try simp only [List.setIfInBounds_toArray, List.set_cons_succ, List.set_cons_zero]))
            (refine take_in (i := 2) (v := ?_) rfl (by rfl) (by kernel_rfl) (by kernel_rfl) (by kernel_rfl) (fun _ _ _ h => h) (by rfl) ?_ (by assumption) ?_; rotate_left; (focus ((intro w hSw; (try dsimp only at hSw); go_simp); (try with_reducible rfl); done)); (try simp only [List.setIfInBounds_toArray, List.set_cons_succ, List.set_cons_zero]))
            first | (refine take_in (i := 3) (v := ?_) rfl (by rfl) (by kernel_rfl) (by kernel_rfl) (by kernel_rfl) (fun _ _ _ h => h) (by rfl) ?_ (by assumption) ?_; rotate_left; (focus ((intro w hSw; (try dsimp only at hSw); go_simp); (try with_reducible rfl); done)); (try simp only [List.setIfInBounds_toArray, List.set_cons_succ, List.set_cons_zero])) | (refine take_out (i := 3) rfl (by rfl) (by kernel_rfl) (by kernel_rfl) (by kernel_rfl) (fun _ _ _ h => h) (by rfl) (by assumption) ?_; (try simp only [List.setIfInBounds_toArray, List.set_cons_succ, List.set_cons_zero]))
            first | (refine take_in (i := 4) (v := ?_) rfl (by rfl) (by kernel_rfl) (by kernel_rfl) (by kernel_rfl) (fun _ _ _ h => h) (by rfl) ?_ (by assumption) ?_; rotate_left; (focus ((intro w hSw; (try dsimp only at hSw); go_simp); (try with_reducible rfl); done)); (try simp only [List.setIfInBounds_toArray, List.set_cons_succ, List.set_cons_zero])) | (refine take_out (i := 4) rfl (by rfl) (by kernel_rfl) (by kernel_rfl) (by kernel_rfl) (fun _ _ _ h => h) (by rfl) (by assumption) ?_; (try simp only [List.setIfInBounds_toArray, List.set_cons_succ, List.set_cons_zero]))
            first | (refine take_in (i := 5) (v := ?_) rfl (by rfl) (by kernel_rfl) (by kernel_rfl) (by kernel_rfl) (fun _ _ _ h => h) (by rfl) ?_ (by assumption) ?_; rotate_left; (focus ((intro w hSw; (try dsimp only at hSw); go_simp); (try with_reducible rfl); done)); (try simp only [List.setIfInBounds_toArray, List.set_cons_succ, List.set_cons_zero])) | (refine take_out (i := 5) rfl (by rfl) (by kernel_rfl) (by kernel_rfl) (by kernel_rfl) (fun _ _ _ h => h) (by rfl) (by assumption) ?_; (try simp only [List.setIfInBounds_toArray, List.set_cons_succ, List.set_cons_zero]))
            (refine take_in (i := 6) (v := ?_) rfl (by rfl) (by kernel_rfl) (by kernel_rfl) (by kernel_rfl) (fun _ _ _ h => h) (by rfl) ?_ (by assumption) ?_; rotate_left; (focus ((intro w hSw; (try dsimp only at hSw); go_simp); (try with_reducible rfl); done)); (try simp only [List.setIfInBounds_toArray, List.set_cons_succ, List.set_cons_zero]))
            (refine take_in (i := 7) (v := ?_) rfl (by rfl) (by kernel_rfl) (by kernel_rfl) (by kernel_rfl) (fun _ _ _ h => h) (by rfl) ?_ (by assumption) ?_; rotate_left; (focus ((intro w hSw; (try dsimp only at hSw); go_simp); (try with_reducible rfl); done)); (try simp only [List.setIfInBounds_toArray, List.set_cons_succ, List.set_cons_zero]))
            first | (refine take_in (i := 8) (v := ?_) rfl (by rfl) (by kernel_rfl) (by kernel_rfl) (by kernel_rfl) (fun _ _ _ h => h) (by rfl) ?_ (by assumption) ?_; rotate_left; (focus ((intro w hSw; (try dsimp only at hSw); go_simp); (try with_reducible rfl); done)); (try simp only [List.setIfInBounds_toArray, List.set_cons_succ, List.set_cons_zero])) | (refine take_out (i := 8) rfl (by rfl) (by kernel_rfl) (by kernel_rfl) (by kernel_rfl) (fun _ _ _ h => h) (by rfl) (by assumption) ?_; (try simp only [List.setIfInBounds_toArray, List.set_cons_succ, List.set_cons_zero]))
            first | (refine take_in (i := 9) (v := ?_) rfl (by rfl) (by kernel_rfl) (by kernel_rfl) (by kernel_rfl) (fun _ _ _ h => h) (by rfl) ?_ (by assumption) ?_; rotate_left; (focus ((intro w hSw; (try dsimp only at hSw); go_simp); (try with_reducible rfl); done)); (try simp only [List.setIfInBounds_toArray, List.set_cons_succ, List.set_cons_zero])) | (refine take_out (i := 9) rfl (by rfl) (by kernel_rfl) (by kernel_rfl) (by kernel_rfl) (fun _ _ _ h => h) (by rfl) (by assumption) ?_; (try simp only [List.setIfInBounds_toArray, List.set_cons_succ, List.set_cons_zero]))
            first | (refine take_in (i := 10) (v := ?_) rfl (by rfl) (by kernel_rfl) (by kernel_rfl) (by kernel_rfl) (fun _ _ _ h => h) (by rfl) ?_ (by assumption) ?_; rotate_left; (focus ((intro w hSw; (try dsimp only at hSw); go_simp); (try with_reducible rfl); done)); (try simp only [List.setIfInBounds_toArray, List.set_cons_succ, List.set_cons_zero])) | (refine take_out (i := 10) rfl (by rfl) (by kernel_rfl) (by kernel_rfl) (by kernel_rfl) (fun _ _ _ h => h) (by rfl) (by assumption) ?_; (try simp only [List.setIfInBounds_toArray, List.set_cons_succ, List.set_cons_zero]))
            first | (refine take_in (i := 11) (v := ?_) rfl (by rfl) (by kernel_rfl) (by kernel_rfl) (by kernel_rfl) (fun _ _ _ h => h) (by rfl) ?_ (by assumption) ?_; rotate_left; (focus ((intro w hSw; (try dsimp only at hSw); go_simp); (try with_reducible rfl); done)); (try simp only [List.setIfInBounds_toArray, List.set_cons_succ, List.set_cons_zero])) | (refine take_out (i := 11) rfl (by rfl) (by kernel_rfl) (by kernel_rfl) (by kernel_rfl) (fun _ _ _ h => h) (by rfl) (by assumption) ?_; (try simp only [List.setIfInBounds_toArray, List.set_cons_succ, List.set_cons_zero]))
            first | (refine take_in (i := 12) (v := ?_) rfl (by rfl) (by kernel_rfl) (by kernel_rfl) (by kernel_rfl) (fun _ _ _ h => h) (by rfl) ?_ (by assumption) ?_; rotate_left; (focus ((intro w hSw; (try dsimp only at hSw); go_simp); (try with_reducible rfl); done)); (try simp only [List.setIfInBounds_toArray, List.set_cons_succ, List.set_cons_zero])) | (refine take_out (i := 12) rfl (by rfl) (by kernel_rfl) (by kernel_rfl) (by kernel_rfl) (fun _ _ _ h => h) (by rfl) (by assumption) ?_; (try simp only [List.setIfInBounds_toArray, List.set_cons_succ, List.set_cons_zero]))
            (refine take_in (i := 13) (v := ?_) rfl (by rfl) (by kernel_rfl) (by kernel_rfl) (by kernel_rfl) (fun _ _ _ h => h) (by rfl) ?_ (by assumption) ?_; rotate_left; (focus ((intro w hSw; (try dsimp only at hSw); go_simp); (try with_reducible rfl); done)); (try simp only [List.setIfInBounds_toArray, List.set_cons_succ, List.set_cons_zero]))
            (refine take_in (i := 14) (v := ?_) rfl (by rfl) (by kernel_rfl) (by kernel_rfl) (by kernel_rfl) (fun _ _ _ h => h) (by rfl) ?_ (by assumption) ?_; rotate_left; (focus ((intro w hSw; (try dsimp only at hSw); go_simp); (try with_reducible rfl); done)); (try simp only [List.setIfInBounds_toArray, List.set_cons_succ, List.set_cons_zero]))
            first | (refine take_in (i := 15) (v := ?_) rfl (by rfl) (by kernel_rfl) (by kernel_rfl) (by kernel_rfl) (fun _ _ _ h => h) (by rfl) ?_ (by assumption) ?_; rotate_left; (focus ((intro w hSw; (try dsimp only at hSw); go_simp); (try with_reducible rfl); done)); (try simp only [List.setIfInBounds_toArray, List.set_cons_succ, List.set_cons_zero])) | (refine take_out (i := 15) rfl (by rfl) (by kernel_rfl) (by kernel_rfl) (by kernel_rfl) (fun _ _ _ h => h) (by rfl) (by assumption) ?_; (try simp only [List.setIfInBounds_toArray, List.set_cons_succ, List.set_cons_zero]))
            first | (refine take_in (i := 17) (v := ?_) rfl (by rfl) (by kernel_rfl) (by kernel_rfl) (by kernel_rfl) (fun _ _ _ h => h) (by rfl) ?_ (by assumption) ?_; rotate_left; (focus ((intro w hSw; (try dsimp only at hSw); go_simp); (try with_reducible rfl); done)); (try simp only [List.setIfInBounds_toArray, List.set_cons_succ, List.set_cons_zero])) | (refine take_out (i := 17) rfl (by rfl) (by kernel_rfl) (by kernel_rfl) (by kernel_rfl) (fun _ _ _ h => h) (by rfl) (by assumption) ?_; (try simp only [List.setIfInBounds_toArray, List.set_cons_succ, List.set_cons_zero]))
            first | (refine take_in (i := 18) (v := ?_) rfl (by rfl) (by kernel_rfl) (by kernel_rfl) (by kernel_rfl) (fun _ _ _ h => h) (by rfl) ?_ (by assumption) ?_; rotate_left; (focus ((intro w hSw; (try dsimp only at hSw); go_simp); (try with_reducible rfl); done)); (try simp only [List.setIfInBounds_toArray, List.set_cons_succ, List.set_cons_zero])) | (refine take_out (i := 18) rfl (by rfl) (by kernel_rfl) (by kernel_rfl) (by kernel_rfl) (fun _ _ _ h => h) (by rfl) (by assumption) ?_; (try simp only [List.setIfInBounds_toArray, List.set_cons_succ, List.set_cons_zero]))
            refine wpAnyH_ready (rs := [16]) (by kernel_rfl) (by simp) ?_
            refine AllReadyH.cons rfl (fun K hK => ?_) AllReadyH.nil
            go_simp
            go_at_call 51
            refine (riderDir_any (fr, tg, st) _).mono ?_
            rintro e v ⟨rfl, bb⟩
            replace KK := hide (bthen KK.out bb)
            have zKK := KK.out.size
            clear bb
            go_wp2_with fail
            refine hK.out _ _ ?_ (fun hHeld => ?_)
            · exact KS.out _ KK.out
            clear hK K
            (try simp only [Act.put, List.setIfInBounds_toArray, List.set_cons_zero, List.set_cons_succ])
            first | (refine take_in (i := 19) (v := ?_) rfl (by rfl) (by kernel_rfl) (by kernel_rfl) (by kernel_rfl) (fun _ _ _ h => h) (by rfl) ?_ (by assumption) ?_; rotate_left; (focus ((intro w hSw; (try dsimp only at hSw); go_simp); (try with_reducible rfl); done)); (try simp only [List.setIfInBounds_toArray, List.set_cons_succ, List.set_cons_zero])) | (refine take_out (i := 19) rfl (by rfl) (by kernel_rfl) (by kernel_rfl) (by kernel_rfl) (fun _ _ _ h => h) (by rfl) (by assumption) ?_; (try simp only [List.setIfInBounds_toArray, List.set_cons_succ, List.set_cons_zero]))
            (refine take_in (i := 20) (v := ?_) rfl (by rfl) (by kernel_rfl) (by kernel_rfl) (by kernel_rfl) (fun _ _ _ h => h) (by rfl) ?_ (by assumption) ?_; rotate_left; (focus ((intro w hSw; (try dsimp only at hSw); go_simp); (try with_reducible rfl); done)); (try simp only [List.setIfInBounds_toArray, List.set_cons_succ, List.set_cons_zero]))
            refine wpAnyH_done (by kernel_rfl) ?_ _
            refine NoPanic.normal ?_
            clear KS
            clear X6_lt X6_c0 X6_f0 X6_c1 X6_f1 X6_c2 X6_f2
            clear XW_lt XW_c0 XW_f0 XW_c1 XW_f1
            have bb := KK.out
            have zbE := bb.size
            replace X1 := hide (X1.out.below bb)
            replace X2 := hide (X2.out.below bb)
            replace XW := hide (XW.out.below bb)
            replace RO := hide (RO.out.below bb)
            replace BW := hide (bthen BW.out bb)
            clear bb
            obtain ⟨b', off', r', e', hb', hr', ⟨c0, c1, c2⟩, f0, f1, f2⟩ := RO.out.at (k := k) (by rw [boardTo_len]; exact hlt)
            injection e' with e'; injection e' with e1 e2; subst e1; subst e2
            have er : r' = (fr, tg, st) := by have := hr'.out; rw [boardTo_get (by omega), hr.out] at this; injection this with this; exact this.symm
            subst er
            have Q2 := hide (RO.out.set2 hr'.out 1)
            clear hr'
            have ew2 : IntKind.i64.wrap (M - 1) = M - 1 := IntWalk.i64_in _ (by omega)
            have X1_lt := X1.out.lt
            have X1_c0 := X1.out.at (i := 0) rfl; have X1_f0 := X1.out.frozen 0
            have X1_c1 := X1.out.at (i := 1) rfl; have X1_f1 := X1.out.frozen 1
            have X1_c2 := X1.out.at (i := 2) rfl; have X1_f2 := X1.out.frozen 2
            have X1_c3 := X1.out.at (i := 3) rfl; have X1_f3 := X1.out.frozen 3
            have X1_c4 := X1.out.at (i := 4) rfl; have X1_f4 := X1.out.frozen 4
            have nb1 : ¬ b = w.heap.size := by omega
            go_wp2_with fail
            go_roundw
            case rel =>
              have o := (Only.refl b (b + 1) v).setCell (p := ⟨b, off + k * 3 + 2, none⟩) (Nat.le_refl _) (Nat.lt_succ_self _) (.int .i64 1)
              exact ⟨k + 1, by omega, by go_num, by rw [HS.out.2, ← HMM.out], by rw [HS.out.1]; exact Q2, X1.out.only o (by omega), X2.out.only o (by omega), XW.out.only o (by omega), Only.then BW.out o (by omega) (by omega), by first | omega | (simp [World.setCell]; omega)⟩
            case measure => simp [intOf]; omega
          · have HB := hide (boardTo_all (g := g) (e := e) (m := m) (l := L) (k := k) (by omega))
            have X1_lt := X1.out.lt
            have X1_c0 := X1.out.at (i := 0) rfl; have X1_f0 := X1.out.frozen 0
            have X1_c1 := X1.out.at (i := 1) rfl; have X1_f1 := X1.out.frozen 1
            have X1_c2 := X1.out.at (i := 2) rfl; have X1_f2 := X1.out.frozen 2
            have X1_c3 := X1.out.at (i := 3) rfl; have X1_f3 := X1.out.frozen 3
            have X1_c4 := X1.out.at (i := 4) rfl; have X1_f4 := X1.out.frozen 4
            have X2_lt := X2.out.lt
            have X2_c0 := X2.out.at (i := 0) rfl; have X2_f0 := X2.out.frozen 0
            have X2_c1 := X2.out.at (i := 1) rfl; have X2_f1 := X2.out.frozen 1
            have X2_c2 := X2.out.at (i := 2) rfl; have X2_f2 := X2.out.frozen 2
            have X2_c3 := X2.out.at (i := 3) rfl; have X2_f3 := X2.out.frozen 3
            have X2_c4 := X2.out.at (i := 4) rfl; have X2_f4 := X2.out.frozen 4
            go_wp2_with fail
            refine bodyPost_ret (by simp [results, Try.results19, go_sem, X2_c0, X2_c1, X2_c2, X2_c3, X2_c4]; rfl) rfl ?_
            rw [HE.out]
            have o := onlyW5 (g := w.heap.size + 1) wr (.int .i64 t.n) (.int .i64 t.room) (.int .i64 g) (.int .i64 e) (.slice V t.rs.length cv)
            rw [HB.out, HM.out, HL.out] at RO
            exact ⟨V, cv, by unfold stepTo; simp only [board_len, List.length_map], (RO.out.only o (by omega)).mono (by omega) (by simp; omega), Only.then BW.out o (by omega) (by omega)⟩
theorem implTripStep_at (A : Option Addr) (c : Nat) (t : Tp) (D : Tp) (x : Bool) (hD : D = (stepB t).1) (hX : x = (stepB t).2) (w : World) (h : Rds w A t.rs) (hl : (t.rs.length : Int) ≤ 9223372036854775807) :
    Calls Try.prog 19 #[.agg #[.int .i64 t.n, .int .i64 t.room, .int .i64 t.f, .int .i64 t.d, .slice A t.rs.length c]] w (GivesT (D, x) w) := by subst hD; subst hX; exact implTripStep A c t w h hl
end Go.Proofs.Ytbkjgiomamlajaa
