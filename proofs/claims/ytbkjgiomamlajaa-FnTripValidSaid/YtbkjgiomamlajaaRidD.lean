/- Trips: TripCalls, the program's and the reference's. -/
import Derived.Test.YtbkjgiomamlajaaRidC
import Derived.Test.YtbkjgiomamlajaaCallsB
import Derived.Test.YtbkjgiomamlajaaCallsD
import Derived.Deep.CutRange
import Derived.Test.YtbkjgiomamlajaaHeldBy
namespace Go.Proofs.Ytbkjgiomamlajaa
open Go.RowKit

/-- TripCalls, for all arguments. -/
noncomputable def tripCB (t : Tp) : Cl := if tripB t then tripC t else ⟨[], [], []⟩
theorem tripCB_no {t : Tp} (h : tripB t = false) : tripCB t = ⟨[], [], []⟩ := by unfold tripCB; rw [h]; rfl
theorem tripCB_yes {t : Tp} (h : tripB t = true) : tripCB t = tripC t := by unfold tripCB; rw [h]; rfl
theorem tripCB_lens (t : Tp) : (tripCB t).up.length ≤ 8 ∧ (tripCB t).dn.length ≤ 8 ∧ (tripCB t).car.length ≤ 8 := by
  cases h : tripB t
  · rw [tripCB_no h]; exact ⟨Nat.zero_le _, Nat.zero_le _, Nat.zero_le _⟩
  · rw [tripCB_yes h]
    obtain ⟨a, b, c⟩ := tripC_len (tripB_iff.1 h)
    have := (tripB_iff.1 h).1
    omega
theorem GivesC.ofLenT {w w' : World} {A0 A1 A2 : Option Addr} {c0 c1 c2 n0 n1 n2 lo hi : Nat} {D : Cl} (q : CO lo hi w' A0 A1 A2 D) (b : Below w.heap.size w w') (h0 : n0 = D.up.length) (h1 : n1 = D.dn.length) (h2 : n2 = D.car.length) (hl : w.heap.size ≤ lo) (hh : hi ≤ w'.heap.size) :
    GivesC D w (.returned (.agg #[.slice A0 n0 c0, .slice A1 n1 c1, .slice A2 n2 c2])) w' := by
  subst h0; subst h1; subst h2
  exact ⟨A0, A1, A2, c0, c1, c2, rfl, q.mono hl hh, b⟩
theorem noneC_at {n : Int} (h : 1 ≤ n ∧ n ≤ 8) : noneC n = noCalls n.toNat := by unfold noneC; rw [if_pos h]
theorem noCalls_len (n : Nat) : (noCalls n).up.length = n ∧ (noCalls n).dn.length = n ∧ (noCalls n).car.length = n := by simp [noCalls]
theorem callsTo_len {t : Tp} (h : tripP t) (k : Nat) : Len t.n (callsTo t k) := (Len.no (by have := h.1; omega)).fold _ _
theorem callsTo_car {t : Tp} {k : Nat} {r : Rr} (hr : t.rs[k]? = some r) (h1 : r.2.2 = 1) : callsTo t (k + 1) = ⟨(callsTo t k).up, (callsTo t k).dn, (callsTo t k).car.set r.2.1.toNat true⟩ := by
  rw [callsTo_succ hr]; unfold addCall; rw [if_pos h1]
theorem callsTo_up {t : Tp} {k : Nat} {r : Rr} (hr : t.rs[k]? = some r) (h0 : r.2.2 = 0) (hf : fullB t = false) (hl : r.1 < r.2.1) : callsTo t (k + 1) = ⟨(callsTo t k).up.set r.1.toNat true, (callsTo t k).dn, (callsTo t k).car⟩ := by
  rw [callsTo_succ hr]; unfold addCall; rw [if_neg (by omega), if_pos ⟨h0, hf⟩, if_pos hl]
theorem callsTo_dn {t : Tp} {k : Nat} {r : Rr} (hr : t.rs[k]? = some r) (h0 : r.2.2 = 0) (hf : fullB t = false) (hl : ¬ r.1 < r.2.1) : callsTo t (k + 1) = ⟨(callsTo t k).up, (callsTo t k).dn.set r.1.toNat true, (callsTo t k).car⟩ := by
  rw [callsTo_succ hr]; unfold addCall; rw [if_neg (by omega), if_pos ⟨h0, hf⟩, if_neg hl]
theorem callsTo_none {t : Tp} {k : Nat} {r : Rr} (hr : t.rs[k]? = some r) (h1 : ¬ r.2.2 = 1) (h : ¬ (r.2.2 = 0 ∧ fullB t = false)) : callsTo t (k + 1) = callsTo t k := by
  rw [callsTo_succ hr]; unfold addCall; rw [if_neg h1, if_neg h]
set_option maxRecDepth 100000 in
set_option maxHeartbeats 4000000 in
theorem implTripCalls (A : Option Addr) (c : Nat) (t : Tp) (w : World) (h : Rds w A t.rs) (hl : (t.rs.length : Int) ≤ 9223372036854775807) :
    Calls Try.prog 23 #[.agg #[.int .i64 t.n, .int .i64 t.room, .int .i64 t.f, .int .i64 t.d, .slice A t.rs.length c]] w (GivesC (tripCB t) w) := by
  have H := hide h; clear h
  go_enter Try.func23, Try.ntmps23
  go_wp2_with fail
  refine calls_name fun W hW => ?_
  have X1 : Hid (Box W w.heap.size #[.int .i64 t.n, .int .i64 t.room, .int .i64 t.f, .int .i64 t.d, .slice A t.rs.length c]) := by rw [hW]; exact (Box.new rfl).alloc _
  have X2 : Hid (Box W (w.heap.size + 1) #[.slice none 0 0, .slice none 0 0, .slice none 0 0]) := by rw [hW]; exact Box.new (by simp)
  have BW : Hid (Below w.heap.size w W) := by rw [hW]; exact ((Below.refl _ _).alloc (Nat.le_refl _) _).alloc (by simp) _
  have z0 : w.heap.size + 1 < W.heap.size := by rw [hW]; simp
  clear hW
  refine (implTripValid A c t _ (H.out.below BW.out) hl).mono ?_
  rintro e w1 ⟨rfl, b⟩
  have z1 := b.size
  replace X1 := hide (X1.out.below b)
  replace X2 := hide (X2.out.below b)
  replace BW := hide (bthen BW.out b)
  clear b
  cases hv : tripB t
  · have HE := hide (tripCB_no hv)
    have X2_lt := X2.out.lt
    have X2_c0 := X2.out.at (i := 0) rfl; have X2_f0 := X2.out.frozen 0
    have X2_c1 := X2.out.at (i := 1) rfl; have X2_f1 := X2.out.frozen 1
    have X2_c2 := X2.out.at (i := 2) rfl; have X2_f2 := X2.out.frozen 2
    go_wp2_with fail
    refine bodyPost_ret (by simp [results, Try.results23, go_sem, X2_c0, X2_c1, X2_c2]; rfl) rfl ?_
    rw [HE.out]
    exact GivesC.zero (Only.then BW.out (onlyW3 _ _ _ _) (by omega) (by omega))
  have HE := hide (tripCB_yes hv)
  have hp := tripB_iff.1 hv
  have HP := hide hp
  have hn := hp.1
  have hm := hp.2.1
  have h8 : t.rs.length ≤ 8 := hp.2.2.2.2.1
  have HL := hide (callsTo_len hp)
  obtain ⟨N, hN⟩ : ∃ N : Nat, (N : Int) = t.n := ⟨t.n.toNat, by omega⟩
  have HN := hide hN
  have hNN : t.n.toNat = N := by omega
  have hN8 : 1 ≤ N ∧ N ≤ 8 := by omega
  have HNN := hide hNN
  clear hp hv hN hNN
  have X1_lt := X1.out.lt
  have X1_c0 := X1.out.at (i := 0) rfl; have X1_f0 := X1.out.frozen 0
  have X1_c1 := X1.out.at (i := 1) rfl; have X1_f1 := X1.out.frozen 1
  have X1_c2 := X1.out.at (i := 2) rfl; have X1_f2 := X1.out.frozen 2
  have X1_c3 := X1.out.at (i := 3) rfl; have X1_f3 := X1.out.frozen 3
  have X1_c4 := X1.out.at (i := 4) rfl; have X1_f4 := X1.out.frozen 4
  go_wp2_with fail
  clear X1_lt X1_c0 X1_f0 X1_c1 X1_f1 X1_c2 X1_f2 X1_c3 X1_f3 X1_c4 X1_f4
  refine (implCallsNone t.n _).mono ?_
  rw [noneC_at hn, HNN.out]
  rintro e w2 ⟨P0, P1, P2, p0, p1, p2, rfl, P, b⟩
  replace P := hide P
  have z2 := b.size
  replace X1 := hide (X1.out.below b)
  replace X2 := hide (X2.out.below b)
  replace BW := hide (bthen BW.out b)
  clear b
  rw [(noCalls_len N).1, (noCalls_len N).2.1, (noCalls_len N).2.2]
  go_upto_region 4 with fail
  refine code_name fun W3 hW => ?_
  have X3 : Hid (Box W3 w2.heap.size #[.slice P0 N p0, .slice P1 N p1, .slice P2 N p2]) := by rw [hW]; exact Box.new rfl
  have b : Below w2.heap.size w2 W3 := by rw [hW]; exact (Below.refl _ _).alloc (Nat.le_refl _) _
  have z3 := X3.out.lt
  replace X1 := hide (X1.out.below b)
  replace X2 := hide (X2.out.below b)
  replace P := hide (P.out.below b)
  replace BW := hide (bthen BW.out b)
  clear b
  clear hW
  rw [← HNN.out, ← callsTo_zero t] at P
  have HLN : Hid (∀ k, (callsTo t k).up.length = N ∧ (callsTo t k).dn.length = N ∧ (callsTo t k).car.length = N) := fun k => by
    obtain ⟨a, b, c⟩ := HL.out k; have := HN.out; omega
  have H3 := hide (H.out.below BW.out)
  have X1_lt := X1.out.lt
  have X1_c0 := X1.out.at (i := 0) rfl; have X1_f0 := X1.out.frozen 0
  have X1_c1 := X1.out.at (i := 1) rfl; have X1_f1 := X1.out.frozen 1
  have X1_c2 := X1.out.at (i := 2) rfl; have X1_f2 := X1.out.frozen 2
  have X1_c3 := X1.out.at (i := 3) rfl; have X1_f3 := X1.out.frozen 3
  have X1_c4 := X1.out.at (i := 4) rfl; have X1_f4 := X1.out.frozen 4
  by_cases hfl : t.room ≤ inN 1 t.rs
  · have HF : Hid (fullB t = true) := by unfold Hid fullB; exact decide_eq_true hfl
    have hfd : decide (t.room ≤ inN 1 t.rs) = true := decide_eq_true hfl
    have KS : Hid (∀ W', Below W3.heap.size W3 W' → W'.cell? ⟨w.heap.size, 0, none⟩ = some (.int .i64 t.n) ∧ W'.cell? ⟨w.heap.size, 1, none⟩ = some (.int .i64 t.room) ∧ W'.cell? ⟨w.heap.size, 2, none⟩ = some (.int .i64 t.f) ∧ W'.cell? ⟨w.heap.size, 3, none⟩ = some (.int .i64 t.d) ∧ W'.cell? ⟨w.heap.size, 4, none⟩ = some (.slice A t.rs.length c)) := fun W' bb => ⟨(X1.out.below bb).at rfl, (X1.out.below bb).at rfl, (X1.out.below bb).at rfl, (X1.out.below bb).at rfl, (X1.out.below bb).at rfl⟩
    have KK : Hid (Below W3.heap.size W3 W3.drew) := (Below.refl _ _).drew
    first | (go_region_held3 (fun W => W.cell? ⟨w.heap.size, 0, none⟩ = some (.int .i64 t.n) ∧ W.cell? ⟨w.heap.size, 1, none⟩ = some (.int .i64 t.room) ∧ W.cell? ⟨w.heap.size, 2, none⟩ = some (.int .i64 t.f) ∧ W.cell? ⟨w.heap.size, 3, none⟩ = some (.int .i64 t.d) ∧ W.cell? ⟨w.heap.size, 4, none⟩ = some (.slice A t.rs.length c)) (first | (go_keep; done) | exact KS.out _ KK.out) (first | (go_at_call 50; (with_reducible refine (ridersInside_any A c t.rs _ ?_ (by omega)).mono ?_); exact H3.out.below KK.out; rintro e v ⟨rfl, bb⟩; replace KK := hide (bthen KK.out bb); have zKK := KK.out.size; clear bb))) | fail
    rename (v.cell? ⟨w.heap.size, 0, none⟩ = some (.int .i64 t.n) ∧ v.cell? ⟨w.heap.size, 1, none⟩ = some (.int .i64 t.room) ∧ v.cell? ⟨w.heap.size, 2, none⟩ = some (.int .i64 t.f) ∧ v.cell? ⟨w.heap.size, 3, none⟩ = some (.int .i64 t.d) ∧ v.cell? ⟨w.heap.size, 4, none⟩ = some (.slice A t.rs.length c)) => hHeldX
    clear KS hHeldX
    clear X1_lt X1_c0 X1_f0 X1_c1 X1_f1 X1_c2 X1_f2 X1_c3 X1_f3 X1_c4 X1_f4
    replace X1 := hide (X1.out.below KK.out)
    replace X2 := hide (X2.out.below KK.out)
    replace X3 := hide (X3.out.below KK.out)
    replace P := hide (P.out.below KK.out)
    replace BW := hide (bthen BW.out KK.out)
    replace z3 := X3.out.lt
    clear KK H3
    clear hfl
    have X1_lt := X1.out.lt
    have X1_c0 := X1.out.at (i := 0) rfl; have X1_f0 := X1.out.frozen 0
    have X1_c1 := X1.out.at (i := 1) rfl; have X1_f1 := X1.out.frozen 1
    have X1_c2 := X1.out.at (i := 2) rfl; have X1_f2 := X1.out.frozen 2
    have X1_c3 := X1.out.at (i := 3) rfl; have X1_f3 := X1.out.frozen 3
    have X1_c4 := X1.out.at (i := 4) rfl; have X1_f4 := X1.out.frozen 4
    go_wp2_with fail
    clear X1_lt X1_c0 X1_f0 X1_c1 X1_f1 X1_c2 X1_f2 X1_c3 X1_f3 X1_c4 X1_f4
    go_loopw [23] (fun i wr => ∃ k : Nat, k ≤ t.rs.length ∧ i = .int .i64 k ∧ Hid (CO w1.heap.size w2.heap.size wr P0 P1 P2 (callsTo t k)) ∧ Hid (Box wr w.heap.size #[.int .i64 t.n, .int .i64 t.room, .int .i64 t.f, .int .i64 t.d, .slice A t.rs.length c]) ∧ Hid (Box wr (w.heap.size + 1) #[.slice none 0 0, .slice none 0 0, .slice none 0 0]) ∧ Hid (Box wr w2.heap.size #[.slice P0 N p0, .slice P1 N p1, .slice P2 N p2]) ∧ Hid (Below w.heap.size w wr) ∧ w2.heap.size < wr.heap.size) (fun i _ => t.rs.length - (intOf i).toNat)
    case atStart => exact ⟨0, by omega, rfl, P, X1, X2, X3, BW, z3⟩
    case round =>
      clear X1 X2 X3 BW P
      obtain ⟨k, hk, rfl, Q, X1, X2, X3, BW, zr⟩ := hrel
      by_cases hlt : k < t.rs.length
      · obtain ⟨b, off, r, rfl, hb, hr, c0, c1, c2⟩ := (H.out.below BW.out).at hlt
        have HR := hide (HP.out.2.2.2.2.2.1 r (List.mem_of_getElem? hr.out)).1
        obtain ⟨fr, tg, st⟩ := r
        obtain ⟨⟨ra, rb⟩, ⟨rc, rd⟩, rne, re, rf⟩ := HR.out
        simp only at ra rb rc rd re rf c0 c1 c2
        have hne2 : fr ≠ tg := rne
        clear rne
        obtain ⟨fn, rfl⟩ : ∃ m : Nat, fr = (m : Int) := ⟨fr.toNat, by omega⟩
        obtain ⟨tn, rfl⟩ : ∃ m : Nat, tg = (m : Int) := ⟨tg.toNat, by omega⟩
        have hfN : fn < N := by have := HN.out; omega
        have htN : tn < N := by have := HN.out; omega
        have hnb : ¬ b = wr.heap.size := by omega
        have HNE := hide hne2
        clear hne2
        have X1_lt := X1.out.lt
        have X1_c0 := X1.out.at (i := 0) rfl; have X1_f0 := X1.out.frozen 0
        have X1_c1 := X1.out.at (i := 1) rfl; have X1_f1 := X1.out.frozen 1
        have X1_c2 := X1.out.at (i := 2) rfl; have X1_f2 := X1.out.frozen 2
        have X1_c3 := X1.out.at (i := 3) rfl; have X1_f3 := X1.out.frozen 3
        have X1_c4 := X1.out.at (i := 4) rfl; have X1_f4 := X1.out.frozen 4
        go_upto_region 8 with fail
        clear X1_lt X1_c0 X1_f0 X1_c1 X1_f1 X1_c2 X1_f2 X1_c3 X1_f3 X1_c4 X1_f4
        refine code_name fun W4 hW => ?_
        have X6 := hide (Box.new' (g := wr.heap.size) hW rfl)
        have bb : Below wr.heap.size wr W4 := by rw [hW]; exact (Below.refl _ _).alloc (Nat.le_refl _) _
        have z6 := X6.out.lt
        have zb := bb.size
        replace X1 := hide (X1.out.below bb)
        replace X2 := hide (X2.out.below bb)
        replace X3 := hide (X3.out.below bb)
        replace Q := hide (Q.out.below bb)
        replace BW := hide (bthen BW.out bb)
        clear bb
        clear hW c0 c1 c2 hnb
        have hst : st = 0 ∨ st = 1 ∨ st = 2 := by omega
        clear re rf
        rcases hst with rfl | rfl | rfl
        · have HS := hide (callsTo_none hr.out (by simp) (fun h => by rw [HF.out] at h; cases h.2))
          have X6_lt := X6.out.lt
          have X6_c0 := X6.out.at (i := 0) rfl; have X6_f0 := X6.out.frozen 0
          have X6_c1 := X6.out.at (i := 1) rfl; have X6_f1 := X6.out.frozen 1
          have X6_c2 := X6.out.at (i := 2) rfl; have X6_f2 := X6.out.frozen 2
          go_wp2_with fail
          go_roundw
          case rel => exact ⟨k + 1, by omega, by go_num, by rw [HS.out]; exact Q, X1, X2, X3, BW, by omega⟩
          case measure => simp [intOf]; omega
        · skip
          obtain ⟨b2, o2, x2, rfl, g2, -, c2', f2⟩ := Q.out.car.at (k := tn) (by have := HLN.out k; omega)
          have Q2 := hide (Q.out.setCar (k := tn) (by have := HLN.out k; omega) true)
          have HS : Hid (callsTo t (k + 1) = _) := callsTo_car hr.out rfl
          have n2 : ¬ b2 = w2.heap.size := by omega
          have n3 : ¬ b2 = wr.heap.size := by omega
          have i0 : (0 : Int) ≤ (tn : Int) := by omega
          have i1 : (tn : Int) < (N : Int) := by omega
          have X3_lt := X3.out.lt
          have X3_c0 := X3.out.at (i := 0) rfl; have X3_f0 := X3.out.frozen 0
          have X3_c1 := X3.out.at (i := 1) rfl; have X3_f1 := X3.out.frozen 1
          have X3_c2 := X3.out.at (i := 2) rfl; have X3_f2 := X3.out.frozen 2
          have X6_lt := X6.out.lt
          have X6_c0 := X6.out.at (i := 0) rfl; have X6_f0 := X6.out.frozen 0
          have X6_c1 := X6.out.at (i := 1) rfl; have X6_f1 := X6.out.frozen 1
          have X6_c2 := X6.out.at (i := 2) rfl; have X6_f2 := X6.out.frozen 2
          go_wp2_with fail
          go_roundw
          case rel =>
            have o := (Only.refl b2 (b2 + 1) W4).setCell (p := ⟨b2, o2 + tn, none⟩) (Nat.le_refl _) (Nat.lt_succ_self _) (.bool true)
            exact ⟨k + 1, by omega, by go_num, by rw [HS.out]; exact Q2, X1.out.only o (by omega), X2.out.only o (by omega), X3.out.only o (by omega), Only.then BW.out o (by omega) (by omega), by simp [World.setCell]; omega⟩
          case measure => simp [intOf]; omega
        · have HS := hide (callsTo_none hr.out (by simp) (fun h => by cases h.1))
          have X6_lt := X6.out.lt
          have X6_c0 := X6.out.at (i := 0) rfl; have X6_f0 := X6.out.frozen 0
          have X6_c1 := X6.out.at (i := 1) rfl; have X6_f1 := X6.out.frozen 1
          have X6_c2 := X6.out.at (i := 2) rfl; have X6_f2 := X6.out.frozen 2
          go_wp2_with fail
          go_roundw
          case rel => exact ⟨k + 1, by omega, by go_num, by rw [HS.out]; exact Q, X1, X2, X3, BW, by omega⟩
          case measure => simp [intOf]; omega
      · have HE2 := hide (callsTo_all (t := t) (k := k) (by omega))
        have X2_lt := X2.out.lt
        have X2_c0 := X2.out.at (i := 0) rfl; have X2_f0 := X2.out.frozen 0
        have X2_c1 := X2.out.at (i := 1) rfl; have X2_f1 := X2.out.frozen 1
        have X2_c2 := X2.out.at (i := 2) rfl; have X2_f2 := X2.out.frozen 2
        have X3_lt := X3.out.lt
        have X3_c0 := X3.out.at (i := 0) rfl; have X3_f0 := X3.out.frozen 0
        have X3_c1 := X3.out.at (i := 1) rfl; have X3_f1 := X3.out.frozen 1
        have X3_c2 := X3.out.at (i := 2) rfl; have X3_f2 := X3.out.frozen 2
        have n1 : ¬ w.heap.size + 1 = w2.heap.size := by omega
        have n2 : ¬ w2.heap.size = w.heap.size + 1 := by omega
        go_wp2_with fail
        refine bodyPost_ret (by simp [results, Try.results23, go_sem, X2_c0, X2_c1, X2_c2]; rfl) rfl ?_
        rw [HE.out, ← HE2.out]
        have o := onlyW3 (g := w.heap.size + 1) wr (.slice P0 N p0) (.slice P1 N p1) (.slice P2 N p2)
        exact GivesC.ofLenT (Q.out.only o (by omega)) (Only.then BW.out o (by omega) (by omega)) (HLN.out k).1.symm (HLN.out k).2.1.symm (HLN.out k).2.2.symm (by omega) (by simp; omega)
  · have HF : Hid (fullB t = false) := by unfold Hid fullB; exact decide_eq_false hfl
    have hfd : decide (t.room ≤ inN 1 t.rs) = false := decide_eq_false hfl
    have KS : Hid (∀ W', Below W3.heap.size W3 W' → W'.cell? ⟨w.heap.size, 0, none⟩ = some (.int .i64 t.n) ∧ W'.cell? ⟨w.heap.size, 1, none⟩ = some (.int .i64 t.room) ∧ W'.cell? ⟨w.heap.size, 2, none⟩ = some (.int .i64 t.f) ∧ W'.cell? ⟨w.heap.size, 3, none⟩ = some (.int .i64 t.d) ∧ W'.cell? ⟨w.heap.size, 4, none⟩ = some (.slice A t.rs.length c)) := fun W' bb => ⟨(X1.out.below bb).at rfl, (X1.out.below bb).at rfl, (X1.out.below bb).at rfl, (X1.out.below bb).at rfl, (X1.out.below bb).at rfl⟩
    have KK : Hid (Below W3.heap.size W3 W3.drew) := (Below.refl _ _).drew
    first | (go_region_held3 (fun W => W.cell? ⟨w.heap.size, 0, none⟩ = some (.int .i64 t.n) ∧ W.cell? ⟨w.heap.size, 1, none⟩ = some (.int .i64 t.room) ∧ W.cell? ⟨w.heap.size, 2, none⟩ = some (.int .i64 t.f) ∧ W.cell? ⟨w.heap.size, 3, none⟩ = some (.int .i64 t.d) ∧ W.cell? ⟨w.heap.size, 4, none⟩ = some (.slice A t.rs.length c)) (first | (go_keep; done) | exact KS.out _ KK.out) (first | (go_at_call 50; (with_reducible refine (ridersInside_any A c t.rs _ ?_ (by omega)).mono ?_); exact H3.out.below KK.out; rintro e v ⟨rfl, bb⟩; replace KK := hide (bthen KK.out bb); have zKK := KK.out.size; clear bb))) | fail
    rename (v.cell? ⟨w.heap.size, 0, none⟩ = some (.int .i64 t.n) ∧ v.cell? ⟨w.heap.size, 1, none⟩ = some (.int .i64 t.room) ∧ v.cell? ⟨w.heap.size, 2, none⟩ = some (.int .i64 t.f) ∧ v.cell? ⟨w.heap.size, 3, none⟩ = some (.int .i64 t.d) ∧ v.cell? ⟨w.heap.size, 4, none⟩ = some (.slice A t.rs.length c)) => hHeldX
    clear KS hHeldX
    clear X1_lt X1_c0 X1_f0 X1_c1 X1_f1 X1_c2 X1_f2 X1_c3 X1_f3 X1_c4 X1_f4
    replace X1 := hide (X1.out.below KK.out)
    replace X2 := hide (X2.out.below KK.out)
    replace X3 := hide (X3.out.below KK.out)
    replace P := hide (P.out.below KK.out)
    replace BW := hide (bthen BW.out KK.out)
    replace z3 := X3.out.lt
    clear KK H3
    clear hfl
    have X1_lt := X1.out.lt
    have X1_c0 := X1.out.at (i := 0) rfl; have X1_f0 := X1.out.frozen 0
    have X1_c1 := X1.out.at (i := 1) rfl; have X1_f1 := X1.out.frozen 1
    have X1_c2 := X1.out.at (i := 2) rfl; have X1_f2 := X1.out.frozen 2
    have X1_c3 := X1.out.at (i := 3) rfl; have X1_f3 := X1.out.frozen 3
    have X1_c4 := X1.out.at (i := 4) rfl; have X1_f4 := X1.out.frozen 4
    go_wp2_with fail
    clear X1_lt X1_c0 X1_f0 X1_c1 X1_f1 X1_c2 X1_f2 X1_c3 X1_f3 X1_c4 X1_f4
    go_loopw [23] (fun i wr => ∃ k : Nat, k ≤ t.rs.length ∧ i = .int .i64 k ∧ Hid (CO w1.heap.size w2.heap.size wr P0 P1 P2 (callsTo t k)) ∧ Hid (Box wr w.heap.size #[.int .i64 t.n, .int .i64 t.room, .int .i64 t.f, .int .i64 t.d, .slice A t.rs.length c]) ∧ Hid (Box wr (w.heap.size + 1) #[.slice none 0 0, .slice none 0 0, .slice none 0 0]) ∧ Hid (Box wr w2.heap.size #[.slice P0 N p0, .slice P1 N p1, .slice P2 N p2]) ∧ Hid (Below w.heap.size w wr) ∧ w2.heap.size < wr.heap.size) (fun i _ => t.rs.length - (intOf i).toNat)
    case atStart => exact ⟨0, by omega, rfl, P, X1, X2, X3, BW, z3⟩
    case round =>
      clear X1 X2 X3 BW P
      obtain ⟨k, hk, rfl, Q, X1, X2, X3, BW, zr⟩ := hrel
      by_cases hlt : k < t.rs.length
      · obtain ⟨b, off, r, rfl, hb, hr, c0, c1, c2⟩ := (H.out.below BW.out).at hlt
        have HR := hide (HP.out.2.2.2.2.2.1 r (List.mem_of_getElem? hr.out)).1
        obtain ⟨fr, tg, st⟩ := r
        obtain ⟨⟨ra, rb⟩, ⟨rc, rd⟩, rne, re, rf⟩ := HR.out
        simp only at ra rb rc rd re rf c0 c1 c2
        have hne2 : fr ≠ tg := rne
        clear rne
        obtain ⟨fn, rfl⟩ : ∃ m : Nat, fr = (m : Int) := ⟨fr.toNat, by omega⟩
        obtain ⟨tn, rfl⟩ : ∃ m : Nat, tg = (m : Int) := ⟨tg.toNat, by omega⟩
        have hfN : fn < N := by have := HN.out; omega
        have htN : tn < N := by have := HN.out; omega
        have hnb : ¬ b = wr.heap.size := by omega
        have HNE := hide hne2
        clear hne2
        have X1_lt := X1.out.lt
        have X1_c0 := X1.out.at (i := 0) rfl; have X1_f0 := X1.out.frozen 0
        have X1_c1 := X1.out.at (i := 1) rfl; have X1_f1 := X1.out.frozen 1
        have X1_c2 := X1.out.at (i := 2) rfl; have X1_f2 := X1.out.frozen 2
        have X1_c3 := X1.out.at (i := 3) rfl; have X1_f3 := X1.out.frozen 3
        have X1_c4 := X1.out.at (i := 4) rfl; have X1_f4 := X1.out.frozen 4
        go_upto_region 8 with fail
        clear X1_lt X1_c0 X1_f0 X1_c1 X1_f1 X1_c2 X1_f2 X1_c3 X1_f3 X1_c4 X1_f4
        refine code_name fun W4 hW => ?_
        have X6 := hide (Box.new' (g := wr.heap.size) hW rfl)
        have bb : Below wr.heap.size wr W4 := by rw [hW]; exact (Below.refl _ _).alloc (Nat.le_refl _) _
        have z6 := X6.out.lt
        have zb := bb.size
        replace X1 := hide (X1.out.below bb)
        replace X2 := hide (X2.out.below bb)
        replace X3 := hide (X3.out.below bb)
        replace Q := hide (Q.out.below bb)
        replace BW := hide (bthen BW.out bb)
        clear bb
        clear hW c0 c1 c2 hnb
        have hst : st = 0 ∨ st = 1 ∨ st = 2 := by omega
        clear re rf
        rcases hst with rfl | rfl | rfl
        · by_cases hdir : (fn : Int) < (tn : Int)
          · have HLT : Hid ((fn : Int) < (tn : Int)) := hdir
            have X6_lt := X6.out.lt
            have X6_c0 := X6.out.at (i := 0) rfl; have X6_f0 := X6.out.frozen 0
            have X6_c1 := X6.out.at (i := 1) rfl; have X6_f1 := X6.out.frozen 1
            have X6_c2 := X6.out.at (i := 2) rfl; have X6_f2 := X6.out.frozen 2
            go_wp2_with fail
            clear X6_lt X6_c0 X6_f0 X6_c1 X6_f1 X6_c2 X6_f2
            refine (riderDir_any ((fn : Int), (tn : Int), (0 : Int)) _).mono ?_
            rw [show dirR ((fn : Int), (tn : Int), (0 : Int)) = 1 from by unfold dirR; exact if_pos hdir]
            rintro e w7 ⟨rfl, bb⟩
            have zb7 := bb.size
            replace X1 := hide (X1.out.below bb)
            replace X2 := hide (X2.out.below bb)
            replace X3 := hide (X3.out.below bb)
            replace X6 := hide (X6.out.below bb)
            replace Q := hide (Q.out.below bb)
            replace BW := hide (bthen BW.out bb)
            clear bb
            obtain ⟨b2, o2, x2, rfl, g2, -, c2', f2⟩ := Q.out.up.at (k := fn) (by have := HLN.out k; omega)
            have Q2 := hide (Q.out.setUp (k := fn) (by have := HLN.out k; omega) true)
            have HS : Hid (callsTo t (k + 1) = _) := callsTo_up hr.out rfl HF.out HLT.out
            have n2 : ¬ b2 = w2.heap.size := by omega
            have n3 : ¬ b2 = wr.heap.size := by omega
            have i0 : (0 : Int) ≤ (fn : Int) := by omega
            have i1 : (fn : Int) < (N : Int) := by omega
            have X3_lt := X3.out.lt
            have X3_c0 := X3.out.at (i := 0) rfl; have X3_f0 := X3.out.frozen 0
            have X3_c1 := X3.out.at (i := 1) rfl; have X3_f1 := X3.out.frozen 1
            have X3_c2 := X3.out.at (i := 2) rfl; have X3_f2 := X3.out.frozen 2
            have X6_lt := X6.out.lt
            have X6_c0 := X6.out.at (i := 0) rfl; have X6_f0 := X6.out.frozen 0
            have X6_c1 := X6.out.at (i := 1) rfl; have X6_f1 := X6.out.frozen 1
            have X6_c2 := X6.out.at (i := 2) rfl; have X6_f2 := X6.out.frozen 2
            go_wp2_with fail
            go_roundw
            case rel =>
              have o := (Only.refl b2 (b2 + 1) w7).setCell (p := ⟨b2, o2 + fn, none⟩) (Nat.le_refl _) (Nat.lt_succ_self _) (.bool true)
              exact ⟨k + 1, by omega, by go_num, by rw [HS.out]; exact Q2, X1.out.only o (by omega), X2.out.only o (by omega), X3.out.only o (by omega), Only.then BW.out o (by omega) (by omega), by simp [World.setCell]; omega⟩
            case measure => simp [intOf]; omega
          · have HLT : Hid ((tn : Int) ≤ (fn : Int)) := by unfold Hid; omega
            have X6_lt := X6.out.lt
            have X6_c0 := X6.out.at (i := 0) rfl; have X6_f0 := X6.out.frozen 0
            have X6_c1 := X6.out.at (i := 1) rfl; have X6_f1 := X6.out.frozen 1
            have X6_c2 := X6.out.at (i := 2) rfl; have X6_f2 := X6.out.frozen 2
            go_wp2_with fail
            clear X6_lt X6_c0 X6_f0 X6_c1 X6_f1 X6_c2 X6_f2
            refine (riderDir_any ((fn : Int), (tn : Int), (0 : Int)) _).mono ?_
            rw [show dirR ((fn : Int), (tn : Int), (0 : Int)) = -1 from by unfold dirR; exact if_neg (by simp only; omega)]
            rintro e w7 ⟨rfl, bb⟩
            have zb7 := bb.size
            replace X1 := hide (X1.out.below bb)
            replace X2 := hide (X2.out.below bb)
            replace X3 := hide (X3.out.below bb)
            replace X6 := hide (X6.out.below bb)
            replace Q := hide (Q.out.below bb)
            replace BW := hide (bthen BW.out bb)
            clear bb
            obtain ⟨b2, o2, x2, rfl, g2, -, c2', f2⟩ := Q.out.dn.at (k := fn) (by have := HLN.out k; omega)
            have Q2 := hide (Q.out.setDn (k := fn) (by have := HLN.out k; omega) true)
            have HS : Hid (callsTo t (k + 1) = _) := callsTo_dn hr.out rfl HF.out (by have := HLT.out; simp only; omega)
            have n2 : ¬ b2 = w2.heap.size := by omega
            have n3 : ¬ b2 = wr.heap.size := by omega
            have i0 : (0 : Int) ≤ (fn : Int) := by omega
            have i1 : (fn : Int) < (N : Int) := by omega
            have X3_lt := X3.out.lt
            have X3_c0 := X3.out.at (i := 0) rfl; have X3_f0 := X3.out.frozen 0
            have X3_c1 := X3.out.at (i := 1) rfl; have X3_f1 := X3.out.frozen 1
            have X3_c2 := X3.out.at (i := 2) rfl; have X3_f2 := X3.out.frozen 2
            have X6_lt := X6.out.lt
            have X6_c0 := X6.out.at (i := 0) rfl; have X6_f0 := X6.out.frozen 0
            have X6_c1 := X6.out.at (i := 1) rfl; have X6_f1 := X6.out.frozen 1
            have X6_c2 := X6.out.at (i := 2) rfl; have X6_f2 := X6.out.frozen 2
            go_wp2_with fail
            go_roundw
            case rel =>
              have o := (Only.refl b2 (b2 + 1) w7).setCell (p := ⟨b2, o2 + fn, none⟩) (Nat.le_refl _) (Nat.lt_succ_self _) (.bool true)
              exact ⟨k + 1, by omega, by go_num, by rw [HS.out]; exact Q2, X1.out.only o (by omega), X2.out.only o (by omega), X3.out.only o (by omega), Only.then BW.out o (by omega) (by omega), by simp [World.setCell]; omega⟩
            case measure => simp [intOf]; omega
        · skip
          obtain ⟨b2, o2, x2, rfl, g2, -, c2', f2⟩ := Q.out.car.at (k := tn) (by have := HLN.out k; omega)
          have Q2 := hide (Q.out.setCar (k := tn) (by have := HLN.out k; omega) true)
          have HS : Hid (callsTo t (k + 1) = _) := callsTo_car hr.out rfl
          have n2 : ¬ b2 = w2.heap.size := by omega
          have n3 : ¬ b2 = wr.heap.size := by omega
          have i0 : (0 : Int) ≤ (tn : Int) := by omega
          have i1 : (tn : Int) < (N : Int) := by omega
          have X3_lt := X3.out.lt
          have X3_c0 := X3.out.at (i := 0) rfl; have X3_f0 := X3.out.frozen 0
          have X3_c1 := X3.out.at (i := 1) rfl; have X3_f1 := X3.out.frozen 1
          have X3_c2 := X3.out.at (i := 2) rfl; have X3_f2 := X3.out.frozen 2
          have X6_lt := X6.out.lt
          have X6_c0 := X6.out.at (i := 0) rfl; have X6_f0 := X6.out.frozen 0
          have X6_c1 := X6.out.at (i := 1) rfl; have X6_f1 := X6.out.frozen 1
          have X6_c2 := X6.out.at (i := 2) rfl; have X6_f2 := X6.out.frozen 2
          go_wp2_with fail
          go_roundw
          case rel =>
            have o := (Only.refl b2 (b2 + 1) W4).setCell (p := ⟨b2, o2 + tn, none⟩) (Nat.le_refl _) (Nat.lt_succ_self _) (.bool true)
            exact ⟨k + 1, by omega, by go_num, by rw [HS.out]; exact Q2, X1.out.only o (by omega), X2.out.only o (by omega), X3.out.only o (by omega), Only.then BW.out o (by omega) (by omega), by simp [World.setCell]; omega⟩
          case measure => simp [intOf]; omega
        · have HS := hide (callsTo_none hr.out (by simp) (fun h => by cases h.1))
          have X6_lt := X6.out.lt
          have X6_c0 := X6.out.at (i := 0) rfl; have X6_f0 := X6.out.frozen 0
          have X6_c1 := X6.out.at (i := 1) rfl; have X6_f1 := X6.out.frozen 1
          have X6_c2 := X6.out.at (i := 2) rfl; have X6_f2 := X6.out.frozen 2
          go_wp2_with fail
          go_roundw
          case rel => exact ⟨k + 1, by omega, by go_num, by rw [HS.out]; exact Q, X1, X2, X3, BW, by omega⟩
          case measure => simp [intOf]; omega
      · have HE2 := hide (callsTo_all (t := t) (k := k) (by omega))
        have X2_lt := X2.out.lt
        have X2_c0 := X2.out.at (i := 0) rfl; have X2_f0 := X2.out.frozen 0
        have X2_c1 := X2.out.at (i := 1) rfl; have X2_f1 := X2.out.frozen 1
        have X2_c2 := X2.out.at (i := 2) rfl; have X2_f2 := X2.out.frozen 2
        have X3_lt := X3.out.lt
        have X3_c0 := X3.out.at (i := 0) rfl; have X3_f0 := X3.out.frozen 0
        have X3_c1 := X3.out.at (i := 1) rfl; have X3_f1 := X3.out.frozen 1
        have X3_c2 := X3.out.at (i := 2) rfl; have X3_f2 := X3.out.frozen 2
        have n1 : ¬ w.heap.size + 1 = w2.heap.size := by omega
        have n2 : ¬ w2.heap.size = w.heap.size + 1 := by omega
        go_wp2_with fail
        refine bodyPost_ret (by simp [results, Try.results23, go_sem, X2_c0, X2_c1, X2_c2]; rfl) rfl ?_
        rw [HE.out, ← HE2.out]
        have o := onlyW3 (g := w.heap.size + 1) wr (.slice P0 N p0) (.slice P1 N p1) (.slice P2 N p2)
        exact GivesC.ofLenT (Q.out.only o (by omega)) (Only.then BW.out o (by omega) (by omega)) (HLN.out k).1.symm (HLN.out k).2.1.symm (HLN.out k).2.2.symm (by omega) (by simp; omega)
set_option maxRecDepth 100000 in
set_option maxHeartbeats 4000000 in
theorem specTripCalls (A : Option Addr) (c : Nat) (t : Tp) (w : World) (h : Rds w A t.rs) (hl : (t.rs.length : Int) ≤ 9223372036854775807) :
    Calls Try.prog 30 #[.agg #[.int .i64 t.n, .int .i64 t.room, .int .i64 t.f, .int .i64 t.d, .slice A t.rs.length c]] w (GivesC (tripCB t) w) := by
  have H := hide h; clear h
  go_enter Try.func30, Try.ntmps30
  go_wp2_with fail
  refine calls_name fun W hW => ?_
  have X1 : Hid (Box W w.heap.size #[.int .i64 t.n, .int .i64 t.room, .int .i64 t.f, .int .i64 t.d, .slice A t.rs.length c]) := by rw [hW]; exact (Box.new rfl).alloc _
  have X2 : Hid (Box W (w.heap.size + 1) #[.slice none 0 0, .slice none 0 0, .slice none 0 0]) := by rw [hW]; exact Box.new (by simp)
  have BW : Hid (Below w.heap.size w W) := by rw [hW]; exact ((Below.refl _ _).alloc (Nat.le_refl _) _).alloc (by simp) _
  have z0 : w.heap.size + 1 < W.heap.size := by rw [hW]; simp
  clear hW
  refine (specTripValid A c t _ (H.out.below BW.out) hl).mono ?_
  rintro e w1 ⟨rfl, b⟩
  have z1 := b.size
  replace X1 := hide (X1.out.below b)
  replace X2 := hide (X2.out.below b)
  replace BW := hide (bthen BW.out b)
  clear b
  cases hv : tripB t
  · have HE := hide (tripCB_no hv)
    have X2_lt := X2.out.lt
    have X2_c0 := X2.out.at (i := 0) rfl; have X2_f0 := X2.out.frozen 0
    have X2_c1 := X2.out.at (i := 1) rfl; have X2_f1 := X2.out.frozen 1
    have X2_c2 := X2.out.at (i := 2) rfl; have X2_f2 := X2.out.frozen 2
    go_wp2_with fail
    refine bodyPost_ret (by simp [results, Try.results30, go_sem, X2_c0, X2_c1, X2_c2]; rfl) rfl ?_
    rw [HE.out]
    exact GivesC.zero (Only.then BW.out (onlyW3 _ _ _ _) (by omega) (by omega))
  have HE := hide (tripCB_yes hv)
  have hp := tripB_iff.1 hv
  have HP := hide hp
  have hn := hp.1
  have hm := hp.2.1
  have h8 : t.rs.length ≤ 8 := hp.2.2.2.2.1
  have HL := hide (callsTo_len hp)
  obtain ⟨N, hN⟩ : ∃ N : Nat, (N : Int) = t.n := ⟨t.n.toNat, by omega⟩
  have HN := hide hN
  have hNN : t.n.toNat = N := by omega
  have hN8 : 1 ≤ N ∧ N ≤ 8 := by omega
  have HNN := hide hNN
  clear hp hv hN hNN
  have X1_lt := X1.out.lt
  have X1_c0 := X1.out.at (i := 0) rfl; have X1_f0 := X1.out.frozen 0
  have X1_c1 := X1.out.at (i := 1) rfl; have X1_f1 := X1.out.frozen 1
  have X1_c2 := X1.out.at (i := 2) rfl; have X1_f2 := X1.out.frozen 2
  have X1_c3 := X1.out.at (i := 3) rfl; have X1_f3 := X1.out.frozen 3
  have X1_c4 := X1.out.at (i := 4) rfl; have X1_f4 := X1.out.frozen 4
  go_wp2_with fail
  clear X1_lt X1_c0 X1_f0 X1_c1 X1_f1 X1_c2 X1_f2 X1_c3 X1_f3 X1_c4 X1_f4
  refine (specCallsNone t.n _).mono ?_
  rw [noneC_at hn, HNN.out]
  rintro e w2 ⟨P0, P1, P2, p0, p1, p2, rfl, P, b⟩
  replace P := hide P
  have z2 := b.size
  replace X1 := hide (X1.out.below b)
  replace X2 := hide (X2.out.below b)
  replace BW := hide (bthen BW.out b)
  clear b
  rw [(noCalls_len N).1, (noCalls_len N).2.1, (noCalls_len N).2.2]
  go_upto_region 4 with fail
  refine code_name fun W3 hW => ?_
  have X3 : Hid (Box W3 w2.heap.size #[.slice P0 N p0, .slice P1 N p1, .slice P2 N p2]) := by rw [hW]; exact Box.new rfl
  have b : Below w2.heap.size w2 W3 := by rw [hW]; exact (Below.refl _ _).alloc (Nat.le_refl _) _
  have z3 := X3.out.lt
  replace X1 := hide (X1.out.below b)
  replace X2 := hide (X2.out.below b)
  replace P := hide (P.out.below b)
  replace BW := hide (bthen BW.out b)
  clear b
  clear hW
  rw [← HNN.out, ← callsTo_zero t] at P
  have HLN : Hid (∀ k, (callsTo t k).up.length = N ∧ (callsTo t k).dn.length = N ∧ (callsTo t k).car.length = N) := fun k => by
    obtain ⟨a, b, c⟩ := HL.out k; have := HN.out; omega
  go_wp2_with fail
  go_loopw [4] (fun i wr => ∃ k : Nat, k ≤ t.rs.length ∧ i = .int .i64 k ∧ Hid (CO w1.heap.size w2.heap.size wr P0 P1 P2 (callsTo t k)) ∧ Hid (Box wr w.heap.size #[.int .i64 t.n, .int .i64 t.room, .int .i64 t.f, .int .i64 t.d, .slice A t.rs.length c]) ∧ Hid (Box wr (w.heap.size + 1) #[.slice none 0 0, .slice none 0 0, .slice none 0 0]) ∧ Hid (Box wr w2.heap.size #[.slice P0 N p0, .slice P1 N p1, .slice P2 N p2]) ∧ Hid (Below w.heap.size w wr) ∧ w2.heap.size < wr.heap.size) (fun i _ => t.rs.length - (intOf i).toNat)
  case atStart => exact ⟨0, by omega, rfl, P, X1, X2, X3, BW, z3⟩
  case round =>
    clear X1 X2 X3 BW P
    obtain ⟨k, hk, rfl, Q, X1, X2, X3, BW, zr⟩ := hrel
    by_cases hlt : k < t.rs.length
    · obtain ⟨b, off, r, rfl, hb, hr, c0, c1, c2⟩ := (H.out.below BW.out).at hlt
      have HR := hide (HP.out.2.2.2.2.2.1 r (List.mem_of_getElem? hr.out)).1
      obtain ⟨fr, tg, st⟩ := r
      obtain ⟨⟨ra, rb⟩, ⟨rc, rd⟩, rne, re, rf⟩ := HR.out
      simp only at ra rb rc rd re rf c0 c1 c2
      have hne2 : fr ≠ tg := rne
      clear rne
      obtain ⟨fn, rfl⟩ : ∃ m : Nat, fr = (m : Int) := ⟨fr.toNat, by omega⟩
      obtain ⟨tn, rfl⟩ : ∃ m : Nat, tg = (m : Int) := ⟨tg.toNat, by omega⟩
      have hfN : fn < N := by have := HN.out; omega
      have htN : tn < N := by have := HN.out; omega
      have hnb : ¬ b = wr.heap.size := by omega
      have HNE := hide hne2
      clear hne2
      have X1_lt := X1.out.lt
      have X1_c0 := X1.out.at (i := 0) rfl; have X1_f0 := X1.out.frozen 0
      have X1_c1 := X1.out.at (i := 1) rfl; have X1_f1 := X1.out.frozen 1
      have X1_c2 := X1.out.at (i := 2) rfl; have X1_f2 := X1.out.frozen 2
      have X1_c3 := X1.out.at (i := 3) rfl; have X1_f3 := X1.out.frozen 3
      have X1_c4 := X1.out.at (i := 4) rfl; have X1_f4 := X1.out.frozen 4
      go_upto_region 8 with fail
      clear X1_lt X1_c0 X1_f0 X1_c1 X1_f1 X1_c2 X1_f2 X1_c3 X1_f3 X1_c4 X1_f4
      refine code_name fun W4 hW => ?_
      have X6 := hide (Box.new' (g := wr.heap.size) hW rfl)
      have bb : Below wr.heap.size wr W4 := by rw [hW]; exact (Below.refl _ _).alloc (Nat.le_refl _) _
      have z6 := X6.out.lt
      have zb := bb.size
      replace X1 := hide (X1.out.below bb)
      replace X2 := hide (X2.out.below bb)
      replace X3 := hide (X3.out.below bb)
      replace Q := hide (Q.out.below bb)
      replace BW := hide (bthen BW.out bb)
      clear bb
      clear hW c0 c1 c2 hnb
      have hst : st = 0 ∨ st = 1 ∨ st = 2 := by omega
      clear re rf
      rcases hst with rfl | rfl | rfl
      · by_cases hfl : t.room ≤ inN 1 t.rs
        · have HF : Hid (fullB t = true) := by unfold Hid fullB; exact decide_eq_true hfl
          have hfd : decide (inN 1 t.rs < t.room) = false := by simp; omega
          clear hfl
          have X6_lt := X6.out.lt
          have X6_c0 := X6.out.at (i := 0) rfl; have X6_f0 := X6.out.frozen 0
          have X6_c1 := X6.out.at (i := 1) rfl; have X6_f1 := X6.out.frozen 1
          have X6_c2 := X6.out.at (i := 2) rfl; have X6_f2 := X6.out.frozen 2
          go_wp2_with fail
          clear X6_lt X6_c0 X6_f0 X6_c1 X6_f1 X6_c2 X6_f2
          have H5 := hide (H.out.below BW.out)
          have X1_lt := X1.out.lt
          have X1_c0 := X1.out.at (i := 0) rfl; have X1_f0 := X1.out.frozen 0
          have X1_c1 := X1.out.at (i := 1) rfl; have X1_f1 := X1.out.frozen 1
          have X1_c2 := X1.out.at (i := 2) rfl; have X1_f2 := X1.out.frozen 2
          have X1_c3 := X1.out.at (i := 3) rfl; have X1_f3 := X1.out.frozen 3
          have X1_c4 := X1.out.at (i := 4) rfl; have X1_f4 := X1.out.frozen 4
          have X6_lt := X6.out.lt
          have X6_c0 := X6.out.at (i := 0) rfl; have X6_f0 := X6.out.frozen 0
          have X6_c1 := X6.out.at (i := 1) rfl; have X6_f1 := X6.out.frozen 1
          have X6_c2 := X6.out.at (i := 2) rfl; have X6_f2 := X6.out.frozen 2
          have KS : Hid (∀ W', Below W4.heap.size W4 W' → (W'.cell? ⟨w.heap.size, 0, none⟩ = some (.int .i64 t.n) ∧ W'.cell? ⟨w.heap.size, 1, none⟩ = some (.int .i64 t.room) ∧ W'.cell? ⟨w.heap.size, 2, none⟩ = some (.int .i64 t.f) ∧ W'.cell? ⟨w.heap.size, 3, none⟩ = some (.int .i64 t.d) ∧ W'.cell? ⟨w.heap.size, 4, none⟩ = some (.slice (some ⟨b, off, none⟩) t.rs.length c)) ∧ W'.cell? ⟨wr.heap.size, 0, none⟩ = some (.int .i64 (fn : Int)) ∧ W'.cell? ⟨wr.heap.size, 1, none⟩ = some (.int .i64 (tn : Int)) ∧ W'.cell? ⟨wr.heap.size, 2, none⟩ = some (.int .i64 0)) := fun W' bb => ⟨⟨(X1.out.below bb).at rfl, (X1.out.below bb).at rfl, (X1.out.below bb).at rfl, (X1.out.below bb).at rfl, (X1.out.below bb).at rfl⟩, (X6.out.below bb).at rfl, (X6.out.below bb).at rfl, (X6.out.below bb).at rfl⟩
          have KK : Hid (Below W4.heap.size W4 W4.drew) := (Below.refl _ _).drew
          refine wp_region_noPanic ?_
          refine wp_region_held_drew (S := (fun W => (W.cell? ⟨w.heap.size, 0, none⟩ = some (.int .i64 t.n) ∧ W.cell? ⟨w.heap.size, 1, none⟩ = some (.int .i64 t.room) ∧ W.cell? ⟨w.heap.size, 2, none⟩ = some (.int .i64 t.f) ∧ W.cell? ⟨w.heap.size, 3, none⟩ = some (.int .i64 t.d) ∧ W.cell? ⟨w.heap.size, 4, none⟩ = some (.slice (some ⟨b, off, none⟩) t.rs.length c)) ∧ W.cell? ⟨wr.heap.size, 0, none⟩ = some (.int .i64 (fn : Int)) ∧ W.cell? ⟨wr.heap.size, 1, none⟩ = some (.int .i64 (tn : Int)) ∧ W.cell? ⟨wr.heap.size, 2, none⟩ = some (.int .i64 0))) (by kernel_rfl) ?_ (fun hHeld => ?_)
          · exact KS.out _ KK.out
          (refine take_in (i := 0) (v := ?_) rfl (by rfl) (by kernel_rfl) (by kernel_rfl) (by kernel_rfl) (fun _ _ _ h => h) (by rfl) ?_ (by assumption) ?_; rotate_left; (focus ((intro w hSw; (try dsimp only at hSw); go_simp); (try with_reducible rfl); done)); (try simp only [List.setIfInBounds_toArray, List.set_cons_succ, List.set_cons_zero]))
          (refine take_in (i := 1) (v := ?_) rfl (by rfl) (by kernel_rfl) (by kernel_rfl) (by kernel_rfl) (fun _ _ _ h => h) (by rfl) ?_ (by assumption) ?_; rotate_left; (focus ((intro w hSw; (try dsimp only at hSw); go_simp); (try with_reducible rfl); done)); (try simp only [List.setIfInBounds_toArray, List.set_cons_succ, List.set_cons_zero]))
          (refine take_in (i := 2) (v := ?_) rfl (by rfl) (by kernel_rfl) (by kernel_rfl) (by kernel_rfl) (fun _ _ _ h => h) (by rfl) ?_ (by assumption) ?_; rotate_left; (focus ((intro w hSw; (try dsimp only at hSw); go_simp); (try with_reducible rfl); done)); (try simp only [List.setIfInBounds_toArray, List.set_cons_succ, List.set_cons_zero]))
          (refine take_in (i := 3) (v := ?_) rfl (by rfl) (by kernel_rfl) (by kernel_rfl) (by kernel_rfl) (fun _ _ _ h => h) (by rfl) ?_ (by assumption) ?_; rotate_left; (focus ((intro w hSw; (try dsimp only at hSw); go_simp); (try with_reducible rfl); done)); (try simp only [List.setIfInBounds_toArray, List.set_cons_succ, List.set_cons_zero]))
          first | (refine take_in (i := 4) (v := ?_) rfl (by rfl) (by kernel_rfl) (by kernel_rfl) (by kernel_rfl) (fun _ _ _ h => h) (by rfl) ?_ (by assumption) ?_; rotate_left; (focus ((intro w hSw; (try dsimp only at hSw); go_simp); (try with_reducible rfl); done)); (try simp only [List.setIfInBounds_toArray, List.set_cons_succ, List.set_cons_zero])) | (refine take_out (i := 4) rfl (by rfl) (by kernel_rfl) (by kernel_rfl) (by kernel_rfl) (fun _ _ _ h => h) (by rfl) (by assumption) ?_; (try simp only [List.setIfInBounds_toArray, List.set_cons_succ, List.set_cons_zero]))
          first | (refine take_in (i := 6) (v := ?_) rfl (by rfl) (by kernel_rfl) (by kernel_rfl) (by kernel_rfl) (fun _ _ _ h => h) (by rfl) ?_ (by assumption) ?_; rotate_left; (focus ((intro w hSw; (try dsimp only at hSw); go_simp); (try with_reducible rfl); done)); (try simp only [List.setIfInBounds_toArray, List.set_cons_succ, List.set_cons_zero])) | (refine take_out (i := 6) rfl (by rfl) (by kernel_rfl) (by kernel_rfl) (by kernel_rfl) (fun _ _ _ h => h) (by rfl) (by assumption) ?_; (try simp only [List.setIfInBounds_toArray, List.set_cons_succ, List.set_cons_zero]))
          first | (refine take_in (i := 7) (v := ?_) rfl (by rfl) (by kernel_rfl) (by kernel_rfl) (by kernel_rfl) (fun _ _ _ h => h) (by rfl) ?_ (by assumption) ?_; rotate_left; (focus ((intro w hSw; (try dsimp only at hSw); go_simp); (try with_reducible rfl); done)); (try simp only [List.setIfInBounds_toArray, List.set_cons_succ, List.set_cons_zero])) | (refine take_out (i := 7) rfl (by rfl) (by kernel_rfl) (by kernel_rfl) (by kernel_rfl) (fun _ _ _ h => h) (by rfl) (by assumption) ?_; (try simp only [List.setIfInBounds_toArray, List.set_cons_succ, List.set_cons_zero]))
          refine wpAnyH_ready (rs := [5]) (by kernel_rfl) (by simp) ?_
          refine AllReadyH.cons rfl (fun K hK => ?_) AllReadyH.nil
          go_simp
          go_at_call 46
          refine (l11Inside_any _ c t _ ?_ (by omega)).mono ?_
          · exact H5.out.below KK.out
          rintro e v ⟨rfl, bb⟩
          replace KK := hide (bthen KK.out bb)
          have zKK := KK.out.size
          clear bb
          go_wp2_with fail
          refine hK.out _ _ ?_ (fun hHeld => ?_)
          · exact KS.out _ KK.out
          clear hK K
          (try simp only [Act.put, List.setIfInBounds_toArray, List.set_cons_zero, List.set_cons_succ])
          first | (refine take_in (i := 8) (v := ?_) rfl (by rfl) (by kernel_rfl) (by kernel_rfl) (by kernel_rfl) (fun _ _ _ h => h) (by rfl) ?_ (by assumption) ?_; rotate_left; (focus ((intro w hSw; (try dsimp only at hSw); go_simp); (try with_reducible rfl); done)); (try simp only [List.setIfInBounds_toArray, List.set_cons_succ, List.set_cons_zero])) | (refine take_out (i := 8) rfl (by rfl) (by kernel_rfl) (by kernel_rfl) (by kernel_rfl) (fun _ _ _ h => h) (by rfl) (by assumption) ?_; (try simp only [List.setIfInBounds_toArray, List.set_cons_succ, List.set_cons_zero]))
          (refine take_in (i := 9) (v := ?_) rfl (by rfl) (by kernel_rfl) (by kernel_rfl) (by kernel_rfl) (fun _ _ _ h => h) (by rfl) ?_ (by assumption) ?_; rotate_left; (focus ((intro w hSw; (try dsimp only at hSw); go_simp); (try with_reducible rfl); done)); (try simp only [List.setIfInBounds_toArray, List.set_cons_succ, List.set_cons_zero]))
          (refine take_in (i := 10) (v := ?_) rfl (by rfl) (by kernel_rfl) (by kernel_rfl) (by kernel_rfl) (fun _ _ _ h => h) (by rfl) ?_ (by assumption) ?_; rotate_left; (focus ((intro w hSw; (try dsimp only at hSw); go_simp); (try with_reducible rfl); done)); (try simp only [List.setIfInBounds_toArray, List.set_cons_succ, List.set_cons_zero]))
          first | (refine take_in (i := 11) (v := ?_) rfl (by rfl) (by kernel_rfl) (by kernel_rfl) (by kernel_rfl) (fun _ _ _ h => h) (by rfl) ?_ (by assumption) ?_; rotate_left; (focus ((intro w hSw; (try dsimp only at hSw); go_simp); (try with_reducible rfl); done)); (try simp only [List.setIfInBounds_toArray, List.set_cons_succ, List.set_cons_zero])) | (refine take_out (i := 11) rfl (by rfl) (by kernel_rfl) (by kernel_rfl) (by kernel_rfl) (fun _ _ _ h => h) (by rfl) (by assumption) ?_; (try simp only [List.setIfInBounds_toArray, List.set_cons_succ, List.set_cons_zero]))
          first | (refine take_in (i := 12) (v := ?_) rfl (by rfl) (by kernel_rfl) (by kernel_rfl) (by kernel_rfl) (fun _ _ _ h => h) (by rfl) ?_ (by assumption) ?_; rotate_left; (focus ((intro w hSw; (try dsimp only at hSw); go_simp); (try with_reducible rfl); done)); (try simp only [List.setIfInBounds_toArray, List.set_cons_succ, List.set_cons_zero])) | (refine take_out (i := 12) rfl (by rfl) (by kernel_rfl) (by kernel_rfl) (by kernel_rfl) (fun _ _ _ h => h) (by rfl) (by assumption) ?_; (try simp only [List.setIfInBounds_toArray, List.set_cons_succ, List.set_cons_zero]))
          first | (refine take_in (i := 13) (v := ?_) rfl (by rfl) (by kernel_rfl) (by kernel_rfl) (by kernel_rfl) (fun _ _ _ h => h) (by rfl) ?_ (by assumption) ?_; rotate_left; (focus ((intro w hSw; (try dsimp only at hSw); go_simp); (try with_reducible rfl); done)); (try simp only [List.setIfInBounds_toArray, List.set_cons_succ, List.set_cons_zero])) | (refine take_out (i := 13) rfl (by rfl) (by kernel_rfl) (by kernel_rfl) (by kernel_rfl) (fun _ _ _ h => h) (by rfl) (by assumption) ?_; (try simp only [List.setIfInBounds_toArray, List.set_cons_succ, List.set_cons_zero]))
          first | (refine take_in (i := 14) (v := ?_) rfl (by rfl) (by kernel_rfl) (by kernel_rfl) (by kernel_rfl) (fun _ _ _ h => h) (by rfl) ?_ (by assumption) ?_; rotate_left; (focus ((intro w hSw; (try dsimp only at hSw); go_simp); (try with_reducible rfl); done)); (try simp only [List.setIfInBounds_toArray, List.set_cons_succ, List.set_cons_zero])) | (refine take_out (i := 14) rfl (by rfl) (by kernel_rfl) (by kernel_rfl) (by kernel_rfl) (fun _ _ _ h => h) (by rfl) (by assumption) ?_; (try simp only [List.setIfInBounds_toArray, List.set_cons_succ, List.set_cons_zero]))
          first | (refine take_in (i := 15) (v := ?_) rfl (by rfl) (by kernel_rfl) (by kernel_rfl) (by kernel_rfl) (fun _ _ _ h => h) (by rfl) ?_ (by assumption) ?_; rotate_left; (focus ((intro w hSw; (try dsimp only at hSw); go_simp); (try with_reducible rfl); done)); (try simp only [List.setIfInBounds_toArray, List.set_cons_succ, List.set_cons_zero])) | (refine take_out (i := 15) rfl (by rfl) (by kernel_rfl) (by kernel_rfl) (by kernel_rfl) (fun _ _ _ h => h) (by rfl) (by assumption) ?_; (try simp only [List.setIfInBounds_toArray, List.set_cons_succ, List.set_cons_zero]))
          (refine take_in (i := 16) (v := ?_) rfl (by rfl) (by kernel_rfl) (by kernel_rfl) (by kernel_rfl) (fun _ _ _ h => h) (by rfl) ?_ (by assumption) ?_; rotate_left; (focus ((intro w hSw; (try dsimp only at hSw); go_simp); (try with_reducible rfl); done)); (try simp only [List.setIfInBounds_toArray, List.set_cons_succ, List.set_cons_zero]))
          (refine take_in (i := 17) (v := ?_) rfl (by rfl) (by kernel_rfl) (by kernel_rfl) (by kernel_rfl) (fun _ _ _ h => h) (by rfl) ?_ (by assumption) ?_; rotate_left; (focus ((intro w hSw; (try dsimp only at hSw); go_simp); (try with_reducible rfl); done)); (try simp only [List.setIfInBounds_toArray, List.set_cons_succ, List.set_cons_zero]))
          refine wpAnyH_done (by kernel_rfl) ?_ _
          refine NoPanic.normal ?_
          clear KS
          clear X1_lt X1_c0 X1_f0 X1_c1 X1_f1 X1_c2 X1_f2 X1_c3 X1_f3 X1_c4 X1_f4
          clear X6_lt X6_c0 X6_f0 X6_c1 X6_f1 X6_c2 X6_f2
          go_wp2_with fail
          refine code_name fun W7 hW => ?_
          have bb : Below W4.heap.size W4 W7 := by rw [hW]; exact KK.out
          have zbW7 := bb.size
          replace X1 := hide (X1.out.below bb)
          replace X2 := hide (X2.out.below bb)
          replace X3 := hide (X3.out.below bb)
          replace X6 := hide (X6.out.below bb)
          replace Q := hide (Q.out.below bb)
          replace BW := hide (bthen BW.out bb)
          clear bb
          clear KK H5 hW
          have H5 := hide (H.out.below BW.out)
          have X1_lt := X1.out.lt
          have X1_c0 := X1.out.at (i := 0) rfl; have X1_f0 := X1.out.frozen 0
          have X1_c1 := X1.out.at (i := 1) rfl; have X1_f1 := X1.out.frozen 1
          have X1_c2 := X1.out.at (i := 2) rfl; have X1_f2 := X1.out.frozen 2
          have X1_c3 := X1.out.at (i := 3) rfl; have X1_f3 := X1.out.frozen 3
          have X1_c4 := X1.out.at (i := 4) rfl; have X1_f4 := X1.out.frozen 4
          have X6_lt := X6.out.lt
          have X6_c0 := X6.out.at (i := 0) rfl; have X6_f0 := X6.out.frozen 0
          have X6_c1 := X6.out.at (i := 1) rfl; have X6_f1 := X6.out.frozen 1
          have X6_c2 := X6.out.at (i := 2) rfl; have X6_f2 := X6.out.frozen 2
          have KS : Hid (∀ W', Below W7.heap.size W7 W' → (W'.cell? ⟨w.heap.size, 0, none⟩ = some (.int .i64 t.n) ∧ W'.cell? ⟨w.heap.size, 1, none⟩ = some (.int .i64 t.room) ∧ W'.cell? ⟨w.heap.size, 2, none⟩ = some (.int .i64 t.f) ∧ W'.cell? ⟨w.heap.size, 3, none⟩ = some (.int .i64 t.d) ∧ W'.cell? ⟨w.heap.size, 4, none⟩ = some (.slice (some ⟨b, off, none⟩) t.rs.length c)) ∧ W'.cell? ⟨wr.heap.size, 0, none⟩ = some (.int .i64 (fn : Int)) ∧ W'.cell? ⟨wr.heap.size, 1, none⟩ = some (.int .i64 (tn : Int)) ∧ W'.cell? ⟨wr.heap.size, 2, none⟩ = some (.int .i64 0)) := fun W' bb => ⟨⟨(X1.out.below bb).at rfl, (X1.out.below bb).at rfl, (X1.out.below bb).at rfl, (X1.out.below bb).at rfl, (X1.out.below bb).at rfl⟩, (X6.out.below bb).at rfl, (X6.out.below bb).at rfl, (X6.out.below bb).at rfl⟩
          have KK : Hid (Below W7.heap.size W7 W7.drew) := (Below.refl _ _).drew
          refine wp_region_noPanic ?_
          refine wp_region_held_drew (S := (fun W => (W.cell? ⟨w.heap.size, 0, none⟩ = some (.int .i64 t.n) ∧ W.cell? ⟨w.heap.size, 1, none⟩ = some (.int .i64 t.room) ∧ W.cell? ⟨w.heap.size, 2, none⟩ = some (.int .i64 t.f) ∧ W.cell? ⟨w.heap.size, 3, none⟩ = some (.int .i64 t.d) ∧ W.cell? ⟨w.heap.size, 4, none⟩ = some (.slice (some ⟨b, off, none⟩) t.rs.length c)) ∧ W.cell? ⟨wr.heap.size, 0, none⟩ = some (.int .i64 (fn : Int)) ∧ W.cell? ⟨wr.heap.size, 1, none⟩ = some (.int .i64 (tn : Int)) ∧ W.cell? ⟨wr.heap.size, 2, none⟩ = some (.int .i64 0))) (by kernel_rfl) ?_ (fun hHeld => ?_)
          · exact KS.out _ KK.out
          (refine take_in (i := 0) (v := ?_) rfl (by rfl) (by kernel_rfl) (by kernel_rfl) (by kernel_rfl) (fun _ _ _ h => h) (by rfl) ?_ (by assumption) ?_; rotate_left; (focus ((intro w hSw; (try dsimp only at hSw); go_simp); (try with_reducible rfl); done)); (try simp only [List.setIfInBounds_toArray, List.set_cons_succ, List.set_cons_zero]))
          (refine take_in (i := 1) (v := ?_) rfl (by rfl) (by kernel_rfl) (by kernel_rfl) (by kernel_rfl) (fun _ _ _ h => h) (by rfl) ?_ (by assumption) ?_; rotate_left; (focus ((intro w hSw; (try dsimp only at hSw); go_simp); (try with_reducible rfl); done)); (try simp only [List.setIfInBounds_toArray, List.set_cons_succ, List.set_cons_zero]))
          (refine take_in (i := 2) (v := ?_) rfl (by rfl) (by kernel_rfl) (by kernel_rfl) (by kernel_rfl) (fun _ _ _ h => h) (by rfl) ?_ (by assumption) ?_; rotate_left; (focus ((intro w hSw; (try dsimp only at hSw); go_simp); (try with_reducible rfl); done)); (try simp only [List.setIfInBounds_toArray, List.set_cons_succ, List.set_cons_zero]))
          (refine take_in (i := 3) (v := ?_) rfl (by rfl) (by kernel_rfl) (by kernel_rfl) (by kernel_rfl) (fun _ _ _ h => h) (by rfl) ?_ (by assumption) ?_; rotate_left; (focus ((intro w hSw; (try dsimp only at hSw); go_simp); (try with_reducible rfl); done)); (try simp only [List.setIfInBounds_toArray, List.set_cons_succ, List.set_cons_zero]))
          first | (refine take_in (i := 4) (v := ?_) rfl (by rfl) (by kernel_rfl) (by kernel_rfl) (by kernel_rfl) (fun _ _ _ h => h) (by rfl) ?_ (by assumption) ?_; rotate_left; (focus ((intro w hSw; (try dsimp only at hSw); go_simp); (try with_reducible rfl); done)); (try simp only [List.setIfInBounds_toArray, List.set_cons_succ, List.set_cons_zero])) | (refine take_out (i := 4) rfl (by rfl) (by kernel_rfl) (by kernel_rfl) (by kernel_rfl) (fun _ _ _ h => h) (by rfl) (by assumption) ?_; (try simp only [List.setIfInBounds_toArray, List.set_cons_succ, List.set_cons_zero]))
          first | (refine take_in (i := 6) (v := ?_) rfl (by rfl) (by kernel_rfl) (by kernel_rfl) (by kernel_rfl) (fun _ _ _ h => h) (by rfl) ?_ (by assumption) ?_; rotate_left; (focus ((intro w hSw; (try dsimp only at hSw); go_simp); (try with_reducible rfl); done)); (try simp only [List.setIfInBounds_toArray, List.set_cons_succ, List.set_cons_zero])) | (refine take_out (i := 6) rfl (by rfl) (by kernel_rfl) (by kernel_rfl) (by kernel_rfl) (fun _ _ _ h => h) (by rfl) (by assumption) ?_; (try simp only [List.setIfInBounds_toArray, List.set_cons_succ, List.set_cons_zero]))
          first | (refine take_in (i := 7) (v := ?_) rfl (by rfl) (by kernel_rfl) (by kernel_rfl) (by kernel_rfl) (fun _ _ _ h => h) (by rfl) ?_ (by assumption) ?_; rotate_left; (focus ((intro w hSw; (try dsimp only at hSw); go_simp); (try with_reducible rfl); done)); (try simp only [List.setIfInBounds_toArray, List.set_cons_succ, List.set_cons_zero])) | (refine take_out (i := 7) rfl (by rfl) (by kernel_rfl) (by kernel_rfl) (by kernel_rfl) (fun _ _ _ h => h) (by rfl) (by assumption) ?_; (try simp only [List.setIfInBounds_toArray, List.set_cons_succ, List.set_cons_zero]))
          refine wpAnyH_ready (rs := [5]) (by kernel_rfl) (by simp) ?_
          refine AllReadyH.cons rfl (fun K hK => ?_) AllReadyH.nil
          go_simp
          go_at_call 46
          refine (l11Inside_any _ c t _ ?_ (by omega)).mono ?_
          · exact H5.out.below KK.out
          rintro e v ⟨rfl, bb⟩
          replace KK := hide (bthen KK.out bb)
          have zKK := KK.out.size
          clear bb
          go_wp2_with fail
          refine hK.out _ _ ?_ (fun hHeld => ?_)
          · exact KS.out _ KK.out
          clear hK K
          (try simp only [Act.put, List.setIfInBounds_toArray, List.set_cons_zero, List.set_cons_succ])
          first | (refine take_in (i := 8) (v := ?_) rfl (by rfl) (by kernel_rfl) (by kernel_rfl) (by kernel_rfl) (fun _ _ _ h => h) (by rfl) ?_ (by assumption) ?_; rotate_left; (focus ((intro w hSw; (try dsimp only at hSw); go_simp); (try with_reducible rfl); done)); (try simp only [List.setIfInBounds_toArray, List.set_cons_succ, List.set_cons_zero])) | (refine take_out (i := 8) rfl (by rfl) (by kernel_rfl) (by kernel_rfl) (by kernel_rfl) (fun _ _ _ h => h) (by rfl) (by assumption) ?_; (try simp only [List.setIfInBounds_toArray, List.set_cons_succ, List.set_cons_zero]))
          (refine take_in (i := 9) (v := ?_) rfl (by rfl) (by kernel_rfl) (by kernel_rfl) (by kernel_rfl) (fun _ _ _ h => h) (by rfl) ?_ (by assumption) ?_; rotate_left; (focus ((intro w hSw; (try dsimp only at hSw); go_simp); (try with_reducible rfl); done)); (try simp only [List.setIfInBounds_toArray, List.set_cons_succ, List.set_cons_zero]))
          (refine take_in (i := 10) (v := ?_) rfl (by rfl) (by kernel_rfl) (by kernel_rfl) (by kernel_rfl) (fun _ _ _ h => h) (by rfl) ?_ (by assumption) ?_; rotate_left; (focus ((intro w hSw; (try dsimp only at hSw); go_simp); (try with_reducible rfl); done)); (try simp only [List.setIfInBounds_toArray, List.set_cons_succ, List.set_cons_zero]))
          refine wpAnyH_done (by kernel_rfl) ?_ _
          refine NoPanic.normal ?_
          clear KS
          clear X1_lt X1_c0 X1_f0 X1_c1 X1_f1 X1_c2 X1_f2 X1_c3 X1_f3 X1_c4 X1_f4
          clear X6_lt X6_c0 X6_f0 X6_c1 X6_f1 X6_c2 X6_f2
          have bb := KK.out
          have zbE := bb.size
          replace X1 := hide (X1.out.below bb)
          replace X2 := hide (X2.out.below bb)
          replace X3 := hide (X3.out.below bb)
          replace X6 := hide (X6.out.below bb)
          replace Q := hide (Q.out.below bb)
          replace BW := hide (bthen BW.out bb)
          clear bb
          have HS := hide (callsTo_none hr.out (by simp) (fun h => by rw [HF.out] at h; cases h.2))
          go_wp2_with fail
          go_roundw
          case rel => exact ⟨k + 1, by omega, by go_num, by rw [HS.out]; exact Q, X1, X2, X3, BW, by omega⟩
          case measure => simp [intOf]; omega
        · have HF : Hid (fullB t = false) := by unfold Hid fullB; exact decide_eq_false hfl
          have hfd : decide (inN 1 t.rs < t.room) = true := by simp; omega
          clear hfl
          by_cases hdir : (fn : Int) < (tn : Int)
          · have HLT : Hid ((fn : Int) < (tn : Int)) := hdir
            have hdd : decide ((fn : Int) < (tn : Int)) = true := decide_eq_true hdir
            have X6_lt := X6.out.lt
            have X6_c0 := X6.out.at (i := 0) rfl; have X6_f0 := X6.out.frozen 0
            have X6_c1 := X6.out.at (i := 1) rfl; have X6_f1 := X6.out.frozen 1
            have X6_c2 := X6.out.at (i := 2) rfl; have X6_f2 := X6.out.frozen 2
            go_wp2_with fail
            clear X6_lt X6_c0 X6_f0 X6_c1 X6_f1 X6_c2 X6_f2
            have H5 := hide (H.out.below BW.out)
            have X1_lt := X1.out.lt
            have X1_c0 := X1.out.at (i := 0) rfl; have X1_f0 := X1.out.frozen 0
            have X1_c1 := X1.out.at (i := 1) rfl; have X1_f1 := X1.out.frozen 1
            have X1_c2 := X1.out.at (i := 2) rfl; have X1_f2 := X1.out.frozen 2
            have X1_c3 := X1.out.at (i := 3) rfl; have X1_f3 := X1.out.frozen 3
            have X1_c4 := X1.out.at (i := 4) rfl; have X1_f4 := X1.out.frozen 4
            have X6_lt := X6.out.lt
            have X6_c0 := X6.out.at (i := 0) rfl; have X6_f0 := X6.out.frozen 0
            have X6_c1 := X6.out.at (i := 1) rfl; have X6_f1 := X6.out.frozen 1
            have X6_c2 := X6.out.at (i := 2) rfl; have X6_f2 := X6.out.frozen 2
            have KS : Hid (∀ W', Below W4.heap.size W4 W' → (W'.cell? ⟨w.heap.size, 0, none⟩ = some (.int .i64 t.n) ∧ W'.cell? ⟨w.heap.size, 1, none⟩ = some (.int .i64 t.room) ∧ W'.cell? ⟨w.heap.size, 2, none⟩ = some (.int .i64 t.f) ∧ W'.cell? ⟨w.heap.size, 3, none⟩ = some (.int .i64 t.d) ∧ W'.cell? ⟨w.heap.size, 4, none⟩ = some (.slice (some ⟨b, off, none⟩) t.rs.length c)) ∧ W'.cell? ⟨wr.heap.size, 0, none⟩ = some (.int .i64 (fn : Int)) ∧ W'.cell? ⟨wr.heap.size, 1, none⟩ = some (.int .i64 (tn : Int)) ∧ W'.cell? ⟨wr.heap.size, 2, none⟩ = some (.int .i64 0)) := fun W' bb => ⟨⟨(X1.out.below bb).at rfl, (X1.out.below bb).at rfl, (X1.out.below bb).at rfl, (X1.out.below bb).at rfl, (X1.out.below bb).at rfl⟩, (X6.out.below bb).at rfl, (X6.out.below bb).at rfl, (X6.out.below bb).at rfl⟩
            have KK : Hid (Below W4.heap.size W4 W4.drew) := (Below.refl _ _).drew
            refine wp_region_noPanic ?_
            refine wp_region_held_drew (S := (fun W => (W.cell? ⟨w.heap.size, 0, none⟩ = some (.int .i64 t.n) ∧ W.cell? ⟨w.heap.size, 1, none⟩ = some (.int .i64 t.room) ∧ W.cell? ⟨w.heap.size, 2, none⟩ = some (.int .i64 t.f) ∧ W.cell? ⟨w.heap.size, 3, none⟩ = some (.int .i64 t.d) ∧ W.cell? ⟨w.heap.size, 4, none⟩ = some (.slice (some ⟨b, off, none⟩) t.rs.length c)) ∧ W.cell? ⟨wr.heap.size, 0, none⟩ = some (.int .i64 (fn : Int)) ∧ W.cell? ⟨wr.heap.size, 1, none⟩ = some (.int .i64 (tn : Int)) ∧ W.cell? ⟨wr.heap.size, 2, none⟩ = some (.int .i64 0))) (by kernel_rfl) ?_ (fun hHeld => ?_)
            · exact KS.out _ KK.out
            (refine take_in (i := 0) (v := ?_) rfl (by rfl) (by kernel_rfl) (by kernel_rfl) (by kernel_rfl) (fun _ _ _ h => h) (by rfl) ?_ (by assumption) ?_; rotate_left; (focus ((intro w hSw; (try dsimp only at hSw); go_simp); (try with_reducible rfl); done)); (try simp only [List.setIfInBounds_toArray, List.set_cons_succ, List.set_cons_zero]))
            (refine take_in (i := 1) (v := ?_) rfl (by rfl) (by kernel_rfl) (by kernel_rfl) (by kernel_rfl) (fun _ _ _ h => h) (by rfl) ?_ (by assumption) ?_; rotate_left; (focus ((intro w hSw; (try dsimp only at hSw); go_simp); (try with_reducible rfl); done)); (try simp only [List.setIfInBounds_toArray, List.set_cons_succ, List.set_cons_zero]))
            (refine take_in (i := 2) (v := ?_) rfl (by rfl) (by kernel_rfl) (by kernel_rfl) (by kernel_rfl) (fun _ _ _ h => h) (by rfl) ?_ (by assumption) ?_; rotate_left; (focus ((intro w hSw; (try dsimp only at hSw); go_simp); (try with_reducible rfl); done)); (try simp only [List.setIfInBounds_toArray, List.set_cons_succ, List.set_cons_zero]))
            (refine take_in (i := 3) (v := ?_) rfl (by rfl) (by kernel_rfl) (by kernel_rfl) (by kernel_rfl) (fun _ _ _ h => h) (by rfl) ?_ (by assumption) ?_; rotate_left; (focus ((intro w hSw; (try dsimp only at hSw); go_simp); (try with_reducible rfl); done)); (try simp only [List.setIfInBounds_toArray, List.set_cons_succ, List.set_cons_zero]))
            first | (refine take_in (i := 4) (v := ?_) rfl (by rfl) (by kernel_rfl) (by kernel_rfl) (by kernel_rfl) (fun _ _ _ h => h) (by rfl) ?_ (by assumption) ?_; rotate_left; (focus ((intro w hSw; (try dsimp only at hSw); go_simp); (try with_reducible rfl); done)); (try simp only [List.setIfInBounds_toArray, List.set_cons_succ, List.set_cons_zero])) | (refine take_out (i := 4) rfl (by rfl) (by kernel_rfl) (by kernel_rfl) (by kernel_rfl) (fun _ _ _ h => h) (by rfl) (by assumption) ?_; (try simp only [List.setIfInBounds_toArray, List.set_cons_succ, List.set_cons_zero]))
            first | (refine take_in (i := 6) (v := ?_) rfl (by rfl) (by kernel_rfl) (by kernel_rfl) (by kernel_rfl) (fun _ _ _ h => h) (by rfl) ?_ (by assumption) ?_; rotate_left; (focus ((intro w hSw; (try dsimp only at hSw); go_simp); (try with_reducible rfl); done)); (try simp only [List.setIfInBounds_toArray, List.set_cons_succ, List.set_cons_zero])) | (refine take_out (i := 6) rfl (by rfl) (by kernel_rfl) (by kernel_rfl) (by kernel_rfl) (fun _ _ _ h => h) (by rfl) (by assumption) ?_; (try simp only [List.setIfInBounds_toArray, List.set_cons_succ, List.set_cons_zero]))
            first | (refine take_in (i := 7) (v := ?_) rfl (by rfl) (by kernel_rfl) (by kernel_rfl) (by kernel_rfl) (fun _ _ _ h => h) (by rfl) ?_ (by assumption) ?_; rotate_left; (focus ((intro w hSw; (try dsimp only at hSw); go_simp); (try with_reducible rfl); done)); (try simp only [List.setIfInBounds_toArray, List.set_cons_succ, List.set_cons_zero])) | (refine take_out (i := 7) rfl (by rfl) (by kernel_rfl) (by kernel_rfl) (by kernel_rfl) (fun _ _ _ h => h) (by rfl) (by assumption) ?_; (try simp only [List.setIfInBounds_toArray, List.set_cons_succ, List.set_cons_zero]))
            refine wpAnyH_ready (rs := [5]) (by kernel_rfl) (by simp) ?_
            refine AllReadyH.cons rfl (fun K hK => ?_) AllReadyH.nil
            go_simp
            go_at_call 46
            refine (l11Inside_any _ c t _ ?_ (by omega)).mono ?_
            · exact H5.out.below KK.out
            rintro e v ⟨rfl, bb⟩
            replace KK := hide (bthen KK.out bb)
            have zKK := KK.out.size
            clear bb
            go_wp2_with fail
            refine hK.out _ _ ?_ (fun hHeld => ?_)
            · exact KS.out _ KK.out
            clear hK K
            (try simp only [Act.put, List.setIfInBounds_toArray, List.set_cons_zero, List.set_cons_succ])
            first | (refine take_in (i := 8) (v := ?_) rfl (by rfl) (by kernel_rfl) (by kernel_rfl) (by kernel_rfl) (fun _ _ _ h => h) (by rfl) ?_ (by assumption) ?_; rotate_left; (focus ((intro w hSw; (try dsimp only at hSw); go_simp); (try with_reducible rfl); done)); (try simp only [List.setIfInBounds_toArray, List.set_cons_succ, List.set_cons_zero])) | (refine take_out (i := 8) rfl (by rfl) (by kernel_rfl) (by kernel_rfl) (by kernel_rfl) (fun _ _ _ h => h) (by rfl) (by assumption) ?_; (try simp only [List.setIfInBounds_toArray, List.set_cons_succ, List.set_cons_zero]))
            (refine take_in (i := 9) (v := ?_) rfl (by rfl) (by kernel_rfl) (by kernel_rfl) (by kernel_rfl) (fun _ _ _ h => h) (by rfl) ?_ (by assumption) ?_; rotate_left; (focus ((intro w hSw; (try dsimp only at hSw); go_simp); (try with_reducible rfl); done)); (try simp only [List.setIfInBounds_toArray, List.set_cons_succ, List.set_cons_zero]))
            (refine take_in (i := 10) (v := ?_) rfl (by rfl) (by kernel_rfl) (by kernel_rfl) (by kernel_rfl) (fun _ _ _ h => h) (by rfl) ?_ (by assumption) ?_; rotate_left; (focus ((intro w hSw; (try dsimp only at hSw); go_simp); (try with_reducible rfl); done)); (try simp only [List.setIfInBounds_toArray, List.set_cons_succ, List.set_cons_zero]))
            first | (refine take_in (i := 11) (v := ?_) rfl (by rfl) (by kernel_rfl) (by kernel_rfl) (by kernel_rfl) (fun _ _ _ h => h) (by rfl) ?_ (by assumption) ?_; rotate_left; (focus ((intro w hSw; (try dsimp only at hSw); go_simp); (try with_reducible rfl); done)); (try simp only [List.setIfInBounds_toArray, List.set_cons_succ, List.set_cons_zero])) | (refine take_out (i := 11) rfl (by rfl) (by kernel_rfl) (by kernel_rfl) (by kernel_rfl) (fun _ _ _ h => h) (by rfl) (by assumption) ?_; (try simp only [List.setIfInBounds_toArray, List.set_cons_succ, List.set_cons_zero]))
            first | (refine take_in (i := 12) (v := ?_) rfl (by rfl) (by kernel_rfl) (by kernel_rfl) (by kernel_rfl) (fun _ _ _ h => h) (by rfl) ?_ (by assumption) ?_; rotate_left; (focus ((intro w hSw; (try dsimp only at hSw); go_simp); (try with_reducible rfl); done)); (try simp only [List.setIfInBounds_toArray, List.set_cons_succ, List.set_cons_zero])) | (refine take_out (i := 12) rfl (by rfl) (by kernel_rfl) (by kernel_rfl) (by kernel_rfl) (fun _ _ _ h => h) (by rfl) (by assumption) ?_; (try simp only [List.setIfInBounds_toArray, List.set_cons_succ, List.set_cons_zero]))
            first | (refine take_in (i := 13) (v := ?_) rfl (by rfl) (by kernel_rfl) (by kernel_rfl) (by kernel_rfl) (fun _ _ _ h => h) (by rfl) ?_ (by assumption) ?_; rotate_left; (focus ((intro w hSw; (try dsimp only at hSw); go_simp); (try with_reducible rfl); done)); (try simp only [List.setIfInBounds_toArray, List.set_cons_succ, List.set_cons_zero])) | (refine take_out (i := 13) rfl (by rfl) (by kernel_rfl) (by kernel_rfl) (by kernel_rfl) (fun _ _ _ h => h) (by rfl) (by assumption) ?_; (try simp only [List.setIfInBounds_toArray, List.set_cons_succ, List.set_cons_zero]))
            first | (refine take_in (i := 14) (v := ?_) rfl (by rfl) (by kernel_rfl) (by kernel_rfl) (by kernel_rfl) (fun _ _ _ h => h) (by rfl) ?_ (by assumption) ?_; rotate_left; (focus ((intro w hSw; (try dsimp only at hSw); go_simp); (try with_reducible rfl); done)); (try simp only [List.setIfInBounds_toArray, List.set_cons_succ, List.set_cons_zero])) | (refine take_out (i := 14) rfl (by rfl) (by kernel_rfl) (by kernel_rfl) (by kernel_rfl) (fun _ _ _ h => h) (by rfl) (by assumption) ?_; (try simp only [List.setIfInBounds_toArray, List.set_cons_succ, List.set_cons_zero]))
            first | (refine take_in (i := 15) (v := ?_) rfl (by rfl) (by kernel_rfl) (by kernel_rfl) (by kernel_rfl) (fun _ _ _ h => h) (by rfl) ?_ (by assumption) ?_; rotate_left; (focus ((intro w hSw; (try dsimp only at hSw); go_simp); (try with_reducible rfl); done)); (try simp only [List.setIfInBounds_toArray, List.set_cons_succ, List.set_cons_zero])) | (refine take_out (i := 15) rfl (by rfl) (by kernel_rfl) (by kernel_rfl) (by kernel_rfl) (fun _ _ _ h => h) (by rfl) (by assumption) ?_; (try simp only [List.setIfInBounds_toArray, List.set_cons_succ, List.set_cons_zero]))
            (refine take_in (i := 16) (v := ?_) rfl (by rfl) (by kernel_rfl) (by kernel_rfl) (by kernel_rfl) (fun _ _ _ h => h) (by rfl) ?_ (by assumption) ?_; rotate_left; (focus ((intro w hSw; (try dsimp only at hSw); go_simp); (try with_reducible rfl); done)); (try simp only [List.setIfInBounds_toArray, List.set_cons_succ, List.set_cons_zero]))
            (refine take_in (i := 17) (v := ?_) rfl (by rfl) (by kernel_rfl) (by kernel_rfl) (by kernel_rfl) (fun _ _ _ h => h) (by rfl) ?_ (by assumption) ?_; rotate_left; (focus ((intro w hSw; (try dsimp only at hSw); go_simp); (try with_reducible rfl); done)); (try simp only [List.setIfInBounds_toArray, List.set_cons_succ, List.set_cons_zero]))
            refine wpAnyH_done (by kernel_rfl) ?_ _
            refine NoPanic.normal ?_
            clear KS
            clear X1_lt X1_c0 X1_f0 X1_c1 X1_f1 X1_c2 X1_f2 X1_c3 X1_f3 X1_c4 X1_f4
            clear X6_lt X6_c0 X6_f0 X6_c1 X6_f1 X6_c2 X6_f2
            have bb := KK.out
            have zbE := bb.size
            replace X1 := hide (X1.out.below bb)
            replace X2 := hide (X2.out.below bb)
            replace X3 := hide (X3.out.below bb)
            replace X6 := hide (X6.out.below bb)
            replace Q := hide (Q.out.below bb)
            replace BW := hide (bthen BW.out bb)
            clear bb
            obtain ⟨b2, o2, x2, rfl, g2, -, c2', f2⟩ := Q.out.up.at (k := fn) (by have := HLN.out k; omega)
            have Q2 := hide (Q.out.setUp (k := fn) (by have := HLN.out k; omega) true)
            have HS : Hid (callsTo t (k + 1) = _) := callsTo_up hr.out rfl HF.out HLT.out
            have n2 : ¬ b2 = w2.heap.size := by omega
            have n3 : ¬ b2 = wr.heap.size := by omega
            have i0 : (0 : Int) ≤ (fn : Int) := by omega
            have i1 : (fn : Int) < (N : Int) := by omega
            have X3_lt := X3.out.lt
            have X3_c0 := X3.out.at (i := 0) rfl; have X3_f0 := X3.out.frozen 0
            have X3_c1 := X3.out.at (i := 1) rfl; have X3_f1 := X3.out.frozen 1
            have X3_c2 := X3.out.at (i := 2) rfl; have X3_f2 := X3.out.frozen 2
            have X6_lt := X6.out.lt
            have X6_c0 := X6.out.at (i := 0) rfl; have X6_f0 := X6.out.frozen 0
            have X6_c1 := X6.out.at (i := 1) rfl; have X6_f1 := X6.out.frozen 1
            have X6_c2 := X6.out.at (i := 2) rfl; have X6_f2 := X6.out.frozen 2
            go_wp2_with fail
            go_roundw
            case rel =>
              have o := (Only.refl b2 (b2 + 1) v).setCell (p := ⟨b2, o2 + fn, none⟩) (Nat.le_refl _) (Nat.lt_succ_self _) (.bool true)
              exact ⟨k + 1, by omega, by go_num, by rw [HS.out]; exact Q2, X1.out.only o (by omega), X2.out.only o (by omega), X3.out.only o (by omega), Only.then BW.out o (by omega) (by omega), by simp [World.setCell]; omega⟩
            case measure => simp [intOf]; omega
          · have HLT : Hid ((tn : Int) ≤ (fn : Int)) := by unfold Hid; omega
            have hdd : decide ((fn : Int) < (tn : Int)) = false := decide_eq_false hdir
            have X6_lt := X6.out.lt
            have X6_c0 := X6.out.at (i := 0) rfl; have X6_f0 := X6.out.frozen 0
            have X6_c1 := X6.out.at (i := 1) rfl; have X6_f1 := X6.out.frozen 1
            have X6_c2 := X6.out.at (i := 2) rfl; have X6_f2 := X6.out.frozen 2
            go_wp2_with fail
            clear X6_lt X6_c0 X6_f0 X6_c1 X6_f1 X6_c2 X6_f2
            have H5 := hide (H.out.below BW.out)
            have X1_lt := X1.out.lt
            have X1_c0 := X1.out.at (i := 0) rfl; have X1_f0 := X1.out.frozen 0
            have X1_c1 := X1.out.at (i := 1) rfl; have X1_f1 := X1.out.frozen 1
            have X1_c2 := X1.out.at (i := 2) rfl; have X1_f2 := X1.out.frozen 2
            have X1_c3 := X1.out.at (i := 3) rfl; have X1_f3 := X1.out.frozen 3
            have X1_c4 := X1.out.at (i := 4) rfl; have X1_f4 := X1.out.frozen 4
            have X6_lt := X6.out.lt
            have X6_c0 := X6.out.at (i := 0) rfl; have X6_f0 := X6.out.frozen 0
            have X6_c1 := X6.out.at (i := 1) rfl; have X6_f1 := X6.out.frozen 1
            have X6_c2 := X6.out.at (i := 2) rfl; have X6_f2 := X6.out.frozen 2
            have KS : Hid (∀ W', Below W4.heap.size W4 W' → (W'.cell? ⟨w.heap.size, 0, none⟩ = some (.int .i64 t.n) ∧ W'.cell? ⟨w.heap.size, 1, none⟩ = some (.int .i64 t.room) ∧ W'.cell? ⟨w.heap.size, 2, none⟩ = some (.int .i64 t.f) ∧ W'.cell? ⟨w.heap.size, 3, none⟩ = some (.int .i64 t.d) ∧ W'.cell? ⟨w.heap.size, 4, none⟩ = some (.slice (some ⟨b, off, none⟩) t.rs.length c)) ∧ W'.cell? ⟨wr.heap.size, 0, none⟩ = some (.int .i64 (fn : Int)) ∧ W'.cell? ⟨wr.heap.size, 1, none⟩ = some (.int .i64 (tn : Int)) ∧ W'.cell? ⟨wr.heap.size, 2, none⟩ = some (.int .i64 0)) := fun W' bb => ⟨⟨(X1.out.below bb).at rfl, (X1.out.below bb).at rfl, (X1.out.below bb).at rfl, (X1.out.below bb).at rfl, (X1.out.below bb).at rfl⟩, (X6.out.below bb).at rfl, (X6.out.below bb).at rfl, (X6.out.below bb).at rfl⟩
            have KK : Hid (Below W4.heap.size W4 W4.drew) := (Below.refl _ _).drew
            refine wp_region_noPanic ?_
            refine wp_region_held_drew (S := (fun W => (W.cell? ⟨w.heap.size, 0, none⟩ = some (.int .i64 t.n) ∧ W.cell? ⟨w.heap.size, 1, none⟩ = some (.int .i64 t.room) ∧ W.cell? ⟨w.heap.size, 2, none⟩ = some (.int .i64 t.f) ∧ W.cell? ⟨w.heap.size, 3, none⟩ = some (.int .i64 t.d) ∧ W.cell? ⟨w.heap.size, 4, none⟩ = some (.slice (some ⟨b, off, none⟩) t.rs.length c)) ∧ W.cell? ⟨wr.heap.size, 0, none⟩ = some (.int .i64 (fn : Int)) ∧ W.cell? ⟨wr.heap.size, 1, none⟩ = some (.int .i64 (tn : Int)) ∧ W.cell? ⟨wr.heap.size, 2, none⟩ = some (.int .i64 0))) (by kernel_rfl) ?_ (fun hHeld => ?_)
            · exact KS.out _ KK.out
            (refine take_in (i := 0) (v := ?_) rfl (by rfl) (by kernel_rfl) (by kernel_rfl) (by kernel_rfl) (fun _ _ _ h => h) (by rfl) ?_ (by assumption) ?_; rotate_left; (focus ((intro w hSw; (try dsimp only at hSw); go_simp); (try with_reducible rfl); done)); (try simp only [List.setIfInBounds_toArray, List.set_cons_succ, List.set_cons_zero]))
            (refine take_in (i := 1) (v := ?_) rfl (by rfl) (by kernel_rfl) (by kernel_rfl) (by kernel_rfl) (fun _ _ _ h => h) (by rfl) ?_ (by assumption) ?_; rotate_left; (focus ((intro w hSw; (try dsimp only at hSw); go_simp); (try with_reducible rfl); done)); (try simp only [List.setIfInBounds_toArray, List.set_cons_succ, List.set_cons_zero]))
            (refine take_in (i := 2) (v := ?_) rfl (by rfl) (by kernel_rfl) (by kernel_rfl) (by kernel_rfl) (fun _ _ _ h => h) (by rfl) ?_ (by assumption) ?_; rotate_left; (focus ((intro w hSw; (try dsimp only at hSw); go_simp); (try with_reducible rfl); done)); (try simp only [List.setIfInBounds_toArray, List.set_cons_succ, List.set_cons_zero]))
            (refine take_in (i := 3) (v := ?_) rfl (by rfl) (by kernel_rfl) (by kernel_rfl) (by kernel_rfl) (fun _ _ _ h => h) (by rfl) ?_ (by assumption) ?_; rotate_left; (focus ((intro w hSw; (try dsimp only at hSw); go_simp); (try with_reducible rfl); done)); (try simp only [List.setIfInBounds_toArray, List.set_cons_succ, List.set_cons_zero]))
            first | (refine take_in (i := 4) (v := ?_) rfl (by rfl) (by kernel_rfl) (by kernel_rfl) (by kernel_rfl) (fun _ _ _ h => h) (by rfl) ?_ (by assumption) ?_; rotate_left; (focus ((intro w hSw; (try dsimp only at hSw); go_simp); (try with_reducible rfl); done)); (try simp only [List.setIfInBounds_toArray, List.set_cons_succ, List.set_cons_zero])) | (refine take_out (i := 4) rfl (by rfl) (by kernel_rfl) (by kernel_rfl) (by kernel_rfl) (fun _ _ _ h => h) (by rfl) (by assumption) ?_; (try simp only [List.setIfInBounds_toArray, List.set_cons_succ, List.set_cons_zero]))
            first | (refine take_in (i := 6) (v := ?_) rfl (by rfl) (by kernel_rfl) (by kernel_rfl) (by kernel_rfl) (fun _ _ _ h => h) (by rfl) ?_ (by assumption) ?_; rotate_left; (focus ((intro w hSw; (try dsimp only at hSw); go_simp); (try with_reducible rfl); done)); (try simp only [List.setIfInBounds_toArray, List.set_cons_succ, List.set_cons_zero])) | (refine take_out (i := 6) rfl (by rfl) (by kernel_rfl) (by kernel_rfl) (by kernel_rfl) (fun _ _ _ h => h) (by rfl) (by assumption) ?_; (try simp only [List.setIfInBounds_toArray, List.set_cons_succ, List.set_cons_zero]))
            first | (refine take_in (i := 7) (v := ?_) rfl (by rfl) (by kernel_rfl) (by kernel_rfl) (by kernel_rfl) (fun _ _ _ h => h) (by rfl) ?_ (by assumption) ?_; rotate_left; (focus ((intro w hSw; (try dsimp only at hSw); go_simp); (try with_reducible rfl); done)); (try simp only [List.setIfInBounds_toArray, List.set_cons_succ, List.set_cons_zero])) | (refine take_out (i := 7) rfl (by rfl) (by kernel_rfl) (by kernel_rfl) (by kernel_rfl) (fun _ _ _ h => h) (by rfl) (by assumption) ?_; (try simp only [List.setIfInBounds_toArray, List.set_cons_succ, List.set_cons_zero]))
            refine wpAnyH_ready (rs := [5]) (by kernel_rfl) (by simp) ?_
            refine AllReadyH.cons rfl (fun K hK => ?_) AllReadyH.nil
            go_simp
            go_at_call 46
            refine (l11Inside_any _ c t _ ?_ (by omega)).mono ?_
            · exact H5.out.below KK.out
            rintro e v ⟨rfl, bb⟩
            replace KK := hide (bthen KK.out bb)
            have zKK := KK.out.size
            clear bb
            go_wp2_with fail
            refine hK.out _ _ ?_ (fun hHeld => ?_)
            · exact KS.out _ KK.out
            clear hK K
            (try simp only [Act.put, List.setIfInBounds_toArray, List.set_cons_zero, List.set_cons_succ])
            first | (refine take_in (i := 8) (v := ?_) rfl (by rfl) (by kernel_rfl) (by kernel_rfl) (by kernel_rfl) (fun _ _ _ h => h) (by rfl) ?_ (by assumption) ?_; rotate_left; (focus ((intro w hSw; (try dsimp only at hSw); go_simp); (try with_reducible rfl); done)); (try simp only [List.setIfInBounds_toArray, List.set_cons_succ, List.set_cons_zero])) | (refine take_out (i := 8) rfl (by rfl) (by kernel_rfl) (by kernel_rfl) (by kernel_rfl) (fun _ _ _ h => h) (by rfl) (by assumption) ?_; (try simp only [List.setIfInBounds_toArray, List.set_cons_succ, List.set_cons_zero]))
            (refine take_in (i := 9) (v := ?_) rfl (by rfl) (by kernel_rfl) (by kernel_rfl) (by kernel_rfl) (fun _ _ _ h => h) (by rfl) ?_ (by assumption) ?_; rotate_left; (focus ((intro w hSw; (try dsimp only at hSw); go_simp); (try with_reducible rfl); done)); (try simp only [List.setIfInBounds_toArray, List.set_cons_succ, List.set_cons_zero]))
            (refine take_in (i := 10) (v := ?_) rfl (by rfl) (by kernel_rfl) (by kernel_rfl) (by kernel_rfl) (fun _ _ _ h => h) (by rfl) ?_ (by assumption) ?_; rotate_left; (focus ((intro w hSw; (try dsimp only at hSw); go_simp); (try with_reducible rfl); done)); (try simp only [List.setIfInBounds_toArray, List.set_cons_succ, List.set_cons_zero]))
            first | (refine take_in (i := 11) (v := ?_) rfl (by rfl) (by kernel_rfl) (by kernel_rfl) (by kernel_rfl) (fun _ _ _ h => h) (by rfl) ?_ (by assumption) ?_; rotate_left; (focus ((intro w hSw; (try dsimp only at hSw); go_simp); (try with_reducible rfl); done)); (try simp only [List.setIfInBounds_toArray, List.set_cons_succ, List.set_cons_zero])) | (refine take_out (i := 11) rfl (by rfl) (by kernel_rfl) (by kernel_rfl) (by kernel_rfl) (fun _ _ _ h => h) (by rfl) (by assumption) ?_; (try simp only [List.setIfInBounds_toArray, List.set_cons_succ, List.set_cons_zero]))
            first | (refine take_in (i := 12) (v := ?_) rfl (by rfl) (by kernel_rfl) (by kernel_rfl) (by kernel_rfl) (fun _ _ _ h => h) (by rfl) ?_ (by assumption) ?_; rotate_left; (focus ((intro w hSw; (try dsimp only at hSw); go_simp); (try with_reducible rfl); done)); (try simp only [List.setIfInBounds_toArray, List.set_cons_succ, List.set_cons_zero])) | (refine take_out (i := 12) rfl (by rfl) (by kernel_rfl) (by kernel_rfl) (by kernel_rfl) (fun _ _ _ h => h) (by rfl) (by assumption) ?_; (try simp only [List.setIfInBounds_toArray, List.set_cons_succ, List.set_cons_zero]))
            first | (refine take_in (i := 13) (v := ?_) rfl (by rfl) (by kernel_rfl) (by kernel_rfl) (by kernel_rfl) (fun _ _ _ h => h) (by rfl) ?_ (by assumption) ?_; rotate_left; (focus ((intro w hSw; (try dsimp only at hSw); go_simp); (try with_reducible rfl); done)); (try simp only [List.setIfInBounds_toArray, List.set_cons_succ, List.set_cons_zero])) | (refine take_out (i := 13) rfl (by rfl) (by kernel_rfl) (by kernel_rfl) (by kernel_rfl) (fun _ _ _ h => h) (by rfl) (by assumption) ?_; (try simp only [List.setIfInBounds_toArray, List.set_cons_succ, List.set_cons_zero]))
            first | (refine take_in (i := 14) (v := ?_) rfl (by rfl) (by kernel_rfl) (by kernel_rfl) (by kernel_rfl) (fun _ _ _ h => h) (by rfl) ?_ (by assumption) ?_; rotate_left; (focus ((intro w hSw; (try dsimp only at hSw); go_simp); (try with_reducible rfl); done)); (try simp only [List.setIfInBounds_toArray, List.set_cons_succ, List.set_cons_zero])) | (refine take_out (i := 14) rfl (by rfl) (by kernel_rfl) (by kernel_rfl) (by kernel_rfl) (fun _ _ _ h => h) (by rfl) (by assumption) ?_; (try simp only [List.setIfInBounds_toArray, List.set_cons_succ, List.set_cons_zero]))
            first | (refine take_in (i := 15) (v := ?_) rfl (by rfl) (by kernel_rfl) (by kernel_rfl) (by kernel_rfl) (fun _ _ _ h => h) (by rfl) ?_ (by assumption) ?_; rotate_left; (focus ((intro w hSw; (try dsimp only at hSw); go_simp); (try with_reducible rfl); done)); (try simp only [List.setIfInBounds_toArray, List.set_cons_succ, List.set_cons_zero])) | (refine take_out (i := 15) rfl (by rfl) (by kernel_rfl) (by kernel_rfl) (by kernel_rfl) (fun _ _ _ h => h) (by rfl) (by assumption) ?_; (try simp only [List.setIfInBounds_toArray, List.set_cons_succ, List.set_cons_zero]))
            (refine take_in (i := 16) (v := ?_) rfl (by rfl) (by kernel_rfl) (by kernel_rfl) (by kernel_rfl) (fun _ _ _ h => h) (by rfl) ?_ (by assumption) ?_; rotate_left; (focus ((intro w hSw; (try dsimp only at hSw); go_simp); (try with_reducible rfl); done)); (try simp only [List.setIfInBounds_toArray, List.set_cons_succ, List.set_cons_zero]))
            (refine take_in (i := 17) (v := ?_) rfl (by rfl) (by kernel_rfl) (by kernel_rfl) (by kernel_rfl) (fun _ _ _ h => h) (by rfl) ?_ (by assumption) ?_; rotate_left; (focus ((intro w hSw; (try dsimp only at hSw); go_simp); (try with_reducible rfl); done)); (try simp only [List.setIfInBounds_toArray, List.set_cons_succ, List.set_cons_zero]))
            refine wpAnyH_done (by kernel_rfl) ?_ _
            refine NoPanic.normal ?_
            clear KS
            clear X1_lt X1_c0 X1_f0 X1_c1 X1_f1 X1_c2 X1_f2 X1_c3 X1_f3 X1_c4 X1_f4
            clear X6_lt X6_c0 X6_f0 X6_c1 X6_f1 X6_c2 X6_f2
            go_wp2_with fail
            refine code_name fun W7 hW => ?_
            have bb : Below W4.heap.size W4 W7 := by rw [hW]; exact KK.out
            have zbW7 := bb.size
            replace X1 := hide (X1.out.below bb)
            replace X2 := hide (X2.out.below bb)
            replace X3 := hide (X3.out.below bb)
            replace X6 := hide (X6.out.below bb)
            replace Q := hide (Q.out.below bb)
            replace BW := hide (bthen BW.out bb)
            clear bb
            clear KK H5 hW
            have H5 := hide (H.out.below BW.out)
            have X1_lt := X1.out.lt
            have X1_c0 := X1.out.at (i := 0) rfl; have X1_f0 := X1.out.frozen 0
            have X1_c1 := X1.out.at (i := 1) rfl; have X1_f1 := X1.out.frozen 1
            have X1_c2 := X1.out.at (i := 2) rfl; have X1_f2 := X1.out.frozen 2
            have X1_c3 := X1.out.at (i := 3) rfl; have X1_f3 := X1.out.frozen 3
            have X1_c4 := X1.out.at (i := 4) rfl; have X1_f4 := X1.out.frozen 4
            have X6_lt := X6.out.lt
            have X6_c0 := X6.out.at (i := 0) rfl; have X6_f0 := X6.out.frozen 0
            have X6_c1 := X6.out.at (i := 1) rfl; have X6_f1 := X6.out.frozen 1
            have X6_c2 := X6.out.at (i := 2) rfl; have X6_f2 := X6.out.frozen 2
            have KS : Hid (∀ W', Below W7.heap.size W7 W' → (W'.cell? ⟨w.heap.size, 0, none⟩ = some (.int .i64 t.n) ∧ W'.cell? ⟨w.heap.size, 1, none⟩ = some (.int .i64 t.room) ∧ W'.cell? ⟨w.heap.size, 2, none⟩ = some (.int .i64 t.f) ∧ W'.cell? ⟨w.heap.size, 3, none⟩ = some (.int .i64 t.d) ∧ W'.cell? ⟨w.heap.size, 4, none⟩ = some (.slice (some ⟨b, off, none⟩) t.rs.length c)) ∧ W'.cell? ⟨wr.heap.size, 0, none⟩ = some (.int .i64 (fn : Int)) ∧ W'.cell? ⟨wr.heap.size, 1, none⟩ = some (.int .i64 (tn : Int)) ∧ W'.cell? ⟨wr.heap.size, 2, none⟩ = some (.int .i64 0)) := fun W' bb => ⟨⟨(X1.out.below bb).at rfl, (X1.out.below bb).at rfl, (X1.out.below bb).at rfl, (X1.out.below bb).at rfl, (X1.out.below bb).at rfl⟩, (X6.out.below bb).at rfl, (X6.out.below bb).at rfl, (X6.out.below bb).at rfl⟩
            have KK : Hid (Below W7.heap.size W7 W7.drew) := (Below.refl _ _).drew
            refine wp_region_noPanic ?_
            refine wp_region_held_drew (S := (fun W => (W.cell? ⟨w.heap.size, 0, none⟩ = some (.int .i64 t.n) ∧ W.cell? ⟨w.heap.size, 1, none⟩ = some (.int .i64 t.room) ∧ W.cell? ⟨w.heap.size, 2, none⟩ = some (.int .i64 t.f) ∧ W.cell? ⟨w.heap.size, 3, none⟩ = some (.int .i64 t.d) ∧ W.cell? ⟨w.heap.size, 4, none⟩ = some (.slice (some ⟨b, off, none⟩) t.rs.length c)) ∧ W.cell? ⟨wr.heap.size, 0, none⟩ = some (.int .i64 (fn : Int)) ∧ W.cell? ⟨wr.heap.size, 1, none⟩ = some (.int .i64 (tn : Int)) ∧ W.cell? ⟨wr.heap.size, 2, none⟩ = some (.int .i64 0))) (by kernel_rfl) ?_ (fun hHeld => ?_)
            · exact KS.out _ KK.out
            (refine take_in (i := 0) (v := ?_) rfl (by rfl) (by kernel_rfl) (by kernel_rfl) (by kernel_rfl) (fun _ _ _ h => h) (by rfl) ?_ (by assumption) ?_; rotate_left; (focus ((intro w hSw; (try dsimp only at hSw); go_simp); (try with_reducible rfl); done)); (try simp only [List.setIfInBounds_toArray, List.set_cons_succ, List.set_cons_zero]))
            (refine take_in (i := 1) (v := ?_) rfl (by rfl) (by kernel_rfl) (by kernel_rfl) (by kernel_rfl) (fun _ _ _ h => h) (by rfl) ?_ (by assumption) ?_; rotate_left; (focus ((intro w hSw; (try dsimp only at hSw); go_simp); (try with_reducible rfl); done)); (try simp only [List.setIfInBounds_toArray, List.set_cons_succ, List.set_cons_zero]))
            (refine take_in (i := 2) (v := ?_) rfl (by rfl) (by kernel_rfl) (by kernel_rfl) (by kernel_rfl) (fun _ _ _ h => h) (by rfl) ?_ (by assumption) ?_; rotate_left; (focus ((intro w hSw; (try dsimp only at hSw); go_simp); (try with_reducible rfl); done)); (try simp only [List.setIfInBounds_toArray, List.set_cons_succ, List.set_cons_zero]))
            (refine take_in (i := 3) (v := ?_) rfl (by rfl) (by kernel_rfl) (by kernel_rfl) (by kernel_rfl) (fun _ _ _ h => h) (by rfl) ?_ (by assumption) ?_; rotate_left; (focus ((intro w hSw; (try dsimp only at hSw); go_simp); (try with_reducible rfl); done)); (try simp only [List.setIfInBounds_toArray, List.set_cons_succ, List.set_cons_zero]))
            first | (refine take_in (i := 4) (v := ?_) rfl (by rfl) (by kernel_rfl) (by kernel_rfl) (by kernel_rfl) (fun _ _ _ h => h) (by rfl) ?_ (by assumption) ?_; rotate_left; (focus ((intro w hSw; (try dsimp only at hSw); go_simp); (try with_reducible rfl); done)); (try simp only [List.setIfInBounds_toArray, List.set_cons_succ, List.set_cons_zero])) | (refine take_out (i := 4) rfl (by rfl) (by kernel_rfl) (by kernel_rfl) (by kernel_rfl) (fun _ _ _ h => h) (by rfl) (by assumption) ?_; (try simp only [List.setIfInBounds_toArray, List.set_cons_succ, List.set_cons_zero]))
            first | (refine take_in (i := 6) (v := ?_) rfl (by rfl) (by kernel_rfl) (by kernel_rfl) (by kernel_rfl) (fun _ _ _ h => h) (by rfl) ?_ (by assumption) ?_; rotate_left; (focus ((intro w hSw; (try dsimp only at hSw); go_simp); (try with_reducible rfl); done)); (try simp only [List.setIfInBounds_toArray, List.set_cons_succ, List.set_cons_zero])) | (refine take_out (i := 6) rfl (by rfl) (by kernel_rfl) (by kernel_rfl) (by kernel_rfl) (fun _ _ _ h => h) (by rfl) (by assumption) ?_; (try simp only [List.setIfInBounds_toArray, List.set_cons_succ, List.set_cons_zero]))
            first | (refine take_in (i := 7) (v := ?_) rfl (by rfl) (by kernel_rfl) (by kernel_rfl) (by kernel_rfl) (fun _ _ _ h => h) (by rfl) ?_ (by assumption) ?_; rotate_left; (focus ((intro w hSw; (try dsimp only at hSw); go_simp); (try with_reducible rfl); done)); (try simp only [List.setIfInBounds_toArray, List.set_cons_succ, List.set_cons_zero])) | (refine take_out (i := 7) rfl (by rfl) (by kernel_rfl) (by kernel_rfl) (by kernel_rfl) (fun _ _ _ h => h) (by rfl) (by assumption) ?_; (try simp only [List.setIfInBounds_toArray, List.set_cons_succ, List.set_cons_zero]))
            refine wpAnyH_ready (rs := [5]) (by kernel_rfl) (by simp) ?_
            refine AllReadyH.cons rfl (fun K hK => ?_) AllReadyH.nil
            go_simp
            go_at_call 46
            refine (l11Inside_any _ c t _ ?_ (by omega)).mono ?_
            · exact H5.out.below KK.out
            rintro e v ⟨rfl, bb⟩
            replace KK := hide (bthen KK.out bb)
            have zKK := KK.out.size
            clear bb
            go_wp2_with fail
            refine hK.out _ _ ?_ (fun hHeld => ?_)
            · exact KS.out _ KK.out
            clear hK K
            (try simp only [Act.put, List.setIfInBounds_toArray, List.set_cons_zero, List.set_cons_succ])
            first | (refine take_in (i := 8) (v := ?_) rfl (by rfl) (by kernel_rfl) (by kernel_rfl) (by kernel_rfl) (fun _ _ _ h => h) (by rfl) ?_ (by assumption) ?_; rotate_left; (focus ((intro w hSw; (try dsimp only at hSw); go_simp); (try with_reducible rfl); done)); (try simp only [List.setIfInBounds_toArray, List.set_cons_succ, List.set_cons_zero])) | (refine take_out (i := 8) rfl (by rfl) (by kernel_rfl) (by kernel_rfl) (by kernel_rfl) (fun _ _ _ h => h) (by rfl) (by assumption) ?_; (try simp only [List.setIfInBounds_toArray, List.set_cons_succ, List.set_cons_zero]))
            (refine take_in (i := 9) (v := ?_) rfl (by rfl) (by kernel_rfl) (by kernel_rfl) (by kernel_rfl) (fun _ _ _ h => h) (by rfl) ?_ (by assumption) ?_; rotate_left; (focus ((intro w hSw; (try dsimp only at hSw); go_simp); (try with_reducible rfl); done)); (try simp only [List.setIfInBounds_toArray, List.set_cons_succ, List.set_cons_zero]))
            (refine take_in (i := 10) (v := ?_) rfl (by rfl) (by kernel_rfl) (by kernel_rfl) (by kernel_rfl) (fun _ _ _ h => h) (by rfl) ?_ (by assumption) ?_; rotate_left; (focus ((intro w hSw; (try dsimp only at hSw); go_simp); (try with_reducible rfl); done)); (try simp only [List.setIfInBounds_toArray, List.set_cons_succ, List.set_cons_zero]))
            refine wpAnyH_done (by kernel_rfl) ?_ _
            refine NoPanic.normal ?_
            clear KS
            clear X1_lt X1_c0 X1_f0 X1_c1 X1_f1 X1_c2 X1_f2 X1_c3 X1_f3 X1_c4 X1_f4
            clear X6_lt X6_c0 X6_f0 X6_c1 X6_f1 X6_c2 X6_f2
            have bb := KK.out
            have zbE := bb.size
            replace X1 := hide (X1.out.below bb)
            replace X2 := hide (X2.out.below bb)
            replace X3 := hide (X3.out.below bb)
            replace X6 := hide (X6.out.below bb)
            replace Q := hide (Q.out.below bb)
            replace BW := hide (bthen BW.out bb)
            clear bb
            obtain ⟨b2, o2, x2, rfl, g2, -, c2', f2⟩ := Q.out.dn.at (k := fn) (by have := HLN.out k; omega)
            have Q2 := hide (Q.out.setDn (k := fn) (by have := HLN.out k; omega) true)
            have HS : Hid (callsTo t (k + 1) = _) := callsTo_dn hr.out rfl HF.out (by have := HLT.out; simp only; omega)
            have n2 : ¬ b2 = w2.heap.size := by omega
            have n3 : ¬ b2 = wr.heap.size := by omega
            have i0 : (0 : Int) ≤ (fn : Int) := by omega
            have i1 : (fn : Int) < (N : Int) := by omega
            have X3_lt := X3.out.lt
            have X3_c0 := X3.out.at (i := 0) rfl; have X3_f0 := X3.out.frozen 0
            have X3_c1 := X3.out.at (i := 1) rfl; have X3_f1 := X3.out.frozen 1
            have X3_c2 := X3.out.at (i := 2) rfl; have X3_f2 := X3.out.frozen 2
            have X6_lt := X6.out.lt
            have X6_c0 := X6.out.at (i := 0) rfl; have X6_f0 := X6.out.frozen 0
            have X6_c1 := X6.out.at (i := 1) rfl; have X6_f1 := X6.out.frozen 1
            have X6_c2 := X6.out.at (i := 2) rfl; have X6_f2 := X6.out.frozen 2
            go_wp2_with fail
            go_roundw
            case rel =>
              have o := (Only.refl b2 (b2 + 1) v).setCell (p := ⟨b2, o2 + fn, none⟩) (Nat.le_refl _) (Nat.lt_succ_self _) (.bool true)
              exact ⟨k + 1, by omega, by go_num, by rw [HS.out]; exact Q2, X1.out.only o (by omega), X2.out.only o (by omega), X3.out.only o (by omega), Only.then BW.out o (by omega) (by omega), by simp [World.setCell]; omega⟩
            case measure => simp [intOf]; omega
      · skip
        obtain ⟨b2, o2, x2, rfl, g2, -, c2', f2⟩ := Q.out.car.at (k := tn) (by have := HLN.out k; omega)
        have Q2 := hide (Q.out.setCar (k := tn) (by have := HLN.out k; omega) true)
        have HS : Hid (callsTo t (k + 1) = _) := callsTo_car hr.out rfl
        have n2 : ¬ b2 = w2.heap.size := by omega
        have n3 : ¬ b2 = wr.heap.size := by omega
        have i0 : (0 : Int) ≤ (tn : Int) := by omega
        have i1 : (tn : Int) < (N : Int) := by omega
        have X3_lt := X3.out.lt
        have X3_c0 := X3.out.at (i := 0) rfl; have X3_f0 := X3.out.frozen 0
        have X3_c1 := X3.out.at (i := 1) rfl; have X3_f1 := X3.out.frozen 1
        have X3_c2 := X3.out.at (i := 2) rfl; have X3_f2 := X3.out.frozen 2
        have X6_lt := X6.out.lt
        have X6_c0 := X6.out.at (i := 0) rfl; have X6_f0 := X6.out.frozen 0
        have X6_c1 := X6.out.at (i := 1) rfl; have X6_f1 := X6.out.frozen 1
        have X6_c2 := X6.out.at (i := 2) rfl; have X6_f2 := X6.out.frozen 2
        go_wp2_with fail
        go_roundw
        case rel =>
          have o := (Only.refl b2 (b2 + 1) W4).setCell (p := ⟨b2, o2 + tn, none⟩) (Nat.le_refl _) (Nat.lt_succ_self _) (.bool true)
          exact ⟨k + 1, by omega, by go_num, by rw [HS.out]; exact Q2, X1.out.only o (by omega), X2.out.only o (by omega), X3.out.only o (by omega), Only.then BW.out o (by omega) (by omega), by simp [World.setCell]; omega⟩
        case measure => simp [intOf]; omega
      · have X6_lt := X6.out.lt
        have X6_c0 := X6.out.at (i := 0) rfl; have X6_f0 := X6.out.frozen 0
        have X6_c1 := X6.out.at (i := 1) rfl; have X6_f1 := X6.out.frozen 1
        have X6_c2 := X6.out.at (i := 2) rfl; have X6_f2 := X6.out.frozen 2
        go_wp2_with fail
        clear X6_lt X6_c0 X6_f0 X6_c1 X6_f1 X6_c2 X6_f2
        have H5 := hide (H.out.below BW.out)
        have X1_lt := X1.out.lt
        have X1_c0 := X1.out.at (i := 0) rfl; have X1_f0 := X1.out.frozen 0
        have X1_c1 := X1.out.at (i := 1) rfl; have X1_f1 := X1.out.frozen 1
        have X1_c2 := X1.out.at (i := 2) rfl; have X1_f2 := X1.out.frozen 2
        have X1_c3 := X1.out.at (i := 3) rfl; have X1_f3 := X1.out.frozen 3
        have X1_c4 := X1.out.at (i := 4) rfl; have X1_f4 := X1.out.frozen 4
        have X6_lt := X6.out.lt
        have X6_c0 := X6.out.at (i := 0) rfl; have X6_f0 := X6.out.frozen 0
        have X6_c1 := X6.out.at (i := 1) rfl; have X6_f1 := X6.out.frozen 1
        have X6_c2 := X6.out.at (i := 2) rfl; have X6_f2 := X6.out.frozen 2
        have KS : Hid (∀ W', Below W4.heap.size W4 W' → (W'.cell? ⟨w.heap.size, 0, none⟩ = some (.int .i64 t.n) ∧ W'.cell? ⟨w.heap.size, 1, none⟩ = some (.int .i64 t.room) ∧ W'.cell? ⟨w.heap.size, 2, none⟩ = some (.int .i64 t.f) ∧ W'.cell? ⟨w.heap.size, 3, none⟩ = some (.int .i64 t.d) ∧ W'.cell? ⟨w.heap.size, 4, none⟩ = some (.slice (some ⟨b, off, none⟩) t.rs.length c)) ∧ W'.cell? ⟨wr.heap.size, 0, none⟩ = some (.int .i64 (fn : Int)) ∧ W'.cell? ⟨wr.heap.size, 1, none⟩ = some (.int .i64 (tn : Int)) ∧ W'.cell? ⟨wr.heap.size, 2, none⟩ = some (.int .i64 2)) := fun W' bb => ⟨⟨(X1.out.below bb).at rfl, (X1.out.below bb).at rfl, (X1.out.below bb).at rfl, (X1.out.below bb).at rfl, (X1.out.below bb).at rfl⟩, (X6.out.below bb).at rfl, (X6.out.below bb).at rfl, (X6.out.below bb).at rfl⟩
        have KK : Hid (Below W4.heap.size W4 W4.drew) := (Below.refl _ _).drew
        refine wp_region_noPanic ?_
        refine wp_region_held_drew (S := (fun W => (W.cell? ⟨w.heap.size, 0, none⟩ = some (.int .i64 t.n) ∧ W.cell? ⟨w.heap.size, 1, none⟩ = some (.int .i64 t.room) ∧ W.cell? ⟨w.heap.size, 2, none⟩ = some (.int .i64 t.f) ∧ W.cell? ⟨w.heap.size, 3, none⟩ = some (.int .i64 t.d) ∧ W.cell? ⟨w.heap.size, 4, none⟩ = some (.slice (some ⟨b, off, none⟩) t.rs.length c)) ∧ W.cell? ⟨wr.heap.size, 0, none⟩ = some (.int .i64 (fn : Int)) ∧ W.cell? ⟨wr.heap.size, 1, none⟩ = some (.int .i64 (tn : Int)) ∧ W.cell? ⟨wr.heap.size, 2, none⟩ = some (.int .i64 2))) (by kernel_rfl) ?_ (fun hHeld => ?_)
        · exact KS.out _ KK.out
        (refine take_in (i := 0) (v := ?_) rfl (by rfl) (by kernel_rfl) (by kernel_rfl) (by kernel_rfl) (fun _ _ _ h => h) (by rfl) ?_ (by assumption) ?_; rotate_left; (focus ((intro w hSw; (try dsimp only at hSw); go_simp); (try with_reducible rfl); done)); (try simp only [List.setIfInBounds_toArray, List.set_cons_succ, List.set_cons_zero]))
        (refine take_in (i := 1) (v := ?_) rfl (by rfl) (by kernel_rfl) (by kernel_rfl) (by kernel_rfl) (fun _ _ _ h => h) (by rfl) ?_ (by assumption) ?_; rotate_left; (focus ((intro w hSw; (try dsimp only at hSw); go_simp); (try with_reducible rfl); done)); (try simp only [List.setIfInBounds_toArray, List.set_cons_succ, List.set_cons_zero]))
        (refine take_in (i := 2) (v := ?_) rfl (by rfl) (by kernel_rfl) (by kernel_rfl) (by kernel_rfl) (fun _ _ _ h => h) (by rfl) ?_ (by assumption) ?_; rotate_left; (focus ((intro w hSw; (try dsimp only at hSw); go_simp); (try with_reducible rfl); done)); (try simp only [List.setIfInBounds_toArray, List.set_cons_succ, List.set_cons_zero]))
        (refine take_in (i := 3) (v := ?_) rfl (by rfl) (by kernel_rfl) (by kernel_rfl) (by kernel_rfl) (fun _ _ _ h => h) (by rfl) ?_ (by assumption) ?_; rotate_left; (focus ((intro w hSw; (try dsimp only at hSw); go_simp); (try with_reducible rfl); done)); (try simp only [List.setIfInBounds_toArray, List.set_cons_succ, List.set_cons_zero]))
        first | (refine take_in (i := 4) (v := ?_) rfl (by rfl) (by kernel_rfl) (by kernel_rfl) (by kernel_rfl) (fun _ _ _ h => h) (by rfl) ?_ (by assumption) ?_; rotate_left; (focus ((intro w hSw; (try dsimp only at hSw); go_simp); (try with_reducible rfl); done)); (try simp only [List.setIfInBounds_toArray, List.set_cons_succ, List.set_cons_zero])) | (refine take_out (i := 4) rfl (by rfl) (by kernel_rfl) (by kernel_rfl) (by kernel_rfl) (fun _ _ _ h => h) (by rfl) (by assumption) ?_; (try simp only [List.setIfInBounds_toArray, List.set_cons_succ, List.set_cons_zero]))
        (refine take_out (i := 5) rfl (by rfl) (by kernel_rfl) (by kernel_rfl) (by kernel_rfl) (fun _ _ _ h => h) (by rfl) (by assumption) ?_; (try simp only [List.setIfInBounds_toArray, List.set_cons_succ, List.set_cons_zero]))
        first | (refine take_in (i := 6) (v := ?_) rfl (by rfl) (by kernel_rfl) (by kernel_rfl) (by kernel_rfl) (fun _ _ _ h => h) (by rfl) ?_ (by assumption) ?_; rotate_left; (focus ((intro w hSw; (try dsimp only at hSw); go_simp); (try with_reducible rfl); done)); (try simp only [List.setIfInBounds_toArray, List.set_cons_succ, List.set_cons_zero])) | (refine take_out (i := 6) rfl (by rfl) (by kernel_rfl) (by kernel_rfl) (by kernel_rfl) (fun _ _ _ h => h) (by rfl) (by assumption) ?_; (try simp only [List.setIfInBounds_toArray, List.set_cons_succ, List.set_cons_zero]))
        first | (refine take_in (i := 7) (v := ?_) rfl (by rfl) (by kernel_rfl) (by kernel_rfl) (by kernel_rfl) (fun _ _ _ h => h) (by rfl) ?_ (by assumption) ?_; rotate_left; (focus ((intro w hSw; (try dsimp only at hSw); go_simp); (try with_reducible rfl); done)); (try simp only [List.setIfInBounds_toArray, List.set_cons_succ, List.set_cons_zero])) | (refine take_out (i := 7) rfl (by rfl) (by kernel_rfl) (by kernel_rfl) (by kernel_rfl) (fun _ _ _ h => h) (by rfl) (by assumption) ?_; (try simp only [List.setIfInBounds_toArray, List.set_cons_succ, List.set_cons_zero]))
        first | (refine take_in (i := 8) (v := ?_) rfl (by rfl) (by kernel_rfl) (by kernel_rfl) (by kernel_rfl) (fun _ _ _ h => h) (by rfl) ?_ (by assumption) ?_; rotate_left; (focus ((intro w hSw; (try dsimp only at hSw); go_simp); (try with_reducible rfl); done)); (try simp only [List.setIfInBounds_toArray, List.set_cons_succ, List.set_cons_zero])) | (refine take_out (i := 8) rfl (by rfl) (by kernel_rfl) (by kernel_rfl) (by kernel_rfl) (fun _ _ _ h => h) (by rfl) (by assumption) ?_; (try simp only [List.setIfInBounds_toArray, List.set_cons_succ, List.set_cons_zero]))
        (refine take_in (i := 9) (v := ?_) rfl (by rfl) (by kernel_rfl) (by kernel_rfl) (by kernel_rfl) (fun _ _ _ h => h) (by rfl) ?_ (by assumption) ?_; rotate_left; (focus ((intro w hSw; (try dsimp only at hSw); go_simp); (try with_reducible rfl); done)); (try simp only [List.setIfInBounds_toArray, List.set_cons_succ, List.set_cons_zero]))
        (refine take_in (i := 10) (v := ?_) rfl (by rfl) (by kernel_rfl) (by kernel_rfl) (by kernel_rfl) (fun _ _ _ h => h) (by rfl) ?_ (by assumption) ?_; rotate_left; (focus ((intro w hSw; (try dsimp only at hSw); go_simp); (try with_reducible rfl); done)); (try simp only [List.setIfInBounds_toArray, List.set_cons_succ, List.set_cons_zero]))
        first | (refine take_in (i := 11) (v := ?_) rfl (by rfl) (by kernel_rfl) (by kernel_rfl) (by kernel_rfl) (fun _ _ _ h => h) (by rfl) ?_ (by assumption) ?_; rotate_left; (focus ((intro w hSw; (try dsimp only at hSw); go_simp); (try with_reducible rfl); done)); (try simp only [List.setIfInBounds_toArray, List.set_cons_succ, List.set_cons_zero])) | (refine take_out (i := 11) rfl (by rfl) (by kernel_rfl) (by kernel_rfl) (by kernel_rfl) (fun _ _ _ h => h) (by rfl) (by assumption) ?_; (try simp only [List.setIfInBounds_toArray, List.set_cons_succ, List.set_cons_zero]))
        first | (refine take_in (i := 12) (v := ?_) rfl (by rfl) (by kernel_rfl) (by kernel_rfl) (by kernel_rfl) (fun _ _ _ h => h) (by rfl) ?_ (by assumption) ?_; rotate_left; (focus ((intro w hSw; (try dsimp only at hSw); go_simp); (try with_reducible rfl); done)); (try simp only [List.setIfInBounds_toArray, List.set_cons_succ, List.set_cons_zero])) | (refine take_out (i := 12) rfl (by rfl) (by kernel_rfl) (by kernel_rfl) (by kernel_rfl) (fun _ _ _ h => h) (by rfl) (by assumption) ?_; (try simp only [List.setIfInBounds_toArray, List.set_cons_succ, List.set_cons_zero]))
        first | (refine take_in (i := 13) (v := ?_) rfl (by rfl) (by kernel_rfl) (by kernel_rfl) (by kernel_rfl) (fun _ _ _ h => h) (by rfl) ?_ (by assumption) ?_; rotate_left; (focus ((intro w hSw; (try dsimp only at hSw); go_simp); (try with_reducible rfl); done)); (try simp only [List.setIfInBounds_toArray, List.set_cons_succ, List.set_cons_zero])) | (refine take_out (i := 13) rfl (by rfl) (by kernel_rfl) (by kernel_rfl) (by kernel_rfl) (fun _ _ _ h => h) (by rfl) (by assumption) ?_; (try simp only [List.setIfInBounds_toArray, List.set_cons_succ, List.set_cons_zero]))
        first | (refine take_in (i := 14) (v := ?_) rfl (by rfl) (by kernel_rfl) (by kernel_rfl) (by kernel_rfl) (fun _ _ _ h => h) (by rfl) ?_ (by assumption) ?_; rotate_left; (focus ((intro w hSw; (try dsimp only at hSw); go_simp); (try with_reducible rfl); done)); (try simp only [List.setIfInBounds_toArray, List.set_cons_succ, List.set_cons_zero])) | (refine take_out (i := 14) rfl (by rfl) (by kernel_rfl) (by kernel_rfl) (by kernel_rfl) (fun _ _ _ h => h) (by rfl) (by assumption) ?_; (try simp only [List.setIfInBounds_toArray, List.set_cons_succ, List.set_cons_zero]))
        first | (refine take_in (i := 15) (v := ?_) rfl (by rfl) (by kernel_rfl) (by kernel_rfl) (by kernel_rfl) (fun _ _ _ h => h) (by rfl) ?_ (by assumption) ?_; rotate_left; (focus ((intro w hSw; (try dsimp only at hSw); go_simp); (try with_reducible rfl); done)); (try simp only [List.setIfInBounds_toArray, List.set_cons_succ, List.set_cons_zero])) | (refine take_out (i := 15) rfl (by rfl) (by kernel_rfl) (by kernel_rfl) (by kernel_rfl) (fun _ _ _ h => h) (by rfl) (by assumption) ?_; (try simp only [List.setIfInBounds_toArray, List.set_cons_succ, List.set_cons_zero]))
        (refine take_in (i := 16) (v := ?_) rfl (by rfl) (by kernel_rfl) (by kernel_rfl) (by kernel_rfl) (fun _ _ _ h => h) (by rfl) ?_ (by assumption) ?_; rotate_left; (focus ((intro w hSw; (try dsimp only at hSw); go_simp); (try with_reducible rfl); done)); (try simp only [List.setIfInBounds_toArray, List.set_cons_succ, List.set_cons_zero]))
        (refine take_in (i := 17) (v := ?_) rfl (by rfl) (by kernel_rfl) (by kernel_rfl) (by kernel_rfl) (fun _ _ _ h => h) (by rfl) ?_ (by assumption) ?_; rotate_left; (focus ((intro w hSw; (try dsimp only at hSw); go_simp); (try with_reducible rfl); done)); (try simp only [List.setIfInBounds_toArray, List.set_cons_succ, List.set_cons_zero]))
        refine wpAnyH_done (by kernel_rfl) ?_ _
        refine NoPanic.normal ?_
        clear KS
        clear X1_lt X1_c0 X1_f0 X1_c1 X1_f1 X1_c2 X1_f2 X1_c3 X1_f3 X1_c4 X1_f4
        clear X6_lt X6_c0 X6_f0 X6_c1 X6_f1 X6_c2 X6_f2
        go_wp2_with fail
        refine code_name fun W7 hW => ?_
        have bb : Below W4.heap.size W4 W7 := by rw [hW]; exact KK.out
        have zbW7 := bb.size
        replace X1 := hide (X1.out.below bb)
        replace X2 := hide (X2.out.below bb)
        replace X3 := hide (X3.out.below bb)
        replace X6 := hide (X6.out.below bb)
        replace Q := hide (Q.out.below bb)
        replace BW := hide (bthen BW.out bb)
        clear bb
        clear KK H5 hW
        have H5 := hide (H.out.below BW.out)
        have X1_lt := X1.out.lt
        have X1_c0 := X1.out.at (i := 0) rfl; have X1_f0 := X1.out.frozen 0
        have X1_c1 := X1.out.at (i := 1) rfl; have X1_f1 := X1.out.frozen 1
        have X1_c2 := X1.out.at (i := 2) rfl; have X1_f2 := X1.out.frozen 2
        have X1_c3 := X1.out.at (i := 3) rfl; have X1_f3 := X1.out.frozen 3
        have X1_c4 := X1.out.at (i := 4) rfl; have X1_f4 := X1.out.frozen 4
        have X6_lt := X6.out.lt
        have X6_c0 := X6.out.at (i := 0) rfl; have X6_f0 := X6.out.frozen 0
        have X6_c1 := X6.out.at (i := 1) rfl; have X6_f1 := X6.out.frozen 1
        have X6_c2 := X6.out.at (i := 2) rfl; have X6_f2 := X6.out.frozen 2
        have KS : Hid (∀ W', Below W7.heap.size W7 W' → (W'.cell? ⟨w.heap.size, 0, none⟩ = some (.int .i64 t.n) ∧ W'.cell? ⟨w.heap.size, 1, none⟩ = some (.int .i64 t.room) ∧ W'.cell? ⟨w.heap.size, 2, none⟩ = some (.int .i64 t.f) ∧ W'.cell? ⟨w.heap.size, 3, none⟩ = some (.int .i64 t.d) ∧ W'.cell? ⟨w.heap.size, 4, none⟩ = some (.slice (some ⟨b, off, none⟩) t.rs.length c)) ∧ W'.cell? ⟨wr.heap.size, 0, none⟩ = some (.int .i64 (fn : Int)) ∧ W'.cell? ⟨wr.heap.size, 1, none⟩ = some (.int .i64 (tn : Int)) ∧ W'.cell? ⟨wr.heap.size, 2, none⟩ = some (.int .i64 2)) := fun W' bb => ⟨⟨(X1.out.below bb).at rfl, (X1.out.below bb).at rfl, (X1.out.below bb).at rfl, (X1.out.below bb).at rfl, (X1.out.below bb).at rfl⟩, (X6.out.below bb).at rfl, (X6.out.below bb).at rfl, (X6.out.below bb).at rfl⟩
        have KK : Hid (Below W7.heap.size W7 W7.drew) := (Below.refl _ _).drew
        refine wp_region_noPanic ?_
        refine wp_region_held_drew (S := (fun W => (W.cell? ⟨w.heap.size, 0, none⟩ = some (.int .i64 t.n) ∧ W.cell? ⟨w.heap.size, 1, none⟩ = some (.int .i64 t.room) ∧ W.cell? ⟨w.heap.size, 2, none⟩ = some (.int .i64 t.f) ∧ W.cell? ⟨w.heap.size, 3, none⟩ = some (.int .i64 t.d) ∧ W.cell? ⟨w.heap.size, 4, none⟩ = some (.slice (some ⟨b, off, none⟩) t.rs.length c)) ∧ W.cell? ⟨wr.heap.size, 0, none⟩ = some (.int .i64 (fn : Int)) ∧ W.cell? ⟨wr.heap.size, 1, none⟩ = some (.int .i64 (tn : Int)) ∧ W.cell? ⟨wr.heap.size, 2, none⟩ = some (.int .i64 2))) (by kernel_rfl) ?_ (fun hHeld => ?_)
        · exact KS.out _ KK.out
        (refine take_in (i := 0) (v := ?_) rfl (by rfl) (by kernel_rfl) (by kernel_rfl) (by kernel_rfl) (fun _ _ _ h => h) (by rfl) ?_ (by assumption) ?_; rotate_left; (focus ((intro w hSw; (try dsimp only at hSw); go_simp); (try with_reducible rfl); done)); (try simp only [List.setIfInBounds_toArray, List.set_cons_succ, List.set_cons_zero]))
        (refine take_in (i := 1) (v := ?_) rfl (by rfl) (by kernel_rfl) (by kernel_rfl) (by kernel_rfl) (fun _ _ _ h => h) (by rfl) ?_ (by assumption) ?_; rotate_left; (focus ((intro w hSw; (try dsimp only at hSw); go_simp); (try with_reducible rfl); done)); (try simp only [List.setIfInBounds_toArray, List.set_cons_succ, List.set_cons_zero]))
        (refine take_in (i := 2) (v := ?_) rfl (by rfl) (by kernel_rfl) (by kernel_rfl) (by kernel_rfl) (fun _ _ _ h => h) (by rfl) ?_ (by assumption) ?_; rotate_left; (focus ((intro w hSw; (try dsimp only at hSw); go_simp); (try with_reducible rfl); done)); (try simp only [List.setIfInBounds_toArray, List.set_cons_succ, List.set_cons_zero]))
        (refine take_in (i := 3) (v := ?_) rfl (by rfl) (by kernel_rfl) (by kernel_rfl) (by kernel_rfl) (fun _ _ _ h => h) (by rfl) ?_ (by assumption) ?_; rotate_left; (focus ((intro w hSw; (try dsimp only at hSw); go_simp); (try with_reducible rfl); done)); (try simp only [List.setIfInBounds_toArray, List.set_cons_succ, List.set_cons_zero]))
        first | (refine take_in (i := 4) (v := ?_) rfl (by rfl) (by kernel_rfl) (by kernel_rfl) (by kernel_rfl) (fun _ _ _ h => h) (by rfl) ?_ (by assumption) ?_; rotate_left; (focus ((intro w hSw; (try dsimp only at hSw); go_simp); (try with_reducible rfl); done)); (try simp only [List.setIfInBounds_toArray, List.set_cons_succ, List.set_cons_zero])) | (refine take_out (i := 4) rfl (by rfl) (by kernel_rfl) (by kernel_rfl) (by kernel_rfl) (fun _ _ _ h => h) (by rfl) (by assumption) ?_; (try simp only [List.setIfInBounds_toArray, List.set_cons_succ, List.set_cons_zero]))
        (refine take_out (i := 5) rfl (by rfl) (by kernel_rfl) (by kernel_rfl) (by kernel_rfl) (fun _ _ _ h => h) (by rfl) (by assumption) ?_; (try simp only [List.setIfInBounds_toArray, List.set_cons_succ, List.set_cons_zero]))
        first | (refine take_in (i := 6) (v := ?_) rfl (by rfl) (by kernel_rfl) (by kernel_rfl) (by kernel_rfl) (fun _ _ _ h => h) (by rfl) ?_ (by assumption) ?_; rotate_left; (focus ((intro w hSw; (try dsimp only at hSw); go_simp); (try with_reducible rfl); done)); (try simp only [List.setIfInBounds_toArray, List.set_cons_succ, List.set_cons_zero])) | (refine take_out (i := 6) rfl (by rfl) (by kernel_rfl) (by kernel_rfl) (by kernel_rfl) (fun _ _ _ h => h) (by rfl) (by assumption) ?_; (try simp only [List.setIfInBounds_toArray, List.set_cons_succ, List.set_cons_zero]))
        first | (refine take_in (i := 7) (v := ?_) rfl (by rfl) (by kernel_rfl) (by kernel_rfl) (by kernel_rfl) (fun _ _ _ h => h) (by rfl) ?_ (by assumption) ?_; rotate_left; (focus ((intro w hSw; (try dsimp only at hSw); go_simp); (try with_reducible rfl); done)); (try simp only [List.setIfInBounds_toArray, List.set_cons_succ, List.set_cons_zero])) | (refine take_out (i := 7) rfl (by rfl) (by kernel_rfl) (by kernel_rfl) (by kernel_rfl) (fun _ _ _ h => h) (by rfl) (by assumption) ?_; (try simp only [List.setIfInBounds_toArray, List.set_cons_succ, List.set_cons_zero]))
        first | (refine take_in (i := 8) (v := ?_) rfl (by rfl) (by kernel_rfl) (by kernel_rfl) (by kernel_rfl) (fun _ _ _ h => h) (by rfl) ?_ (by assumption) ?_; rotate_left; (focus ((intro w hSw; (try dsimp only at hSw); go_simp); (try with_reducible rfl); done)); (try simp only [List.setIfInBounds_toArray, List.set_cons_succ, List.set_cons_zero])) | (refine take_out (i := 8) rfl (by rfl) (by kernel_rfl) (by kernel_rfl) (by kernel_rfl) (fun _ _ _ h => h) (by rfl) (by assumption) ?_; (try simp only [List.setIfInBounds_toArray, List.set_cons_succ, List.set_cons_zero]))
        (refine take_in (i := 9) (v := ?_) rfl (by rfl) (by kernel_rfl) (by kernel_rfl) (by kernel_rfl) (fun _ _ _ h => h) (by rfl) ?_ (by assumption) ?_; rotate_left; (focus ((intro w hSw; (try dsimp only at hSw); go_simp); (try with_reducible rfl); done)); (try simp only [List.setIfInBounds_toArray, List.set_cons_succ, List.set_cons_zero]))
        (refine take_in (i := 10) (v := ?_) rfl (by rfl) (by kernel_rfl) (by kernel_rfl) (by kernel_rfl) (fun _ _ _ h => h) (by rfl) ?_ (by assumption) ?_; rotate_left; (focus ((intro w hSw; (try dsimp only at hSw); go_simp); (try with_reducible rfl); done)); (try simp only [List.setIfInBounds_toArray, List.set_cons_succ, List.set_cons_zero]))
        refine wpAnyH_done (by kernel_rfl) ?_ _
        refine NoPanic.normal ?_
        clear KS
        clear X1_lt X1_c0 X1_f0 X1_c1 X1_f1 X1_c2 X1_f2 X1_c3 X1_f3 X1_c4 X1_f4
        clear X6_lt X6_c0 X6_f0 X6_c1 X6_f1 X6_c2 X6_f2
        have bb := KK.out
        have zbE := bb.size
        replace X1 := hide (X1.out.below bb)
        replace X2 := hide (X2.out.below bb)
        replace X3 := hide (X3.out.below bb)
        replace X6 := hide (X6.out.below bb)
        replace Q := hide (Q.out.below bb)
        replace BW := hide (bthen BW.out bb)
        clear bb
        have HS := hide (callsTo_none hr.out (by simp) (fun h => by cases h.1))
        go_wp2_with fail
        go_roundw
        case rel => exact ⟨k + 1, by omega, by go_num, by rw [HS.out]; exact Q, X1, X2, X3, BW, by omega⟩
        case measure => simp [intOf]; omega
    · have HE2 := hide (callsTo_all (t := t) (k := k) (by omega))
      have X1_lt := X1.out.lt
      have X1_c0 := X1.out.at (i := 0) rfl; have X1_f0 := X1.out.frozen 0
      have X1_c1 := X1.out.at (i := 1) rfl; have X1_f1 := X1.out.frozen 1
      have X1_c2 := X1.out.at (i := 2) rfl; have X1_f2 := X1.out.frozen 2
      have X1_c3 := X1.out.at (i := 3) rfl; have X1_f3 := X1.out.frozen 3
      have X1_c4 := X1.out.at (i := 4) rfl; have X1_f4 := X1.out.frozen 4
      have X2_lt := X2.out.lt
      have X2_c0 := X2.out.at (i := 0) rfl; have X2_f0 := X2.out.frozen 0
      have X2_c1 := X2.out.at (i := 1) rfl; have X2_f1 := X2.out.frozen 1
      have X2_c2 := X2.out.at (i := 2) rfl; have X2_f2 := X2.out.frozen 2
      have X3_lt := X3.out.lt
      have X3_c0 := X3.out.at (i := 0) rfl; have X3_f0 := X3.out.frozen 0
      have X3_c1 := X3.out.at (i := 1) rfl; have X3_f1 := X3.out.frozen 1
      have X3_c2 := X3.out.at (i := 2) rfl; have X3_f2 := X3.out.frozen 2
      have n1 : ¬ w.heap.size + 1 = w2.heap.size := by omega
      have n2 : ¬ w2.heap.size = w.heap.size + 1 := by omega
      go_wp2_with fail
      refine bodyPost_ret (by simp [results, Try.results30, go_sem, X2_c0, X2_c1, X2_c2]; rfl) rfl ?_
      rw [HE.out, ← HE2.out]
      have o := onlyW3 (g := w.heap.size + 1) wr (.slice P0 N p0) (.slice P1 N p1) (.slice P2 N p2)
      exact GivesC.ofLenT (Q.out.only o (by omega)) (Only.then BW.out o (by omega) (by omega)) (HLN.out k).1.symm (HLN.out k).2.1.symm (HLN.out k).2.2.symm (by omega) (by simp; omega)
theorem implTripCalls_at (A : Option Addr) (c : Nat) (t : Tp) (D : Cl) (hD : D = tripCB t) (w : World) (h : Rds w A t.rs) (hl : (t.rs.length : Int) ≤ 9223372036854775807) :
    Calls Try.prog 23 #[.agg #[.int .i64 t.n, .int .i64 t.room, .int .i64 t.f, .int .i64 t.d, .slice A t.rs.length c]] w (GivesC D w) := by subst hD; exact implTripCalls A c t w h hl
theorem specTripCalls_at (A : Option Addr) (c : Nat) (t : Tp) (D : Cl) (hD : D = tripCB t) (w : World) (h : Rds w A t.rs) (hl : (t.rs.length : Int) ≤ 9223372036854775807) :
    Calls Try.prog 30 #[.agg #[.int .i64 t.n, .int .i64 t.room, .int .i64 t.f, .int .i64 t.d, .slice A t.rs.length c]] w (GivesC D w) := by subst hD; exact specTripCalls A c t w h hl
end Go.Proofs.Ytbkjgiomamlajaa
