/- Drawn calls and stops. -/
import Derived.Test.YtngblphkpkhppaaDrawCalls2
namespace Go.Proofs.Ytngblphkpkhppaa
open Go.RowKit
attribute [local go_sem ↓] Go.wp_at_zero Go.wp_at_succ

theorem Box.pick {w w' : World} {g R : Nat} {cs : Array Value} (h : Box w g cs) (b : w.grownBy w' (some R)) (hg : R < g) : Box w' g cs := h.grown b (by intro e; injection e; omega)
/-- A floor and a direction, small; the reader has gone on. -/
def DrawnP (R q : Nat) (w : World) (e : Ending) (w' : World) : Prop := ∃ f d : Int, e = .returned (.agg #[.int .i64 f, .int .i64 d]) ∧ (-1 ≤ f ∧ f ≤ 9) ∧ (-1 ≤ d ∧ d ≤ 2) ∧ Rd w' R q ∧ w.grownBy w' (some R)
theorem DrawnP.of {w W : World} {R q q' : Nat} {f d : Int} (hf : -1 ≤ f ∧ f ≤ 9) (hd : -1 ≤ d ∧ d ≤ 2) (rd : Rd W R q) (hq : q ≤ q') (gr : w.grownBy W (some R)) (hR : R < w.heap.size) {a b : Value} :
    DrawnP R q' w (.returned (.agg #[.int .i64 f, .int .i64 d])) ((W.setCell ⟨w.heap.size, 0, none⟩ a).setCell ⟨w.heap.size, 1, none⟩ b) := by
  have o := onlyW2 (g := w.heap.size) W a b
  exact ⟨f, d, rfl, hf, hd, (rd.keep fun k hk => o.block k (by have := rd.lt; omega) (.inl (by omega))).mono hq,
    ⟨o.os.trans gr.os, o.tape.trans gr.tape, o.output.trans gr.output, Nat.le_trans gr.size o.size, fun k hk hne => (o.block k (Nat.lt_of_lt_of_le hk gr.size) (.inl (by omega))).trans (gr.block k hk hne)⟩⟩
set_option maxHeartbeats 2000000 in
theorem l20Stop_any (R q : Nat) (fl : Nat) (n : Int) (w : World) (h : Rd w R q) (hq : q ≤ 10000) (f1 : 1 ≤ fl) (f2 : fl ≤ 9) (hn : 0 ≤ n) (hn2 : n ≤ 1000) :
    Calls Try.prog 59 #[.pointer (some ⟨R, 0, none⟩), .int .i64 fl, .int .i64 n] w (DrawnP R (q + 10) w) := by
  have r := hide h
  have hRw := h.lt
  clear h
  go_enter Try.func59, Try.ntmps59
  go_wp2_with fail
  refine calls_name fun W hW => ?_
  have X6 := hide (Box.new' (g := w.heap.size) hW rfl)
  have b : Below w.heap.size w W := by rw [hW]; exact (Below.refl _ _).alloc (Nat.le_refl _) _
  replace r := hide (r.out.below b)
  have G : Hid (w.grownBy W (some R)) := grown_below (grown_refl w R) b
  have z0 := X6.out.lt
  clear b hW
  refine (pick_any R _ _ _ r.out (by omega) (by omega)).mono ?_
  rintro e w1 ⟨x, rfl, xa, xb, r', g, z⟩
  replace X6 := hide (X6.out.pick g hRw); replace r := hide r'; replace G := hide (grown_then G.out g)
  have z1 := Nat.le_of_eq z.symm
  have xc : x ≤ 8 := by omega
  clear r' g z xb
  go_wp2_with fail
  refine (pick_any R _ _ _ r.out (by omega) (by omega)).mono ?_
  rintro e w2 ⟨y, rfl, ya, yb, r', g, z⟩
  replace X6 := hide (X6.out.pick g hRw); replace r := hide r'; replace G := hide (grown_then G.out g)
  have z2 := Nat.le_of_eq z.symm
  clear r' g z
  go_wp2_with fail
  refine calls_name fun W3 hW => ?_
  have X7 := hide (Box.new' (g := w2.heap.size) hW rfl)
  have b : Below w2.heap.size w2 W3 := by rw [hW]; exact (Below.refl _ _).alloc (Nat.le_refl _) _
  replace X6 := hide (X6.out.below b); replace r := hide (r.out.below b); replace G := hide (grown_below G.out (b.mono G.out.size))
  have z3 := X7.out.lt
  clear b hW
  refine (odd_any R _ _ _ r.out (by omega) (by omega) (by omega)).mono ?_
  rintro e w4 ⟨t, rfl, r', g, z⟩
  replace X6 := hide (X6.out.pick g hRw); replace X7 := hide (X7.out.pick g (by omega)); replace r := hide r'; replace G := hide (grown_then G.out g)
  have z4 := Nat.le_of_eq z.symm
  clear r' g z
  cases t
  · have X6_lt := X6.out.lt
    have X6_c0 := X6.out.at (i := 0) rfl; have X6_f0 := X6.out.frozen 0
    have X6_c1 := X6.out.at (i := 1) rfl; have X6_f1 := X6.out.frozen 1
    have X7_lt := X7.out.lt
    have X7_c0 := X7.out.at (i := 0) rfl; have X7_f0 := X7.out.frozen 0
    have X7_c1 := X7.out.at (i := 1) rfl; have X7_f1 := X7.out.frozen 1
    go_wp2_with fail
    refine bodyPost_ret (by simp [results, Try.results59, go_sem, X6_c0, X6_c1]; rfl) rfl ?_
    exact DrawnP.of (by omega) (by omega) r.out (by omega) G.out hRw
  · go_wp2_with fail
    refine (pick_any R _ _ _ r.out (by omega) (by omega)).mono ?_
    rintro e w5 ⟨u, rfl, ua, ub, r', g, z⟩
    replace X6 := hide (X6.out.pick g hRw); replace X7 := hide (X7.out.pick g (by omega)); replace r := hide r'; replace G := hide (grown_then G.out g)
    have z5 := Nat.le_of_eq z.symm
    clear r' g z
    have hu : u = 0 ∨ u = 1 := by omega
    clear ua ub
    rcases hu with rfl | rfl
    · go_wp2_with fail
      refine calls_name fun W6 hW => ?_
      have X8 := hide (Box.new' (g := w5.heap.size) hW rfl)
      have b : Below w5.heap.size w5 W6 := by rw [hW]; exact (Below.refl _ _).alloc (Nat.le_refl _) _
      replace X6 := hide (X6.out.below b); replace X7 := hide (X7.out.below b); replace r := hide (r.out.below b); replace G := hide (grown_below G.out (b.mono G.out.size))
      have z6 := X8.out.lt
      clear b hW
      refine (pick_any R _ _ _ r.out (by omega) (by omega)).mono ?_
      rintro e w7 ⟨u, rfl, ua, ub, r', g, z⟩
      replace X6 := hide (X6.out.pick g hRw); replace X7 := hide (X7.out.pick g (by omega)); replace X8 := hide (X8.out.pick g (by omega)); replace r := hide r'; replace G := hide (grown_then G.out g)
      have z7 := Nat.le_of_eq z.symm
      clear r' g z
      have hu : u = 0 ∨ u = 1 := by omega
      clear ua ub
      have n1 : ¬ w2.heap.size = w.heap.size := by omega
      rcases hu with rfl | rfl
      all_goals
        have X6_lt := X6.out.lt
        have X6_c0 := X6.out.at (i := 0) rfl; have X6_f0 := X6.out.frozen 0
        have X6_c1 := X6.out.at (i := 1) rfl; have X6_f1 := X6.out.frozen 1
        have X7_lt := X7.out.lt
        have X7_c0 := X7.out.at (i := 0) rfl; have X7_f0 := X7.out.frozen 0
        have X7_c1 := X7.out.at (i := 1) rfl; have X7_f1 := X7.out.frozen 1
        have X8_lt := X8.out.lt
        have X8_c0 := X8.out.at (i := 0) rfl; have X8_f0 := X8.out.frozen 0
        have X8_c1 := X8.out.at (i := 1) rfl; have X8_f1 := X8.out.frozen 1
        go_wp2_with fail
        refine bodyPost_ret (by simp [results, Try.results59, go_sem, X6_c0, X6_c1]; rfl) rfl ?_
        exact DrawnP.of (by omega) (by omega) (rd_set r.out (by simp; omega) _) (by omega) (gr_set G.out (by simp; omega) _) hRw
    · go_wp2_with fail
      refine calls_name fun W6 hW => ?_
      have X8 := hide (Box.new' (g := w5.heap.size) hW rfl)
      have b : Below w5.heap.size w5 W6 := by rw [hW]; exact (Below.refl _ _).alloc (Nat.le_refl _) _
      replace X6 := hide (X6.out.below b); replace X7 := hide (X7.out.below b); replace r := hide (r.out.below b); replace G := hide (grown_below G.out (b.mono G.out.size))
      have z6 := X8.out.lt
      clear b hW
      refine (pick_any R _ _ _ r.out (by omega) (by omega)).mono ?_
      rintro e w7 ⟨u, rfl, ua, ub, r', g, z⟩
      replace X6 := hide (X6.out.pick g hRw); replace X7 := hide (X7.out.pick g (by omega)); replace X8 := hide (X8.out.pick g (by omega)); replace r := hide r'; replace G := hide (grown_then G.out g)
      have z7 := Nat.le_of_eq z.symm
      clear r' g z
      have hu : u = 0 ∨ u = 1 := by omega
      clear ua ub
      have n1 : ¬ w2.heap.size = w.heap.size := by omega
      rcases hu with rfl | rfl
      all_goals
        have X6_lt := X6.out.lt
        have X6_c0 := X6.out.at (i := 0) rfl; have X6_f0 := X6.out.frozen 0
        have X6_c1 := X6.out.at (i := 1) rfl; have X6_f1 := X6.out.frozen 1
        have X7_lt := X7.out.lt
        have X7_c0 := X7.out.at (i := 0) rfl; have X7_f0 := X7.out.frozen 0
        have X7_c1 := X7.out.at (i := 1) rfl; have X7_f1 := X7.out.frozen 1
        have X8_lt := X8.out.lt
        have X8_c0 := X8.out.at (i := 0) rfl; have X8_f0 := X8.out.frozen 0
        have X8_c1 := X8.out.at (i := 1) rfl; have X8_f1 := X8.out.frozen 1
        go_wp2_with fail
        refine bodyPost_ret (by simp [results, Try.results59, go_sem, X6_c0, X6_c1]; rfl) rfl ?_
        exact DrawnP.of (by omega) (by omega) (rd_set r.out (by simp; omega) _) (by omega) (gr_set G.out (by simp; omega) _) hRw
/-- Calls and a stop; the reader has gone on. -/
def DrawnCP (R q : Nat) (w : World) (e : Ending) (w' : World) : Prop := ∃ (A0 A1 A2 : Option Addr) (c0 c1 c2 : Nat) (C : Cl) (f d : Int), e = .returned (.tuple #[.agg #[.slice A0 C.up.length c0, .slice A1 C.dn.length c1, .slice A2 C.car.length c2], .agg #[.int .i64 f, .int .i64 d]]) ∧ CW w.heap.size w'.heap.size w' A0 A1 A2 C ∧ (C.up.length ≤ 9 ∧ C.dn.length ≤ 9 ∧ C.car.length ≤ 9) ∧ (-1 ≤ f ∧ f ≤ 9) ∧ (-1 ≤ d ∧ d ≤ 2) ∧ Rd w' R q ∧ w.grownBy w' (some R)
theorem only5 (w : World) (g : Nat) (a b c x y : Value) : Only g (g + 1 + 1) w (((((w.setCell ⟨g, 0, none⟩ a).setCell ⟨g, 1, none⟩ b).setCell ⟨g, 2, none⟩ c).setCell ⟨g + 1, 0, none⟩ x).setCell ⟨g + 1, 1, none⟩ y) :=
  ((onlyW3 w a b c).mono (Nat.le_refl g) (Nat.le_succ _)).trans ((onlyW2 (g := g + 1) _ x y).mono (Nat.le_succ _) (Nat.le_refl _))
theorem DrawnCP.of {w W : World} {R q q' lo hi : Nat} {S0 S1 S2 : Option Addr} {s0 s1 s2 : Nat} {D : Cl} {f d : Int} (co : CW lo hi W S0 S1 S2 D) (hl : w.heap.size + 1 < lo) (hh : hi ≤ W.heap.size) (len : D.up.length ≤ 9 ∧ D.dn.length ≤ 9 ∧ D.car.length ≤ 9) (hf : -1 ≤ f ∧ f ≤ 9) (hd : -1 ≤ d ∧ d ≤ 2) (rd : Rd W R q) (hq : q ≤ q') (gr : w.grownBy W (some R)) (hR : R < w.heap.size) {a b c x y : Value} :
    DrawnCP R q' w (.returned (.tuple #[.agg #[.slice S0 D.up.length s0, .slice S1 D.dn.length s1, .slice S2 D.car.length s2], .agg #[.int .i64 f, .int .i64 d]])) (((((W.setCell ⟨w.heap.size, 0, none⟩ a).setCell ⟨w.heap.size, 1, none⟩ b).setCell ⟨w.heap.size, 2, none⟩ c).setCell ⟨w.heap.size + 1, 0, none⟩ x).setCell ⟨w.heap.size + 1, 1, none⟩ y) := by
  have o := only5 W w.heap.size a b c x y
  exact ⟨S0, S1, S2, s0, s1, s2, D, f, d, rfl, (co.only o (.inr (by omega))).mono (by omega) (Nat.le_trans hh o.size), len, hf, hd, (rd.keep fun k hk => o.block k (by have := rd.lt; omega) (.inl (by omega))).mono hq,
    ⟨o.os.trans gr.os, o.tape.trans gr.tape, o.output.trans gr.output, Nat.le_trans gr.size o.size, fun k hk hne => (o.block k (Nat.lt_of_lt_of_le hk gr.size) (.inl (by omega))).trans (gr.block k hk hne)⟩⟩
set_option maxHeartbeats 2000000 in
theorem l20Called_any (R q : Nat) (w : World) (h : Rd w R q) (hq : q ≤ 1000) :
    Calls Try.prog 47 #[.pointer (some ⟨R, 0, none⟩)] w (DrawnCP R (q + 200) w) := by
  have r := hide h
  have hRw := h.lt
  clear h
  go_enter Try.func47, Try.ntmps47
  go_wp2_with fail
  refine calls_name fun W hW => ?_
  have X2 : Hid (Box W w.heap.size #[.slice none 0 0, .slice none 0 0, .slice none 0 0]) := by rw [hW]; exact (Box.new rfl).alloc _
  have X3 : Hid (Box W (w.heap.size + 1) #[.int .i64 0, .int .i64 0]) := by rw [hW]; exact Box.new (by simp)
  have b : Below w.heap.size w W := by rw [hW]; exact ((Below.refl _ _).alloc (Nat.le_refl _) _).alloc (by simp) _
  replace r := hide (r.out.below b)
  have G : Hid (w.grownBy W (some R)) := grown_below (grown_refl w R) b
  have z0 : w.heap.size + 1 < W.heap.size := by rw [hW]; simp
  clear b hW
  refine (pick_any R _ _ _ r.out (by omega) (by omega)).mono ?_
  rintro e w1 ⟨x, rfl, xa, xb, r', g, z⟩
  replace X2 := hide (X2.out.pick g hRw); replace X3 := hide (X3.out.pick g (by omega)); replace r := hide r'; replace G := hide (grown_then G.out g)
  have z1 := Nat.le_of_eq z.symm
  clear r' g z
  go_wp2_with fail
  refine (pick_any R _ _ _ r.out (by omega) (by omega)).mono ?_
  rintro e w2 ⟨y, rfl, ya, yb, r', g, z⟩
  replace X2 := hide (X2.out.pick g hRw); replace X3 := hide (X3.out.pick g (by omega)); replace r := hide r'; replace G := hide (grown_then G.out g)
  have z2 := Nat.le_of_eq z.symm
  clear r' g z
  have hu : y = 0 ∨ 0 < y := by omega
  rcases hu with rfl | hu
  · obtain ⟨fl, hfl⟩ : ∃ fl : Nat, (fl : Int) = 1 + x := ⟨(1 + x).toNat, by omega⟩
    have hf1 : 1 ≤ fl := by omega
    have hf2 : fl ≤ 8 := by omega
    go_wp2_with fail
    rw [← hfl]
    clear hfl
    refine (l20Calls_any R _ fl _ _ r.out (by omega) hf1 hf2 (by omega) (by omega)).mono ?_
    rintro e w3 ⟨P0, P1, P2, p0, p1, p2, C, rfl, P, len, r', g⟩
    replace X2 := hide (X2.out.pick g hRw); replace X3 := hide (X3.out.pick g (by omega)); replace r := hide r'; replace G := hide (grown_then G.out g)
    have z3 := g.size
    have P := hide P
    clear r' g
    go_wp2_with fail
    refine (l20Stop_any R _ fl _ _ r.out (by omega) hf1 (by omega) (by omega) (by omega)).mono ?_
    rintro e w4 ⟨f, d, rfl, hf, hd, r', g⟩
    replace X2 := hide (X2.out.pick g hRw); replace X3 := hide (X3.out.pick g (by omega)); replace P := hide (P.out.grown g (by omega)); replace r := hide r'; replace G := hide (grown_then G.out g)
    have z4 := g.size
    clear r' g
    have X2_lt := X2.out.lt
    have X2_c0 := X2.out.at (i := 0) rfl; have X2_f0 := X2.out.frozen 0
    have X2_c1 := X2.out.at (i := 1) rfl; have X2_f1 := X2.out.frozen 1
    have X2_c2 := X2.out.at (i := 2) rfl; have X2_f2 := X2.out.frozen 2
    have X3_lt := X3.out.lt
    have X3_c0 := X3.out.at (i := 0) rfl; have X3_f0 := X3.out.frozen 0
    have X3_c1 := X3.out.at (i := 1) rfl; have X3_f1 := X3.out.frozen 1
    go_wp2_with fail
    refine bodyPost_ret (by simp [results, Try.results47, go_sem, X2_c0, X2_c1, X2_c2, X3_c0, X3_c1]; rfl) rfl ?_
    exact DrawnCP.of P.out (by omega) z4 len hf hd r.out (by omega) G.out hRw
  · go_wp2_with fail
    refine (pick_any R _ _ _ r.out (by omega) (by omega)).mono ?_
    rintro e w5 ⟨u, rfl, ua, ub, r', g, z⟩
    replace X2 := hide (X2.out.pick g hRw); replace X3 := hide (X3.out.pick g (by omega)); replace r := hide r'; replace G := hide (grown_then G.out g)
    have z5 := Nat.le_of_eq z.symm
    clear r' g z
    obtain ⟨fl, hfl⟩ : ∃ fl : Nat, (fl : Int) = 4 + u := ⟨(4 + u).toNat, by omega⟩
    have hf1 : 1 ≤ fl := by omega
    have hf2 : fl ≤ 8 := by omega
    go_wp2_with fail
    rw [← hfl]
    clear hfl
    refine (l20Calls_any R _ fl _ _ r.out (by omega) hf1 hf2 (by omega) (by omega)).mono ?_
    rintro e w3 ⟨P0, P1, P2, p0, p1, p2, C, rfl, P, len, r', g⟩
    replace X2 := hide (X2.out.pick g hRw); replace X3 := hide (X3.out.pick g (by omega)); replace r := hide r'; replace G := hide (grown_then G.out g)
    have z3 := g.size
    have P := hide P
    clear r' g
    go_wp2_with fail
    refine (l20Stop_any R _ fl _ _ r.out (by omega) hf1 (by omega) (by omega) (by omega)).mono ?_
    rintro e w4 ⟨f, d, rfl, hf, hd, r', g⟩
    replace X2 := hide (X2.out.pick g hRw); replace X3 := hide (X3.out.pick g (by omega)); replace P := hide (P.out.grown g (by omega)); replace r := hide r'; replace G := hide (grown_then G.out g)
    have z4 := g.size
    clear r' g
    have X2_lt := X2.out.lt
    have X2_c0 := X2.out.at (i := 0) rfl; have X2_f0 := X2.out.frozen 0
    have X2_c1 := X2.out.at (i := 1) rfl; have X2_f1 := X2.out.frozen 1
    have X2_c2 := X2.out.at (i := 2) rfl; have X2_f2 := X2.out.frozen 2
    have X3_lt := X3.out.lt
    have X3_c0 := X3.out.at (i := 0) rfl; have X3_f0 := X3.out.frozen 0
    have X3_c1 := X3.out.at (i := 1) rfl; have X3_f1 := X3.out.frozen 1
    go_wp2_with fail
    refine bodyPost_ret (by simp [results, Try.results47, go_sem, X2_c0, X2_c1, X2_c2, X3_c0, X3_c1]; rfl) rfl ?_
    exact DrawnCP.of P.out (by omega) z4 len hf hd r.out (by omega) G.out hRw
/-- Calls and a stop, drawn anew. -/
def DrewCP (w : World) (e : Ending) (w' : World) : Prop := ∃ (A0 A1 A2 : Option Addr) (c0 c1 c2 : Nat) (C : Cl) (f d : Int), e = .returned (.tuple #[.agg #[.slice A0 C.up.length c0, .slice A1 C.dn.length c1, .slice A2 C.car.length c2], .agg #[.int .i64 f, .int .i64 d]]) ∧ CW w.heap.size w'.heap.size w' A0 A1 A2 C ∧ (C.up.length ≤ 9 ∧ C.dn.length ≤ 9 ∧ C.car.length ≤ 9) ∧ (-1 ≤ f ∧ f ≤ 9) ∧ (-1 ≤ d ∧ d ≤ 2) ∧ Below w.heap.size w w'
set_option maxHeartbeats 1000000 in
theorem drawNextStop_any (A : Option Addr) (c : Nat) (bs : List Int) (w : World) (h : Sl w A (bvs bs)) (hb : ∀ x ∈ bs, 0 ≤ x ∧ x ≤ 255) (hl : bs.length ≤ 1048576) (hc : bs.length ≤ c) :
    Calls Try.prog 24 #[.slice A bs.length c] w (DrewCP w) := by
  have H := hide h; have HB := hide hb; clear h hb
  go_enter Try.func24, Try.ntmps24
  go_wp2_with fail
  refine calls_name fun W hW => ?_
  have X2 : Hid (Box W w.heap.size #[.slice none 0 0, .slice none 0 0, .slice none 0 0]) := by rw [hW]; exact (Box.new rfl).alloc _
  have X3 : Hid (Box W (w.heap.size + 1) #[.int .i64 0, .int .i64 0]) := by rw [hW]; exact Box.new (by simp)
  have BW : Hid (Below w.heap.size w W) := by rw [hW]; exact ((Below.refl _ _).alloc (Nat.le_refl _) _).alloc (by simp) _
  have z0 : w.heap.size + 1 < W.heap.size := by rw [hW]; simp
  clear hW
  refine (l20Open_any A c bs _ (H.out.below BW.out) HB.out hl hc).mono ?_
  rintro e w1 ⟨R, rfl, hR, r, b⟩
  have r := hide r
  replace X2 := hide (X2.out.below b)
  replace X3 := hide (X3.out.below b)
  replace BW := hide (bthen BW.out b)
  clear b
  go_wp2_with fail
  refine (l20Called_any R 0 _ r.out (by omega)).mono ?_
  rintro e w2 ⟨P0, P1, P2, p0, p1, p2, C, f, d, rfl, P, len, hf, hd, r', g⟩
  have yR := r.out.lt
  have z2 := g.size
  replace X2 := hide (X2.out.grown g (by intro e; injection e; omega)); replace X3 := hide (X3.out.grown g (by intro e; injection e; omega))
  have zB := BW.out.size
  replace BW := hide (BW.out.grown g BW.out.size (by intro k hk; injection hk; omega)); replace P := hide P
  clear r' g r
  have X2_lt := X2.out.lt
  have X2_c0 := X2.out.at (i := 0) rfl; have X2_f0 := X2.out.frozen 0
  have X2_c1 := X2.out.at (i := 1) rfl; have X2_f1 := X2.out.frozen 1
  have X2_c2 := X2.out.at (i := 2) rfl; have X2_f2 := X2.out.frozen 2
  have X3_lt := X3.out.lt
  have X3_c0 := X3.out.at (i := 0) rfl; have X3_f0 := X3.out.frozen 0
  have X3_c1 := X3.out.at (i := 1) rfl; have X3_f1 := X3.out.frozen 1
  go_wp2_with fail
  refine bodyPost_ret (by simp [results, Try.results24, go_sem, X2_c0, X2_c1, X2_c2, X3_c0, X3_c1]; rfl) rfl ?_
  have o := only5 w2 w.heap.size (.slice P0 C.up.length p0) (.slice P1 C.dn.length p1) (.slice P2 C.car.length p2) (.int .i64 f) (.int .i64 d)
  exact ⟨P0, P1, P2, p0, p1, p2, C, f, d, rfl, (P.out.only o (.inr (by omega))).mono (by omega) o.size, len, hf, hd, Only.then BW.out o (Nat.le_refl _) (by omega)⟩
set_option maxHeartbeats 1000000 in
theorem drawServeStop_any (A : Option Addr) (c : Nat) (bs : List Int) (w : World) (h : Sl w A (bvs bs)) (hb : ∀ x ∈ bs, 0 ≤ x ∧ x ≤ 255) (hl : bs.length ≤ 1048576) (hc : bs.length ≤ c) :
    Calls Try.prog 20 #[.slice A bs.length c] w (DrewCP w) := by
  have H := hide h; have HB := hide hb; clear h hb
  go_enter Try.func20, Try.ntmps20
  go_wp2_with fail
  refine calls_name fun W hW => ?_
  have X2 : Hid (Box W w.heap.size #[.slice none 0 0, .slice none 0 0, .slice none 0 0]) := by rw [hW]; exact (Box.new rfl).alloc _
  have X3 : Hid (Box W (w.heap.size + 1) #[.int .i64 0, .int .i64 0]) := by rw [hW]; exact Box.new (by simp)
  have BW : Hid (Below w.heap.size w W) := by rw [hW]; exact ((Below.refl _ _).alloc (Nat.le_refl _) _).alloc (by simp) _
  have z0 : w.heap.size + 1 < W.heap.size := by rw [hW]; simp
  clear hW
  refine (l20Open_any A c bs _ (H.out.below BW.out) HB.out hl hc).mono ?_
  rintro e w1 ⟨R, rfl, hR, r, b⟩
  have r := hide r
  replace X2 := hide (X2.out.below b)
  replace X3 := hide (X3.out.below b)
  replace BW := hide (bthen BW.out b)
  clear b
  go_wp2_with fail
  refine (l20Called_any R 0 _ r.out (by omega)).mono ?_
  rintro e w2 ⟨P0, P1, P2, p0, p1, p2, C, f, d, rfl, P, len, hf, hd, r', g⟩
  have yR := r.out.lt
  have z2 := g.size
  replace X2 := hide (X2.out.grown g (by intro e; injection e; omega)); replace X3 := hide (X3.out.grown g (by intro e; injection e; omega))
  have zB := BW.out.size
  replace BW := hide (BW.out.grown g BW.out.size (by intro k hk; injection hk; omega)); replace P := hide P
  clear r' g r
  have X2_lt := X2.out.lt
  have X2_c0 := X2.out.at (i := 0) rfl; have X2_f0 := X2.out.frozen 0
  have X2_c1 := X2.out.at (i := 1) rfl; have X2_f1 := X2.out.frozen 1
  have X2_c2 := X2.out.at (i := 2) rfl; have X2_f2 := X2.out.frozen 2
  have X3_lt := X3.out.lt
  have X3_c0 := X3.out.at (i := 0) rfl; have X3_f0 := X3.out.frozen 0
  have X3_c1 := X3.out.at (i := 1) rfl; have X3_f1 := X3.out.frozen 1
  go_wp2_with fail
  refine bodyPost_ret (by simp [results, Try.results20, go_sem, X2_c0, X2_c1, X2_c2, X3_c0, X3_c1]; rfl) rfl ?_
  have o := only5 w2 w.heap.size (.slice P0 C.up.length p0) (.slice P1 C.dn.length p1) (.slice P2 C.car.length p2) (.int .i64 f) (.int .i64 d)
  exact ⟨P0, P1, P2, p0, p1, p2, C, f, d, rfl, (P.out.only o (.inr (by omega))).mono (by omega) o.size, len, hf, hd, Only.then BW.out o (Nat.le_refl _) (by omega)⟩
set_option maxHeartbeats 1000000 in
theorem drawSweepStops_any (A : Option Addr) (c : Nat) (bs : List Int) (w : World) (h : Sl w A (bvs bs)) (hb : ∀ x ∈ bs, 0 ≤ x ∧ x ≤ 255) (hl : bs.length ≤ 1048576) (hc : bs.length ≤ c) :
    Calls Try.prog 32 #[.slice A bs.length c] w (DrewCP w) := by
  have H := hide h; have HB := hide hb; clear h hb
  go_enter Try.func32, Try.ntmps32
  go_wp2_with fail
  refine calls_name fun W hW => ?_
  have X2 : Hid (Box W w.heap.size #[.slice none 0 0, .slice none 0 0, .slice none 0 0]) := by rw [hW]; exact (Box.new rfl).alloc _
  have X3 : Hid (Box W (w.heap.size + 1) #[.int .i64 0, .int .i64 0]) := by rw [hW]; exact Box.new (by simp)
  have BW : Hid (Below w.heap.size w W) := by rw [hW]; exact ((Below.refl _ _).alloc (Nat.le_refl _) _).alloc (by simp) _
  have z0 : w.heap.size + 1 < W.heap.size := by rw [hW]; simp
  clear hW
  refine (l20Open_any A c bs _ (H.out.below BW.out) HB.out hl hc).mono ?_
  rintro e w1 ⟨R, rfl, hR, r, b⟩
  have r := hide r
  replace X2 := hide (X2.out.below b)
  replace X3 := hide (X3.out.below b)
  replace BW := hide (bthen BW.out b)
  clear b
  go_wp2_with fail
  refine (l20Called_any R 0 _ r.out (by omega)).mono ?_
  rintro e w2 ⟨P0, P1, P2, p0, p1, p2, C, f, d, rfl, P, len, hf, hd, r', g⟩
  have yR := r.out.lt
  have z2 := g.size
  replace X2 := hide (X2.out.grown g (by intro e; injection e; omega)); replace X3 := hide (X3.out.grown g (by intro e; injection e; omega))
  have zB := BW.out.size
  replace BW := hide (BW.out.grown g BW.out.size (by intro k hk; injection hk; omega)); replace P := hide P
  clear r' g r
  have X2_lt := X2.out.lt
  have X2_c0 := X2.out.at (i := 0) rfl; have X2_f0 := X2.out.frozen 0
  have X2_c1 := X2.out.at (i := 1) rfl; have X2_f1 := X2.out.frozen 1
  have X2_c2 := X2.out.at (i := 2) rfl; have X2_f2 := X2.out.frozen 2
  have X3_lt := X3.out.lt
  have X3_c0 := X3.out.at (i := 0) rfl; have X3_f0 := X3.out.frozen 0
  have X3_c1 := X3.out.at (i := 1) rfl; have X3_f1 := X3.out.frozen 1
  go_wp2_with fail
  refine bodyPost_ret (by simp [results, Try.results32, go_sem, X2_c0, X2_c1, X2_c2, X3_c0, X3_c1]; rfl) rfl ?_
  have o := only5 w2 w.heap.size (.slice P0 C.up.length p0) (.slice P1 C.dn.length p1) (.slice P2 C.car.length p2) (.int .i64 f) (.int .i64 d)
  exact ⟨P0, P1, P2, p0, p1, p2, C, f, d, rfl, (P.out.only o (.inr (by omega))).mono (by omega) o.size, len, hf, hd, Only.then BW.out o (Nat.le_refl _) (by omega)⟩
end Go.Proofs.Ytngblphkpkhppaa
