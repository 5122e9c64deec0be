/- Drawn calls and stops. -/
import Derived.Test.YtbkjgiomamlajaaDrawCalls2
namespace Go.Proofs.Ytbkjgiomamlajaa
open Go.RowKit
attribute [local go_sem ↓] Go.wp_at_zero Go.wp_at_succ

theorem Box.pick {w w' : World} {g R : Nat} {cs : Array Value} (h : Box w g cs) (b : w.grownBy w' (some R)) (hg : R < g) : Box w' g cs := h.grown b (by intro e; injection e; omega)
/-- A floor and a direction, small; the reader has gone on. -/
def DrawnP (R q : Nat) (w : World) (e : Ending) (w' : World) : Prop := ∃ f d : Int, e = .returned (.agg #[.int .i64 f, .int .i64 d]) ∧ (-1 ≤ f ∧ f ≤ 9) ∧ (-1 ≤ d ∧ d ≤ 2) ∧ Rd w' R q ∧ w.grownBy w' (some R)
theorem DrawnP.of {w W : World} {R q q' : Nat} {f d : Int} (hf : -1 ≤ f ∧ f ≤ 9) (hd : -1 ≤ d ∧ d ≤ 2) (rd : Rd W R q) (hq : q ≤ q') (gr : w.grownBy W (some R)) (hR : R < w.heap.size) {a b : Value} :
    DrawnP R q' w (.returned (.agg #[.int .i64 f, .int .i64 d])) ((W.setCell ⟨w.heap.size, 0, none⟩ a).setCell ⟨w.heap.size, 1, none⟩ b) := by
  have o := onlyW2 (g := w.heap.size) W a b
  exact ⟨f, d, rfl, hf, hd, (rd.keep fun k hk => o.block k (by have := rd.lt; omega) (.inl (by omega))).mono hq,
    ⟨o.os.trans gr.os, o.tape.trans gr.tape, o.output.trans gr.output, Nat.le_trans gr.size o.size, fun k hk hne => (o.block k (Nat.lt_of_lt_of_le hk gr.size) (.inl (by omega))).trans (gr.block k hk hne)⟩⟩
set_option maxHeartbeats 2000000 in
theorem l20Stop_any (R q : Nat) (fl : Nat) (n : Int) (w : World) (h : Rd w R q) (hq : q ≤ 10000) (f1 : 1 ≤ fl) (f2 : fl ≤ 9) (hn : 0 ≤ n) (hn2 : n ≤ 1000) :
    Calls Try.prog 71 #[.pointer (some ⟨R, 0, none⟩), .int .i64 fl, .int .i64 n] w (DrawnP R (q + 10) w) := by
  have r := hide h
  have hRw := h.lt
  clear h
  go_enter Try.func71, Try.ntmps71
  go_wp2_with fail
  refine calls_name fun W hW => ?_
  have X6 := hide (Box.new' (g := w.heap.size) hW rfl)
  have b : Below w.heap.size w W := by rw [hW]; exact (Below.refl _ _).alloc (Nat.le_refl _) _
  replace r := hide (r.out.below b)
  have G : Hid (w.grownBy W (some R)) := grown_below (grown_refl w R) b
  have z0 := X6.out.lt
  clear b hW
  refine (pick_any R _ _ _ r.out (by omega) (by omega)).mono ?_
  rintro e w1 ⟨x, rfl, xa, xb, r', g, z⟩
  replace X6 := hide (X6.out.pick g hRw); replace r := hide r'; replace G := hide (grown_then G.out g)
  have z1 := Nat.le_of_eq z.symm
  have xc : x ≤ 8 := by omega
  clear r' g z xb
  go_wp2_with fail
  refine (pick_any R _ _ _ r.out (by omega) (by omega)).mono ?_
  rintro e w2 ⟨y, rfl, ya, yb, r', g, z⟩
  replace X6 := hide (X6.out.pick g hRw); replace r := hide r'; replace G := hide (grown_then G.out g)
  have z2 := Nat.le_of_eq z.symm
  clear r' g z
  go_wp2_with fail
  refine calls_name fun W3 hW => ?_
  have X7 := hide (Box.new' (g := w2.heap.size) hW rfl)
  have b : Below w2.heap.size w2 W3 := by rw [hW]; exact (Below.refl _ _).alloc (Nat.le_refl _) _
  replace X6 := hide (X6.out.below b); replace r := hide (r.out.below b); replace G := hide (grown_below G.out (b.mono G.out.size))
  have z3 := X7.out.lt
  clear b hW
  refine (odd_any R _ _ _ r.out (by omega) (by omega) (by omega)).mono ?_
  rintro e w4 ⟨t, rfl, r', g, z⟩
  replace X6 := hide (X6.out.pick g hRw); replace X7 := hide (X7.out.pick g (by omega)); replace r := hide r'; replace G := hide (grown_then G.out g)
  have z4 := Nat.le_of_eq z.symm
  clear r' g z
  cases t
  · have X6_lt := X6.out.lt
    have X6_c0 := X6.out.at (i := 0) rfl; have X6_f0 := X6.out.frozen 0
    have X6_c1 := X6.out.at (i := 1) rfl; have X6_f1 := X6.out.frozen 1
    have X7_lt := X7.out.lt
    have X7_c0 := X7.out.at (i := 0) rfl; have X7_f0 := X7.out.frozen 0
    have X7_c1 := X7.out.at (i := 1) rfl; have X7_f1 := X7.out.frozen 1
    go_wp2_with fail
    refine bodyPost_ret (by simp [results, Try.results71, go_sem, X6_c0, X6_c1]; rfl) rfl ?_
    exact DrawnP.of (by omega) (by omega) r.out (by omega) G.out hRw
  · go_wp2_with fail
    refine (pick_any R _ _ _ r.out (by omega) (by omega)).mono ?_
    rintro e w5 ⟨u, rfl, ua, ub, r', g, z⟩
    replace X6 := hide (X6.out.pick g hRw); replace X7 := hide (X7.out.pick g (by omega)); replace r := hide r'; replace G := hide (grown_then G.out g)
    have z5 := Nat.le_of_eq z.symm
    clear r' g z
    have hu : u = 0 ∨ u = 1 := by omega
    clear ua ub
    rcases hu with rfl | rfl
    · go_wp2_with fail
      refine calls_name fun W6 hW => ?_
      have X8 := hide (Box.new' (g := w5.heap.size) hW rfl)
      have b : Below w5.heap.size w5 W6 := by rw [hW]; exact (Below.refl _ _).alloc (Nat.le_refl _) _
      replace X6 := hide (X6.out.below b); replace X7 := hide (X7.out.below b); replace r := hide (r.out.below b); replace G := hide (grown_below G.out (b.mono G.out.size))
      have z6 := X8.out.lt
      clear b hW
      refine (pick_any R _ _ _ r.out (by omega) (by omega)).mono ?_
      rintro e w7 ⟨u, rfl, ua, ub, r', g, z⟩
      replace X6 := hide (X6.out.pick g hRw); replace X7 := hide (X7.out.pick g (by omega)); replace X8 := hide (X8.out.pick g (by omega)); replace r := hide r'; replace G := hide (grown_then G.out g)
      have z7 := Nat.le_of_eq z.symm
      clear r' g z
      have hu : u = 0 ∨ u = 1 := by omega
      clear ua ub
      have n1 : ¬ w2.heap.size = w.heap.size := by omega
      rcases hu with rfl | rfl
      all_goals
        have X6_lt := X6.out.lt
        have X6_c0 := X6.out.at (i := 0) rfl; have X6_f0 := X6.out.frozen 0
        have X6_c1 := X6.out.at (i := 1) rfl; have X6_f1 := X6.out.frozen 1
        have X7_lt := X7.out.lt
        have X7_c0 := X7.out.at (i := 0) rfl; have X7_f0 := X7.out.frozen 0
        have X7_c1 := X7.out.at (i := 1) rfl; have X7_f1 := X7.out.frozen 1
        have X8_lt := X8.out.lt
        have X8_c0 := X8.out.at (i := 0) rfl; have X8_f0 := X8.out.frozen 0
        have X8_c1 := X8.out.at (i := 1) rfl; have X8_f1 := X8.out.frozen 1
        go_wp2_with fail
        refine bodyPost_ret (by simp [results, Try.results71, go_sem, X6_c0, X6_c1]; rfl) rfl ?_
        exact DrawnP.of (by omega) (by omega) (rd_set r.out (by simp; omega) _) (by omega) (gr_set G.out (by simp; omega) _) hRw
    · go_wp2_with fail
      refine calls_name fun W6 hW => ?_
      have X8 := hide (Box.new' (g := w5.heap.size) hW rfl)
      have b : Below w5.heap.size w5 W6 := by rw [hW]; exact (Below.refl _ _).alloc (Nat.le_refl _) _
      replace X6 := hide (X6.out.below b); replace X7 := hide (X7.out.below b); replace r := hide (r.out.below b); replace G := hide (grown_below G.out (b.mono G.out.size))
      have z6 := X8.out.lt
      clear b hW
      refine (pick_any R _ _ _ r.out (by omega) (by omega)).mono ?_
      rintro e w7 ⟨u, rfl, ua, ub, r', g, z⟩
      replace X6 := hide (X6.out.pick g hRw); replace X7 := hide (X7.out.pick g (by omega)); replace X8 := hide (X8.out.pick g (by omega)); replace r := hide r'; replace G := hide (grown_then G.out g)
      have z7 := Nat.le_of_eq z.symm
      clear r' g z
      have hu : u = 0 ∨ u = 1 := by omega
      clear ua ub
      have n1 : ¬ w2.heap.size = w.heap.size := by omega
      rcases hu with rfl | rfl
      all_goals
        have X6_lt := X6.out.lt
        have X6_c0 := X6.out.at (i := 0) rfl; have X6_f0 := X6.out.frozen 0
        have X6_c1 := X6.out.at (i := 1) rfl; have X6_f1 := X6.out.frozen 1
        have X7_lt := X7.out.lt
        have X7_c0 := X7.out.at (i := 0) rfl; have X7_f0 := X7.out.frozen 0
        have X7_c1 := X7.out.at (i := 1) rfl; have X7_f1 := X7.out.frozen 1
        have X8_lt := X8.out.lt
        have X8_c0 := X8.out.at (i := 0) rfl; have X8_f0 := X8.out.frozen 0
        have X8_c1 := X8.out.at (i := 1) rfl; have X8_f1 := X8.out.frozen 1
        go_wp2_with fail
        refine bodyPost_ret (by simp [results, Try.results71, go_sem, X6_c0, X6_c1]; rfl) rfl ?_
        exact DrawnP.of (by omega) (by omega) (rd_set r.out (by simp; omega) _) (by omega) (gr_set G.out (by simp; omega) _) hRw
end Go.Proofs.Ytbkjgiomamlajaa
