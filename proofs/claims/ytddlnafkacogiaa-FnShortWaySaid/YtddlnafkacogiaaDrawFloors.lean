/- Drawn floors, weights, visits, groups. -/
import Derived.Test.YtddlnafkacogiaaDraw
import Derived.Test.YtddlnafkacogiaaOwn
namespace Go.Proofs.Ytddlnafkacogiaa
open Go.RowKit

theorem Rd.belowAt {w w' : World} {R q LO : Nat} (h : Rd w R q) (b : Below LO w w') (hR : R < LO) : Rd w' R q := h.keep fun k hk => b.block k (by omega)
/-- A slice of int in new blocks, of which P holds; the reader has gone on. -/
def DrawnI (R q : Nat) (P : List Int → Prop) (w : World) (e : Ending) (w' : World) : Prop :=
  ∃ (A : Option Addr) (c : Nat) (xs : List Int), e = .returned (.slice A xs.length c) ∧ xs.length ≤ c ∧ FrI w.heap.size w' A xs ∧ P xs ∧ Rd w' R q ∧ w.grownBy w' (some R)
theorem DrawnI.mk {R q : Nat} {P : List Int → Prop} {w w' : World} {v : Value} {xs : List Int} (h : OwnI w.heap.size w' v xs) (hp : P xs) (r : Rd w' R q) (g : w.grownBy w' (some R)) : DrawnI R q P w (.returned v) w' := by
  obtain ⟨A, c, rfl, hc, f⟩ := h.form
  exact ⟨A, c, xs, rfl, hc, f, hp, r, g⟩
/-- A store into a row of the call's own. -/
theorem own_put {LO k : Nat} {w : World} {v : Value} {xs : List Int} {x : Int} (h : OwnI LO w v xs) (hx : xs[k]? = some x) (y : Int) :
    ∃ g cap, v = .slice (some ⟨g, 0, none⟩) xs.length cap ∧ LO ≤ g ∧ w.cell? ⟨g, k, none⟩ = some (.int .i64 x) ∧ w.frozen? ⟨g, k, none⟩ = false ∧ OwnI LO (w.setCell ⟨g, k, none⟩ (.int .i64 y)) v (xs.set k y) := by
  have hk := getElem?_lt hx
  have h0 : w.ownsRow LO 3 1 v xs.length (ivs xs) := h
  obtain ⟨g, cap, rfl, hg, -⟩ := h0.form (by omega)
  refine ⟨g, cap, rfl, hg, ?_, h0.frozenAt k, ?_⟩
  · rw [h0.cellAt k (by omega)]; simp [ivs, iv, hx]
  · have := (h0.stored k (.int .i64 y)).1
    rw [show (ivs xs).set k (.int .i64 y) = ivs (xs.set k y) from by simp [ivs, iv, List.map_set]] at this
    unfold OwnI
    rw [List.length_set]
    exact this
def FloorsD (xs : List Int) : Prop := xs.length ≤ 9

theorem l20Floors_any (R q : Nat) (n : Int) (w : World) (h : Rd w R q) (hq : q ≤ 10000) (hn : 0 ≤ n) (hn2 : n ≤ 1000) :
    Calls Try.prog 32 #[.pointer (some ⟨R, 0, none⟩), .int .i64 n] w (DrawnI R (q + 20) FloorsD w) := by
  have r := hide h
  have hRw := h.lt
  clear h
  go_enter Try.func32, Try.ntmps32
  have b0 : Below w.heap.size w (w.alloc (.cells #[.int .i64 0] 3)) := (Below.refl _ _).alloc (Nat.le_refl _) _
  replace r := hide (r.out.below b0)
  have G : Hid (w.grownBy (w.alloc (.cells #[.int .i64 0] 3)) (some R)) := grown_below (grown_refl w R) b0
  have O : Hid (OwnI w.heap.size (w.alloc (.cells #[.int .i64 0] 3)) (.slice (some ⟨w.heap.size, 0, none⟩) 1 1) [0]) := OwnI.lit [0] #[.int .i64 0] rfl (Nat.le_refl _) (by simp)
  clear b0
  go_wp2_with fail
  refine (pick_any R _ _ _ r.out (by omega) (by omega)).mono ?_
  rintro e w2 ⟨y, rfl, ya, yb, r', g, z⟩
  replace O := hide (O.out.grown g (by omega))
  replace r := hide r'; replace G := hide (grown_then G.out g); clear r' g z
  go_wp2_with fail
  go_loopw [5, 6, 7] (fun v t i wr => ∃ (k : Nat) (xs : List Int) (u : Int), i = .int .i64 (k : Int) ∧ t = .int .i64 u ∧ (0 ≤ u ∧ u ≤ 7 * xs.length) ∧ 1 ≤ xs.length ∧ xs.length + k ≤ 8 ∧ Hid (OwnI w.heap.size wr v xs) ∧ Hid (Rd wr R (q + 1 + xs.length)) ∧ Hid (w.grownBy wr (some R))) (fun _ _ i _ => (intOf i).toNat)
  case atStart =>
    obtain ⟨k, rfl⟩ := Int.eq_ofNat_of_zero_le ya
    exact ⟨k, [0], 0, rfl, rfl, by simp, by simp, by simp; omega, O, r.out.mono (by omega), G⟩
  case round =>
    clear r G O
    obtain ⟨k, xs, u, rfl, rfl, hu, h1, hk, O, r, G⟩ := hrel
    by_cases h0 : 0 < k
    · go_wp2_with fail
      refine (pick_any R _ _ _ r.out (by omega) (by omega)).mono ?_
      rintro e w2 ⟨p, rfl, pa, pb, r', g, z⟩
      replace O := hide (O.out.grown g (by omega))
      replace r := hide r'; replace G := hide (grown_then G.out g); clear r' g z
      have hL : w.heap.size ≤ w2.heap.size := G.out.size
      go_wp2_with (at_builtin; refine wp_app1 rfl (.tmp 20) (.tmp 22) rfl w.heap.size _ _ xs (u + 2 + p) rfl rfl O.out (by omega) hL ?_; intro v' w3 hown hb)
      have O3 := hide hown; have r3 := hide (r.out.belowAt hb hRw); have G3 := hide (grown_below G.out hb)
      clear hown hb O r G
      go_wp2_with fail
      go_roundw
      case rel => exact ⟨k - 1, xs ++ [u + 2 + p], u + 2 + p, by go_num, rfl, by simp; omega, by simp, by simp; omega, O3, r3.out.mono (by simp; omega), G3⟩
      case measure => simp [intOf]; omega
    · go_wp2_with fail
      refine (odd_any R _ _ _ r.out (by omega) (by omega) (by omega)).mono ?_
      rintro e w2 ⟨b, rfl, r', g, z⟩
      replace O := hide (O.out.grown g (by omega))
      replace r := hide r'; replace G := hide (grown_then G.out g); clear r' g z
      cases b
      · go_wp2_with fail
        go_ret
        exact DrawnI.mk O.out (by unfold FloorsD; omega) (r.out.mono (by omega)) G.out
      · go_wp2_with fail
        refine (pick_any R _ _ _ r.out (by omega) (by omega)).mono ?_
        rintro e w2 ⟨t, rfl, ta, tb, r', g, z⟩
        replace O := hide (O.out.grown g (by omega))
        replace r := hide r'; replace G := hide (grown_then G.out g); clear r' g z
        have hL : w.heap.size ≤ w2.heap.size := G.out.size
        have ht : t = 0 ∨ t = 1 ∨ t = 2 ∨ t = 3 := by omega
        rcases ht with rfl | rfl | rfl | rfl
        · go_wp2_with fail
          go_ret
          have b1 : Below w2.heap.size w2 (w2.alloc (.cells #[] 3)) := (Below.refl _ _).alloc (Nat.le_refl _) _
          exact DrawnI.mk (xs := []) (OwnI.lit [] #[] rfl hL (by simp)) (by simp [FloorsD]) ((r.out.below b1).mono (by omega)) (grown_below G.out (b1.mono hL))
        · obtain ⟨x0, hx0⟩ : ∃ x, xs[0]? = some x := ⟨_, List.getElem?_eq_getElem (by omega)⟩
          obtain ⟨g, cap, rfl, hg, hc, hf, O2⟩ := own_put O.out hx0 1
          have O2 := hide O2
          have G2 := hide (grown_below G.out ((Below.refl w.heap.size w2).setCell (p := ⟨g, 0, none⟩) hg (.int .i64 1)))
          have r2 := hide (r.out.belowAt ((Below.refl w.heap.size w2).setCell (p := ⟨g, 0, none⟩) hg (.int .i64 1)) hRw)
          clear O G r hx0
          go_wp2_with fail
          go_ret
          exact DrawnI.mk O2.out (by simp [FloorsD]; omega) (r2.out.mono (by omega)) G2.out
        · obtain ⟨z, hz⟩ : ∃ x, xs[xs.length - 1]? = some x := ⟨_, List.getElem?_eq_getElem (by omega)⟩
          obtain ⟨g, cap, rfl, hg, hc, hf, -⟩ := own_put O.out hz 1
          clear hz
          go_wp2_with (at_builtin; refine wp_app1 rfl (.tmp 41) (.tmp 48) rfl w.heap.size _ _ xs z rfl rfl O.out (by omega) hL ?_; intro v' w3 hown hb)
          have O3 := hide hown; have r3 := hide (r.out.belowAt hb hRw); have G3 := hide (grown_below G.out hb)
          clear hown hb O r G
          go_wp2_with fail
          go_ret
          exact DrawnI.mk O3.out (by simp [FloorsD]; omega) (r3.out.mono (by omega)) G3.out
        · go_wp2_with (at_builtin; refine wp_app1 rfl (.tmp 29) (.tmp 30) rfl w.heap.size _ _ xs 61 rfl rfl O.out (by omega) hL ?_; intro v' w3 hown hb)
          have O3 := hide hown; have r3 := hide (r.out.belowAt hb hRw); have G3 := hide (grown_below G.out hb)
          clear hown hb O r G
          go_wp2_with fail
          go_ret
          exact DrawnI.mk O3.out (by simp [FloorsD]; omega) (r3.out.mono (by omega)) G3.out
theorem l20Visits_any (R q : Nat) (A : Option Addr) (c m : Nat) (n : Int) (w : World) (h : Rd w R q) (hm : m ≤ 9) (hq : q ≤ 10000) (hn : 0 ≤ n) (hn2 : n ≤ 1000) :
    Calls Try.prog 34 #[.pointer (some ⟨R, 0, none⟩), .slice A m c, .int .i64 n] w (DrawnI R (q + 20) (fun xs => xs.length ≤ 10) w) := by
  have r := hide h
  have hRw := h.lt
  clear h
  go_enter Try.func34, Try.ntmps34
  have b0 : Below w.heap.size w (w.alloc (.cells #[] 3)) := (Below.refl _ _).alloc (Nat.le_refl _) _
  replace r := hide (r.out.below b0)
  have G : Hid (w.grownBy (w.alloc (.cells #[] 3)) (some R)) := grown_below (grown_refl w R) b0
  have O : Hid (OwnI w.heap.size (w.alloc (.cells #[] 3)) (.slice (some ⟨w.heap.size, 0, none⟩) 0 0) []) := OwnI.lit [] #[] rfl (Nat.le_refl _) (by simp)
  clear b0
  go_wp2_with fail
  go_loopw [7, 8] (fun v i wr => ∃ (k : Nat) (xs : List Int), i = .int .i64 (k : Int) ∧ xs.length ≤ k ∧ k ≤ m ∧ Hid (OwnI w.heap.size wr v xs) ∧ Hid (Rd wr R (q + k)) ∧ Hid (w.grownBy wr (some R))) (fun _ i _ => m - (intOf i).toNat)
  case atStart => exact ⟨0, [], rfl, by simp, by omega, O, r, G⟩
  case round =>
    clear r G O
    obtain ⟨k, xs, rfl, h1, hk, O, r, G⟩ := hrel
    by_cases h0 : k < m
    · go_wp2_with fail
      refine (pick_any R _ _ _ r.out (by omega) (by omega)).mono ?_
      rintro e w2 ⟨p, rfl, pa, pb, r', g, z⟩
      replace O := hide (O.out.grown g (by omega))
      replace r := hide r'; replace G := hide (grown_then G.out g); clear r' g z
      have hL : w.heap.size ≤ w2.heap.size := G.out.size
      by_cases hp : p = 0
      · subst hp
        go_wp2_with (at_builtin; refine wp_app1 rfl (.tmp 19) (.tmp 21) rfl w.heap.size _ _ xs k rfl rfl O.out (by omega) hL ?_; intro v' w3 hown hb)
        have O3 := hide hown; have r3 := hide (r.out.belowAt hb hRw); have G3 := hide (grown_below G.out hb)
        clear hown hb O r G
        go_wp2_with fail
        go_roundw
        case rel => exact ⟨k + 1, xs ++ [(k : Int)], by go_num, by simp; omega, by omega, O3, r3.out.mono (by omega), G3⟩
        case measure => simp [intOf]; omega
      · have hp' : (p == 0) = false := by simpa using hp
        clear hp
        go_wp2_with fail
        go_roundw
        case rel => exact ⟨k + 1, xs, by go_num, by omega, by omega, O, r.out.mono (by omega), G⟩
        case measure => simp [intOf]; omega
    · go_wp2_with fail
      refine (odd_any R _ _ _ r.out (by omega) (by omega) (by omega)).mono ?_
      rintro e w2 ⟨b, rfl, r', g, z⟩
      replace O := hide (O.out.grown g (by omega))
      replace r := hide r'; replace G := hide (grown_then G.out g); clear r' g z
      cases b
      · go_wp2_with fail
        go_ret
        exact DrawnI.mk O.out (by omega) (r.out.mono (by omega)) G.out
      · have hL : w.heap.size ≤ w2.heap.size := G.out.size
        have b1 : Below w2.heap.size w2 (w2.alloc (.cells #[.int .i64 0, .int .i64 m] 3)) := (Below.refl _ _).alloc (Nat.le_refl _) _
        have F := hide (owns_fri (OwnI.lit (LO := w.heap.size) (w := w2) [0, (m : Int)] #[.int .i64 0, .int .i64 m] rfl hL (by simp)))
        replace r := hide (r.out.below b1); replace G := hide (grown_below G.out (b1.mono hL)); replace O := hide (O.out.below b1)
        clear b1
        go_wp2_with fail
        refine (pick_any R _ _ _ r.out (by omega) (by omega)).mono ?_
        rintro e w2 ⟨t, rfl, ta, tb, r', g, z⟩
        replace O := hide (O.out.grown g (by omega))
        replace F := hide (F.out.grown g (by omega))
        replace r := hide r'; replace G := hide (grown_then G.out g); clear r' g z
        have hL2 : w.heap.size ≤ w2.heap.size := G.out.size
        have ht : t = 0 ∨ t = 1 := by omega
        rcases ht with rfl | rfl
        · obtain ⟨y, hy, hcy⟩ := F.out.1.cell (k := 0) (by simp)
          obtain rfl : y = 0 := by have := hy.out; simp at this; omega
          simp only [Nat.add_zero] at hcy
          go_wp2_with (at_builtin; refine wp_app1 rfl (.tmp 26) (.tmp 34) rfl w.heap.size _ _ xs 0 rfl rfl O.out (by omega) hL2 ?_; intro v' w3 hown hb)
          have O3 := hide hown; have r3 := hide (r.out.belowAt hb hRw); have G3 := hide (grown_below G.out hb)
          clear hown hb O r G
          go_wp2_with fail
          go_ret
          exact DrawnI.mk O3.out (by simp; omega) (r3.out.mono (by omega)) G3.out
        · obtain ⟨y, hy, hcy⟩ := F.out.1.cell (k := 1) (by simp)
          obtain rfl : y = m := by have := hy.out; simp at this; omega
          go_wp2_with (at_builtin; refine wp_app1 rfl (.tmp 26) (.tmp 34) rfl w.heap.size _ _ xs m rfl rfl O.out (by omega) hL2 ?_; intro v' w3 hown hb)
          have O3 := hide hown; have r3 := hide (r.out.belowAt hb hRw); have G3 := hide (grown_below G.out hb)
          clear hown hb O r G
          go_wp2_with fail
          go_ret
          exact DrawnI.mk O3.out (by simp; omega) (r3.out.mono (by omega)) G3.out
end Go.Proofs.Ytddlnafkacogiaa
