import Derived.Test.YtammgbnekmcaeaaDrawFloors
namespace Go.Proofs.Ytammgbnekmcaeaa
open Go.RowKit

/-- A slice of int in new blocks, of which P holds. -/
def DrawI (P : List Int → Prop) (w : World) (e : Ending) (w' : World) : Prop :=
  ∃ (A : Option Addr) (c : Nat) (xs : List Int), e = .returned (.slice A xs.length c) ∧ xs.length ≤ c ∧ FrI w.heap.size w' A xs ∧ P xs ∧ Below w.heap.size w w'

theorem l20Weights_any (R q : Nat) (n : Int) (w : World) (h : Rd w R q) (hq : q ≤ 10000) (hn : 0 ≤ n) (hn2 : n ≤ 1000) :
    Calls Try.prog 50 #[.pointer (some ⟨R, 0, none⟩), .int .i64 n] w (DrawnI R (q + 20) FloorsD w) := by
  have r := hide h
  have hRw := h.lt
  clear h
  go_enter Try.func50, Try.ntmps50
  have b0 : Below w.heap.size w (w.alloc (.cells #[] 3)) := (Below.refl _ _).alloc (Nat.le_refl _) _
  replace r := hide (r.out.below b0)
  have G : Hid (w.grownBy (w.alloc (.cells #[] 3)) (some R)) := grown_below (grown_refl w R) b0
  have O : Hid (OwnI w.heap.size (w.alloc (.cells #[] 3)) (.slice (some ⟨w.heap.size, 0, none⟩) 0 0) []) := OwnI.lit [] #[] rfl (Nat.le_refl _) (by simp)
  clear b0
  go_wp2_with fail
  refine (pick_any R _ _ _ r.out (by omega) (by omega)).mono ?_
  rintro e w2 ⟨y, rfl, ya, yb, r', g, z⟩
  replace O := hide (O.out.grown g (by omega))
  replace r := hide r'; replace G := hide (grown_then G.out g); clear r' g z
  go_wp2_with fail
  go_loopw [5, 6] (fun v i wr => ∃ (k : Nat) (xs : List Int), i = .int .i64 (k : Int) ∧ xs.length + k ≤ 8 ∧ Hid (OwnI w.heap.size wr v xs) ∧ Hid (Rd wr R (q + 1 + xs.length)) ∧ Hid (w.grownBy wr (some R))) (fun _ i _ => (intOf i).toNat)
  case atStart =>
    obtain ⟨k, rfl⟩ := Int.eq_ofNat_of_zero_le ya
    exact ⟨k, [], rfl, by simp; omega, O, r, G⟩
  case round =>
    clear r G O
    obtain ⟨k, xs, rfl, hk, O, r, G⟩ := hrel
    by_cases h0 : 0 < k
    · go_wp2_with fail
      refine (pick_any R _ _ _ r.out (by omega) (by omega)).mono ?_
      rintro e w2 ⟨p, rfl, pa, pb, r', g, z⟩
      replace O := hide (O.out.grown g (by omega))
      replace r := hide r'; replace G := hide (grown_then G.out g); clear r' g z
      have hL : w.heap.size ≤ w2.heap.size := G.out.size
      go_wp2_with (at_builtin; refine wp_app1 rfl (.tmp 14) (.tmp 18) rfl w.heap.size _ _ xs (1 + p) rfl rfl O.out (by omega) hL ?_; intro v' w3 hown hb)
      have O3 := hide hown; have r3 := hide (r.out.belowAt hb hRw); have G3 := hide (grown_below G.out hb)
      clear hown hb O r G
      go_wp2_with fail
      go_roundw
      case rel => exact ⟨k - 1, xs ++ [1 + p], by go_num, by simp; omega, O3, r3.out.mono (by simp; omega), G3⟩
      case measure => simp [intOf]; omega
    · go_wp2_with fail
      refine (odd_any R _ _ _ r.out (by omega) (by omega) (by omega)).mono ?_
      rintro e w2 ⟨b, rfl, r', g, z⟩
      replace O := hide (O.out.grown g (by omega))
      replace r := hide r'; replace G := hide (grown_then G.out g); clear r' g z
      cases b
      · go_wp2_with fail
        go_ret
        exact DrawnI.mk O.out (by unfold FloorsD; omega) (r.out.mono (by omega)) G.out
      · go_wp2_with fail
        refine (pick_any R _ _ _ r.out (by omega) (by omega)).mono ?_
        rintro e w2 ⟨u, rfl, ua, ub, r', g, z⟩
        replace O := hide (O.out.grown g (by omega))
        replace r := hide r'; replace G := hide (grown_then G.out g); clear r' g z
        by_cases hu : u = 0
        · subst hu
          obtain ⟨i0, hi, hz0, hz1, hz2⟩ := info_parts info_int
          have hL : w.heap.size ≤ w2.heap.size := G.out.size
          go_wp2_with (at_make; refine wpList_make_full _ rfl _ _ 22 rfl w.heap.size 3 i0 (.int .i64 0) 1 Try.underlying22 hi hz0 hz1 .i64 .i64 _ _ 9 rfl rfl rfl rfl (by rw [hz2]; omega) (by unfold maxLen; omega) hL ?_; intro w3 hown hgrow)
          have O3 := hide (OwnI.made hown); have b3 := own_below (World.ownsRow_nil w2 w.heap.size 3 1) hgrow hL
          have r3 := hide (r.out.belowAt b3 hRw); have G3 := hide (grown_below G.out b3)
          clear hown hgrow b3 hi hz0 hz1 hz2
          go_wp2_with fail
          go_ret
          exact DrawnI.mk O3.out (by simp [FloorsD]) (r3.out.mono (by omega)) G3.out
        · have hu' : (u == 0) = false := by simpa using hu
          clear hu
          have hL : w.heap.size ≤ w2.heap.size := G.out.size
          have b1 : Below w2.heap.size w2 (w2.alloc (.cells #[.int .i64 0, .int .i64 41] 3)) := (Below.refl _ _).alloc (Nat.le_refl _) _
          have F := hide (owns_fri (OwnI.lit (LO := w.heap.size) (w := w2) [0, 41] #[.int .i64 0, .int .i64 41] rfl hL (by simp)))
          replace r := hide (r.out.below b1); replace G := hide (grown_below G.out (b1.mono hL)); replace O := hide (O.out.below b1)
          obtain ⟨A, c, rfl, -, f0⟩ := O.out.form
          clear b1 f0
          go_wp2_with fail
          refine (pick_any R _ _ _ r.out (by omega) (by omega)).mono ?_
          rintro e w2 ⟨t, rfl, ta, tb, r', g, z⟩
          replace O := hide (O.out.grown g (by omega))
          replace F := hide (F.out.grown g (by omega))
          replace r := hide r'; replace G := hide (grown_then G.out g); clear r' g z
          have hL2 : w.heap.size ≤ w2.heap.size := G.out.size
          obtain ⟨A', c', e, -, f1⟩ := O.out.form
          injection e with e1 e2 e3; subst e1; subst e3
          have f1 := hide f1
          have key : ∀ y : Int, ∀ v' w3, OwnI w.heap.size w3 v' ([y] ++ xs) → Below w.heap.size w2 w3 → DrawnI R (q + 20) FloorsD w (.returned v') w3 := by
            intro y v' w3 h3 b3
            exact DrawnI.mk h3 (by simp [FloorsD]; omega) ((r.out.belowAt b3 hRw).mono (by omega)) (grown_below G.out b3)
          have KEY := hide key
          clear key
          have ht : t = 0 ∨ t = 1 := by omega
          rcases ht with rfl | rfl
          · obtain ⟨y, hy, hcy⟩ := F.out.1.cell (k := 0) (by simp)
            obtain rfl : y = 0 := by have := hy.out; simp at this; omega
            simp only [Nat.add_zero] at hcy
            go_wp2_with (at_builtin; refine wp_app rfl (.tmp 32) (.tmp 33) rfl w.heap.size _ _ [0] A xs.length c xs rfl rfl rfl (OwnI.lit [0] #[.int .i64 0] rfl hL2 (by simp)) ((f1.out.below ((Below.refl _ _).alloc (Nat.le_refl _) _)).1) (by simp; omega) (by simp; omega) ?_; intro v' w3 hown hb)
            have D := hide (KEY.out 0 v' w3 hown ((((Below.refl _ _).alloc (Nat.le_refl _) _).mono hL2).trans hb))
            clear hown hb
            go_wp2_with fail
            go_ret
            exact D.out
          · obtain ⟨y, hy, hcy⟩ := F.out.1.cell (k := 1) (by simp)
            obtain rfl : y = 41 := by have := hy.out; simp at this; omega
            go_wp2_with (at_builtin; refine wp_app rfl (.tmp 32) (.tmp 33) rfl w.heap.size _ _ [41] A xs.length c xs rfl rfl rfl (OwnI.lit [41] #[.int .i64 41] rfl hL2 (by simp)) ((f1.out.below ((Below.refl _ _).alloc (Nat.le_refl _) _)).1) (by simp; omega) (by simp; omega) ?_; intro v' w3 hown hb)
            have D := hide (KEY.out 41 v' w3 hown ((((Below.refl _ _).alloc (Nat.le_refl _) _).mono hL2).trans hb))
            clear hown hb
            go_wp2_with fail
            go_ret
            exact D.out
theorem drawLoadFirst_any (A : Option Addr) (c : Nat) (bs : List Int) (w : World) (h : Sl w A (bvs bs)) (hb : ∀ x ∈ bs, 0 ≤ x ∧ x ≤ 255) (hl : bs.length ≤ 1048576) (hc : bs.length ≤ c) :
    Calls Try.prog 20 #[.slice A bs.length c] w (DrawI FloorsD w) := by
  have H := hide h; have HB := hide hb; clear h hb
  go_enter Try.func20, Try.ntmps20
  go_wp2_with fail
  refine (l20Open_any A c bs _ H.out HB.out hl hc).mono ?_
  rintro e w1 ⟨R, rfl, hR, r, b⟩
  replace r := hide r; have B := hide b; clear b
  go_wp2_with fail
  refine (l20Weights_any R _ _ _ r.out (by omega) (by omega) (by omega)).mono ?_
  rintro e w2 ⟨A', c', xs, rfl, hc', f, hp, -, g⟩
  replace f := hide (f.mono B.out.size); replace hp := hide hp; replace B := hide (B.out.grown g B.out.size (by simpa using hR))
  clear g r
  go_wp2_with fail
  go_ret
  exact ⟨A', c', xs, rfl, hc', f.out, hp.out, B.out⟩
end Go.Proofs.Ytammgbnekmcaeaa
