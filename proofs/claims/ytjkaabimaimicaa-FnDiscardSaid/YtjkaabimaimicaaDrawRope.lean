import Derived.Test.YtjkaabimaimicaaDraw
import Derived.Test.YtjkaabimaimicaaOwn
import Derived.Test.YtjkaabimaimicaaWorstPlain
namespace Go.Proofs.Ytjkaabimaimicaa
open Go.RowKit

theorem Rd.belowAt {w w' : World} {R q LO : Nat} (h : Rd w R q) (b : Below LO w w') (hR : R < LO) : Rd w' R q := h.keep fun k hk => b.block k (by omega)
/-- A slice of int in new blocks, of which P holds; the reader has gone on. -/
def DrawnI (R q : Nat) (P : List Int → Prop) (w : World) (e : Ending) (w' : World) : Prop :=
  ∃ (A : Option Addr) (c : Nat) (xs : List Int), e = .returned (.slice A xs.length c) ∧ xs.length ≤ c ∧ FrI w.heap.size w' A xs ∧ P xs ∧ Rd w' R q ∧ w.grownBy w' (some R)
theorem DrawnI.mk {R q : Nat} {P : List Int → Prop} {w w' : World} {v : Value} {xs : List Int} (h : OwnI w.heap.size w' v xs) (hp : P xs) (r : Rd w' R q) (g : w.grownBy w' (some R)) : DrawnI R q P w (.returned v) w' := by
  obtain ⟨A, c, rfl, hc, f⟩ := h.form
  exact ⟨A, c, xs, rfl, hc, f, hp, r, g⟩
def RopeD (xs : List Int) : Prop := xs.length ≤ 26 ∧ ∀ x ∈ xs, -1 ≤ x ∧ x ≤ 10

theorem l20Rope_any (R q : Nat) (n : Int) (w : World) (h : Rd w R q) (hq : q ≤ 10000) (hn : 0 ≤ n) (hn2 : n ≤ 1000) :
    Calls Try.prog 48 #[.pointer (some ⟨R, 0, none⟩), .int .i64 n] w (DrawnI R (q + 100) RopeD w) := by
  have r := hide h
  have hRw := h.lt
  clear h
  go_enter Try.func48, Try.ntmps48
  have b0 : Below w.heap.size w (w.alloc (.cells #[] 3)) := (Below.refl _ _).alloc (Nat.le_refl _) _
  replace r := hide (r.out.below b0)
  have G : Hid (w.grownBy (w.alloc (.cells #[] 3)) (some R)) := grown_below (grown_refl w R) b0
  have O : Hid (OwnI w.heap.size (w.alloc (.cells #[] 3)) (.slice (some ⟨w.heap.size, 0, none⟩) 0 0) []) := OwnI.lit [] #[] rfl (Nat.le_refl _) (by simp)
  clear b0
  go_wp2_with fail
  refine (pick_any R _ _ _ r.out (by omega) (by omega)).mono ?_
  rintro e w2 ⟨x, rfl, xa, xb, r', g, z⟩
  replace O := hide (O.out.grown g (by omega))
  replace r := hide r'; replace G := hide (grown_then G.out g); clear r' g z
  go_wp2_with fail
  refine (pick_any R _ _ _ r.out (by omega) (by omega)).mono ?_
  rintro e w2 ⟨y, rfl, ya, yb, r', g, z⟩
  replace O := hide (O.out.grown g (by omega))
  replace r := hide r'; replace G := hide (grown_then G.out g); clear r' g z
  go_wp2_with fail
  go_loopw [5, 7, 8] (fun v i _ wr => ∃ (k : Nat) (xs : List Int), i = .int .i64 (k : Int) ∧ xs.length + k ≤ 24 ∧ Hid (OwnI w.heap.size wr v xs) ∧ Hid (∀ x ∈ xs, 0 ≤ x ∧ x ≤ 9) ∧ Hid (Rd wr R (q + 2 + 2 * xs.length)) ∧ Hid (w.grownBy wr (some R))) (fun _ i _ _ => (intOf i).toNat)
  case atStart =>
    obtain ⟨k, rfl⟩ := Int.eq_ofNat_of_zero_le ya
    exact ⟨k, [], rfl, by simp; omega, O, (fun x hx => absurd hx (by simp)), r, G⟩
  case round =>
    clear r G O
    obtain ⟨k, xs, rfl, hk, O, hx, r, G⟩ := hrel
    by_cases h0 : 0 < k
    · go_wp2_with fail
      refine (pick_any R _ _ _ r.out (by omega) (by omega)).mono ?_
      rintro e w2 ⟨p, rfl, pa, pb, r', g, z⟩
      replace O := hide (O.out.grown g (by omega))
      replace r := hide r'; replace G := hide (grown_then G.out g); clear r' g z
      by_cases hp : p < 1 + x
      · go_wp2_with fail
        refine (pick_any R _ _ _ r.out (by omega) (by omega)).mono ?_
        rintro e w2 ⟨u, rfl, ua, ub, r', g, z⟩
        replace O := hide (O.out.grown g (by omega))
        replace r := hide r'; replace G := hide (grown_then G.out g); clear r' g z
        have hL : w.heap.size ≤ w2.heap.size := G.out.size
        go_wp2_with (at_builtin; refine wp_app1 rfl (.tmp 25) (.tmp 27) rfl w.heap.size _ _ xs u rfl rfl O.out (by omega) hL ?_; intro v' w3 hown hb)
        have O3 := hide hown; have r3 := hide (r.out.belowAt hb hRw); have G3 := hide (grown_below G.out hb)
        clear hown hb O r G
        go_wp2_with fail
        go_roundw
        case rel => exact ⟨k - 1, xs ++ [u], by go_num, by simp; omega, O3, fun x hxx => by rcases List.mem_append.1 hxx with h | h; exact hx x h; simp at h; omega, r3.out.mono (by simp; omega), G3⟩
        case measure => simp [intOf]; omega
      · have hL : w.heap.size ≤ w2.heap.size := G.out.size
        go_wp2_with (at_builtin; refine wp_app1 rfl (.tmp 25) (.tmp 27) rfl w.heap.size _ _ xs 0 rfl rfl O.out (by omega) hL ?_; intro v' w3 hown hb)
        have O3 := hide hown; have r3 := hide (r.out.belowAt hb hRw); have G3 := hide (grown_below G.out hb)
        clear hown hb O r G
        go_wp2_with fail
        go_roundw
        case rel => exact ⟨k - 1, xs ++ [0], by go_num, by simp; omega, O3, fun x hxx => by rcases List.mem_append.1 hxx with h | h; exact hx x h; simp at h; omega, r3.out.mono (by simp; omega), G3⟩
        case measure => simp [intOf]; omega
    · go_wp2_with fail
      refine (odd_any R _ _ _ r.out (by omega) (by omega) (by omega)).mono ?_
      rintro e w2 ⟨b, rfl, r', g, z⟩
      replace O := hide (O.out.grown g (by omega))
      replace r := hide r'; replace G := hide (grown_then G.out g); clear r' g z
      cases b
      · go_wp2_with fail
        go_ret
        exact DrawnI.mk O.out ⟨by omega, fun x hxx => by have := hx x hxx; omega⟩ (r.out.mono (by omega)) G.out
      · go_wp2_with fail
        refine (pick_any R _ _ _ r.out (by omega) (by omega)).mono ?_
        rintro e w2 ⟨u, rfl, ua, ub, r', g, z⟩
        replace O := hide (O.out.grown g (by omega))
        replace r := hide r'; replace G := hide (grown_then G.out g); clear r' g z
        by_cases hu : u = 0
        · subst hu
          obtain ⟨i0, hi, hz0, hz1, hz2⟩ := info_parts info_int
          have hL : w.heap.size ≤ w2.heap.size := G.out.size
          go_wp2_with (at_make; refine wpList_make_full _ rfl _ _ 25 rfl w.heap.size 3 i0 (.int .i64 0) 1 Try.underlying25 hi hz0 hz1 .i64 .i64 _ _ 25 rfl rfl rfl rfl (by rw [hz2]; omega) (by unfold maxLen; omega) hL ?_; intro w3 hown hgrow)
          have O3 := hide (OwnI.made hown); have b3 := own_below (World.ownsRow_nil w2 w.heap.size 3 1) hgrow hL
          have r3 := hide (r.out.belowAt b3 hRw); have G3 := hide (grown_below G.out b3)
          clear hown hgrow b3 hi hz0 hz1 hz2
          go_wp2_with fail
          go_ret
          exact DrawnI.mk O3.out ⟨by simp, fun x hxx => by have := List.eq_of_mem_replicate hxx; omega⟩ (r3.out.mono (by omega)) G3.out
        · have hu' : (u == 0) = false := by simpa using hu
          clear hu
          have hL : w.heap.size ≤ w2.heap.size := G.out.size
          have b1 : Below w2.heap.size w2 (w2.alloc (.cells #[.int .i64 (-1), .int .i64 10] 3)) := (Below.refl _ _).alloc (Nat.le_refl _) _
          have F := hide (owns_fri (OwnI.lit (LO := w.heap.size) (w := w2) [-1, 10] #[.int .i64 (-1), .int .i64 10] rfl hL (by simp)))
          replace r := hide (r.out.below b1); replace G := hide (grown_below G.out (b1.mono hL)); replace O := hide (O.out.below b1)
          obtain ⟨A, c, rfl, -, f0⟩ := O.out.form
          clear b1 f0
          go_wp2_with fail
          refine (pick_any R _ _ _ r.out (by omega) (by omega)).mono ?_
          rintro e w2 ⟨t, rfl, ta, tb, r', g, z⟩
          replace O := hide (O.out.grown g (by omega))
          replace F := hide (F.out.grown g (by omega))
          replace r := hide r'; replace G := hide (grown_then G.out g); clear r' g z
          have hL2 : w.heap.size ≤ w2.heap.size := G.out.size
          obtain ⟨A', c', e, -, f1⟩ := O.out.form
          injection e with e1 e2 e3; subst e1; subst e3
          have f1 := hide f1
          have key : ∀ y : Int, -1 ≤ y → y ≤ 10 → ∀ v' w3, OwnI w.heap.size w3 v' ([y] ++ xs) → Below w.heap.size w2 w3 → DrawnI R (q + 100) RopeD w (.returned v') w3 := by
            intro y hy1 hy2 v' w3 h3 b3
            exact DrawnI.mk h3 ⟨by simp; omega, fun x hxx => by rcases List.mem_append.1 hxx with h | h; simp at h; omega; have := hx x h; omega⟩ ((r.out.belowAt b3 hRw).mono (by omega)) (grown_below G.out b3)
          have KEY := hide key
          clear key
          have ht : t = 0 ∨ t = 1 := by omega
          rcases ht with rfl | rfl
          · obtain ⟨y, hy, hcy⟩ := F.out.1.cell (k := 0) (by simp)
            obtain rfl : y = -1 := by have := hy.out; simp at this; omega
            simp only [Nat.add_zero] at hcy
            go_wp2_with (at_builtin; refine wp_app rfl (.tmp 41) (.tmp 42) rfl w.heap.size _ _ [-1] A xs.length c xs rfl rfl rfl (OwnI.lit [-1] #[.int .i64 (-1)] rfl hL2 (by simp)) ((f1.out.below ((Below.refl _ _).alloc (Nat.le_refl _) _)).1) (by simp; omega) (by simp; omega) ?_; intro v' w3 hown hb)
            have D := hide (KEY.out (-1) (by omega) (by omega) v' w3 hown ((((Below.refl _ _).alloc (Nat.le_refl _) _).mono hL2).trans hb))
            clear hown hb
            go_wp2_with fail
            go_ret
            exact D.out
          · obtain ⟨y, hy, hcy⟩ := F.out.1.cell (k := 1) (by simp)
            obtain rfl : y = 10 := by have := hy.out; simp at this; omega
            go_wp2_with (at_builtin; refine wp_app rfl (.tmp 41) (.tmp 42) rfl w.heap.size _ _ [10] A xs.length c xs rfl rfl rfl (OwnI.lit [10] #[.int .i64 10] rfl hL2 (by simp)) ((f1.out.below ((Below.refl _ _).alloc (Nat.le_refl _) _)).1) (by simp; omega) (by simp; omega) ?_; intro v' w3 hown hb)
            have D := hide (KEY.out 10 (by omega) (by omega) v' w3 hown ((((Below.refl _ _).alloc (Nat.le_refl _) _).mono hL2).trans hb))
            clear hown hb
            go_wp2_with fail
            go_ret
            exact D.out
/-- A slice of int in new blocks, of which P holds. -/
def DrawI (P : List Int → Prop) (w : World) (e : Ending) (w' : World) : Prop :=
  ∃ (A : Option Addr) (c : Nat) (xs : List Int), e = .returned (.slice A xs.length c) ∧ xs.length ≤ c ∧ FrI w.heap.size w' A xs ∧ P xs ∧ Below w.heap.size w w'
theorem drawRopeValid_any (A : Option Addr) (c : Nat) (bs : List Int) (w : World) (h : Sl w A (bvs bs)) (hb : ∀ x ∈ bs, 0 ≤ x ∧ x ≤ 255) (hl : bs.length ≤ 1048576) (hc : bs.length ≤ c) :
    Calls Try.prog 34 #[.slice A bs.length c] w (DrawI RopeD w) := by
  have H := hide h; have HB := hide hb; clear h hb
  go_enter Try.func34, Try.ntmps34
  go_wp2_with fail
  refine (l20Open_any A c bs _ H.out HB.out hl hc).mono ?_
  rintro e w1 ⟨R, rfl, hR, r, b⟩
  replace r := hide r; have B := hide b; clear b
  go_wp2_with fail
  refine (l20Rope_any R _ _ _ r.out (by omega) (by omega) (by omega)).mono ?_
  rintro e w2 ⟨A', c', xs, rfl, hc', f, hp, -, g⟩
  replace f := hide (f.mono B.out.size); replace hp := hide hp; replace B := hide (B.out.grown g B.out.size (by simpa using hR))
  clear g r
  go_wp2_with fail
  go_ret
  exact ⟨A', c', xs, rfl, hc', f.out, hp.out, B.out⟩
theorem drawWorstLay_any (A : Option Addr) (c : Nat) (bs : List Int) (w : World) (h : Sl w A (bvs bs)) (hb : ∀ x ∈ bs, 0 ≤ x ∧ x ≤ 255) (hl : bs.length ≤ 1048576) (hc : bs.length ≤ c) :
    Calls Try.prog 35 #[.slice A bs.length c] w (DrawI RopeD w) := by
  have H := hide h; have HB := hide hb; clear h hb
  go_enter Try.func35, Try.ntmps35
  go_wp2_with fail
  refine (l20Open_any A c bs _ H.out HB.out hl hc).mono ?_
  rintro e w1 ⟨R, rfl, hR, r, b⟩
  replace r := hide r; have B := hide b; clear b
  go_wp2_with fail
  refine (l20Rope_any R _ _ _ r.out (by omega) (by omega) (by omega)).mono ?_
  rintro e w2 ⟨A', c', xs, rfl, hc', f, hp, -, g⟩
  replace f := hide (f.mono B.out.size); replace hp := hide hp; replace B := hide (B.out.grown g B.out.size (by simpa using hR))
  clear g r
  go_wp2_with fail
  go_ret
  exact ⟨A', c', xs, rfl, hc', f.out, hp.out, B.out⟩
/-- A slice of int in new blocks, and a number. -/
def DrawIN (P : List Int → Prop) (lo hi : Int) (w : World) (e : Ending) (w' : World) : Prop :=
  ∃ (A : Option Addr) (c : Nat) (xs : List Int) (m : Int), e = .returned (.tuple #[.slice A xs.length c, .int .i64 m]) ∧ xs.length ≤ c ∧ FrI w.heap.size w' A xs ∧ P xs ∧ lo ≤ m ∧ m ≤ hi ∧ Below w.heap.size w w'
theorem drawDiscard_any (A : Option Addr) (c : Nat) (bs : List Int) (w : World) (h : Sl w A (bvs bs)) (hb : ∀ x ∈ bs, 0 ≤ x ∧ x ≤ 255) (hl : bs.length ≤ 1048576) (hc : bs.length ≤ c) :
    Calls Try.prog 37 #[.slice A bs.length c] w (DrawIN RopeD 0 14 w) := by
  have H := hide h; have HB := hide hb; clear h hb
  go_enter Try.func37, Try.ntmps37
  go_wp2_with fail
  refine (l20Open_any A c bs _ H.out HB.out hl hc).mono ?_
  rintro e w1 ⟨R, rfl, hR, r, b⟩
  replace r := hide r; have B := hide b; clear b
  have hRw := r.out.lt
  go_wp2_with fail
  refine (l20Rope_any R _ _ _ r.out (by omega) (by omega) (by omega)).mono ?_
  rintro e w2 ⟨A', c', xs, rfl, hc', f, hp, r', g⟩
  replace f := hide f; replace hp := hide hp; have hB := B.out.size; replace B := hide (B.out.grown g B.out.size (by simpa using hR))
  replace r := hide r'
  clear g r'
  go_wp2_with fail
  refine (pick_any R _ _ _ r.out (by omega) (by omega)).mono ?_
  rintro e w2 ⟨x, rfl, xa, xb, r', g, z⟩
  replace f := hide (f.out.grown g (by omega))
  replace r := hide r'; replace B := hide (B.out.grown g B.out.size (by simpa using hR)); clear r' g z
  go_wp2_with fail
  go_ret2
  exact ⟨A', c', xs, x, rfl, hc', f.out.mono hB, hp.out, xa, by omega, B.out⟩
end Go.Proofs.Ytjkaabimaimicaa
