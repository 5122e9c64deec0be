/- Texts of calls: ReadCalls, the program's and the reference's. -/
import Derived.Test.YtmekhjaeclgonaaDoorReadWalk
import Derived.Test.YtmekhjaeclgonaaDoorCallsA
import Derived.Deep.CutRange
namespace Go.Proofs.YtmekhjaeclgonaaDoor
open Go.RowKit

theorem CO.of3 {W : World} {A0 A1 A2 : Option Addr} {l0 h0 l1 h1 l2 h2 lo hi : Nat} {x0 x1 x2 : List Bool} (b0 : BO l0 h0 W A0 x0) (b1 : BO l1 h1 W A1 x1) (b2 : BO l2 h2 W A2 x2) (hl : lo ≤ l0 ∧ lo ≤ l1 ∧ lo ≤ l2) (hd : h0 ≤ l1 ∧ h0 ≤ l2 ∧ h1 ≤ l2) (hh : h0 ≤ hi ∧ h1 ≤ hi ∧ h2 ≤ hi) : CO lo hi W A0 A1 A2 ⟨x0, x1, x2⟩ :=
  ⟨b0.mono hl.1 hh.1, b1.mono hl.2.1 hh.2.1, b2.mono hl.2.2 hh.2.2, Ap.of b0.rg b1.rg (.inl hd.1), Ap.of b0.rg b2.rg (.inl hd.2.1), Ap.of b1.rg b2.rg (.inl hd.2.2)⟩
theorem GivesCB.bad {L : List (List UInt8)} {w W : World} {a b c : Value} (h : readP L = (⟨[], [], []⟩, false)) (B : Below w.heap.size w W) (hw : w.heap.size < W.heap.size) : GivesCB (readP L).1 (readP L).2 w (.returned (.tuple #[.agg #[.slice none 0 0, .slice none 0 0, .slice none 0 0], .bool false])) (((W.setCell ⟨w.heap.size, 0, none⟩ a).setCell ⟨w.heap.size, 1, none⟩ b).setCell ⟨w.heap.size, 2, none⟩ c) := by
  rw [h]; exact GivesCB.zero (Only.then B (onlyW3 _ _ _ _) (Nat.le_refl _) (by omega)) false
theorem cut3_len {l a b c : List UInt8} (h : cutL l = [a, b, c]) : a.length + b.length + c.length + 2 = l.length := by
  have := join_cut l
  rw [h] at this
  rw [← this]; simp [joinL]; omega
theorem list3 {L : List (List UInt8)} (h : L.length = 3) : ∃ a b c, L = [a, b, c] := by
  match L, h with
  | [a, b, c], _ => exact ⟨a, b, c, rfl⟩
theorem implCut (l : List UInt8) (m : Int) (w : World) (hs : l.length ≤ 2000000) (hm : w.cell? ⟨0, 0, none⟩ = some (.int .i64 m)) :
    Calls Tryd.prog 21 #[.string (str l), .string ⟨#[47]⟩] w fun e w' => ∃ A c, e = .returned (.slice A (cutL l).length c) ∧ Strs w' A (cutL l) ∧ Below w.heap.size w w' := by
  refine (split_any l m w (by omega) hm).mono ?_
  rintro e w' ⟨rfl, rfl⟩
  exact ⟨_, _, rfl, .inr ⟨w.heap.size, 0, rfl, by simp, fun k u hu => by rw [Nat.zero_add, cell_of_row _ w.heap.size k _ _ (0, 0) (heap_alloc_new w _)]; rw [← hu]; simp [sts]⟩, (Below.refl _ _).alloc (Nat.le_refl _) _⟩
theorem ml_below {w w' : World} {m : Int} (h : w.cell? ⟨0, 0, none⟩ = some (.int .i64 m)) (b : Below w.heap.size w w') : w'.cell? ⟨0, 0, none⟩ = some (.int .i64 m) := (World.cell?_of_block (b.block 0 (World.block_lt_of_cell? w _ h))).trans h
set_option maxHeartbeats 2000000 in
theorem implReadCalls (l : List UInt8) (m : Int) (w : World) (hl : l.length ≤ 2000000) (hm : w.cell? ⟨0, 0, none⟩ = some (.int .i64 m)) :
    Calls Tryd.prog 7 #[.string (str l)] w (GivesCB (readC l).1 (readC l).2 w) := by
  have HM := hide hm; clear hm
  unfold readC
  obtain ⟨L, hL⟩ : ∃ L, L = cutL l := ⟨_, rfl⟩
  rw [← hL]
  have HCL := hide hL
  clear hL
  go_enter Tryd.func7, Tryd.ntmps7
  go_wp2_with fail
  refine calls_name fun W hW => ?_
  have X2 := hide (Box.new' (g := w.heap.size) hW rfl)
  have BW : Hid (Below w.heap.size w W) := by rw [hW]; exact (Below.refl _ _).alloc (Nat.le_refl _) _
  have z0 := X2.out.lt
  clear hW
  refine (implCut l m _ (by omega) (ml_below HM.out BW.out)).mono ?_
  rintro e w1 ⟨A, ca, rfl, S, b⟩
  replace S := hide S
  have z1 := b.size
  replace X2 := hide (X2.out.below b)
  replace BW := hide (bthen BW.out b)
  clear b
  have HC3 : Hid (∀ a b c, cutL l = [a, b, c] → a.length + b.length + c.length + 2 = l.length) := fun a b c h => cut3_len h
  rw [← HCL.out] at S ⊢
  by_cases h3 : L.length = 3
  rotate_left
  · have hne : ((L.length : Int) != 3) = true := by simp; omega
    have HE := hide (readP_other h3)
    clear h3
    have X2_lt := X2.out.lt
    have X2_c0 := X2.out.at (i := 0) rfl; have X2_f0 := X2.out.frozen 0
    have X2_c1 := X2.out.at (i := 1) rfl; have X2_f1 := X2.out.frozen 1
    have X2_c2 := X2.out.at (i := 2) rfl; have X2_f2 := X2.out.frozen 2
    go_wp2_with fail
    refine bodyPost_ret (by simp [results, Tryd.results7, go_sem, X2_c0, X2_c1, X2_c2]; rfl) rfl ?_
    exact GivesCB.bad HE.out BW.out (by omega)
  obtain ⟨a, b, c, rfl⟩ := list3 h3
  have hlen := HC3.out _ _ _ HCL.out.symm
  clear h3 HC3 HCL
  obtain ⟨xa, ya, ha⟩ : ∃ x y, readT a = (x, y) := ⟨_, _, rfl⟩
  obtain ⟨xb, yb, hb⟩ : ∃ x y, readT b = (x, y) := ⟨_, _, rfl⟩
  obtain ⟨xc, yc, hc⟩ : ∃ x y, readT c = (x, y) := ⟨_, _, rfl⟩
  have HA := hide ha; have HB := hide hb; have HCC := hide hc
  have HP : Hid (readP [a, b, c] = if ya && yb && yc && callsB ⟨xa, xb, xc⟩ then (⟨xa, xb, xc⟩, true) else (⟨[], [], []⟩, false)) := by
    show (if _ then _ else _) = _
    rw [ha, hb, hc]
  clear ha hb hc
  obtain ⟨b0, o0, rfl, hb0, c0⟩ := S.out.at (k := 0) (x := a) rfl
  rw [Nat.add_zero] at c0
  go_wp2_with fail
  refine (implReadTruths a _ (by omega)).mono ?_
  rw [HA.out]
  rintro e w2 ⟨U0, u0, rfl, P0, bb⟩
  replace P0 := hide P0
  have z2 := bb.size
  clear c0 hb0
  replace X2 := hide (X2.out.below bb)
  replace S := hide (S.out.below bb)
  replace BW := hide (bthen BW.out bb)
  clear bb
  obtain ⟨b0', o0', e0, hb0, c1⟩ := S.out.at (k := 1) (x := b) rfl
  injection e0 with e0; injection e0 with e0 e1; subst e0; subst e1
  go_wp2_with fail
  refine (implReadTruths b _ (by omega)).mono ?_
  rw [HB.out]
  rintro e w3 ⟨U1, u1, rfl, P1, bb⟩
  replace P1 := hide P1
  have z3 := bb.size
  clear c1 hb0
  replace X2 := hide (X2.out.below bb)
  replace S := hide (S.out.below bb)
  replace P0 := hide (P0.out.below bb)
  replace BW := hide (bthen BW.out bb)
  clear bb
  obtain ⟨b0', o0', e0, hb0, c2⟩ := S.out.at (k := 2) (x := c) rfl
  injection e0 with e0; injection e0 with e0 e1; subst e0; subst e1
  go_wp2_with fail
  refine (implReadTruths c _ (by omega)).mono ?_
  rw [HCC.out]
  rintro e w4 ⟨U2, u2, rfl, P2, bb⟩
  replace P2 := hide P2
  have z4 := bb.size
  clear c2 hb0
  replace X2 := hide (X2.out.below bb)
  replace P0 := hide (P0.out.below bb)
  replace P1 := hide (P1.out.below bb)
  replace BW := hide (bthen BW.out bb)
  clear bb
  clear S
  have O : Hid (CO W.heap.size w4.heap.size w4 U0 U1 U2 ⟨xa, xb, xc⟩) := CO.of3 P0.out P1.out P2.out (by omega) (by omega) (by omega)
  clear P0 P1 P2
  go_upto_region 8 with fail
  refine code_name fun W5 hW => ?_
  have X6 := hide (Box.new' (g := w4.heap.size) hW rfl)
  have bb : Below w4.heap.size w4 W5 := by rw [hW]; exact (Below.refl _ _).alloc (Nat.le_refl _) _
  have zX6 := X6.out.lt
  replace X2 := hide (X2.out.below bb)
  replace O := hide (O.out.below bb)
  replace BW := hide (bthen BW.out bb)
  clear bb
  clear hW
  cases ya
  · have HE : Hid (readP [a, b, c] = (⟨[], [], []⟩, false)) := HP.out
    have X2_lt := X2.out.lt
    have X2_c0 := X2.out.at (i := 0) rfl; have X2_f0 := X2.out.frozen 0
    have X2_c1 := X2.out.at (i := 1) rfl; have X2_f1 := X2.out.frozen 1
    have X2_c2 := X2.out.at (i := 2) rfl; have X2_f2 := X2.out.frozen 2
    go_wp2_with fail
    refine bodyPost_ret (by simp [results, Tryd.results7, go_sem, X2_c0, X2_c1, X2_c2]; rfl) rfl ?_
    exact GivesCB.bad HE.out BW.out (by omega)
  cases yb
  · have HE : Hid (readP [a, b, c] = (⟨[], [], []⟩, false)) := HP.out
    have X2_lt := X2.out.lt
    have X2_c0 := X2.out.at (i := 0) rfl; have X2_f0 := X2.out.frozen 0
    have X2_c1 := X2.out.at (i := 1) rfl; have X2_f1 := X2.out.frozen 1
    have X2_c2 := X2.out.at (i := 2) rfl; have X2_f2 := X2.out.frozen 2
    go_wp2_with fail
    refine bodyPost_ret (by simp [results, Tryd.results7, go_sem, X2_c0, X2_c1, X2_c2]; rfl) rfl ?_
    exact GivesCB.bad HE.out BW.out (by omega)
  cases yc
  · have HE : Hid (readP [a, b, c] = (⟨[], [], []⟩, false)) := HP.out
    have X2_lt := X2.out.lt
    have X2_c0 := X2.out.at (i := 0) rfl; have X2_f0 := X2.out.frozen 0
    have X2_c1 := X2.out.at (i := 1) rfl; have X2_f1 := X2.out.frozen 1
    have X2_c2 := X2.out.at (i := 2) rfl; have X2_f2 := X2.out.frozen 2
    go_wp2_with fail
    refine bodyPost_ret (by simp [results, Tryd.results7, go_sem, X2_c0, X2_c1, X2_c2]; rfl) rfl ?_
    exact GivesCB.bad HE.out BW.out (by omega)
  have X6_lt := X6.out.lt
  have X6_c0 := X6.out.at (i := 0) rfl; have X6_f0 := X6.out.frozen 0
  have X6_c1 := X6.out.at (i := 1) rfl; have X6_f1 := X6.out.frozen 1
  have X6_c2 := X6.out.at (i := 2) rfl; have X6_f2 := X6.out.frozen 2
  go_wp2_with fail
  clear X6_lt X6_c0 X6_f0 X6_c1 X6_f1 X6_c2 X6_f2
  refine (implCallsValid U0 U1 U2 u0 u1 u2 ⟨xa, xb, xc⟩ _ O.out.cr).mono ?_
  rintro e w6 ⟨rfl, bb⟩
  have z6 := bb.size
  replace X2 := hide (X2.out.below bb)
  replace O := hide (O.out.below bb)
  replace X6 := hide (X6.out.below bb)
  replace BW := hide (bthen BW.out bb)
  clear bb
  cases hv : callsB ⟨xa, xb, xc⟩
  · have HE : Hid (readP [a, b, c] = (⟨[], [], []⟩, false)) := by have := HP.out; rw [hv] at this; exact this
    clear hv
    have X2_lt := X2.out.lt
    have X2_c0 := X2.out.at (i := 0) rfl; have X2_f0 := X2.out.frozen 0
    have X2_c1 := X2.out.at (i := 1) rfl; have X2_f1 := X2.out.frozen 1
    have X2_c2 := X2.out.at (i := 2) rfl; have X2_f2 := X2.out.frozen 2
    go_wp2_with fail
    refine bodyPost_ret (by simp [results, Tryd.results7, go_sem, X2_c0, X2_c1, X2_c2]; rfl) rfl ?_
    exact GivesCB.bad HE.out BW.out (by omega)
  · have HE : Hid (readP [a, b, c] = (⟨xa, xb, xc⟩, true)) := by have := HP.out; rw [hv] at this; exact this
    clear hv
    have X2_lt := X2.out.lt
    have X2_c0 := X2.out.at (i := 0) rfl; have X2_f0 := X2.out.frozen 0
    have X2_c1 := X2.out.at (i := 1) rfl; have X2_f1 := X2.out.frozen 1
    have X2_c2 := X2.out.at (i := 2) rfl; have X2_f2 := X2.out.frozen 2
    have X6_lt := X6.out.lt
    have X6_c0 := X6.out.at (i := 0) rfl; have X6_f0 := X6.out.frozen 0
    have X6_c1 := X6.out.at (i := 1) rfl; have X6_f1 := X6.out.frozen 1
    have X6_c2 := X6.out.at (i := 2) rfl; have X6_f2 := X6.out.frozen 2
    go_wp2_with fail
    refine bodyPost_ret (by simp [results, Tryd.results7, go_sem, X2_c0, X2_c1, X2_c2]; rfl) rfl ?_
    rw [HE.out]
    have o := onlyW3 (g := w.heap.size) w6 (.slice U0 xa.length u0) (.slice U1 xb.length u1) (.slice U2 xc.length u2)
    exact ⟨U0, U1, U2, u0, u1, u2, rfl, (O.out.only o (.inr (by omega))).mono (by omega) (Nat.le_trans (by omega) o.size), Only.then BW.out o (Nat.le_refl _) (by omega)⟩
set_option maxHeartbeats 2000000 in
theorem specReadCalls (l : List UInt8) (w : World) (hl : l.length ≤ 2000000) :
    Calls Tryd.prog 8 #[.string (str l)] w (GivesCB (readC l).1 (readC l).2 w) := by
  unfold readC
  obtain ⟨L, hL⟩ : ∃ L, L = cutL l := ⟨_, rfl⟩
  rw [← hL]
  have HCL := hide hL
  clear hL
  go_enter Tryd.func8, Tryd.ntmps8
  go_wp2_with fail
  refine calls_name fun W hW => ?_
  have X2 := hide (Box.new' (g := w.heap.size) hW rfl)
  have BW : Hid (Below w.heap.size w W) := by rw [hW]; exact (Below.refl _ _).alloc (Nat.le_refl _) _
  have z0 := X2.out.lt
  clear hW
  refine (specCut l _ (by omega)).mono ?_
  rintro e w1 ⟨A, ca, rfl, S, b⟩
  replace S := hide S
  have z1 := b.size
  replace X2 := hide (X2.out.below b)
  replace BW := hide (bthen BW.out b)
  clear b
  have HC3 : Hid (∀ a b c, cutL l = [a, b, c] → a.length + b.length + c.length + 2 = l.length) := fun a b c h => cut3_len h
  rw [← HCL.out] at S ⊢
  by_cases h3 : L.length = 3
  rotate_left
  · have hne : ((L.length : Int) != 3) = true := by simp; omega
    have HE := hide (readP_other h3)
    clear h3
    have X2_lt := X2.out.lt
    have X2_c0 := X2.out.at (i := 0) rfl; have X2_f0 := X2.out.frozen 0
    have X2_c1 := X2.out.at (i := 1) rfl; have X2_f1 := X2.out.frozen 1
    have X2_c2 := X2.out.at (i := 2) rfl; have X2_f2 := X2.out.frozen 2
    go_wp2_with fail
    refine bodyPost_ret (by simp [results, Tryd.results8, go_sem, X2_c0, X2_c1, X2_c2]; rfl) rfl ?_
    exact GivesCB.bad HE.out BW.out (by omega)
  obtain ⟨a, b, c, rfl⟩ := list3 h3
  have hlen := HC3.out _ _ _ HCL.out.symm
  clear h3 HC3 HCL
  obtain ⟨xa, ya, ha⟩ : ∃ x y, readT a = (x, y) := ⟨_, _, rfl⟩
  obtain ⟨xb, yb, hb⟩ : ∃ x y, readT b = (x, y) := ⟨_, _, rfl⟩
  obtain ⟨xc, yc, hc⟩ : ∃ x y, readT c = (x, y) := ⟨_, _, rfl⟩
  have HA := hide ha; have HB := hide hb; have HCC := hide hc
  have HP : Hid (readP [a, b, c] = if ya && yb && yc && callsB ⟨xa, xb, xc⟩ then (⟨xa, xb, xc⟩, true) else (⟨[], [], []⟩, false)) := by
    show (if _ then _ else _) = _
    rw [ha, hb, hc]
  clear ha hb hc
  obtain ⟨b0, o0, rfl, hb0, c0⟩ := S.out.at (k := 0) (x := a) rfl
  rw [Nat.add_zero] at c0
  go_wp2_with fail
  refine (specRead a _ (by omega)).mono ?_
  rw [HA.out]
  rintro e w2 ⟨U0, u0, rfl, P0, bb⟩
  replace P0 := hide P0
  have z2 := bb.size
  clear c0 hb0
  replace X2 := hide (X2.out.below bb)
  replace S := hide (S.out.below bb)
  replace BW := hide (bthen BW.out bb)
  clear bb
  obtain ⟨b0', o0', e0, hb0, c1⟩ := S.out.at (k := 1) (x := b) rfl
  injection e0 with e0; injection e0 with e0 e1; subst e0; subst e1
  go_wp2_with fail
  refine (specRead b _ (by omega)).mono ?_
  rw [HB.out]
  rintro e w3 ⟨U1, u1, rfl, P1, bb⟩
  replace P1 := hide P1
  have z3 := bb.size
  clear c1 hb0
  replace X2 := hide (X2.out.below bb)
  replace S := hide (S.out.below bb)
  replace P0 := hide (P0.out.below bb)
  replace BW := hide (bthen BW.out bb)
  clear bb
  obtain ⟨b0', o0', e0, hb0, c2⟩ := S.out.at (k := 2) (x := c) rfl
  injection e0 with e0; injection e0 with e0 e1; subst e0; subst e1
  go_wp2_with fail
  refine (specRead c _ (by omega)).mono ?_
  rw [HCC.out]
  rintro e w4 ⟨U2, u2, rfl, P2, bb⟩
  replace P2 := hide P2
  have z4 := bb.size
  clear c2 hb0
  replace X2 := hide (X2.out.below bb)
  replace P0 := hide (P0.out.below bb)
  replace P1 := hide (P1.out.below bb)
  replace BW := hide (bthen BW.out bb)
  clear bb
  clear S
  have O : Hid (CO W.heap.size w4.heap.size w4 U0 U1 U2 ⟨xa, xb, xc⟩) := CO.of3 P0.out P1.out P2.out (by omega) (by omega) (by omega)
  clear P0 P1 P2
  go_upto_region 8 with fail
  refine code_name fun W5 hW => ?_
  have X6 := hide (Box.new' (g := w4.heap.size) hW rfl)
  have bb : Below w4.heap.size w4 W5 := by rw [hW]; exact (Below.refl _ _).alloc (Nat.le_refl _) _
  have zX6 := X6.out.lt
  replace X2 := hide (X2.out.below bb)
  replace O := hide (O.out.below bb)
  replace BW := hide (bthen BW.out bb)
  clear bb
  clear hW
  cases ya
  · have HE : Hid (readP [a, b, c] = (⟨[], [], []⟩, false)) := HP.out
    have X2_lt := X2.out.lt
    have X2_c0 := X2.out.at (i := 0) rfl; have X2_f0 := X2.out.frozen 0
    have X2_c1 := X2.out.at (i := 1) rfl; have X2_f1 := X2.out.frozen 1
    have X2_c2 := X2.out.at (i := 2) rfl; have X2_f2 := X2.out.frozen 2
    go_wp2_with fail
    refine bodyPost_ret (by simp [results, Tryd.results8, go_sem, X2_c0, X2_c1, X2_c2]; rfl) rfl ?_
    exact GivesCB.bad HE.out BW.out (by omega)
  cases yb
  · have HE : Hid (readP [a, b, c] = (⟨[], [], []⟩, false)) := HP.out
    have X2_lt := X2.out.lt
    have X2_c0 := X2.out.at (i := 0) rfl; have X2_f0 := X2.out.frozen 0
    have X2_c1 := X2.out.at (i := 1) rfl; have X2_f1 := X2.out.frozen 1
    have X2_c2 := X2.out.at (i := 2) rfl; have X2_f2 := X2.out.frozen 2
    go_wp2_with fail
    refine bodyPost_ret (by simp [results, Tryd.results8, go_sem, X2_c0, X2_c1, X2_c2]; rfl) rfl ?_
    exact GivesCB.bad HE.out BW.out (by omega)
  cases yc
  · have HE : Hid (readP [a, b, c] = (⟨[], [], []⟩, false)) := HP.out
    have X2_lt := X2.out.lt
    have X2_c0 := X2.out.at (i := 0) rfl; have X2_f0 := X2.out.frozen 0
    have X2_c1 := X2.out.at (i := 1) rfl; have X2_f1 := X2.out.frozen 1
    have X2_c2 := X2.out.at (i := 2) rfl; have X2_f2 := X2.out.frozen 2
    go_wp2_with fail
    refine bodyPost_ret (by simp [results, Tryd.results8, go_sem, X2_c0, X2_c1, X2_c2]; rfl) rfl ?_
    exact GivesCB.bad HE.out BW.out (by omega)
  have X6_lt := X6.out.lt
  have X6_c0 := X6.out.at (i := 0) rfl; have X6_f0 := X6.out.frozen 0
  have X6_c1 := X6.out.at (i := 1) rfl; have X6_f1 := X6.out.frozen 1
  have X6_c2 := X6.out.at (i := 2) rfl; have X6_f2 := X6.out.frozen 2
  go_wp2_with fail
  clear X6_lt X6_c0 X6_f0 X6_c1 X6_f1 X6_c2 X6_f2
  refine (specCallsValid U0 U1 U2 u0 u1 u2 ⟨xa, xb, xc⟩ _ O.out.cr).mono ?_
  rintro e w6 ⟨rfl, bb⟩
  have z6 := bb.size
  replace X2 := hide (X2.out.below bb)
  replace O := hide (O.out.below bb)
  replace X6 := hide (X6.out.below bb)
  replace BW := hide (bthen BW.out bb)
  clear bb
  cases hv : callsB ⟨xa, xb, xc⟩
  · have HE : Hid (readP [a, b, c] = (⟨[], [], []⟩, false)) := by have := HP.out; rw [hv] at this; exact this
    clear hv
    have X2_lt := X2.out.lt
    have X2_c0 := X2.out.at (i := 0) rfl; have X2_f0 := X2.out.frozen 0
    have X2_c1 := X2.out.at (i := 1) rfl; have X2_f1 := X2.out.frozen 1
    have X2_c2 := X2.out.at (i := 2) rfl; have X2_f2 := X2.out.frozen 2
    go_wp2_with fail
    refine bodyPost_ret (by simp [results, Tryd.results8, go_sem, X2_c0, X2_c1, X2_c2]; rfl) rfl ?_
    exact GivesCB.bad HE.out BW.out (by omega)
  · have HE : Hid (readP [a, b, c] = (⟨xa, xb, xc⟩, true)) := by have := HP.out; rw [hv] at this; exact this
    clear hv
    have X2_lt := X2.out.lt
    have X2_c0 := X2.out.at (i := 0) rfl; have X2_f0 := X2.out.frozen 0
    have X2_c1 := X2.out.at (i := 1) rfl; have X2_f1 := X2.out.frozen 1
    have X2_c2 := X2.out.at (i := 2) rfl; have X2_f2 := X2.out.frozen 2
    have X6_lt := X6.out.lt
    have X6_c0 := X6.out.at (i := 0) rfl; have X6_f0 := X6.out.frozen 0
    have X6_c1 := X6.out.at (i := 1) rfl; have X6_f1 := X6.out.frozen 1
    have X6_c2 := X6.out.at (i := 2) rfl; have X6_f2 := X6.out.frozen 2
    go_wp2_with fail
    refine bodyPost_ret (by simp [results, Tryd.results8, go_sem, X2_c0, X2_c1, X2_c2]; rfl) rfl ?_
    rw [HE.out]
    have o := onlyW3 (g := w.heap.size) w6 (.slice U0 xa.length u0) (.slice U1 xb.length u1) (.slice U2 xc.length u2)
    exact ⟨U0, U1, U2, u0, u1, u2, rfl, (O.out.only o (.inr (by omega))).mono (by omega) (Nat.le_trans (by omega) o.size), Only.then BW.out o (Nat.le_refl _) (by omega)⟩
end Go.Proofs.YtmekhjaeclgonaaDoor
