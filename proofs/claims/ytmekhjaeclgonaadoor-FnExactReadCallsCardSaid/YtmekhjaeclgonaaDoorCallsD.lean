/- Calls: copies, comparisons and marks of the laws, of calls. -/
import Derived.Test.YtmekhjaeclgonaaDoorCallsC
import Derived.Test.YtmekhjaeclgonaaDoorBox
namespace Go.Proofs.YtmekhjaeclgonaaDoor
open Go.RowKit

theorem GivesC.of {w w' : World} {A0 A1 A2 : Option Addr} {c0 c1 c2 l0 h0 l1 h1 l2 h2 : Nat} {C : Cl} (b0 : BO l0 h0 w' A0 C.up) (b1 : BO l1 h1 w' A1 C.dn) (b2 : BO l2 h2 w' A2 C.car) (hl : w.heap.size ≤ l0 ∧ w.heap.size ≤ l1 ∧ w.heap.size ≤ l2) (hd : (h0 ≤ l1 ∨ h1 ≤ l0) ∧ (h0 ≤ l2 ∨ h2 ≤ l0) ∧ (h1 ≤ l2 ∨ h2 ≤ l1)) (hh : h0 ≤ w'.heap.size ∧ h1 ≤ w'.heap.size ∧ h2 ≤ w'.heap.size) (b : Below w.heap.size w w') :
    GivesC C w (.returned (.agg #[.slice A0 C.up.length c0, .slice A1 C.dn.length c1, .slice A2 C.car.length c2])) w' :=
  ⟨A0, A1, A2, c0, c1, c2, rfl, ⟨b0.mono hl.1 hh.1, b1.mono hl.2.1 hh.2.1, b2.mono hl.2.2 hh.2.2, Ap.of b0.rg b1.rg hd.1, Ap.of b0.rg b2.rg hd.2.1, Ap.of b1.rg b2.rg hd.2.2⟩, b⟩
def eqC (C D : Cl) : Bool := eqL C.up D.up && (eqL C.dn D.dn && eqL C.car D.car)
theorem eqC_self (C : Cl) : eqC C C = true := by unfold eqC; rw [eqL_self, eqL_self, eqL_self]; rfl
theorem eqC_iff {C D : Cl} : eqC C D = true ↔ C = D := by
  unfold eqC eqL; simp
  constructor
  · rintro ⟨a, b, c⟩; cases C; cases D; simp_all
  · rintro rfl; exact ⟨rfl, rfl, rfl⟩
theorem eqCalls_any (A0 A1 A2 : Option Addr) (c0 c1 c2 : Nat) (B0 B1 B2 : Option Addr) (d0 d1 d2 : Nat) (C D : Cl) (w : World) (h : CR w A0 A1 A2 C) (h' : CR w B0 B1 B2 D) (hl : C.up.length ≤ 140737488351232 ∧ C.dn.length ≤ 140737488351232 ∧ C.car.length ≤ 140737488351232) :
    Calls Tryd.prog 13 #[.agg #[.slice A0 C.up.length c0, .slice A1 C.dn.length c1, .slice A2 C.car.length c2], .agg #[.slice B0 D.up.length d0, .slice B1 D.dn.length d1, .slice B2 D.car.length d2]] w fun e w' => e = .returned (.bool (eqC C D)) ∧ Below w.heap.size w w' := by
  have H := hide h; have H' := hide h'; clear h h'
  obtain ⟨l0, l1, l2⟩ := hl
  have HE : Hid (eqC C D = (eqL C.up D.up && (eqL C.dn D.dn && eqL C.car D.car))) := rfl
  go_enter Tryd.func13, Tryd.ntmps13
  go_wp2_with fail
  refine calls_name fun W hW => ?_
  have X1 : Hid (Box W w.heap.size #[.slice A0 C.up.length c0, .slice A1 C.dn.length c1, .slice A2 C.car.length c2]) := by rw [hW]; exact (Box.new rfl).alloc _
  have X2 : Hid (Box W (w.heap.size + 1) #[.slice B0 D.up.length d0, .slice B1 D.dn.length d1, .slice B2 D.car.length d2]) := by rw [hW]; exact Box.new (by simp)
  have BW : Hid (Below w.heap.size w W) := by rw [hW]; exact ((Below.refl _ _).alloc (Nat.le_refl _) _).alloc (by simp) _
  clear hW
  refine (eqBoolS_any A0 B0 c0 d0 C.up D.up _ (H.out.below BW.out).up (H'.out.below BW.out).up l0).mono ?_
  rintro e w1 ⟨rfl, D1⟩
  replace X1 := hide (X1.out.below D1.below)
  replace X2 := hide (X2.out.below D1.below)
  replace BW := hide (bthen BW.out D1.below)
  clear D1
  cases e1 : eqL C.up D.up
  · go_wp2_with fail
    go_ret
    exact ⟨ret_bool (by rw [HE.out, e1]; rfl), BW.out⟩
  have X1_lt := X1.out.lt
  have X1_c1 := X1.out.at (i := 1) rfl; have X1_f1 := X1.out.frozen 1
  have X2_lt := X2.out.lt
  have X2_c1 := X2.out.at (i := 1) rfl; have X2_f1 := X2.out.frozen 1
  go_wp2_with fail
  clear X1_lt X1_c1 X1_f1
  clear X2_lt X2_c1 X2_f1
  refine (eqBoolS_any A1 B1 c1 d1 C.dn D.dn _ (H.out.below BW.out).dn (H'.out.below BW.out).dn l1).mono ?_
  rintro e w2 ⟨rfl, D1⟩
  replace X1 := hide (X1.out.below D1.below)
  replace X2 := hide (X2.out.below D1.below)
  replace BW := hide (bthen BW.out D1.below)
  clear D1
  cases e2 : eqL C.dn D.dn
  · go_wp2_with fail
    go_ret
    exact ⟨ret_bool (by rw [HE.out, e1, e2]; rfl), BW.out⟩
  have X1_lt := X1.out.lt
  have X1_c2 := X1.out.at (i := 2) rfl; have X1_f2 := X1.out.frozen 2
  have X2_lt := X2.out.lt
  have X2_c2 := X2.out.at (i := 2) rfl; have X2_f2 := X2.out.frozen 2
  go_wp2_with fail
  clear X1_lt X1_c2 X1_f2
  clear X2_lt X2_c2 X2_f2
  refine (eqBoolS_any A2 B2 c2 d2 C.car D.car _ (H.out.below BW.out).car (H'.out.below BW.out).car l2).mono ?_
  rintro e w2 ⟨rfl, D1⟩
  replace BW := hide (bthen BW.out D1.below)
  clear D1
  cases e3 : eqL C.car D.car
  · go_wp2_with fail
    go_ret
    exact ⟨ret_bool (by rw [HE.out, e1, e2, e3]; rfl), BW.out⟩
  · go_wp2_with fail
    go_ret
    exact ⟨ret_bool (by rw [HE.out, e1, e2, e3]; rfl), BW.out⟩
theorem sameCalls_any (A0 A1 A2 : Option Addr) (c0 c1 c2 : Nat) (B0 B1 B2 : Option Addr) (d0 d1 d2 : Nat) (C D : Cl) (w : World) (h : CR w A0 A1 A2 C) (h' : CR w B0 B1 B2 D) (hl : C.up.length ≤ 140737488351232 ∧ C.dn.length ≤ 140737488351232 ∧ C.car.length ≤ 140737488351232) :
    Calls Tryd.prog 9 #[.agg #[.slice A0 C.up.length c0, .slice A1 C.dn.length c1, .slice A2 C.car.length c2], .agg #[.slice B0 D.up.length d0, .slice B1 D.dn.length d1, .slice B2 D.car.length d2]] w fun e w' => e = .returned (.bool (eqC C D)) ∧ Below w.heap.size w w' := by
  have H := hide h; have H' := hide h'; clear h h'
  obtain ⟨l0, l1, l2⟩ := hl
  have HE : Hid (eqC C D = (eqL C.up D.up && (eqL C.dn D.dn && eqL C.car D.car))) := rfl
  go_enter Tryd.func9, Tryd.ntmps9
  go_wp2_with fail
  refine calls_name fun W hW => ?_
  have X1 : Hid (Box W w.heap.size #[.slice A0 C.up.length c0, .slice A1 C.dn.length c1, .slice A2 C.car.length c2]) := by rw [hW]; exact (Box.new rfl).alloc _
  have X2 : Hid (Box W (w.heap.size + 1) #[.slice B0 D.up.length d0, .slice B1 D.dn.length d1, .slice B2 D.car.length d2]) := by rw [hW]; exact Box.new (by simp)
  have BW : Hid (Below w.heap.size w W) := by rw [hW]; exact ((Below.refl _ _).alloc (Nat.le_refl _) _).alloc (by simp) _
  clear hW
  refine (sameBools_any A0 B0 c0 d0 C.up D.up _ (H.out.below BW.out).up (H'.out.below BW.out).up l0).mono ?_
  rintro e w1 ⟨rfl, D1⟩
  replace X1 := hide (X1.out.below D1.below)
  replace X2 := hide (X2.out.below D1.below)
  replace BW := hide (bthen BW.out D1.below)
  clear D1
  cases e1 : eqL C.up D.up
  · go_wp2_with fail
    go_ret
    exact ⟨ret_bool (by rw [HE.out, e1]; rfl), BW.out⟩
  have X1_lt := X1.out.lt
  have X1_c1 := X1.out.at (i := 1) rfl; have X1_f1 := X1.out.frozen 1
  have X2_lt := X2.out.lt
  have X2_c1 := X2.out.at (i := 1) rfl; have X2_f1 := X2.out.frozen 1
  go_wp2_with fail
  clear X1_lt X1_c1 X1_f1
  clear X2_lt X2_c1 X2_f1
  refine (sameBools_any A1 B1 c1 d1 C.dn D.dn _ (H.out.below BW.out).dn (H'.out.below BW.out).dn l1).mono ?_
  rintro e w2 ⟨rfl, D1⟩
  replace X1 := hide (X1.out.below D1.below)
  replace X2 := hide (X2.out.below D1.below)
  replace BW := hide (bthen BW.out D1.below)
  clear D1
  cases e2 : eqL C.dn D.dn
  · go_wp2_with fail
    go_ret
    exact ⟨ret_bool (by rw [HE.out, e1, e2]; rfl), BW.out⟩
  have X1_lt := X1.out.lt
  have X1_c2 := X1.out.at (i := 2) rfl; have X1_f2 := X1.out.frozen 2
  have X2_lt := X2.out.lt
  have X2_c2 := X2.out.at (i := 2) rfl; have X2_f2 := X2.out.frozen 2
  go_wp2_with fail
  clear X1_lt X1_c2 X1_f2
  clear X2_lt X2_c2 X2_f2
  refine (sameBools_any A2 B2 c2 d2 C.car D.car _ (H.out.below BW.out).car (H'.out.below BW.out).car l2).mono ?_
  rintro e w2 ⟨rfl, D1⟩
  replace BW := hide (bthen BW.out D1.below)
  clear D1
  go_wp2_with fail
  go_ret
  exact ⟨ret_bool (by rw [HE.out, e1, e2]; rfl), BW.out⟩
/-- All marked. -/
def mkC (C : Cl) (k : Int) : Cl := ⟨mkAll C.up k, mkAll C.dn (k + C.up.length), mkAll C.car (k + C.up.length + C.dn.length)⟩
theorem markCalls_any (A0 A1 A2 : Option Addr) (c0 c1 c2 : Nat) (C : Cl) (k : Int) (lo hi : Nat) (w : World) (h : CO lo hi w A0 A1 A2 C) (hl : C.up.length ≤ 1048576 ∧ C.dn.length ≤ 1048576 ∧ C.car.length ≤ 1048576) (k0 : 0 ≤ k) (k1 : k ≤ 100000000) (hh : hi ≤ w.heap.size) :
    Calls Tryd.prog 14 #[.agg #[.slice A0 C.up.length c0, .slice A1 C.dn.length c1, .slice A2 C.car.length c2], .int .i64 k] w fun e w' => e = .returned (.int .i64 (k + C.up.length + C.dn.length + C.car.length)) ∧ CO lo hi w' A0 A1 A2 (mkC C k) ∧ Only lo hi w w' := by
  have U := hide h.up; have V := hide h.dn; have R := hide h.car; have P1 := hide h.ud; have P2 := hide h.uc; have P3 := hide h.dc; clear h
  obtain ⟨l0, l1, l2⟩ := hl
  go_enter Tryd.func14, Tryd.ntmps14
  go_wp2_with fail
  refine calls_name fun W hW => ?_
  have X1 : Hid (Box W w.heap.size #[.slice A0 C.up.length c0, .slice A1 C.dn.length c1, .slice A2 C.car.length c2]) := by rw [hW]; exact Box.new rfl
  have bW : Below w.heap.size w W := by rw [hW]; exact (Below.refl _ _).alloc (Nat.le_refl _) _
  have OW : Hid (Only lo hi w W) := Only.of bW
  replace U := hide (U.out.below bW)
  replace V := hide (V.out.below bW)
  replace R := hide (R.out.below bW)
  have z0 := bW.size
  clear hW bW
  refine (markBoolS_any A0 c0 lo hi C.up k _ U.out l0 k0 (by omega)).mono ?_
  rintro e w1 ⟨rfl, u1, g1⟩
  replace V : Hid (BO lo hi w1 A1 C.dn) := OS.row V.out g1 P1.out
  replace R : Hid (BO lo hi w1 A2 C.car) := OS.row R.out g1 P2.out
  replace X1 := hide (X1.out.only (grown_only g1 U.out.rg) (.inr (by omega)))
  replace OW := hide (OW.out.trans (grown_only g1 U.out.rg))
  replace U := hide u1
  have z1 := g1.size
  clear u1 g1
  have X1_lt := X1.out.lt
  have X1_c1 := X1.out.at (i := 1) rfl; have X1_f1 := X1.out.frozen 1
  go_wp2_with fail
  clear X1_lt X1_c1 X1_f1
  refine (markBoolS_any A1 c1 lo hi C.dn _ _ V.out l1 (by omega) (by omega)).mono ?_
  rintro e w2 ⟨rfl, u1, g1⟩
  replace U : Hid (BO lo hi w2 A0 (mkAll C.up k)) := OS.row U.out g1 (by rw [mkAll_len]; exact P1.out.symm)
  replace R : Hid (BO lo hi w2 A2 C.car) := OS.row R.out g1 P3.out
  replace X1 := hide (X1.out.only (grown_only g1 V.out.rg) (.inr (by omega)))
  replace OW := hide (OW.out.trans (grown_only g1 V.out.rg))
  replace V := hide u1
  have z2 := g1.size
  clear u1 g1
  have X1_lt := X1.out.lt
  have X1_c2 := X1.out.at (i := 2) rfl; have X1_f2 := X1.out.frozen 2
  go_wp2_with fail
  clear X1_lt X1_c2 X1_f2
  refine (markBoolS_any A2 c2 lo hi C.car _ _ R.out l2 (by omega) (by omega)).mono ?_
  rintro e w3 ⟨rfl, u1, g1⟩
  replace U : Hid (BO lo hi w3 A0 (mkAll C.up k)) := OS.row U.out g1 (by rw [mkAll_len]; exact P2.out.symm)
  replace V : Hid (BO lo hi w3 A1 (mkAll C.dn (k + C.up.length))) := OS.row V.out g1 (by rw [mkAll_len]; exact P3.out.symm)
  replace OW := hide (OW.out.trans (grown_only g1 R.out.rg))
  replace R := hide u1
  clear u1 g1
  go_wp2_with fail
  go_ret
  exact ⟨rfl, ⟨U.out, V.out, R.out, by simpa [mkC, mkAll_len] using P1.out, by simpa [mkC, mkAll_len] using P2.out, by simpa [mkC, mkAll_len] using P3.out⟩, OW.out⟩
theorem heldCalls_any (A0 A1 A2 : Option Addr) (c0 c1 c2 : Nat) (C : Cl) (k : Int) (w : World) (h : CR w A0 A1 A2 (mkC C k)) (hl : C.up.length ≤ 1048576 ∧ C.dn.length ≤ 1048576 ∧ C.car.length ≤ 1048576) (k0 : 0 ≤ k) (k1 : k ≤ 100000000) :
    Calls Tryd.prog 15 #[.agg #[.slice A0 C.up.length c0, .slice A1 C.dn.length c1, .slice A2 C.car.length c2], .int .i64 k] w fun e w' => e = .returned (.int .i64 (k + C.up.length + C.dn.length + C.car.length)) ∧ Below w.heap.size w w' := by
  have H := hide h; clear h
  obtain ⟨l0, l1, l2⟩ := hl
  go_enter Tryd.func15, Tryd.ntmps15
  go_wp2_with fail
  refine calls_name fun W hW => ?_
  have X1 : Hid (Box W w.heap.size #[.slice A0 C.up.length c0, .slice A1 C.dn.length c1, .slice A2 C.car.length c2]) := by rw [hW]; exact Box.new rfl
  have BW : Hid (Below w.heap.size w W) := by rw [hW]; exact (Below.refl _ _).alloc (Nat.le_refl _) _
  replace H := hide (H.out.below BW.out)
  clear hW
  refine (heldBoolS_any A0 c0 C.up k _ H.out.up l0 k0 (by omega)).mono ?_
  rintro e w1 ⟨rfl, rfl⟩
  have X1_lt := X1.out.lt
  have X1_c1 := X1.out.at (i := 1) rfl; have X1_f1 := X1.out.frozen 1
  go_wp2_with fail
  clear X1_lt X1_c1 X1_f1
  refine (heldBoolS_any A1 c1 C.dn _ _ H.out.dn l1 (by omega) (by omega)).mono ?_
  rintro e w1 ⟨rfl, rfl⟩
  have X1_lt := X1.out.lt
  have X1_c2 := X1.out.at (i := 2) rfl; have X1_f2 := X1.out.frozen 2
  go_wp2_with fail
  clear X1_lt X1_c2 X1_f2
  refine (heldBoolS_any A2 c2 C.car _ _ H.out.car l2 (by omega) (by omega)).mono ?_
  rintro e w1 ⟨rfl, rfl⟩
  go_wp2_with fail
  go_ret
  exact ⟨rfl, BW.out⟩
end Go.Proofs.YtmekhjaeclgonaaDoor
