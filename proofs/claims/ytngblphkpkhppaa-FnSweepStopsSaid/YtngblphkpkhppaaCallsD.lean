/- Calls: copies, comparisons and marks of the laws, of calls. -/
import Derived.Test.YtngblphkpkhppaaCallsC
import Derived.Test.YtngblphkpkhppaaBox
namespace Go.Proofs.Ytngblphkpkhppaa
open Go.RowKit

theorem GivesC.of {w w' : World} {A0 A1 A2 : Option Addr} {c0 c1 c2 l0 h0 l1 h1 l2 h2 : Nat} {C : Cl} (b0 : BO l0 h0 w' A0 C.up) (b1 : BO l1 h1 w' A1 C.dn) (b2 : BO l2 h2 w' A2 C.car) (hl : w.heap.size ≤ l0 ∧ w.heap.size ≤ l1 ∧ w.heap.size ≤ l2) (hd : (h0 ≤ l1 ∨ h1 ≤ l0) ∧ (h0 ≤ l2 ∨ h2 ≤ l0) ∧ (h1 ≤ l2 ∨ h2 ≤ l1)) (hh : h0 ≤ w'.heap.size ∧ h1 ≤ w'.heap.size ∧ h2 ≤ w'.heap.size) (b : Below w.heap.size w w') :
    GivesC C w (.returned (.agg #[.slice A0 C.up.length c0, .slice A1 C.dn.length c1, .slice A2 C.car.length c2])) w' :=
  ⟨A0, A1, A2, c0, c1, c2, rfl, ⟨b0.mono hl.1 hh.1, b1.mono hl.2.1 hh.2.1, b2.mono hl.2.2 hh.2.2, Ap.of b0.rg b1.rg hd.1, Ap.of b0.rg b2.rg hd.2.1, Ap.of b1.rg b2.rg hd.2.2⟩, b⟩
theorem toCalls_any (A0 A1 A2 : Option Addr) (c0 c1 c2 : Nat) (C : Cl) (w : World) (h : CR w A0 A1 A2 C) (hl : C.up.length ≤ 1048576 ∧ C.dn.length ≤ 1048576 ∧ C.car.length ≤ 1048576) :
    Calls Try.prog 11 #[.agg #[.slice A0 C.up.length c0, .slice A1 C.dn.length c1, .slice A2 C.car.length c2]] w (GivesC C w) := by
  have H := hide h; clear h
  obtain ⟨l0, l1, l2⟩ := hl
  go_enter Try.func11, Try.ntmps11
  go_wp2_with fail
  refine calls_name fun W hW => ?_
  have X1 : Hid (Box W w.heap.size #[.slice A0 C.up.length c0, .slice A1 C.dn.length c1, .slice A2 C.car.length c2]) := by rw [hW]; exact ((Box.new rfl).alloc _).alloc _
  have X2 : Hid (Box W (w.heap.size + 1) #[.slice none 0 0, .slice none 0 0, .slice none 0 0]) := by rw [hW]; exact (Box.new (by simp)).alloc _
  have X3 : Hid (Box W (w.heap.size + 1 + 1) #[.slice none 0 0, .slice none 0 0, .slice none 0 0]) := by rw [hW]; exact Box.new (by simp)
  have BW : Hid (Below w.heap.size w W) := by rw [hW]; exact (((Below.refl _ _).alloc (Nat.le_refl _) _).alloc (by simp) _).alloc (by simp; omega) _
  have z0 : w.heap.size + 1 + 1 < W.heap.size := by rw [hW]; simp
  clear hW
  refine (toBoolS_any A0 c0 C.up _ (H.out.below BW.out).up l0).mono ?_
  rintro e w1 ⟨A0', rfl, o1, b1⟩
  have O1 := hide o1
  have z1 := b1.size
  replace X1 := hide (X1.out.below b1)
  replace X2 := hide (X2.out.below b1)
  replace X3 := hide (X3.out.below b1)
  replace BW := hide (bthen BW.out b1)
  clear o1 b1
  have X1_lt := X1.out.lt
  have X1_c1 := X1.out.at (i := 1) rfl; have X1_f1 := X1.out.frozen 1
  have X3_lt := X3.out.lt
  have X3_c0 := X3.out.at (i := 0) rfl; have X3_f0 := X3.out.frozen 0
  go_wp2_with fail
  clear X1_lt X1_c1 X1_f1
  clear X3_lt X3_c0 X3_f0
  refine calls_name fun W2 hW => ?_
  have z2 := size_set' hW
  replace O1 := hide (BO.far' hW O1.out (.inl (by simp; omega)))
  replace X1 := hide (Box.far' hW X1.out (by simp; omega))
  replace X2 := hide (Box.far' hW X2.out (by simp))
  replace X3 := hide (Box.set' hW X3.out)
  replace BW := hide (below_set' hW BW.out (by simp; omega))
  clear hW
  refine (toBoolS_any A1 c1 C.dn _ (H.out.below BW.out).dn l1).mono ?_
  rintro e w3 ⟨A1', rfl, o2, b2⟩
  have O2 := hide o2
  have z3 := b2.size
  replace X1 := hide (X1.out.below b2)
  replace X2 := hide (X2.out.below b2)
  replace X3 := hide (X3.out.below b2)
  replace O1 := hide (O1.out.below b2)
  replace BW := hide (bthen BW.out b2)
  clear o2 b2
  have X1_lt := X1.out.lt
  have X1_c2 := X1.out.at (i := 2) rfl; have X1_f2 := X1.out.frozen 2
  have X3_lt := X3.out.lt
  have X3_c1 := X3.out.at (i := 1) rfl; have X3_f1 := X3.out.frozen 1
  go_wp2_with fail
  clear X1_lt X1_c2 X1_f2
  clear X3_lt X3_c1 X3_f1
  refine calls_name fun W4 hW => ?_
  have z4 := size_set' hW
  replace O1 := hide (BO.far' hW O1.out (.inl (by simp; omega)))
  replace O2 := hide (BO.far' hW O2.out (.inl (by simp; omega)))
  replace X1 := hide (Box.far' hW X1.out (by simp; omega))
  replace X2 := hide (Box.far' hW X2.out (by simp))
  replace X3 := hide (Box.set' hW X3.out)
  replace BW := hide (below_set' hW BW.out (by simp; omega))
  clear hW
  refine (toBoolS_any A2 c2 C.car _ (H.out.below BW.out).car l2).mono ?_
  rintro e w5 ⟨A2', rfl, o3, b3⟩
  have O3 := hide o3
  have z5 := b3.size
  replace X1 := hide (X1.out.below b3)
  replace X2 := hide (X2.out.below b3)
  replace X3 := hide (X3.out.below b3)
  replace O1 := hide (O1.out.below b3)
  replace O2 := hide (O2.out.below b3)
  replace BW := hide (bthen BW.out b3)
  clear o3 b3
  have X3_lt := X3.out.lt
  have X3_c0 := X3.out.at (i := 0) rfl; have X3_f0 := X3.out.frozen 0
  have X3_c1 := X3.out.at (i := 1) rfl; have X3_f1 := X3.out.frozen 1
  have X3_c2 := X3.out.at (i := 2) rfl; have X3_f2 := X3.out.frozen 2
  have X2_lt := X2.out.lt
  have X2_c0 := X2.out.at (i := 0) rfl; have X2_f0 := X2.out.frozen 0
  have X2_c1 := X2.out.at (i := 1) rfl; have X2_f1 := X2.out.frozen 1
  have X2_c2 := X2.out.at (i := 2) rfl; have X2_f2 := X2.out.frozen 2
  go_wp2_with fail
  refine bodyPost_ret (by simp [results, Try.results11, go_sem, X2_c0, X2_c1, X2_c2]; rfl) rfl ?_
  have o := ((((Only.refl w.heap.size W.heap.size w5).setCell (p := ⟨w.heap.size + 1 + 1, 2, none⟩) (by simp; omega) (by simp; omega) (.slice A2' C.car.length C.car.length)).setCell (p := ⟨w.heap.size + 1, 0, none⟩) (by simp) (by simp; omega) (.slice A0' C.up.length C.up.length)).setCell (p := ⟨w.heap.size + 1, 1, none⟩) (by simp) (by simp; omega) (.slice A1' C.dn.length C.dn.length)).setCell (p := ⟨w.heap.size + 1, 2, none⟩) (by simp) (by simp; omega) (.slice A2' C.car.length C.car.length)
  exact GivesC.of (O1.out.only o (.inr (Nat.le_refl _))) (O2.out.only o (.inr (by omega))) (O3.out.only o (.inr (by omega))) (by omega) (by omega) (by simp; omega) (Only.then BW.out o (Nat.le_refl _) (by omega))
def szI (l : Int) (n : Nat) : Int := if l - n < 0 then -1 else l - n
theorem szBoolS_any (A : Option Addr) (n c : Nat) (l : Int) (w : World) (l0 : 0 ≤ l) (l1 : l ≤ 1048576) (hn : (n : Int) ≤ 9223372036854775807) :
    Calls Try.prog 34 #[.slice A n c, .int .i64 l] w fun e w' => e = .returned (.int .i64 (szI l n)) ∧ w = w' := by
  by_cases h : l - n < 0
  · go_enter Try.func34, Try.ntmps34
    go_wp2
    go_ret
    exact ⟨ret_int (by unfold szI; rw [if_pos h]), rfl⟩
  · have h' : 0 ≤ l - n := by omega
    go_enter Try.func34, Try.ntmps34
    go_wp2
    go_ret
    exact ⟨ret_int (by unfold szI; rw [if_neg (by omega)]), rfl⟩
def szC (l : Int) (C : Cl) : Int := if l < C.up.length then -1 else if l - C.up.length < C.dn.length then -1 else if l - C.up.length - C.dn.length < C.car.length then -1 else l - C.up.length - C.dn.length - C.car.length
theorem szCalls_any (A0 A1 A2 : Option Addr) (c0 c1 c2 : Nat) (C : Cl) (l : Int) (w : World) (l0 : 0 ≤ l) (l1 : l ≤ 1048576) (n0 : (C.up.length : Int) ≤ 9223372036854775807) (n1 : (C.dn.length : Int) ≤ 9223372036854775807) (n2 : (C.car.length : Int) ≤ 9223372036854775807) :
    Calls Try.prog 9 #[.agg #[.slice A0 C.up.length c0, .slice A1 C.dn.length c1, .slice A2 C.car.length c2], .int .i64 l] w fun e w' => e = .returned (.int .i64 (szC l C)) ∧ Below w.heap.size w w' := by
  by_cases h1 : l < C.up.length
  · have HS : Hid (szC l C = -1) := by unfold szC; rw [if_pos h1]; rfl
    have e1 : szI l C.up.length = -1 := by unfold szI; rw [if_pos (by omega)]
    go_enter Try.func9, Try.ntmps9
    go_wp2_with fail
    refine (szBoolS_any A0 C.up.length c0 l _ l0 l1 n0).mono ?_
    rintro e w1 ⟨rfl, rfl⟩
    go_wp2_with fail
    go_ret
    exact ⟨ret_int HS.out.symm, (Below.refl _ _).alloc (Nat.le_refl _) _⟩
  have e1 : szI l C.up.length = l - C.up.length := by unfold szI; rw [if_neg (by omega)]
  have p1 : 0 ≤ l - C.up.length := by omega
  by_cases h2 : l - C.up.length < C.dn.length
  · have HS : Hid (szC l C = -1) := by unfold szC; rw [if_neg h1, if_pos h2]; rfl
    have e2 : szI (l - C.up.length) C.dn.length = -1 := by unfold szI; rw [if_pos (by omega)]
    go_enter Try.func9, Try.ntmps9
    go_wp2_with fail
    refine (szBoolS_any A0 C.up.length c0 l _ l0 l1 n0).mono ?_
    rintro e w1 ⟨rfl, rfl⟩
    go_wp2_with fail
    refine (szBoolS_any A1 C.dn.length c1 _ _ p1 (by omega) n1).mono ?_
    rintro e w1 ⟨rfl, rfl⟩
    go_wp2_with fail
    go_ret
    exact ⟨ret_int HS.out.symm, (Below.refl _ _).alloc (Nat.le_refl _) _⟩
  have e2 : szI (l - C.up.length) C.dn.length = l - C.up.length - C.dn.length := by unfold szI; rw [if_neg (by omega)]
  have p2 : 0 ≤ l - C.up.length - C.dn.length := by omega
  by_cases h3 : l - C.up.length - C.dn.length < C.car.length
  · have HS : Hid (szC l C = -1) := by unfold szC; rw [if_neg h1, if_neg h2, if_pos h3]; rfl
    have e3 : szI (l - C.up.length - C.dn.length) C.car.length = -1 := by unfold szI; rw [if_pos (by omega)]
    go_enter Try.func9, Try.ntmps9
    go_wp2_with fail
    refine (szBoolS_any A0 C.up.length c0 l _ l0 l1 n0).mono ?_
    rintro e w1 ⟨rfl, rfl⟩
    go_wp2_with fail
    refine (szBoolS_any A1 C.dn.length c1 _ _ p1 (by omega) n1).mono ?_
    rintro e w1 ⟨rfl, rfl⟩
    go_wp2_with fail
    refine (szBoolS_any A2 C.car.length c2 _ _ p2 (by omega) n2).mono ?_
    rintro e w1 ⟨rfl, rfl⟩
    go_wp2_with fail
    go_ret
    exact ⟨ret_int HS.out.symm, (Below.refl _ _).alloc (Nat.le_refl _) _⟩
  have e3 : szI (l - C.up.length - C.dn.length) C.car.length = l - C.up.length - C.dn.length - C.car.length := by unfold szI; rw [if_neg (by omega)]
  have p3 : 0 ≤ l - C.up.length - C.dn.length - C.car.length := by omega
  have HS : Hid (szC l C = l - C.up.length - C.dn.length - C.car.length) := by unfold szC; rw [if_neg h1, if_neg h2, if_neg h3]; rfl
  go_enter Try.func9, Try.ntmps9
  go_wp2_with fail
  refine (szBoolS_any A0 C.up.length c0 l _ l0 l1 n0).mono ?_
  rintro e w1 ⟨rfl, rfl⟩
  go_wp2_with fail
  refine (szBoolS_any A1 C.dn.length c1 _ _ p1 (by omega) n1).mono ?_
  rintro e w1 ⟨rfl, rfl⟩
  go_wp2_with fail
  refine (szBoolS_any A2 C.car.length c2 _ _ p2 (by omega) n2).mono ?_
  rintro e w1 ⟨rfl, rfl⟩
  go_wp2_with fail
  go_ret
  exact ⟨ret_int HS.out.symm, (Below.refl _ _).alloc (Nat.le_refl _) _⟩
def eqC (C D : Cl) : Bool := eqL C.up D.up && (eqL C.dn D.dn && eqL C.car D.car)
theorem eqC_self (C : Cl) : eqC C C = true := by unfold eqC; rw [eqL_self, eqL_self, eqL_self]; rfl
theorem eqC_iff {C D : Cl} : eqC C D = true ↔ C = D := by
  unfold eqC eqL; simp
  constructor
  · rintro ⟨a, b, c⟩; cases C; cases D; simp_all
  · rintro rfl; exact ⟨rfl, rfl, rfl⟩
theorem eqCalls_any (A0 A1 A2 : Option Addr) (c0 c1 c2 : Nat) (B0 B1 B2 : Option Addr) (d0 d1 d2 : Nat) (C D : Cl) (w : World) (h : CR w A0 A1 A2 C) (h' : CR w B0 B1 B2 D) (hl : C.up.length ≤ 140737488351232 ∧ C.dn.length ≤ 140737488351232 ∧ C.car.length ≤ 140737488351232) :
    Calls Try.prog 15 #[.agg #[.slice A0 C.up.length c0, .slice A1 C.dn.length c1, .slice A2 C.car.length c2], .agg #[.slice B0 D.up.length d0, .slice B1 D.dn.length d1, .slice B2 D.car.length d2]] w fun e w' => e = .returned (.bool (eqC C D)) ∧ Below w.heap.size w w' := by
  have H := hide h; have H' := hide h'; clear h h'
  obtain ⟨l0, l1, l2⟩ := hl
  have HE : Hid (eqC C D = (eqL C.up D.up && (eqL C.dn D.dn && eqL C.car D.car))) := rfl
  go_enter Try.func15, Try.ntmps15
  go_wp2_with fail
  refine calls_name fun W hW => ?_
  have X1 : Hid (Box W w.heap.size #[.slice A0 C.up.length c0, .slice A1 C.dn.length c1, .slice A2 C.car.length c2]) := by rw [hW]; exact (Box.new rfl).alloc _
  have X2 : Hid (Box W (w.heap.size + 1) #[.slice B0 D.up.length d0, .slice B1 D.dn.length d1, .slice B2 D.car.length d2]) := by rw [hW]; exact Box.new (by simp)
  have BW : Hid (Below w.heap.size w W) := by rw [hW]; exact ((Below.refl _ _).alloc (Nat.le_refl _) _).alloc (by simp) _
  clear hW
  refine (eqBoolS_any A0 B0 c0 d0 C.up D.up _ (H.out.below BW.out).up (H'.out.below BW.out).up l0).mono ?_
  rintro e w1 ⟨rfl, D1⟩
  replace X1 := hide (X1.out.below D1.below)
  replace X2 := hide (X2.out.below D1.below)
  replace BW := hide (bthen BW.out D1.below)
  clear D1
  cases e1 : eqL C.up D.up
  · go_wp2_with fail
    go_ret
    exact ⟨ret_bool (by rw [HE.out, e1]; rfl), BW.out⟩
  have X1_lt := X1.out.lt
  have X1_c1 := X1.out.at (i := 1) rfl; have X1_f1 := X1.out.frozen 1
  have X2_lt := X2.out.lt
  have X2_c1 := X2.out.at (i := 1) rfl; have X2_f1 := X2.out.frozen 1
  go_wp2_with fail
  clear X1_lt X1_c1 X1_f1
  clear X2_lt X2_c1 X2_f1
  refine (eqBoolS_any A1 B1 c1 d1 C.dn D.dn _ (H.out.below BW.out).dn (H'.out.below BW.out).dn l1).mono ?_
  rintro e w2 ⟨rfl, D1⟩
  replace X1 := hide (X1.out.below D1.below)
  replace X2 := hide (X2.out.below D1.below)
  replace BW := hide (bthen BW.out D1.below)
  clear D1
  cases e2 : eqL C.dn D.dn
  · go_wp2_with fail
    go_ret
    exact ⟨ret_bool (by rw [HE.out, e1, e2]; rfl), BW.out⟩
  have X1_lt := X1.out.lt
  have X1_c2 := X1.out.at (i := 2) rfl; have X1_f2 := X1.out.frozen 2
  have X2_lt := X2.out.lt
  have X2_c2 := X2.out.at (i := 2) rfl; have X2_f2 := X2.out.frozen 2
  go_wp2_with fail
  clear X1_lt X1_c2 X1_f2
  clear X2_lt X2_c2 X2_f2
  refine (eqBoolS_any A2 B2 c2 d2 C.car D.car _ (H.out.below BW.out).car (H'.out.below BW.out).car l2).mono ?_
  rintro e w2 ⟨rfl, D1⟩
  replace BW := hide (bthen BW.out D1.below)
  clear D1
  cases e3 : eqL C.car D.car
  · go_wp2_with fail
    go_ret
    exact ⟨ret_bool (by rw [HE.out, e1, e2, e3]; rfl), BW.out⟩
  · go_wp2_with fail
    go_ret
    exact ⟨ret_bool (by rw [HE.out, e1, e2, e3]; rfl), BW.out⟩
theorem sameCalls_any (A0 A1 A2 : Option Addr) (c0 c1 c2 : Nat) (B0 B1 B2 : Option Addr) (d0 d1 d2 : Nat) (C D : Cl) (w : World) (h : CR w A0 A1 A2 C) (h' : CR w B0 B1 B2 D) (hl : C.up.length ≤ 140737488351232 ∧ C.dn.length ≤ 140737488351232 ∧ C.car.length ≤ 140737488351232) :
    Calls Try.prog 21 #[.agg #[.slice A0 C.up.length c0, .slice A1 C.dn.length c1, .slice A2 C.car.length c2], .agg #[.slice B0 D.up.length d0, .slice B1 D.dn.length d1, .slice B2 D.car.length d2]] w fun e w' => e = .returned (.bool (eqC C D)) ∧ Below w.heap.size w w' := by
  have H := hide h; have H' := hide h'; clear h h'
  obtain ⟨l0, l1, l2⟩ := hl
  have HE : Hid (eqC C D = (eqL C.up D.up && (eqL C.dn D.dn && eqL C.car D.car))) := rfl
  go_enter Try.func21, Try.ntmps21
  go_wp2_with fail
  refine calls_name fun W hW => ?_
  have X1 : Hid (Box W w.heap.size #[.slice A0 C.up.length c0, .slice A1 C.dn.length c1, .slice A2 C.car.length c2]) := by rw [hW]; exact (Box.new rfl).alloc _
  have X2 : Hid (Box W (w.heap.size + 1) #[.slice B0 D.up.length d0, .slice B1 D.dn.length d1, .slice B2 D.car.length d2]) := by rw [hW]; exact Box.new (by simp)
  have BW : Hid (Below w.heap.size w W) := by rw [hW]; exact ((Below.refl _ _).alloc (Nat.le_refl _) _).alloc (by simp) _
  clear hW
  refine (sameBools_any A0 B0 c0 d0 C.up D.up _ (H.out.below BW.out).up (H'.out.below BW.out).up l0).mono ?_
  rintro e w1 ⟨rfl, D1⟩
  replace X1 := hide (X1.out.below D1.below)
  replace X2 := hide (X2.out.below D1.below)
  replace BW := hide (bthen BW.out D1.below)
  clear D1
  cases e1 : eqL C.up D.up
  · go_wp2_with fail
    go_ret
    exact ⟨ret_bool (by rw [HE.out, e1]; rfl), BW.out⟩
  have X1_lt := X1.out.lt
  have X1_c1 := X1.out.at (i := 1) rfl; have X1_f1 := X1.out.frozen 1
  have X2_lt := X2.out.lt
  have X2_c1 := X2.out.at (i := 1) rfl; have X2_f1 := X2.out.frozen 1
  go_wp2_with fail
  clear X1_lt X1_c1 X1_f1
  clear X2_lt X2_c1 X2_f1
  refine (sameBools_any A1 B1 c1 d1 C.dn D.dn _ (H.out.below BW.out).dn (H'.out.below BW.out).dn l1).mono ?_
  rintro e w2 ⟨rfl, D1⟩
  replace X1 := hide (X1.out.below D1.below)
  replace X2 := hide (X2.out.below D1.below)
  replace BW := hide (bthen BW.out D1.below)
  clear D1
  cases e2 : eqL C.dn D.dn
  · go_wp2_with fail
    go_ret
    exact ⟨ret_bool (by rw [HE.out, e1, e2]; rfl), BW.out⟩
  have X1_lt := X1.out.lt
  have X1_c2 := X1.out.at (i := 2) rfl; have X1_f2 := X1.out.frozen 2
  have X2_lt := X2.out.lt
  have X2_c2 := X2.out.at (i := 2) rfl; have X2_f2 := X2.out.frozen 2
  go_wp2_with fail
  clear X1_lt X1_c2 X1_f2
  clear X2_lt X2_c2 X2_f2
  refine (sameBools_any A2 B2 c2 d2 C.car D.car _ (H.out.below BW.out).car (H'.out.below BW.out).car l2).mono ?_
  rintro e w2 ⟨rfl, D1⟩
  replace BW := hide (bthen BW.out D1.below)
  clear D1
  go_wp2_with fail
  go_ret
  exact ⟨ret_bool (by rw [HE.out, e1, e2]; rfl), BW.out⟩
/-- All marked. -/
def mkC (C : Cl) (k : Int) : Cl := ⟨mkAll C.up k, mkAll C.dn (k + C.up.length), mkAll C.car (k + C.up.length + C.dn.length)⟩
theorem markCalls_any (A0 A1 A2 : Option Addr) (c0 c1 c2 : Nat) (C : Cl) (k : Int) (lo hi : Nat) (w : World) (h : CO lo hi w A0 A1 A2 C) (hl : C.up.length ≤ 1048576 ∧ C.dn.length ≤ 1048576 ∧ C.car.length ≤ 1048576) (k0 : 0 ≤ k) (k1 : k ≤ 100000000) (hh : hi ≤ w.heap.size) :
    Calls Try.prog 18 #[.agg #[.slice A0 C.up.length c0, .slice A1 C.dn.length c1, .slice A2 C.car.length c2], .int .i64 k] w fun e w' => e = .returned (.int .i64 (k + C.up.length + C.dn.length + C.car.length)) ∧ CO lo hi w' A0 A1 A2 (mkC C k) ∧ Only lo hi w w' := by
  have U := hide h.up; have V := hide h.dn; have R := hide h.car; have P1 := hide h.ud; have P2 := hide h.uc; have P3 := hide h.dc; clear h
  obtain ⟨l0, l1, l2⟩ := hl
  go_enter Try.func18, Try.ntmps18
  go_wp2_with fail
  refine calls_name fun W hW => ?_
  have X1 : Hid (Box W w.heap.size #[.slice A0 C.up.length c0, .slice A1 C.dn.length c1, .slice A2 C.car.length c2]) := by rw [hW]; exact Box.new rfl
  have bW : Below w.heap.size w W := by rw [hW]; exact (Below.refl _ _).alloc (Nat.le_refl _) _
  have OW : Hid (Only lo hi w W) := Only.of bW
  replace U := hide (U.out.below bW)
  replace V := hide (V.out.below bW)
  replace R := hide (R.out.below bW)
  have z0 := bW.size
  clear hW bW
  refine (markBoolS_any A0 c0 lo hi C.up k _ U.out l0 k0 (by omega)).mono ?_
  rintro e w1 ⟨rfl, u1, g1⟩
  replace V : Hid (BO lo hi w1 A1 C.dn) := OS.row V.out g1 P1.out
  replace R : Hid (BO lo hi w1 A2 C.car) := OS.row R.out g1 P2.out
  replace X1 := hide (X1.out.only (grown_only g1 U.out.rg) (.inr (by omega)))
  replace OW := hide (OW.out.trans (grown_only g1 U.out.rg))
  replace U := hide u1
  have z1 := g1.size
  clear u1 g1
  have X1_lt := X1.out.lt
  have X1_c1 := X1.out.at (i := 1) rfl; have X1_f1 := X1.out.frozen 1
  go_wp2_with fail
  clear X1_lt X1_c1 X1_f1
  refine (markBoolS_any A1 c1 lo hi C.dn _ _ V.out l1 (by omega) (by omega)).mono ?_
  rintro e w2 ⟨rfl, u1, g1⟩
  replace U : Hid (BO lo hi w2 A0 (mkAll C.up k)) := OS.row U.out g1 (by rw [mkAll_len]; exact P1.out.symm)
  replace R : Hid (BO lo hi w2 A2 C.car) := OS.row R.out g1 P3.out
  replace X1 := hide (X1.out.only (grown_only g1 V.out.rg) (.inr (by omega)))
  replace OW := hide (OW.out.trans (grown_only g1 V.out.rg))
  replace V := hide u1
  have z2 := g1.size
  clear u1 g1
  have X1_lt := X1.out.lt
  have X1_c2 := X1.out.at (i := 2) rfl; have X1_f2 := X1.out.frozen 2
  go_wp2_with fail
  clear X1_lt X1_c2 X1_f2
  refine (markBoolS_any A2 c2 lo hi C.car _ _ R.out l2 (by omega) (by omega)).mono ?_
  rintro e w3 ⟨rfl, u1, g1⟩
  replace U : Hid (BO lo hi w3 A0 (mkAll C.up k)) := OS.row U.out g1 (by rw [mkAll_len]; exact P2.out.symm)
  replace V : Hid (BO lo hi w3 A1 (mkAll C.dn (k + C.up.length))) := OS.row V.out g1 (by rw [mkAll_len]; exact P3.out.symm)
  replace OW := hide (OW.out.trans (grown_only g1 R.out.rg))
  replace R := hide u1
  clear u1 g1
  go_wp2_with fail
  go_ret
  exact ⟨rfl, ⟨U.out, V.out, R.out, by simpa [mkC, mkAll_len] using P1.out, by simpa [mkC, mkAll_len] using P2.out, by simpa [mkC, mkAll_len] using P3.out⟩, OW.out⟩
theorem heldCalls_any (A0 A1 A2 : Option Addr) (c0 c1 c2 : Nat) (C : Cl) (k : Int) (w : World) (h : CR w A0 A1 A2 (mkC C k)) (hl : C.up.length ≤ 1048576 ∧ C.dn.length ≤ 1048576 ∧ C.car.length ≤ 1048576) (k0 : 0 ≤ k) (k1 : k ≤ 100000000) :
    Calls Try.prog 19 #[.agg #[.slice A0 C.up.length c0, .slice A1 C.dn.length c1, .slice A2 C.car.length c2], .int .i64 k] w fun e w' => e = .returned (.int .i64 (k + C.up.length + C.dn.length + C.car.length)) ∧ Below w.heap.size w w' := by
  have H := hide h; clear h
  obtain ⟨l0, l1, l2⟩ := hl
  go_enter Try.func19, Try.ntmps19
  go_wp2_with fail
  refine calls_name fun W hW => ?_
  have X1 : Hid (Box W w.heap.size #[.slice A0 C.up.length c0, .slice A1 C.dn.length c1, .slice A2 C.car.length c2]) := by rw [hW]; exact Box.new rfl
  have BW : Hid (Below w.heap.size w W) := by rw [hW]; exact (Below.refl _ _).alloc (Nat.le_refl _) _
  replace H := hide (H.out.below BW.out)
  clear hW
  refine (heldBoolS_any A0 c0 C.up k _ H.out.up l0 k0 (by omega)).mono ?_
  rintro e w1 ⟨rfl, rfl⟩
  have X1_lt := X1.out.lt
  have X1_c1 := X1.out.at (i := 1) rfl; have X1_f1 := X1.out.frozen 1
  go_wp2_with fail
  clear X1_lt X1_c1 X1_f1
  refine (heldBoolS_any A1 c1 C.dn _ _ H.out.dn l1 (by omega) (by omega)).mono ?_
  rintro e w1 ⟨rfl, rfl⟩
  have X1_lt := X1.out.lt
  have X1_c2 := X1.out.at (i := 2) rfl; have X1_f2 := X1.out.frozen 2
  go_wp2_with fail
  clear X1_lt X1_c2 X1_f2
  refine (heldBoolS_any A2 c2 C.car _ _ H.out.car l2 (by omega) (by omega)).mono ?_
  rintro e w1 ⟨rfl, rfl⟩
  go_wp2_with fail
  go_ret
  exact ⟨rfl, BW.out⟩
end Go.Proofs.Ytngblphkpkhppaa
