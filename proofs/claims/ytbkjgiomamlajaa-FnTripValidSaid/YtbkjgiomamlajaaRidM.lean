/- Trips: the laws' copies, comparisons, marks. -/
import Derived.Test.YtbkjgiomamlajaaRidL
namespace Go.Proofs.Ytbkjgiomamlajaa
open Go.RowKit

theorem szTrip_no (A : Option Addr) (c : Nat) (t : Tp) (l : Int) (w : World) (l0 : 0 ≤ l) (l1 : l ≤ 1048576) (hn : (t.rs.length : Int) ≤ 9223372036854775807) (h : l < t.rs.length) :
    Calls Try.prog 24 #[.agg #[.int .i64 t.n, .int .i64 t.room, .int .i64 t.f, .int .i64 t.d, .slice A t.rs.length c], .int .i64 l] w fun e w' => e = .returned (.int .i64 (-1)) ∧ Below w.heap.size w w' := by
  have hz : ∀ w : World, Calls Try.prog 57 #[.slice A t.rs.length c, .int .i64 l] w fun e w' => e = .returned (.int .i64 (-1)) ∧ w = w' := fun w => by
    go_enter Try.func57, Try.ntmps57
    go_wp2_with fail
    go_ret
    exact ⟨rfl, rfl⟩
  have HZ := hide hz
  clear hz
  go_enter Try.func24, Try.ntmps24
  go_wp2_with fail
  refine (HZ.out _).mono ?_
  rintro e w1 ⟨rfl, rfl⟩
  go_wp2_with fail
  go_ret
  exact ⟨rfl, (Below.refl _ _).alloc (Nat.le_refl _) _⟩
theorem szTrip_yes (A : Option Addr) (c : Nat) (t : Tp) (l : Int) (w : World) (l1 : l ≤ 1048576) (h : (t.rs.length : Int) ≤ l) :
    Calls Try.prog 24 #[.agg #[.int .i64 t.n, .int .i64 t.room, .int .i64 t.f, .int .i64 t.d, .slice A t.rs.length c], .int .i64 l] w fun e w' => e = .returned (.int .i64 (l - t.rs.length)) ∧ Below w.heap.size w w' := by
  have hz : ∀ w : World, Calls Try.prog 57 #[.slice A t.rs.length c, .int .i64 l] w fun e w' => e = .returned (.int .i64 (l - t.rs.length)) ∧ w = w' := fun w => by
    go_enter Try.func57, Try.ntmps57
    go_wp2_with fail
    go_ret
    exact ⟨rfl, rfl⟩
  have HZ := hide hz
  clear hz
  go_enter Try.func24, Try.ntmps24
  go_wp2_with fail
  refine (HZ.out _).mono ?_
  rintro e w1 ⟨rfl, rfl⟩
  go_wp2_with fail
  go_ret
  exact ⟨rfl, (Below.refl _ _).alloc (Nat.le_refl _) _⟩
set_option maxHeartbeats 1000000 in
theorem toTrip_any (A : Option Addr) (c : Nat) (t : Tp) (w : World) (h : Rds w A t.rs) (hl : t.rs.length ≤ 1048576) :
    Calls Try.prog 25 #[.agg #[.int .i64 t.n, .int .i64 t.room, .int .i64 t.f, .int .i64 t.d, .slice A t.rs.length c]] w fun e w' => ∃ A', e = .returned (.agg #[.int .i64 t.n, .int .i64 t.room, .int .i64 t.f, .int .i64 t.d, .slice A' t.rs.length t.rs.length]) ∧ RW w.heap.size w'.heap.size w' A' t.rs ∧ Below w.heap.size w w' := by
  have H := hide h; clear h
  go_enter Try.func25, Try.ntmps25
  go_upto_region 1 with fail
  refine code_name fun W hW => ?_
  have X1 : Hid (Box W w.heap.size #[.int .i64 t.n, .int .i64 t.room, .int .i64 t.f, .int .i64 t.d, .slice A t.rs.length c]) := by rw [hW]; exact (Box.new rfl).alloc _
  have X2 : Hid (Box W (w.heap.size + 1) #[.int .i64 0, .int .i64 0, .int .i64 0, .int .i64 0, .slice none 0 0]) := by rw [hW]; exact Box.new (by simp)
  have BW : Hid (Below w.heap.size w W) := by rw [hW]; exact ((Below.refl _ _).alloc (Nat.le_refl _) _).alloc (by simp) _
  have z0 : w.heap.size + 1 < W.heap.size := by rw [hW]; simp
  clear hW
  have X1_lt := X1.out.lt
  have X1_c0 := X1.out.at (i := 0) rfl; have X1_f0 := X1.out.frozen 0
  have X1_c1 := X1.out.at (i := 1) rfl; have X1_f1 := X1.out.frozen 1
  have X1_c2 := X1.out.at (i := 2) rfl; have X1_f2 := X1.out.frozen 2
  have X1_c3 := X1.out.at (i := 3) rfl; have X1_f3 := X1.out.frozen 3
  have X1_c4 := X1.out.at (i := 4) rfl; have X1_f4 := X1.out.frozen 4
  go_upto_region 4 with fail
  clear X1_lt X1_c0 X1_f0 X1_c1 X1_f1 X1_c2 X1_f2 X1_c3 X1_f3 X1_c4 X1_f4
  refine code_name fun W2 hW => ?_
  have X3 : Hid (Box W2 W.heap.size #[.int .i64 t.n, .int .i64 t.room, .int .i64 0, .int .i64 0, .slice none 0 0]) := by rw [hW]; exact Box.new rfl
  have b : Below W.heap.size W W2 := by rw [hW]; exact (Below.refl _ _).alloc (Nat.le_refl _) _
  have z1 := X3.out.lt
  replace X1 := hide (X1.out.below b)
  replace X2 := hide (X2.out.below b)
  replace BW := hide (bthen BW.out b)
  clear b
  clear hW
  have X1_lt := X1.out.lt
  have X1_c0 := X1.out.at (i := 0) rfl; have X1_f0 := X1.out.frozen 0
  have X1_c1 := X1.out.at (i := 1) rfl; have X1_f1 := X1.out.frozen 1
  have X1_c2 := X1.out.at (i := 2) rfl; have X1_f2 := X1.out.frozen 2
  have X1_c3 := X1.out.at (i := 3) rfl; have X1_f3 := X1.out.frozen 3
  have X1_c4 := X1.out.at (i := 4) rfl; have X1_f4 := X1.out.frozen 4
  go_wp2_with fail
  clear X1_lt X1_c0 X1_f0 X1_c1 X1_f1 X1_c2 X1_f2 X1_c3 X1_f3 X1_c4 X1_f4
  refine (toStop_any t.f t.d _).mono ?_
  rintro e w3 ⟨rfl, b⟩
  have z3 := b.size
  replace X1 := hide (X1.out.below b)
  replace X2 := hide (X2.out.below b)
  replace X3 := hide (X3.out.below b)
  replace BW := hide (bthen BW.out b)
  clear b
  have X3_lt := X3.out.lt
  have X3_c0 := X3.out.at (i := 0) rfl; have X3_f0 := X3.out.frozen 0
  have X3_c1 := X3.out.at (i := 1) rfl; have X3_f1 := X3.out.frozen 1
  have X3_c2 := X3.out.at (i := 2) rfl; have X3_f2 := X3.out.frozen 2
  have X3_c3 := X3.out.at (i := 3) rfl; have X3_f3 := X3.out.frozen 3
  have X3_c4 := X3.out.at (i := 4) rfl; have X3_f4 := X3.out.frozen 4
  go_upto_region 5 with fail
  clear X3_lt X3_c0 X3_f0 X3_c1 X3_f1 X3_c2 X3_f2 X3_c3 X3_f3 X3_c4 X3_f4
  refine code_name fun W4 hW => ?_
  have o : Only W.heap.size (W.heap.size + 1) w3 W4 := by rw [hW]; exact ((Only.refl _ _ w3).setCell (p := ⟨W.heap.size, 2, none⟩) (Nat.le_refl _) (Nat.lt_succ_self _) _).setCell (p := ⟨W.heap.size, 3, none⟩) (Nat.le_refl _) (Nat.lt_succ_self _) _
  have X3' : Hid (Box W4 W.heap.size #[.int .i64 t.n, .int .i64 t.room, .int .i64 t.f, .int .i64 t.d, .slice none 0 0]) := by rw [hW]; exact (X3.out.set 2 (.int .i64 t.f)).set 3 (.int .i64 t.d)
  replace X3 := X3'
  have z4 := o.size
  replace X1 := hide (X1.out.only o (by omega)); replace X2 := hide (X2.out.only o (by omega))
  replace BW := hide (Only.then BW.out o (by omega) (by omega))
  clear o hW X3'
  have X1_lt := X1.out.lt
  have X1_c0 := X1.out.at (i := 0) rfl; have X1_f0 := X1.out.frozen 0
  have X1_c1 := X1.out.at (i := 1) rfl; have X1_f1 := X1.out.frozen 1
  have X1_c2 := X1.out.at (i := 2) rfl; have X1_f2 := X1.out.frozen 2
  have X1_c3 := X1.out.at (i := 3) rfl; have X1_f3 := X1.out.frozen 3
  have X1_c4 := X1.out.at (i := 4) rfl; have X1_f4 := X1.out.frozen 4
  go_wp2_with fail
  clear X1_lt X1_c0 X1_f0 X1_c1 X1_f1 X1_c2 X1_f2 X1_c3 X1_f3 X1_c4 X1_f4
  refine (toRiderS_any A c t.rs _ (H.out.below BW.out) hl).mono ?_
  rintro e w5 ⟨A', rfl, R, b⟩
  have R := hide R
  have z5 := b.size
  replace X2 := hide (X2.out.below b)
  replace X3 := hide (X3.out.below b)
  replace BW := hide (bthen BW.out b)
  clear b
  have X2_lt := X2.out.lt
  have X2_c0 := X2.out.at (i := 0) rfl; have X2_f0 := X2.out.frozen 0
  have X2_c1 := X2.out.at (i := 1) rfl; have X2_f1 := X2.out.frozen 1
  have X2_c2 := X2.out.at (i := 2) rfl; have X2_f2 := X2.out.frozen 2
  have X2_c3 := X2.out.at (i := 3) rfl; have X2_f3 := X2.out.frozen 3
  have X2_c4 := X2.out.at (i := 4) rfl; have X2_f4 := X2.out.frozen 4
  have X3_lt := X3.out.lt
  have X3_c0 := X3.out.at (i := 0) rfl; have X3_f0 := X3.out.frozen 0
  have X3_c1 := X3.out.at (i := 1) rfl; have X3_f1 := X3.out.frozen 1
  have X3_c2 := X3.out.at (i := 2) rfl; have X3_f2 := X3.out.frozen 2
  have X3_c3 := X3.out.at (i := 3) rfl; have X3_f3 := X3.out.frozen 3
  have X3_c4 := X3.out.at (i := 4) rfl; have X3_f4 := X3.out.frozen 4
  have hne : ¬ w.heap.size + 1 = W.heap.size := by omega
  have hne2 : ¬ W.heap.size = w.heap.size + 1 := by omega
  go_upto_region 6 with fail
  clear X2_lt X2_c0 X2_f0 X2_c1 X2_f1 X2_c2 X2_f2 X2_c3 X2_f3 X2_c4 X2_f4
  clear X3_lt X3_c0 X3_f0 X3_c1 X3_f1 X3_c2 X3_f2 X3_c3 X3_f3 X3_c4 X3_f4
  refine code_name fun W6 hW => ?_
  have o : Only W.heap.size (W.heap.size + 1) w5 W6 := by rw [hW]; exact (Only.refl _ _ w5).setCell (p := ⟨W.heap.size, 4, none⟩) (Nat.le_refl _) (Nat.lt_succ_self _) _
  have X3' : Hid (Box W6 W.heap.size #[.int .i64 t.n, .int .i64 t.room, .int .i64 t.f, .int .i64 t.d, .slice A' t.rs.length t.rs.length]) := by rw [hW]; exact X3.out.set 4 (.slice A' t.rs.length t.rs.length)
  replace X3 := X3'
  have z6 := o.size
  replace X2 := hide (X2.out.only o (by omega)); replace R := hide (R.out.only o (by omega))
  replace BW := hide (Only.then BW.out o (by omega) (by omega))
  clear o hW X3'
  have X2_lt := X2.out.lt
  have X2_c0 := X2.out.at (i := 0) rfl; have X2_f0 := X2.out.frozen 0
  have X2_c1 := X2.out.at (i := 1) rfl; have X2_f1 := X2.out.frozen 1
  have X2_c2 := X2.out.at (i := 2) rfl; have X2_f2 := X2.out.frozen 2
  have X2_c3 := X2.out.at (i := 3) rfl; have X2_f3 := X2.out.frozen 3
  have X2_c4 := X2.out.at (i := 4) rfl; have X2_f4 := X2.out.frozen 4
  have X3_lt := X3.out.lt
  have X3_c0 := X3.out.at (i := 0) rfl; have X3_f0 := X3.out.frozen 0
  have X3_c1 := X3.out.at (i := 1) rfl; have X3_f1 := X3.out.frozen 1
  have X3_c2 := X3.out.at (i := 2) rfl; have X3_f2 := X3.out.frozen 2
  have X3_c3 := X3.out.at (i := 3) rfl; have X3_f3 := X3.out.frozen 3
  have X3_c4 := X3.out.at (i := 4) rfl; have X3_f4 := X3.out.frozen 4
  go_wp2_with fail
  refine bodyPost_ret (by simp [results, Try.results25, go_sem, X2_c0, X2_c1, X2_c2, X2_c3, X2_c4]; rfl) rfl ?_
  have o : Only (w.heap.size + 1) (w.heap.size + 1 + 1) W6 _ := ((((((Only.refl _ _ W6).setCell (p := ⟨w.heap.size + 1, 0, none⟩) (Nat.le_refl _) (Nat.lt_succ_self _) (.int .i64 t.n)).setCell (p := ⟨w.heap.size + 1, 1, none⟩) (Nat.le_refl _) (Nat.lt_succ_self _) (.int .i64 t.room)).setCell (p := ⟨w.heap.size + 1, 2, none⟩) (Nat.le_refl _) (Nat.lt_succ_self _) (.int .i64 t.f)).setCell (p := ⟨w.heap.size + 1, 3, none⟩) (Nat.le_refl _) (Nat.lt_succ_self _) (.int .i64 t.d)).setCell (p := ⟨w.heap.size + 1, 4, none⟩) (Nat.le_refl _) (Nat.lt_succ_self _) (.slice A' t.rs.length t.rs.length))
  exact ⟨A', rfl, (R.out.only o (by omega)).mono (by omega) (by have := o.size; omega), Only.then BW.out o (by omega) (by omega)⟩
theorem eqTrip_self (A B : Option Addr) (c d : Nat) (t : Tp) (w : World) (h : Rds w A t.rs) (h' : Rds w B t.rs) (hl : t.rs.length ≤ 1048576) :
    Calls Try.prog 26 #[.agg #[.int .i64 t.n, .int .i64 t.room, .int .i64 t.f, .int .i64 t.d, .slice A t.rs.length c], .agg #[.int .i64 t.n, .int .i64 t.room, .int .i64 t.f, .int .i64 t.d, .slice B t.rs.length d]] w fun e w' => e = .returned (.bool true) ∧ Below w.heap.size w w' := by
  have H := hide h; have H' := hide h'; clear h h'
  have e1 : (t.n != t.n) = false := by simp
  have e2 : (t.room != t.room) = false := by simp
  go_enter Try.func26, Try.ntmps26
  go_wp2_with fail
  refine calls_name fun W hW => ?_
  have X2 : Hid (Box W w.heap.size #[.int .i64 t.n, .int .i64 t.room, .int .i64 t.f, .int .i64 t.d, .slice A t.rs.length c]) := by rw [hW]; exact (Box.new rfl).alloc _
  have X3 : Hid (Box W (w.heap.size + 1) #[.int .i64 t.n, .int .i64 t.room, .int .i64 t.f, .int .i64 t.d, .slice B t.rs.length d]) := by rw [hW]; exact Box.new (by simp)
  have BW : Hid (Below w.heap.size w W) := by rw [hW]; exact ((Below.refl _ _).alloc (Nat.le_refl _) _).alloc (by simp) _
  clear hW
  refine (eqStop_self t.f t.d _).mono ?_
  rintro e w1 ⟨rfl, b⟩
  replace X2 := hide (X2.out.below b)
  replace X3 := hide (X3.out.below b)
  replace BW := hide (bthen BW.out b)
  clear b
  have X2_lt := X2.out.lt
  have X2_c0 := X2.out.at (i := 0) rfl; have X2_f0 := X2.out.frozen 0
  have X2_c1 := X2.out.at (i := 1) rfl; have X2_f1 := X2.out.frozen 1
  have X2_c2 := X2.out.at (i := 2) rfl; have X2_f2 := X2.out.frozen 2
  have X2_c3 := X2.out.at (i := 3) rfl; have X2_f3 := X2.out.frozen 3
  have X2_c4 := X2.out.at (i := 4) rfl; have X2_f4 := X2.out.frozen 4
  have X3_lt := X3.out.lt
  have X3_c0 := X3.out.at (i := 0) rfl; have X3_f0 := X3.out.frozen 0
  have X3_c1 := X3.out.at (i := 1) rfl; have X3_f1 := X3.out.frozen 1
  have X3_c2 := X3.out.at (i := 2) rfl; have X3_f2 := X3.out.frozen 2
  have X3_c3 := X3.out.at (i := 3) rfl; have X3_f3 := X3.out.frozen 3
  have X3_c4 := X3.out.at (i := 4) rfl; have X3_f4 := X3.out.frozen 4
  go_wp2_with fail
  refine (eqRiderS_self A B c d t.rs _ (H.out.below BW.out) (H'.out.below BW.out) hl).mono ?_
  rintro e w2 ⟨rfl, b⟩
  replace BW := hide (bthen BW.out b)
  clear b
  go_wp2_with fail
  go_ret
  exact ⟨rfl, BW.out⟩
def mkT (t : Tp) (k : Int) : Tp := ⟨t.n, t.room, t.f, t.d, mkR t.rs k t.rs.length⟩
theorem markTrip_any (A : Option Addr) (c lo hi : Nat) (t : Tp) (k : Int) (w : World) (h : RW lo hi w A t.rs) (hl : t.rs.length ≤ 1048576) (k0 : 0 ≤ k) (k1 : k ≤ 1000000) (hh : hi ≤ w.heap.size) :
    Calls Try.prog 27 #[.agg #[.int .i64 t.n, .int .i64 t.room, .int .i64 t.f, .int .i64 t.d, .slice A t.rs.length c], .int .i64 k] w fun e w' => e = .returned (.int .i64 (k + 3 * t.rs.length)) ∧ RW lo hi w' A (mkR t.rs k t.rs.length) ∧ Only lo hi w w' := by
  have H := hide h; clear h
  go_enter Try.func27, Try.ntmps27
  go_wp2_with fail
  refine calls_name fun W hW => ?_
  have b : Below w.heap.size w W := by rw [hW]; exact (Below.refl _ _).alloc (Nat.le_refl _) _
  replace H := hide (H.out.below b)
  have z := b.size
  have O : Hid (Only lo hi w W) := Only.of b
  clear hW b
  refine (markRiderS_any A c lo hi t.rs k _ H.out hl k0 (by omega) (by omega)).mono ?_
  rintro e w1 ⟨rfl, R, o⟩
  have R := hide R
  replace O := hide (O.out.trans o)
  clear o
  go_wp2_with fail
  go_ret
  exact ⟨rfl, R.out, O.out⟩
theorem heldTrip_any (A : Option Addr) (c : Nat) (t : Tp) (k : Int) (w : World) (h : Rds w A (mkR t.rs k t.rs.length)) (hl : t.rs.length ≤ 1048576) (k0 : 0 ≤ k) (k1 : k ≤ 1000000) :
    Calls Try.prog 28 #[.agg #[.int .i64 t.n, .int .i64 t.room, .int .i64 t.f, .int .i64 t.d, .slice A t.rs.length c], .int .i64 k] w fun e w' => e = .returned (.int .i64 (k + 3 * t.rs.length)) ∧ Below w.heap.size w w' := by
  have H := hide h; clear h
  go_enter Try.func28, Try.ntmps28
  go_wp2_with fail
  refine calls_name fun W hW => ?_
  have BW : Hid (Below w.heap.size w W) := by rw [hW]; exact (Below.refl _ _).alloc (Nat.le_refl _) _
  replace H := hide (H.out.below BW.out)
  clear hW
  refine (heldRiderS_any A c t.rs k _ H.out hl k0 (by omega)).mono ?_
  rintro e w1 ⟨rfl, dr⟩
  have b := dr.below
  replace BW := hide (bthen BW.out b)
  clear b
  clear dr
  go_wp2_with fail
  go_ret
  exact ⟨rfl, BW.out⟩
theorem inState_any (A : Option Addr) (c : Nat) (t : Tp) (s : Int) (w : World) (h : Rds w A t.rs) (hl : (t.rs.length : Int) ≤ 1000000000) :
    Calls Try.prog 21 #[.agg #[.int .i64 t.n, .int .i64 t.room, .int .i64 t.f, .int .i64 t.d, .slice A t.rs.length c], .int .i64 s] w fun e w' => e = .returned (.int .i64 (inN s t.rs)) ∧ Below w.heap.size w w' := by
  have H := hide h; clear h
  go_enter Try.func21, Try.ntmps21
  go_wp2_with fail
  refine code_name fun W hW => ?_
  have X1 := hide (Box.new' (g := w.heap.size) hW rfl)
  have BW : Hid (Below w.heap.size w W) := by rw [hW]; exact (Below.refl _ _).alloc (Nat.le_refl _) _
  replace H := hide (H.out.below BW.out)
  clear hW
  have X1_lt := X1.out.lt
  have X1_c0 := X1.out.at (i := 0) rfl; have X1_f0 := X1.out.frozen 0
  have X1_c1 := X1.out.at (i := 1) rfl; have X1_f1 := X1.out.frozen 1
  have X1_c2 := X1.out.at (i := 2) rfl; have X1_f2 := X1.out.frozen 2
  have X1_c3 := X1.out.at (i := 3) rfl; have X1_f3 := X1.out.frozen 3
  have X1_c4 := X1.out.at (i := 4) rfl; have X1_f4 := X1.out.frozen 4
  go_loop [5, 6] (fun n i => ∃ k : Nat, k ≤ t.rs.length ∧ i = .int .i64 k ∧ n = .int .i64 (inN s (t.rs.take k))) (fun _ i => t.rs.length - (intOf i).toNat)
  case atStart => exact ⟨0, by omega, rfl, rfl⟩
  case round =>
    obtain ⟨k, hk, rfl, rfl⟩ := hrel
    by_cases hlt : k < t.rs.length
    · obtain ⟨b, off, r, rfl, hb, hr, c0, c1, c2⟩ := H.out.at hlt
      have HS := hide (inN_snoc (s := s) hr.out)
      have hbd := inN_bd s (t.rs.take k)
      have hle : (t.rs.take k).length ≤ t.rs.length := List.length_take_le' _ _
      clear hr
      by_cases h1 : r.2.2 = s
      · have h1' : (r.2.2 == s) = true := by simpa using h1
        have HS2 := hide (show inN s (t.rs.take (k + 1)) = inN s (t.rs.take k) + 1 by rw [HS.out, if_pos h1])
        clear h1
        go_wp2_with fail
        go_round
        case rel => exact ⟨k + 1, by omega, by go_num, by rw [HS2.out]⟩
        case measure => simp [intOf]; omega
      · have h1' : (r.2.2 == s) = false := by simpa using h1
        have HS2 := hide (show inN s (t.rs.take (k + 1)) = inN s (t.rs.take k) by rw [HS.out, if_neg h1, Int.add_zero])
        clear h1
        go_wp2_with fail
        go_round
        case rel => exact ⟨k + 1, by omega, by go_num, by rw [HS2.out]⟩
        case measure => simp [intOf]; omega
    · have HE := hide (show inN s (t.rs.take k) = inN s t.rs by rw [List.take_of_length_le (by omega)])
      go_wp2_with fail
      go_ret
      exact ⟨ret_int HE.out, BW.out⟩
set_option maxHeartbeats 1000000 in
theorem sameTrip_self (A B : Option Addr) (c d : Nat) (t : Tp) (w : World) (h : Rds w A t.rs) (h' : Rds w B t.rs) (hl : t.rs.length ≤ 1048576) :
    Calls Try.prog 15 #[.agg #[.int .i64 t.n, .int .i64 t.room, .int .i64 t.f, .int .i64 t.d, .slice A t.rs.length c], .agg #[.int .i64 t.n, .int .i64 t.room, .int .i64 t.f, .int .i64 t.d, .slice B t.rs.length d]] w fun e w' => e = .returned (.bool true) ∧ Below w.heap.size w w' := by
  have H := hide h; have H' := hide h'; clear h h'
  have e1 : (t.n != t.n) = false := by simp
  have e2 : (t.room != t.room) = false := by simp
  have e3 : (t.f == t.f) = true := by simp
  have e4 : (t.d == t.d) = true := by simp
  have e5 : ((t.rs.length : Int) != (t.rs.length : Int)) = false := by simp
  go_enter Try.func15, Try.ntmps15
  go_wp2_with fail
  refine code_name fun W hW => ?_
  have X2 : Hid (Box W w.heap.size #[.int .i64 t.n, .int .i64 t.room, .int .i64 t.f, .int .i64 t.d, .slice A t.rs.length c]) := by rw [hW]; exact (Box.new rfl).alloc _
  have X3 : Hid (Box W (w.heap.size + 1) #[.int .i64 t.n, .int .i64 t.room, .int .i64 t.f, .int .i64 t.d, .slice B t.rs.length d]) := by rw [hW]; exact Box.new (by simp)
  have BW : Hid (Below w.heap.size w W) := by rw [hW]; exact ((Below.refl _ _).alloc (Nat.le_refl _) _).alloc (by simp) _
  clear hW
  replace H := hide (H.out.below BW.out); replace H' := hide (H'.out.below BW.out)
  go_loopw [5] (fun i wr => ∃ k : Nat, k ≤ t.rs.length ∧ i = .int .i64 k ∧ Hid (Dr W wr)) (fun i _ => t.rs.length - (intOf i).toNat)
  case atStart => exact ⟨0, by omega, rfl, Dr.refl _⟩
  case round =>
    obtain ⟨k, hk, rfl, hD⟩ := hrel
    have Y2 := hide (X2.out.dr hD.out); have Y3 := hide (X3.out.dr hD.out)
    have Y2_lt := Y2.out.lt
    have Y2_c0 := Y2.out.at (i := 0) rfl; have Y2_f0 := Y2.out.frozen 0
    have Y2_c1 := Y2.out.at (i := 1) rfl; have Y2_f1 := Y2.out.frozen 1
    have Y2_c2 := Y2.out.at (i := 2) rfl; have Y2_f2 := Y2.out.frozen 2
    have Y2_c3 := Y2.out.at (i := 3) rfl; have Y2_f3 := Y2.out.frozen 3
    have Y2_c4 := Y2.out.at (i := 4) rfl; have Y2_f4 := Y2.out.frozen 4
    have Y3_lt := Y3.out.lt
    have Y3_c0 := Y3.out.at (i := 0) rfl; have Y3_f0 := Y3.out.frozen 0
    have Y3_c1 := Y3.out.at (i := 1) rfl; have Y3_f1 := Y3.out.frozen 1
    have Y3_c2 := Y3.out.at (i := 2) rfl; have Y3_f2 := Y3.out.frozen 2
    have Y3_c3 := Y3.out.at (i := 3) rfl; have Y3_f3 := Y3.out.frozen 3
    have Y3_c4 := Y3.out.at (i := 4) rfl; have Y3_f4 := Y3.out.frozen 4
    by_cases hlt : k < t.rs.length
    · obtain ⟨b, off, r, rfl, hb, hr, c0, c1, c2⟩ := (show Rds wr A t.rs from Sl.dr H.out hD.out).at hlt
      obtain ⟨b', off', r', rfl, hb', hr', c0', c1', c2'⟩ := (show Rds wr B t.rs from Sl.dr H'.out hD.out).at hlt
      obtain rfl := at_oneR hr hr'
      clear hr hr'
      obtain ⟨r0, r1, r2⟩ := r'
      have q0 : (r0 == r0) = true := by simp
      have q1 : (r1 == r1) = true := by simp
      have q2 : (r2 == r2) = true := by simp
      have p0 : (0 : Int) ≤ (k : Int) := by omega
      have p1 : (k : Int) < (t.rs.length : Int) := by omega
      go_wp2
      go_quiet (fail)
      go_wp2
      go_roundw
      case rel => exact ⟨k + 1, by omega, by go_num, hD.out.more _⟩
      case measure => simp [intOf]; omega
    · go_wp2
      go_ret
      exact ⟨rfl, bthen BW.out hD.out.below⟩
def AnyB (w : World) (e : Ending) (w' : World) : Prop := ∃ b : Bool, e = .returned (.bool b) ∧ Below w.heap.size w w'
set_option maxHeartbeats 1000000 in
theorem sameTrip_nil (A B : Option Addr) (c d : Nat) (s t : Tp) (w : World) (h0 : s.rs = []) (_hl : (t.rs.length : Int) ≤ 1048576) :
    Calls Try.prog 15 #[.agg #[.int .i64 s.n, .int .i64 s.room, .int .i64 s.f, .int .i64 s.d, .slice A s.rs.length c], .agg #[.int .i64 t.n, .int .i64 t.room, .int .i64 t.f, .int .i64 t.d, .slice B t.rs.length d]] w (AnyB w) := by
  have B2 : Hid (∀ o o' : Obj, Below w.heap.size w ((w.alloc o).alloc o')) := fun o o' => ((Below.refl _ _).alloc (Nat.le_refl _) o).alloc (by simp) o'
  have hs0 : s.rs.length = 0 := by rw [h0]; rfl
  rw [hs0]
  clear hs0 h0
  by_cases e1 : s.n = t.n
  rotate_left
  · have e1' : (s.n != t.n) = true := by simpa using e1
    clear e1
    go_enter Try.func15, Try.ntmps15
    go_wp2_with fail
    go_ret
    exact ⟨_, rfl, B2.out _ _⟩
  have e1' : (s.n != t.n) = false := by simpa using e1
  clear e1
  by_cases e2 : s.room = t.room
  rotate_left
  · have e2' : (s.room != t.room) = true := by simpa using e2
    clear e2
    go_enter Try.func15, Try.ntmps15
    go_wp2_with fail
    go_ret
    exact ⟨_, rfl, B2.out _ _⟩
  have e2' : (s.room != t.room) = false := by simpa using e2
  clear e2
  have e3 : (s.f == t.f) = true ∧ (s.d == t.d) = true ∨ (s.f == t.f) = false ∨ ((s.f == t.f) = true ∧ (s.d == t.d) = false) := by
    cases s.f == t.f <;> cases s.d == t.d <;> simp
  rcases e3 with ⟨e3, e4⟩ | e3 | ⟨e3, e4⟩
  · by_cases e5 : t.rs.length = 0
    · rw [e5]
      clear e5
      go_enter Try.func15, Try.ntmps15
      go_wp2_with fail
      go_loop [5] (fun i => i = .int .i64 0) (fun _ => 0)
      case atStart => rfl
      case round =>
        subst hrel
        go_wp2_with fail
        go_ret
        exact ⟨_, rfl, B2.out _ _⟩
    · have e5' : ((0 : Int) != (t.rs.length : Int)) = true := by simp; omega
      clear e5
      go_enter Try.func15, Try.ntmps15
      go_wp2_with fail
      go_ret
      exact ⟨_, rfl, B2.out _ _⟩
  · go_enter Try.func15, Try.ntmps15
    go_wp2_with fail
    go_ret
    exact ⟨_, rfl, B2.out _ _⟩
  · go_enter Try.func15, Try.ntmps15
    go_wp2_with fail
    go_ret
    exact ⟨_, rfl, B2.out _ _⟩
end Go.Proofs.Ytbkjgiomamlajaa
