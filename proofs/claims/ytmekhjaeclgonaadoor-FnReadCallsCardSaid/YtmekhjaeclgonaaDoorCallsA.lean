/- Calls: contracts of the small functions. -/
import Derived.Test.YtmekhjaeclgonaaDoorMem
import Derived.Test.YtmekhjaeclgonaaDoorSmall
namespace Go.Proofs.YtmekhjaeclgonaaDoor
open Go.RowKit

theorem callsB_not {C : Cl} (h : ¬ (1 ≤ C.up.length ∧ C.up.length ≤ 8 ∧ C.dn.length = C.up.length ∧ C.car.length = C.up.length)) : callsB C = false := by
  rw [callsB_f]; rintro ⟨h1, h2, h3, h4, -⟩; omega
theorem callsB_yes {C : Cl} {x y : Bool} (h : 1 ≤ C.up.length ∧ C.up.length ≤ 8 ∧ C.dn.length = C.up.length ∧ C.car.length = C.up.length) (hx : C.up[C.up.length - 1]? = some x) (hy : C.dn[0]? = some y) : callsB C = (!x && !y) := by
  obtain ⟨h1, h2, h3, h4⟩ := h
  rw [Bool.eq_iff_iff, callsB_iff]
  unfold callsP
  rw [show C.car.length - 1 = C.up.length - 1 from by omega, hx, hy]
  cases x <;> cases y <;> simp <;> omega

set_option maxHeartbeats 1000000 in
theorem implCallsValid (A0 A1 A2 : Option Addr) (c0 c1 c2 : Nat) (C : Cl) (w : World) (h : CR w A0 A1 A2 C) :
    Calls Tryd.prog 11 #[.agg #[.slice A0 C.up.length c0, .slice A1 C.dn.length c1, .slice A2 C.car.length c2]] w fun e w' => e = .returned (.bool (callsB C)) ∧ Below w.heap.size w w' := by
  have H := hide h; clear h
  by_cases h1 : C.up.length < 1
  · have HN := hide (callsB_not (C := C) (by omega))
    go_enter Tryd.func11, Tryd.ntmps11
    go_wp2
    go_ret
    exact ⟨ret_bool HN.out.symm, (Below.refl _ _).alloc (Nat.le_refl _) _⟩
  have h1 : 1 ≤ C.up.length := by omega
  by_cases h2 : 8 < C.up.length
  · have HN := hide (callsB_not (C := C) (by omega))
    go_enter Tryd.func11, Tryd.ntmps11
    go_wp2
    go_ret
    exact ⟨ret_bool HN.out.symm, (Below.refl _ _).alloc (Nat.le_refl _) _⟩
  have h2 : C.up.length ≤ 8 := by omega
  by_cases h3 : C.dn.length = C.up.length
  rotate_left
  · have HN := hide (callsB_not (C := C) (by omega))
    have h3' : ((C.dn.length : Int) != (C.up.length : Int)) = true := by simp; omega
    clear h3
    go_enter Tryd.func11, Tryd.ntmps11
    go_wp2
    go_ret
    exact ⟨ret_bool HN.out.symm, (Below.refl _ _).alloc (Nat.le_refl _) _⟩
  by_cases h4 : C.car.length = C.up.length
  rotate_left
  · have HN := hide (callsB_not (C := C) (by omega))
    have h3' : ((C.dn.length : Int) != (C.up.length : Int)) = false := by simp; omega
    have h4' : ((C.car.length : Int) != (C.up.length : Int)) = true := by simp; omega
    clear h3 h4
    go_enter Tryd.func11, Tryd.ntmps11
    go_wp2
    go_ret
    exact ⟨ret_bool HN.out.symm, (Below.refl _ _).alloc (Nat.le_refl _) _⟩
  obtain ⟨b0, o0, x, rfl, l0, hx, c0'⟩ := H.out.up.at (k := C.up.length - 1) (by omega)
  obtain ⟨b1, o1, y, rfl, l1, hy, c1'⟩ := H.out.dn.at (k := 0) (by omega)
  simp only [Nat.add_zero] at c1'
  have HY := hide (callsB_yes ⟨h1, h2, h3, h4⟩ hx hy)
  have h3' : ((C.dn.length : Int) != (C.up.length : Int)) = false := by simp; omega
  have h4' : ((C.car.length : Int) != (C.up.length : Int)) = false := by simp; omega
  have h5 : 1 ≤ C.dn.length := by omega
  clear h3 h4
  cases x <;> cases y
  all_goals
    go_enter Tryd.func11, Tryd.ntmps11
    go_wp2
    go_ret
    exact ⟨ret_bool (by rw [HY.out]; rfl), (Below.refl _ _).alloc (Nat.le_refl _) _⟩
set_option maxHeartbeats 1000000 in
theorem specCallsValid (A0 A1 A2 : Option Addr) (c0 c1 c2 : Nat) (C : Cl) (w : World) (h : CR w A0 A1 A2 C) :
    Calls Tryd.prog 25 #[.agg #[.slice A0 C.up.length c0, .slice A1 C.dn.length c1, .slice A2 C.car.length c2]] w fun e w' => e = .returned (.bool (callsB C)) ∧ Below w.heap.size w w' := by
  have H := hide h; clear h
  by_cases h1 : 1 ≤ C.car.length ∧ C.car.length ≤ 8
  rotate_left
  · have HN := hide (callsB_not (C := C) (by omega))
    have hb : inB (C.car.length : Int) 1 8 = false := inB_n (by omega)
    go_enter Tryd.func25, Tryd.ntmps25
    go_wp2_with (go_at_call 37; refine (l1In_any _ _ _ _).mono ?_; rintro e w' ⟨rfl, rfl⟩)
    go_ret
    exact ⟨ret_bool HN.out.symm, (Below.refl _ _).alloc (Nat.le_refl _) _⟩
  have hb : inB (C.car.length : Int) 1 8 = true := inB_t (by omega)
  obtain ⟨h1, h2⟩ := h1
  by_cases h3 : C.up.length = C.car.length
  rotate_left
  · have HN := hide (callsB_not (C := C) (by omega))
    have h3' : ((C.up.length : Int) == (C.car.length : Int)) = false := by simp; omega
    clear h3
    go_enter Tryd.func25, Tryd.ntmps25
    go_wp2_with (go_at_call 37; refine (l1In_any _ _ _ _).mono ?_; rintro e w' ⟨rfl, rfl⟩)
    go_ret
    exact ⟨ret_bool HN.out.symm, (Below.refl _ _).alloc (Nat.le_refl _) _⟩
  by_cases h4 : C.dn.length = C.car.length
  rotate_left
  · have HN := hide (callsB_not (C := C) (by omega))
    have h3' : ((C.up.length : Int) == (C.car.length : Int)) = true := by simp; omega
    have h4' : ((C.dn.length : Int) == (C.car.length : Int)) = false := by simp; omega
    clear h3 h4
    go_enter Tryd.func25, Tryd.ntmps25
    go_wp2_with (go_at_call 37; refine (l1In_any _ _ _ _).mono ?_; rintro e w' ⟨rfl, rfl⟩)
    go_ret
    exact ⟨ret_bool HN.out.symm, (Below.refl _ _).alloc (Nat.le_refl _) _⟩
  obtain ⟨b0, o0, x, rfl, l0, hx, c0'⟩ := H.out.up.at (k := C.up.length - 1) (by omega)
  obtain ⟨b1, o1, y, rfl, l1, hy, c1'⟩ := H.out.dn.at (k := 0) (by omega)
  simp only [Nat.add_zero] at c1'
  rw [h3] at c0'
  have HY := hide (callsB_yes ⟨by omega, by omega, by omega, by omega⟩ hx hy)
  have h3' : ((C.up.length : Int) == (C.car.length : Int)) = true := by simp; omega
  have h4' : ((C.dn.length : Int) == (C.car.length : Int)) = true := by simp; omega
  have h5 : 1 ≤ C.dn.length := by omega
  have h6 : C.car.length - 1 < C.up.length := by omega
  have h7 : (C.car.length : Int) - 1 < (C.up.length : Int) := by omega
  clear h3 h4
  cases x <;> cases y
  all_goals
    go_enter Tryd.func25, Tryd.ntmps25
    go_wp2_with (go_at_call 37; refine (l1In_any _ _ _ _).mono ?_; rintro e w' ⟨rfl, rfl⟩)
    go_ret
    exact ⟨ret_bool (by rw [HY.out]; rfl), (Below.refl _ _).alloc (Nat.le_refl _) _⟩
end Go.Proofs.YtmekhjaeclgonaaDoor
