/- Stops: the program's small functions, NextStop. -/
import Derived.Test.YtbkjgiomamlajaaCallsF
import Derived.Test.YtbkjgiomamlajaaFloors
import Derived.Deep.CutRange
namespace Go.Proofs.Ytbkjgiomamlajaa
open Go.RowKit

def stv (f d : Int) : Value := .agg #[.int .i64 f, .int .i64 d]
theorem stopOk_in {n f d : Int} (h : inB f 0 (n - 1) = true) (hd : d = 1 ∨ d = -1) : stopOkB n f d = true := stopOkB_iff.2 ⟨by have := (inB_iff _ _ _).1 h; omega, hd⟩
theorem stopOk_out {n f d : Int} (h : inB f 0 (n - 1) = false) : stopOkB n f d = false := by
  unfold stopOkB; simp only [decide_eq_false_iff_not]
  rintro ⟨h1, -⟩
  have : inB f 0 (n - 1) = true := inB_t (by omega)
  rw [this] at h; cases h
theorem stopOk_dir {n f d : Int} (h1 : ¬ d = 1) (h2 : ¬ d = -1) : stopOkB n f d = false := by
  unfold stopOkB; simp only [decide_eq_false_iff_not]
  rintro ⟨-, h | h⟩ <;> contradiction
theorem stopValid_any (f d n : Int) (w : World) :
    Calls Try.prog 52 #[.agg #[.int .i64 f, .int .i64 d], .int .i64 n] w fun e w' => e = .returned (.bool (stopOkB n f d)) ∧ Below w.heap.size w w' := by
  have B : Hid (∀ o : Obj, Below w.heap.size w (w.alloc o)) := fun o => (Below.refl _ _).alloc (Nat.le_refl _) o
  cases hi : inB f 0 (n - 1)
  · have HE := hide (stopOk_out (d := d) hi)
    go_enter Try.func52, Try.ntmps52
    go_wp2_with (go_at_call 76; refine (isFloor_any _ _ _).mono ?_; rintro e w' ⟨rfl, rfl⟩)
    go_ret
    exact ⟨ret_bool HE.out.symm, B.out _⟩
  · by_cases h1 : d = 1
    · have HE := hide (stopOk_in hi (.inl h1))
      subst h1
      go_enter Try.func52, Try.ntmps52
      go_wp2_with (go_at_call 76; refine (isFloor_any _ _ _).mono ?_; rintro e w' ⟨rfl, rfl⟩)
      go_ret
      exact ⟨ret_bool HE.out.symm, B.out _⟩
    · have h1' : (d == 1) = false := by simpa using h1
      by_cases h2 : d = -1
      · have HE := hide (stopOk_in hi (.inr h2))
        subst h2
        clear h1
        go_enter Try.func52, Try.ntmps52
        go_wp2_with (go_at_call 76; refine (isFloor_any _ _ _).mono ?_; rintro e w' ⟨rfl, rfl⟩)
        go_ret
        exact ⟨ret_bool HE.out.symm, B.out _⟩
      · have HE := hide (stopOk_dir (n := n) (f := f) h1 h2)
        have h2' : (d == -1) = false := by simpa using h2
        clear h1 h2
        go_enter Try.func52, Try.ntmps52
        go_wp2_with (go_at_call 76; refine (isFloor_any _ _ _).mono ?_; rintro e w' ⟨rfl, rfl⟩)
        go_ret
        exact ⟨ret_bool HE.out.symm, B.out _⟩
theorem noStop_any (w : World) : Calls Try.prog 74 #[] w fun e w' => e = .returned (.agg #[.int .i64 (-1), .int .i64 0]) ∧ Below w.heap.size w w' := by
  go_enter Try.func74, Try.ntmps74
  go_wp2_with fail
  refine bodyPost_ret (by simp [results, Try.results74, go_sem]; rfl) rfl ?_
  exact ⟨rfl, (Below.refl _ _).alloc (Nat.le_refl _) _⟩
theorem callToGo_any (A0 A1 A2 : Option Addr) (c0 c1 c2 : Nat) (C : Cl) (k : Nat) (d : Int) (w : World) (h : CR w A0 A1 A2 C) (h1 : k < C.up.length) (h2 : k < C.dn.length) :
    Calls Try.prog 82 #[.agg #[.slice A0 C.up.length c0, .slice A1 C.dn.length c1, .slice A2 C.car.length c2], .int .i64 k, .int .i64 d] w fun e w' => e = .returned (.bool (goB C d k)) ∧ Below w.heap.size w w' := by
  obtain ⟨b0, o0, x, rfl, l0, hx, cx⟩ := h.up.at h1
  obtain ⟨b1, o1, y, rfl, l1, hy, cy⟩ := h.dn.at h2
  have HB : Hid (∀ o : Obj, Below w.heap.size w (w.alloc o)) := fun o => (Below.refl _ _).alloc (Nat.le_refl _) o
  have n0 : ¬ b0 = w.heap.size := by omega
  have n1 : ¬ b1 = w.heap.size := by omega
  clear h
  by_cases hd : 0 < d
  · have HE : Hid (goB C d k = x) := by unfold Hid goB; rw [if_pos hd]; exact bat_at hx.out
    go_enter Try.func82, Try.ntmps82
    go_wp2_with fail
    go_ret
    exact ⟨ret_bool HE.out.symm, HB.out _⟩
  · have HE : Hid (goB C d k = y) := by unfold Hid goB; rw [if_neg hd]; exact bat_at hy.out
    go_enter Try.func82, Try.ntmps82
    go_wp2_with fail
    go_ret
    exact ⟨ret_bool HE.out.symm, HB.out _⟩
end Go.Proofs.Ytbkjgiomamlajaa
