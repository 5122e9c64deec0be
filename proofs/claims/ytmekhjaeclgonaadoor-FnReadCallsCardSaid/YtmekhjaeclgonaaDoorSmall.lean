import Derived.Test.YtmekhjaeclgonaaDoorProg
import Derived.Test.YtmekhjaeclgonaaDoorBase
namespace Go.Proofs.YtmekhjaeclgonaaDoor
open Go.RowKit

def inB (n lo hi : Int) : Bool := decide (lo ≤ n ∧ n ≤ hi)
theorem inB_iff (n lo hi : Int) : inB n lo hi = true ↔ lo ≤ n ∧ n ≤ hi := by unfold inB; simp
theorem inB_f (n lo hi : Int) : inB n lo hi = false ↔ n < lo ∨ hi < n := by unfold inB; simp; omega
theorem inB_t {n lo hi : Int} (h : lo ≤ n ∧ n ≤ hi) : inB n lo hi = true := (inB_iff _ _ _).2 h
theorem inB_n {n lo hi : Int} (h : n < lo ∨ hi < n) : inB n lo hi = false := (inB_f _ _ _).2 h

theorem l1In_any (n lo hi : Int) (w : World) :
    Calls Tryd.prog 37 #[.int .i64 n, .int .i64 lo, .int .i64 hi] w fun e w' => e = .returned (.bool (inB n lo hi)) ∧ w = w' := by
  go_enter Tryd.func37, Tryd.ntmps37
  go_wp2
  all_goals (go_ret; exact ⟨ret_bool (by unfold inB; rw [Bool.eq_iff_iff]; simp; omega), rfl⟩)
end Go.Proofs.YtmekhjaeclgonaaDoor
