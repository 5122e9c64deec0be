/- Stops: the laws' copies and comparisons. -/
import Derived.Test.YtbkjgiomamlajaaBox
import Derived.Test.YtbkjgiomamlajaaCallsD
import Derived.Deep.CutRange
namespace Go.Proofs.Ytbkjgiomamlajaa
open Go.RowKit

theorem toStop_any (f d : Int) (w : World) :
    Calls Try.prog 58 #[.agg #[.int .i64 f, .int .i64 d]] w fun e w' => e = .returned (.agg #[.int .i64 f, .int .i64 d]) ∧ Below w.heap.size w w' := by
  go_enter Try.func58, Try.ntmps58
  go_upto_region 1 with fail
  refine code_name fun W hW => ?_
  have X1 : Hid (Box W w.heap.size #[.int .i64 f, .int .i64 d]) := by rw [hW]; exact (Box.new rfl).alloc _
  have X2 : Hid (Box W (w.heap.size + 1) #[.int .i64 0, .int .i64 0]) := by rw [hW]; exact Box.new (by simp)
  have BW : Hid (Below w.heap.size w W) := by rw [hW]; exact ((Below.refl _ _).alloc (Nat.le_refl _) _).alloc (by simp) _
  have z0 : W.heap.size = w.heap.size + 1 + 1 := by rw [hW]; simp
  clear hW
  go_upto_region 2 with fail
  refine code_name fun W2 hW => ?_
  have X3 : Hid (Box W2 W.heap.size #[.int .i64 0, .int .i64 0]) := by rw [hW]; exact Box.new rfl
  have b : Below W.heap.size W W2 := by rw [hW]; exact (Below.refl _ _).alloc (Nat.le_refl _) _
  have Z0 := hide z0
  clear z0 hW
  replace X1 := hide (X1.out.below b)
  replace X2 := hide (X2.out.below b)
  replace BW := hide (bthen BW.out b)
  clear b
  rw [Z0.out] at X3
  have X1_lt := X1.out.lt
  have X1_c0 := X1.out.at (i := 0) rfl; have X1_f0 := X1.out.frozen 0
  have X1_c1 := X1.out.at (i := 1) rfl; have X1_f1 := X1.out.frozen 1
  have X2_lt := X2.out.lt
  have X2_c0 := X2.out.at (i := 0) rfl; have X2_f0 := X2.out.frozen 0
  have X2_c1 := X2.out.at (i := 1) rfl; have X2_f1 := X2.out.frozen 1
  have X3_lt := X3.out.lt
  have X3_c0 := X3.out.at (i := 0) rfl; have X3_f0 := X3.out.frozen 0
  have X3_c1 := X3.out.at (i := 1) rfl; have X3_f1 := X3.out.frozen 1
  go_wp2_with fail
  refine bodyPost_ret (by simp [results, Try.results58, go_sem, X2_c0, X2_c1]; rfl) rfl ?_
  exact ⟨rfl, (((BW.out.setCell (by simp; omega) _).setCell (by simp; omega) _).setCell (by simp) _).setCell (by simp) _⟩
theorem eqStop_self (f d : Int) (w : World) :
    Calls Try.prog 60 #[.agg #[.int .i64 f, .int .i64 d], .agg #[.int .i64 f, .int .i64 d]] w fun e w' => e = .returned (.bool true) ∧ Below w.heap.size w w' := by
  have e1 : (f != f) = false := by simp
  have e2 : (d != d) = false := by simp
  go_enter Try.func60, Try.ntmps60
  go_wp2_with fail
  go_ret
  exact ⟨rfl, ((Below.refl _ _).alloc (Nat.le_refl _) _).alloc (by simp) _⟩
end Go.Proofs.Ytbkjgiomamlajaa
