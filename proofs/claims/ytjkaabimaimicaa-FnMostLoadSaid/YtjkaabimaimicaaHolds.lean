import Derived.Test.YtjkaabimaimicaaSmall
namespace Go.Proofs.Ytjkaabimaimicaa
open Go.RowKit

def holdsV (a b c d : Int) : Prop := 1 ≤ a ∧ a ≤ 200 ∧ 1 ≤ b ∧ b ≤ 200 ∧ 1 ≤ c ∧ c ≤ 200 ∧ 1 ≤ d ∧ d ≤ 200 ∧ d ≤ c
instance (a b c d : Int) : Decidable (holdsV a b c d) := by unfold holdsV; infer_instance
def holdsB (a b c d : Int) : Bool := decide (holdsV a b c d ∧ max a b * d ≤ c * min a b)
theorem prod_bd (a b : Int) (h1 : 1 ≤ a) (h2 : a ≤ 200) (h3 : 1 ≤ b) (h4 : b ≤ 200) : 0 ≤ a * b ∧ a * b ≤ 40000 := by
  constructor
  · exact Int.mul_nonneg (by omega) (by omega)
  · have : a * b ≤ 200 * 200 := Int.mul_le_mul h2 h4 (by omega) (by omega)
    omega
theorem holdsB_no {a b c d : Int} (h : ¬ holdsV a b c d) : holdsB a b c d = false := by unfold holdsB; simp [h]
theorem holdsB_yes {a b c d : Int} (h : holdsV a b c d) (x y : Int) (hx : x = max a b * d) (hy : y = c * min a b) : decide (wrap64 x ≤ wrap64 y) = holdsB a b c d ∧ decide (x ≤ wrap64 y) = holdsB a b c d ∧ decide (wrap64 x ≤ y) = holdsB a b c d ∧ decide (x ≤ y) = holdsB a b c d := by
  have h' := h
  obtain ⟨h1, h2, h3, h4, h5, h6, h7, h8, h9⟩ := h'
  have p1 := prod_bd (max a b) d (by omega) (by omega) h7 h8
  have p2 := prod_bd c (min a b) h5 h6 (by omega) (by omega)
  rw [← hx] at p1
  rw [← hy] at p2
  rw [IntWalk.wrap64_in x (by omega), IntWalk.wrap64_in y (by omega)]
  have : holdsB a b c d = decide (x ≤ y) := by unfold holdsB; rw [hx, hy]; simp [h]
  simp [this]
theorem max_mul (a b d x : Int) (h : (x = a ∧ b ≤ a) ∨ (x = b ∧ a ≤ b)) : x * d = max a b * d := by
  have : x = max a b := by omega
  rw [this]
theorem mul_min (a b c x : Int) (h : (x = a ∧ a ≤ b) ∨ (x = b ∧ b ≤ a)) : x * c = c * min a b := by
  have : x = min a b := by omega
  rw [this, Int.mul_comm]
theorem mul_min' (a b c x : Int) (h : (x = a ∧ a ≤ b) ∨ (x = b ∧ b ≤ a)) : c * x = c * min a b := by
  have : x = min a b := by omega
  rw [this]

theorem specHolds (a b c d : Int) (w : World) :
    Calls Try.prog 15 #[.int .i64 a, .int .i64 b, .int .i64 c, .int .i64 d] w fun e w' => e = .returned (.bool (holdsB a b c d)) ∧ w = w' := by
  by_cases hv : holdsV a b c d
  · have HV := hide hv
    obtain ⟨h1, h2, h3, h4, h5, h6, h7, h8, h9⟩ := hv
    go_enter Try.func15, Try.ntmps15
    go_wp2
    all_goals (go_ret; refine ⟨ret_bool ?_, rfl⟩; first | exact (holdsB_yes HV.out _ _ (max_mul a b d _ (by omega)) (mul_min a b c _ (by omega))).1 | exact (holdsB_yes HV.out _ _ (max_mul a b d _ (by omega)) (mul_min a b c _ (by omega))).2.1 | exact (holdsB_yes HV.out _ _ (max_mul a b d _ (by omega)) (mul_min a b c _ (by omega))).2.2.1 | exact (holdsB_yes HV.out _ _ (max_mul a b d _ (by omega)) (mul_min a b c _ (by omega))).2.2.2)
  · have HV := hide hv
    unfold holdsV at hv
    go_enter Try.func15, Try.ntmps15
    go_wp2
    all_goals (go_ret; first | exact ⟨ret_bool (holdsB_no HV.out).symm, rfl⟩ | (exfalso; simp only [Bool.not_eq_false', decide_eq_true_eq] at *; omega))
theorem implHolds (a b c d : Int) (w : World) :
    Calls Try.prog 16 #[.int .i64 a, .int .i64 b, .int .i64 c, .int .i64 d] w fun e w' => e = .returned (.bool (holdsB a b c d)) ∧ w = w' := by
  by_cases hv : holdsV a b c d
  · have HV := hide hv
    obtain ⟨h1, h2, h3, h4, h5, h6, h7, h8, h9⟩ := hv
    go_enter Try.func16, Try.ntmps16
    go_wp2
    all_goals (go_ret; refine ⟨ret_bool ?_, rfl⟩; first | exact (holdsB_yes HV.out _ _ (max_mul a b d _ (by omega)) (mul_min' a b c _ (by omega))).1 | exact (holdsB_yes HV.out _ _ (max_mul a b d _ (by omega)) (mul_min' a b c _ (by omega))).2.1 | exact (holdsB_yes HV.out _ _ (max_mul a b d _ (by omega)) (mul_min' a b c _ (by omega))).2.2.1 | exact (holdsB_yes HV.out _ _ (max_mul a b d _ (by omega)) (mul_min' a b c _ (by omega))).2.2.2)
  · have HV := hide hv
    unfold holdsV at hv
    go_enter Try.func16, Try.ntmps16
    go_wp2
    all_goals (go_ret; first | exact ⟨ret_bool (holdsB_no HV.out).symm, rfl⟩ | (exfalso; simp only [Bool.not_eq_false', decide_eq_true_eq] at *; omega))
end Go.Proofs.Ytjkaabimaimicaa
