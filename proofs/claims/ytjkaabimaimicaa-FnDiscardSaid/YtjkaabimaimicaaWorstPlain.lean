/- The worst window of a rope: windows by their beginning and by their end (plain lists, no program). -/
import Derived.Test.YtjkaabimaimicaaRope
namespace Go.Proofs.Ytjkaabimaimicaa

def isum (xs : List Int) : Int := xs.foldr (· + ·) 0
theorem isum_nil : isum [] = 0 := rfl
theorem isum_cons (x : Int) (xs : List Int) : isum (x :: xs) = x + isum xs := rfl
theorem isum_append (xs ys : List Int) : isum (xs ++ ys) = isum xs + isum ys := by
  induction xs with
  | nil => simp [isum]
  | cons x xs ih => rw [List.cons_append, isum_cons, isum_cons, ih]; omega
theorem isum_nonneg {xs : List Int} (h : ∀ x ∈ xs, 0 ≤ x) : 0 ≤ isum xs := by
  induction xs with
  | nil => simp [isum]
  | cons x xs ih => rw [isum_cons]; have := h x (by simp); have := ih fun y hy => h y (by simp [hy]); omega
theorem isum_le {xs : List Int} {B : Int} (h : ∀ x ∈ xs, x ≤ B) : isum xs ≤ B * xs.length := by
  induction xs with
  | nil => simp [isum]
  | cons x xs ih =>
    rw [isum_cons, List.length_cons]; have := h x (by simp); have := ih fun y hy => h y (by simp [hy])
    have e : B * ((xs.length + 1 : Nat) : Int) = B * xs.length + B := by rw [Int.natCast_add, Int.mul_add]; simp
    omega
/-- The window of 4 that begins at k. -/
def winB (xs : List Int) (k : Nat) : Int := isum ((xs.drop k).take 4)
/-- The window of the last 4 of the first k. -/
def winE (xs : List Int) (k : Nat) : Int := isum ((xs.take k).drop (k - 4))
/-- The greatest of f 0 .. f (n - 1), and 0. -/
def maxTo (f : Nat → Int) : Nat → Int
  | 0 => 0
  | n + 1 => max (maxTo f n) (f n)
theorem maxTo_ge (f : Nat → Int) (n k : Nat) (h : k < n) : f k ≤ maxTo f n := by
  induction n with
  | zero => omega
  | succ n ih => simp only [maxTo]; by_cases e : k = n; subst e; omega; have := ih (by omega); omega
theorem maxTo_nonneg (f : Nat → Int) (n : Nat) : 0 ≤ maxTo f n := by
  induction n with
  | zero => simp [maxTo]
  | succ n ih => simp only [maxTo]; omega
theorem maxTo_le (f : Nat → Int) (n : Nat) (m : Int) (h0 : 0 ≤ m) (h : ∀ k, k < n → f k ≤ m) : maxTo f n ≤ m := by
  induction n with
  | zero => simpa [maxTo] using h0
  | succ n ih => simp only [maxTo]; have := ih fun k hk => h k (by omega); have := h n (by omega); omega
theorem maxTo_congr {f g : Nat → Int} {n : Nat} (h : ∀ k, k < n → f k = g k) : maxTo f n = maxTo g n := by
  induction n with
  | zero => rfl
  | succ n ih => simp only [maxTo]; rw [ih fun k hk => h k (by omega), h n (by omega)]
theorem ropeB_mem {xs : List Int} (h : ropeB xs = true) : ∀ x ∈ xs, 0 ≤ x ∧ x ≤ 9 := by
  unfold ropeB at h; rw [Bool.and_eq_true] at h
  intro x hx; exact (inB_iff _ _ _).1 (List.all_eq_true.1 h.2 x hx)
theorem ropeB_length {xs : List Int} (h : ropeB xs = true) : xs.length ≤ 24 := by
  unfold ropeB at h; rw [Bool.and_eq_true] at h; simpa using h.1
theorem ropeB_of {xs : List Int} (h : xs.length ≤ 24) (h2 : ∀ x ∈ xs, 0 ≤ x ∧ x ≤ 9) : ropeB xs = true := by
  unfold ropeB; rw [Bool.and_eq_true]; exact ⟨by simpa using h, List.all_eq_true.2 fun x hx => inB_t (h2 x hx)⟩
theorem winE_big (xs : List Int) (k : Nat) (h : 4 ≤ k) : winE xs k = winB xs (k - 4) := by
  unfold winE winB; rw [List.drop_take, show k - (k - 4) = 4 from by omega]
theorem winB_zero_ge {xs : List Int} (h : ∀ x ∈ xs, 0 ≤ x) (k : Nat) (hk : k ≤ 4) : winE xs k ≤ winB xs 0 := by
  unfold winE winB
  rw [show k - 4 = 0 from by omega, List.drop_zero, List.drop_zero]
  have e : xs.take 4 = xs.take k ++ (xs.take 4).drop k := by
    have := (List.take_append_drop k (xs.take 4)).symm
    rwa [List.take_take, show min k 4 = k from by omega] at this
  rw [e, isum_append]
  have := isum_nonneg (xs := (xs.take 4).drop k) fun x hx => h x (List.mem_of_mem_take (List.mem_of_mem_drop hx))
  omega
theorem winB_last {xs : List Int} (h : ∀ x ∈ xs, 0 ≤ x) (k : Nat) (hk : xs.length < k + 4) : winB xs k ≤ winE xs xs.length := by
  unfold winE winB
  rw [List.take_length, List.take_of_length_le (by simp; omega)]
  by_cases hk2 : k ≤ xs.length
  · have e : xs.drop (xs.length - 4) = (xs.drop (xs.length - 4)).take (k - (xs.length - 4)) ++ xs.drop k := by
      have := (List.take_append_drop (k - (xs.length - 4)) (xs.drop (xs.length - 4))).symm
      rwa [List.drop_drop, show xs.length - 4 + (k - (xs.length - 4)) = k from by omega] at this
    rw [e, isum_append]
    have := isum_nonneg (xs := (xs.drop (xs.length - 4)).take (k - (xs.length - 4))) fun x hx => h x (List.mem_of_mem_drop (List.mem_of_mem_take hx))
    omega
  · rw [List.drop_of_length_le (by omega), isum_nil]
    exact isum_nonneg fun x hx => h x (List.mem_of_mem_drop hx)
/-- WorstLay of a valid rope. -/
def worstV (xs : List Int) : Int := maxTo (winB xs) xs.length
/-- WorstLay. -/
def worstB (xs : List Int) : Int := if ropeB xs = true then worstV xs else -1
theorem worstV_eq {xs : List Int} (h : ∀ x ∈ xs, 0 ≤ x) : maxTo (fun k => winE xs (k + 1)) xs.length = worstV xs := by
  apply Int.le_antisymm
  · refine maxTo_le _ _ _ (maxTo_nonneg _ _) fun k hk => ?_
    by_cases h4 : 4 ≤ k + 1
    · show winE xs (k + 1) ≤ _
      rw [winE_big _ _ h4]; exact maxTo_ge _ _ _ (by omega)
    · exact Int.le_trans (winB_zero_ge h _ (by omega)) (maxTo_ge _ _ _ (by omega))
  · refine maxTo_le _ _ _ (maxTo_nonneg _ _) fun k hk => ?_
    by_cases h4 : k + 4 ≤ xs.length
    · have := maxTo_ge (fun k => winE xs (k + 1)) xs.length (k + 3) (by omega)
      have e := winE_big xs (k + 3 + 1) (by omega)
      rw [show k + 3 + 1 - 4 = k from by omega] at e
      rw [← e]; exact this
    · have := maxTo_ge (fun k => winE xs (k + 1)) xs.length (xs.length - 1) (by omega)
      simp only [show xs.length - 1 + 1 = xs.length from by omega] at this
      exact Int.le_trans (winB_last h k (by omega)) this
theorem winE_small {xs : List Int} {k : Nat} {x : Int} (hx : xs[k]? = some x) (hk : k < 4) : winE xs (k + 1) = winE xs k + x := by
  unfold winE
  rw [show k + 1 - 4 = 0 from by omega, show k - 4 = 0 from by omega, List.drop_zero, List.drop_zero, take_snoc' xs k x hx, isum_append, isum_cons, isum_nil]; omega
theorem winE_step {xs : List Int} {k : Nat} {x y : Int} (hx : xs[k]? = some x) (hk : 4 ≤ k) (hy : xs[k - 4]? = some y) : winE xs (k + 1) = winE xs k + x - y := by
  unfold winE
  have hkl := getElem?_lt hx
  have hl : (xs.take k).length = k := by simp; omega
  rw [take_snoc' xs k x hx, List.drop_append_of_le_length (by omega), isum_append, isum_cons, isum_nil]
  have e : (xs.take k).drop (k - 4) = y :: (xs.take k).drop (k + 1 - 4) := by
    have hlt : k - 4 < (xs.take k).length := by omega
    rw [List.drop_eq_getElem_cons hlt]
    congr 1
    · rw [List.getElem_take]
      have := List.getElem?_eq_getElem (l := xs) (i := k - 4) (by omega)
      rw [hy] at this; injection this with this; exact this.symm
    · congr 1; omega
  rw [e, isum_cons]; omega
theorem win_bd {xs : List Int} (h : ∀ x ∈ xs, 0 ≤ x ∧ x ≤ 9) {ys : List Int} (hy : ∀ y ∈ ys, y ∈ xs) (hl : ys.length ≤ 4) : 0 ≤ isum ys ∧ isum ys ≤ 36 := by
  have h1 := isum_nonneg fun y hyy => (h y (hy y hyy)).1
  have h2 := isum_le (B := 9) fun y hyy => (h y (hy y hyy)).2
  exact ⟨h1, by omega⟩
theorem winE_bd {xs : List Int} (h : ∀ x ∈ xs, 0 ≤ x ∧ x ≤ 9) (k : Nat) : 0 ≤ winE xs k ∧ winE xs k ≤ 36 :=
  win_bd h (fun y hy => List.mem_of_mem_take (List.mem_of_mem_drop hy)) (by simp; omega)
theorem winB_bd {xs : List Int} (h : ∀ x ∈ xs, 0 ≤ x ∧ x ≤ 9) (k : Nat) : 0 ≤ winB xs k ∧ winB xs k ≤ 36 :=
  win_bd h (fun y hy => List.mem_of_mem_drop (List.mem_of_mem_take hy)) (by simp; omega)
theorem winP_bd {xs : List Int} (h : ∀ x ∈ xs, 0 ≤ x ∧ x ≤ 9) (k d : Nat) (hd : d ≤ 4) : 0 ≤ isum ((xs.drop k).take d) ∧ isum ((xs.drop k).take d) ≤ 36 :=
  win_bd h (fun y hy => List.mem_of_mem_drop (List.mem_of_mem_take hy)) (by simp; omega)
theorem maxTo_bd {f : Nat → Int} {n : Nat} (h : ∀ k, f k ≤ 36) : 0 ≤ maxTo f n ∧ maxTo f n ≤ 36 := ⟨maxTo_nonneg _ _, maxTo_le _ _ _ (by omega) fun k _ => h k⟩
theorem winP_step {xs : List Int} {k d : Nat} {x : Int} (hx : xs[k + d]? = some x) : isum ((xs.drop k).take (d + 1)) = isum ((xs.drop k).take d) + x := by
  rw [take_snoc' (xs.drop k) d x (by rw [List.getElem?_drop]; exact hx), isum_append, isum_cons, isum_nil]; omega
theorem winP_full {xs : List Int} {k d : Nat} (h : d = 4 ∨ (d ≤ 4 ∧ xs.length ≤ k + d)) : isum ((xs.drop k).take d) = winB xs k := by
  unfold winB
  rcases h with rfl | ⟨h, h2⟩
  · rfl
  · rw [List.take_of_length_le (by simp; omega), List.take_of_length_le (by simp; omega)]
theorem worstB_yes {xs : List Int} (h : ropeB xs = true) : worstB xs = worstV xs := by unfold worstB; rw [if_pos h]
theorem worstB_no {xs : List Int} (h : ropeB xs = false) : worstB xs = -1 := by unfold worstB; rw [if_neg (by simp [h])]
/-- Discard. -/
def discardB (xs : List Int) (m : Int) : Bool := ropeB xs && decide (m < worstB xs)
end Go.Proofs.Ytjkaabimaimicaa
