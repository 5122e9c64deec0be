/- More on the worst window: turned round, a beginning, one more broken wire (plain lists). -/
import Derived.Test.YtjkaabimaimicaaWorstPlain
namespace Go.Proofs.Ytjkaabimaimicaa

theorem isum_reverse (xs : List Int) : isum xs.reverse = isum xs := by
  induction xs with
  | nil => rfl
  | cons x xs ih => rw [List.reverse_cons, isum_append, isum_cons, isum_nil, isum_cons, ih]; omega
theorem winB_reverse (xs : List Int) (k : Nat) (hk : k ≤ xs.length) : winB xs.reverse k = winE xs (xs.length - k) := by
  unfold winB winE
  rw [List.drop_reverse, List.take_reverse, isum_reverse]
  congr 1
  rw [List.length_take, show min (xs.length - k) xs.length = xs.length - k from by omega]
theorem worstV_reverse {xs : List Int} (h : ∀ x ∈ xs, 0 ≤ x) : worstV xs.reverse = worstV xs := by
  rw [← worstV_eq h]
  unfold worstV
  rw [List.length_reverse]
  apply Int.le_antisymm
  · refine maxTo_le _ _ _ (maxTo_nonneg _ _) fun k hk => ?_
    rw [winB_reverse _ _ (by omega)]
    have := maxTo_ge (fun k => winE xs (k + 1)) xs.length (xs.length - k - 1) (by omega)
    simp only [show xs.length - k - 1 + 1 = xs.length - k from by omega] at this
    exact this
  · refine maxTo_le _ _ _ (maxTo_nonneg _ _) fun k hk => ?_
    have := maxTo_ge (winB xs.reverse) xs.length (xs.length - (k + 1)) (by omega)
    rw [winB_reverse _ _ (by omega), show xs.length - (xs.length - (k + 1)) = k + 1 from by omega] at this
    exact this
theorem isum_take_le {xs : List Int} (h : ∀ x ∈ xs, 0 ≤ x) (n : Nat) : isum (xs.take n) ≤ isum xs := by
  have e := isum_append (xs.take n) (xs.drop n)
  rw [List.take_append_drop] at e
  have := isum_nonneg (xs := xs.drop n) fun x hx => h x (List.mem_of_mem_drop hx)
  omega
theorem worstV_take {xs : List Int} (h : ∀ x ∈ xs, 0 ≤ x) (m : Nat) : worstV (xs.take m) ≤ worstV xs := by
  unfold worstV
  refine maxTo_le _ _ _ (maxTo_nonneg _ _) fun k hk => ?_
  have hk' : k < xs.length := by rw [List.length_take] at hk; omega
  refine Int.le_trans ?_ (maxTo_ge (winB xs) xs.length k hk')
  unfold winB
  rw [List.drop_take, List.take_take, Nat.min_comm, ← List.take_take]
  exact isum_take_le (fun x hx => h x (List.mem_of_mem_drop (List.mem_of_mem_take hx))) _
theorem isum_mono : ∀ (xs ys : List Int), xs.length = ys.length → (∀ (i : Nat) (a b : Int), xs[i]? = some a → ys[i]? = some b → a ≤ b) → isum xs ≤ isum ys
  | [], [], _, _ => Int.le_refl _
  | [], _ :: _, h, _ => by simp at h
  | _ :: _, [], h, _ => by simp at h
  | x :: xs, y :: ys, h, hp => by
    rw [isum_cons, isum_cons]
    have h1 := hp 0 x y rfl rfl
    have h2 := isum_mono xs ys (by simpa using h) fun i a b ha hb => hp (i + 1) a b (by simpa using ha) (by simpa using hb)
    omega
theorem worstV_mono {xs ys : List Int} (hl : xs.length = ys.length) (h : ∀ (i : Nat) (a b : Int), xs[i]? = some a → ys[i]? = some b → a ≤ b) : worstV xs ≤ worstV ys := by
  unfold worstV
  refine maxTo_le _ _ _ (maxTo_nonneg _ _) fun k hk => ?_
  refine Int.le_trans ?_ (maxTo_ge (winB ys) ys.length k (by omega))
  unfold winB
  refine isum_mono _ _ (by simp [hl]) fun i a b ha hb => ?_
  rw [List.getElem?_take] at ha hb
  split at ha
  · rename_i hi
    rw [if_pos hi] at hb
    rw [List.getElem?_drop] at ha hb
    exact h _ a b ha hb
  · cases ha
theorem worstV_set {xs : List Int} {k : Nat} {x : Int} (hx : xs[k]? = some x) : worstV xs ≤ worstV (xs.set k (x + 1)) := by
  refine worstV_mono (by simp) fun i a b ha hb => ?_
  rw [List.getElem?_set] at hb
  split at hb
  · rename_i e; subst e
    split at hb
    · rw [hx] at ha; injection ha with ha; injection hb with hb; omega
    · cases hb
  · rw [ha] at hb; injection hb with hb; omega
theorem ropeB_set {xs : List Int} {k : Nat} {x : Int} (h : ropeB xs = true) (hx : xs[k]? = some x) (h9 : x + 1 ≤ 9) : ropeB (xs.set k (x + 1)) = true := by
  refine ropeB_of (by have := ropeB_length h; simp; omega) fun y hy => ?_
  rcases List.mem_or_eq_of_mem_set hy with hm | rfl
  · exact ropeB_mem h y hm
  · have := ropeB_mem h x (List.mem_of_getElem? hx); omega
theorem discardB_set {xs : List Int} {m : Int} {k : Nat} {x : Int} (h : discardB xs m = true) (hx : xs[k]? = some x) (h9 : x + 1 ≤ 9) : discardB (xs.set k (x + 1)) m = true := by
  unfold discardB at h ⊢
  rw [Bool.and_eq_true, decide_eq_true_eq] at h ⊢
  refine ⟨ropeB_set h.1 hx h9, ?_⟩
  rw [worstB_yes (ropeB_set h.1 hx h9)]
  have := h.2
  rw [worstB_yes h.1] at this
  have := worstV_set hx
  omega
theorem discardB_more {xs : List Int} {m : Int} (h : discardB xs m = false) : discardB xs (m + 1) = false := by
  cases hd : discardB xs (m + 1)
  · rfl
  · unfold discardB at h hd
    rw [Bool.and_eq_true, decide_eq_true_eq] at hd
    rw [hd.1] at h
    simp at h; omega
end Go.Proofs.Ytjkaabimaimicaa
