import Derived.Test.YtammgbnekmcaeaaSmall
namespace Go.Proofs.Ytammgbnekmcaeaa
open Go.RowKit

def sumL : List Int → Int
  | [] => 0
  | x :: r => x + sumL r
theorem sumL_append (xs ys : List Int) : sumL (xs ++ ys) = sumL xs + sumL ys := by
  induction xs with
  | nil => simp [sumL]
  | cons x r ih => simp only [List.cons_append, sumL, ih]; omega
theorem sumL_step {xs : List Int} {k : Nat} {x : Int} (h : xs[k]? = some x) : sumL (xs.take (k + 1)) = sumL (xs.take k) + x := by
  rw [take_snoc' xs k x h, sumL_append]; simp [sumL]
def okL (xs : List Int) : Bool := decide (xs.length ≤ 8) && xs.all (fun x => inB x 1 40)
def loadB (xs : List Int) : Int := if okL xs then sumL xs else -1
theorem sum_bd {xs : List Int} (h : xs.all (fun x => inB x 1 40) = true) : 0 ≤ sumL xs ∧ sumL xs ≤ 40 * xs.length := by
  induction xs with
  | nil => simp [sumL]
  | cons x r ih =>
    simp only [List.all_cons, Bool.and_eq_true] at h
    have := (inB_iff _ _ _).1 h.1
    have := ih h.2
    simp only [sumL, List.length_cons]; omega
theorem loadB_no {xs : List Int} (h : okL xs = false) : loadB xs = -1 := by unfold loadB; rw [h]; rfl
theorem loadB_yes {xs : List Int} (h : okL xs = true) : loadB xs = sumL xs := by unfold loadB; rw [h]; rfl
theorem okL_bad {xs : List Int} {k : Nat} {x : Int} (hx : xs[k]? = some x) (h : inB x 1 40 = false) : okL xs = false := by
  unfold okL; rw [all_bad (p := fun x => inB x 1 40) hx h]; simp
theorem okL_iff {xs : List Int} : okL xs = true ↔ xs.length ≤ 8 ∧ xs.all (fun x => inB x 1 40) = true := by unfold okL; simp [Bool.and_eq_true]
theorem okL_take {xs : List Int} (h : okL xs = true) (n : Nat) : okL (xs.take n) = true := by
  obtain ⟨h1, h2⟩ := okL_iff.1 h
  exact okL_iff.2 ⟨by simp; omega, List.all_eq_true.2 fun x hx => List.all_eq_true.1 h2 x (List.mem_of_mem_take hx)⟩
theorem loadB_neg (xs : List Int) : loadB xs < 0 ↔ okL xs = false := by
  cases h : okL xs
  · rw [loadB_no h]; simp
  · rw [loadB_yes h]; have := sum_bd (okL_iff.1 h).2; simp; omega
/-- How many get in: the number, at valid weights, of the first ones before the sum passes 40. -/
def FirstIs (xs : List Int) (n : Int) : Prop := (okL xs = false ∧ n = -1) ∨ (okL xs = true ∧ ∃ k : Nat, n = k ∧ k ≤ xs.length ∧ sumL (xs.take k) ≤ 40 ∧ (k < xs.length → 40 < sumL (xs.take (k + 1))))
theorem sum_mono {xs : List Int} (h : okL xs = true) {j k : Nat} (hjk : j ≤ k) : sumL (xs.take j) ≤ sumL (xs.take k) := by
  have e : xs.take k = xs.take j ++ (xs.take k).drop j := by
    have := List.take_append_drop j (xs.take k)
    rw [List.take_take, Nat.min_eq_left hjk] at this
    exact this.symm
  rw [e, sumL_append]
  have : 0 ≤ sumL ((xs.take k).drop j) := (sum_bd (List.all_eq_true.2 fun x hx => List.all_eq_true.1 (okL_iff.1 h).2 x (List.mem_of_mem_take (List.mem_of_mem_drop hx)))).1
  omega
theorem FirstIs.uniq {xs : List Int} {m n : Int} (h : FirstIs xs m) (k : FirstIs xs n) : m = n := by
  rcases h with ⟨h0, rfl⟩ | ⟨h0, a, rfl, a1, a2, a3⟩
  · rcases k with ⟨-, rfl⟩ | ⟨k0, -⟩
    · rfl
    · rw [h0] at k0; cases k0
  · rcases k with ⟨k0, -⟩ | ⟨-, b, rfl, b1, b2, b3⟩
    · rw [h0] at k0; cases k0
    · rcases Nat.lt_trichotomy a b with h | h | h
      · have := a3 (by omega); have := sum_mono h0 (j := a + 1) (k := b) (by omega); omega
      · omega
      · have := b3 (by omega); have := sum_mono h0 (j := b + 1) (k := a) (by omega); omega
/-- The law's end. -/
theorem first_law {xs : List Int} {n : Nat} (h : FirstIs xs n) : n ≤ xs.length ∧ loadB (xs.take n) ≤ 40 ∧ (n < xs.length → 40 < loadB (xs.take (n + 1))) := by
  rcases h with ⟨-, h⟩ | ⟨h0, k, hk, k1, k2, k3⟩
  · omega
  · obtain rfl : n = k := by omega
    exact ⟨k1, by rw [loadB_yes (okL_take h0 _)]; exact k2, fun h => by rw [loadB_yes (okL_take h0 _)]; exact k3 h⟩

theorem implLoadSum (A : Option Addr) (c : Nat) (xs : List Int) (w : World) (h : Ints w A xs) :
    Calls Try.prog 23 #[.slice A xs.length c] w fun e w' => e = .returned (.int .i64 (loadB xs)) ∧ w = w' := by
  have H := hide h; clear h
  by_cases h8 : 8 < xs.length
  · go_enter Try.func23, Try.ntmps23
    go_wp2
    go_ret
    exact ⟨ret_int (loadB_no (by unfold okL; simp; omega)).symm, rfl⟩
  · go_enter Try.func23, Try.ntmps23
    go_wp2
    go_loop [3, 11] (fun s i => ∃ k : Nat, k ≤ xs.length ∧ i = .int .i64 k ∧ s = .int .i64 (sumL (xs.take k)) ∧ Hid ((xs.take k).all (fun x => inB x 1 40) = true)) (fun _ i => xs.length - (intOf i).toNat)
    case atStart => exact ⟨0, by omega, rfl, by simp [sumL], by simp [Hid]⟩
    case round =>
      obtain ⟨k, hk, rfl, rfl, hA⟩ := hrel
      have hs := sum_bd hA.out
      rw [List.length_take, Nat.min_eq_left hk] at hs
      by_cases hlt : k < xs.length
      · obtain ⟨b, off, x, rfl, hx, hc⟩ := H.out.at hlt
        go_wp2
        case roundEnd =>
          go_round
          case rel => exact ⟨k + 1, by omega, by go_num, by rw [sumL_step hx], all_step hA hx (inB_t (by omega))⟩
          case measure => simp [intOf]; omega
        all_goals (go_ret; exact ⟨ret_int (loadB_no (okL_bad hx (inB_n (by omega)))).symm, rfl⟩)
      · obtain rfl : k = xs.length := by omega
        go_wp2
        go_ret
        exact ⟨ret_int (by rw [loadB_yes (okL_iff.2 ⟨by omega, all_done hA.out (by omega)⟩)]), rfl⟩
theorem specLoadSum (A : Option Addr) (c : Nat) (xs : List Int) (w : World) (h : Ints w A xs) (hl : xs.length ≤ 1000000) :
    Calls Try.prog 51 #[.slice A xs.length c] w fun e w' => e = .returned (.int .i64 (loadB xs)) ∧ w = w' := by
  have H := hide h; clear h
  go_enter Try.func51, Try.ntmps51
  go_wp2
  go_loop [3, 4] (fun s i => ∃ k : Nat, k ≤ xs.length ∧ i = .int .i64 k ∧ s = .int .i64 (sumL (xs.take k)) ∧ Hid ((xs.take k).all (fun x => inB x 1 40) = true)) (fun _ i => xs.length - (intOf i).toNat)
  case atStart => exact ⟨0, by omega, rfl, by simp [sumL], by simp [Hid]⟩
  case round =>
    obtain ⟨k, hk, rfl, rfl, hA⟩ := hrel
    have hs := sum_bd hA.out
    rw [List.length_take, Nat.min_eq_left hk] at hs
    by_cases hlt : k < xs.length
    · obtain ⟨b, off, x, rfl, hx, hc⟩ := H.out.at hlt
      cases hb : inB x 1 40
      · go_wp2_with (go_at_call 48; refine (l1In_any _ _ _ _).mono ?_; rintro e w' ⟨rfl, rfl⟩)
        go_ret
        exact ⟨ret_int (loadB_no (okL_bad hx hb)).symm, rfl⟩
      · have hxb := (inB_iff _ _ _).1 hb
        go_wp2_with (go_at_call 48; refine (l1In_any _ _ _ _).mono ?_; rintro e w' ⟨rfl, rfl⟩)
        go_round
        case rel => exact ⟨k + 1, by omega, by go_num, by rw [sumL_step hx], all_step hA hx hb⟩
        case measure => simp [intOf]; omega
    · obtain rfl : k = xs.length := by omega
      by_cases h8 : 8 < xs.length
      · go_wp2
        go_ret
        exact ⟨ret_int (loadB_no (by unfold okL; simp; omega)).symm, rfl⟩
      · go_wp2
        go_ret
        exact ⟨ret_int (by rw [loadB_yes (okL_iff.2 ⟨by omega, all_done hA.out (by omega)⟩)]), rfl⟩
theorem implOverloaded (A : Option Addr) (c : Nat) (xs : List Int) (w : World) (h : Ints w A xs) :
    Calls Try.prog 24 #[.slice A xs.length c] w fun e w' => e = .returned (.bool (decide (40 < loadB xs))) ∧ w = w' := by
  have H := hide h; clear h
  go_enter Try.func24, Try.ntmps24
  go_wp2_with fail
  refine (implLoadSum A c xs _ H.out).mono ?_
  rintro e w' ⟨rfl, rfl⟩
  go_wp2
  go_ret
  exact ⟨rfl, rfl⟩
def FirstEnd (xs : List Int) (w : World) (e : Ending) (w' : World) : Prop := ∃ n, e = .returned (.int .i64 n) ∧ FirstIs xs n ∧ w = w'
theorem implLoadFirst (A : Option Addr) (c : Nat) (xs : List Int) (w : World) (h : Ints w A xs) :
    Calls Try.prog 21 #[.slice A xs.length c] w (FirstEnd xs w) := by
  have H := hide h; clear h
  go_enter Try.func21, Try.ntmps21
  go_wp2_with fail
  refine (implLoadSum A c xs _ H.out).mono ?_
  rintro e w' ⟨rfl, rfl⟩
  cases hk : okL xs
  · rw [loadB_no hk]
    go_wp2
    go_ret
    exact ⟨-1, rfl, .inl ⟨hk, rfl⟩, rfl⟩
  · obtain ⟨h8, hall⟩ := okL_iff.1 hk
    have HK := hide hk
    have hs0 := sum_bd hall
    have HA := hide hall
    rw [loadB_yes hk]
    clear hall hk
    go_wp2
    go_loop [3, 11] (fun s i => ∃ k : Nat, k ≤ xs.length ∧ i = .int .i64 k ∧ s = .int .i64 (sumL (xs.take k)) ∧ sumL (xs.take k) ≤ 40) (fun _ i => xs.length - (intOf i).toNat)
    case atStart => exact ⟨0, by omega, rfl, by simp [sumL], by simp [sumL]⟩
    case round =>
      obtain ⟨k, hk, rfl, rfl, hA⟩ := hrel
      have hs := sum_mono HK.out (j := 0) (k := k) (by omega)
      simp only [List.take_zero, sumL] at hs
      by_cases hlt : k < xs.length
      · obtain ⟨b, off, x, rfl, hx, hc⟩ := H.out.at hlt
        have hxb := (inB_iff _ _ _).1 (List.all_eq_true.1 HA.out x (List.mem_of_getElem? hx.out))
        have hst := hide (sumL_step hx.out)
        by_cases h40 : 40 < sumL (xs.take k) + x
        · go_wp2
          go_ret
          exact ⟨k, rfl, .inr ⟨HK.out, k, rfl, hk, hA, fun _ => by rw [hst.out]; exact h40⟩, rfl⟩
        · go_wp2
          go_round
          case rel => exact ⟨k + 1, by omega, by go_num, by rw [hst.out], by rw [hst.out]; omega⟩
          case measure => simp [intOf]; omega
      · obtain rfl : k = xs.length := by omega
        go_wp2
        go_ret
        exact ⟨xs.length, rfl, .inr ⟨HK.out, xs.length, rfl, hk, hA, fun h => by omega⟩, rfl⟩
theorem specLoadFirst (A : Option Addr) (c : Nat) (xs : List Int) (w : World) (h : Ints w A xs) (hl : xs.length ≤ 1000000) (hc : xs.length ≤ c) :
    Calls Try.prog 22 #[.slice A xs.length c] w (FirstEnd xs w) := by
  have H := hide h; clear h
  go_enter Try.func22, Try.ntmps22
  go_wp2_with fail
  refine (specLoadSum A c xs _ H.out hl).mono ?_
  rintro e w' ⟨rfl, rfl⟩
  cases hk : okL xs
  · rw [loadB_no hk]
    go_wp2
    go_ret
    exact ⟨-1, rfl, .inl ⟨hk, rfl⟩, rfl⟩
  · obtain ⟨h8, hall⟩ := okL_iff.1 hk
    have HK := hide hk
    have hs0 := sum_bd hall
    rw [loadB_yes hk]
    clear hall hk
    go_wp2
    go_loop [3] (fun i => ∃ k : Nat, k ≤ xs.length ∧ i = .int .i64 k ∧ sumL (xs.take k) ≤ 40) (fun i => xs.length - (intOf i).toNat)
    case atStart => exact ⟨0, by omega, rfl, by simp [sumL]⟩
    case round =>
      obtain ⟨k, hk, rfl, hA⟩ := hrel
      by_cases hlt : k < xs.length
      · have K := hide (H.out.take (k + 1))
        have hlen : k + 1 = (xs.take (k + 1)).length := by simp; omega
        have hld := hide (loadB_yes (okL_take HK.out (k + 1)))
        have hln := hide hlen
        clear hlen
        go_wp2_with fail
        refine (calls_len (specLoadSum _ _ (xs.take (k + 1)) _ K.out (by simp; omega)) (by have := hln.out; omega)).mono ?_
        rintro e w' ⟨rfl, rfl⟩
        rw [hld.out]
        by_cases h40 : 40 < sumL (xs.take (k + 1))
        · go_wp2
          go_ret
          exact ⟨k, rfl, .inr ⟨HK.out, k, rfl, hk, hA, fun _ => h40⟩, rfl⟩
        · go_wp2
          go_round
          case rel => exact ⟨k + 1, by omega, by go_num, by omega⟩
          case measure => simp [intOf]; omega
      · obtain rfl : k = xs.length := by omega
        go_wp2
        go_ret
        exact ⟨xs.length, rfl, .inr ⟨HK.out, xs.length, rfl, hk, hA, fun h => by omega⟩, rfl⟩
end Go.Proofs.Ytammgbnekmcaeaa
