import Derived.Test.YtjkaabimaimicaaHolds
namespace Go.Proofs.Ytjkaabimaimicaa
open Go.RowKit

def loadP (car top bottom : Int) (j : Nat) : Bool := holdsB (car + j) (car + 20) top bottom
def mostN (car top bottom : Int) : Nat := ((List.range 41).takeWhile (loadP car top bottom)).length
/-- MostLoad. -/
def mostB (car top bottom : Int) : Int := if 1 ≤ car ∧ car ≤ 160 then (mostN car top bottom : Int) - 1 else -1
theorem takeWhile_range (p : Nat → Bool) (n k : Nat) (hk : k ≤ n) (h : ∀ j, j < k → p j = true) (he : k = n ∨ p k = false) : ((List.range n).takeWhile p).length = k := by
  induction n generalizing k p with
  | zero => simp at hk; subst hk; rfl
  | succ n ih =>
    rw [List.range_succ_eq_map]
    cases k with
    | zero =>
      rcases he with he | he
      · cases he
      · simp [he]
    | succ k =>
      rw [List.takeWhile_cons_of_pos (h 0 (by omega)), List.length_cons, List.takeWhile_map, List.length_map]
      congr 1
      exact ih _ k (by omega) (fun j hj => h (j + 1) (by omega)) (he.elim (fun e => .inl (by omega)) fun e => .inr e)
theorem mostB_of {car top bottom : Int} (hc : 1 ≤ car ∧ car ≤ 160) {k : Nat} (hk : k ≤ 41) (h : ∀ j, j < k → loadP car top bottom j = true) (he : k = 41 ∨ loadP car top bottom k = false) : mostB car top bottom = (k : Int) - 1 := by
  unfold mostB mostN; rw [if_pos hc, takeWhile_range _ 41 k hk h he]
theorem mostB_no {car top bottom : Int} (hc : ¬ (1 ≤ car ∧ car ≤ 160)) : mostB car top bottom = -1 := by unfold mostB; rw [if_neg hc]

theorem specMostLoad (car top bottom : Int) (w : World) :
    Calls Try.prog 17 #[.int .i64 car, .int .i64 top, .int .i64 bottom] w fun e w' => e = .returned (.int .i64 (mostB car top bottom)) ∧ w = w' := by
  by_cases hc : 1 ≤ car ∧ car ≤ 160
  · have HC := hide hc
    obtain ⟨h1, h2⟩ := hc
    have hin : inB car 1 160 = true := inB_t ⟨h1, h2⟩
    go_enter Try.func17, Try.ntmps17
    go_wp2_with (go_at_call 38; refine (l1In_any _ _ _ _).mono ?_; rintro e w' ⟨rfl, rfl⟩)
    go_loop [7] (fun i => ∃ k : Nat, k ≤ 41 ∧ i = .int .i64 ((k : Int) - 1) ∧ Hid (∀ j, j < k → loadP car top bottom j = true)) (fun i => (41 - intOf i).toNat)
    case atStart => exact ⟨0, by omega, rfl, fun j hj => by omega⟩
    case round =>
      obtain ⟨k, hk, rfl, hA⟩ := hrel
      by_cases hlt : k < 41
      · cases hb : loadP car top bottom k
        · have hb' : holdsB (car + ((k : Int) - 1) + 1) (car + 20) top bottom = false := by rw [show car + ((k : Int) - 1) + 1 = car + k from by omega]; exact hb
          go_wp2_with (go_at_call 15; refine (specHolds _ _ _ _ _).mono ?_; rintro e w' ⟨rfl, rfl⟩)
          go_ret
          exact ⟨ret_int (mostB_of HC.out (by omega) hA (.inr hb)).symm, rfl⟩
        · have hb' : holdsB (car + ((k : Int) - 1) + 1) (car + 20) top bottom = true := by rw [show car + ((k : Int) - 1) + 1 = car + k from by omega]; exact hb
          go_wp2_with (go_at_call 15; refine (specHolds _ _ _ _ _).mono ?_; rintro e w' ⟨rfl, rfl⟩)
          go_round
          case rel => exact ⟨k + 1, by omega, by go_num, fun j hj => by rcases Nat.lt_succ_iff_lt_or_eq.1 hj with h | rfl; exact hA j h; exact hb⟩
          case measure => simp [intOf]; omega
      · go_wp2_with fail
        go_ret
        exact ⟨ret_int (mostB_of HC.out (by omega) hA (.inl (by omega))).symm, rfl⟩
  · have hin : inB car 1 160 = false := inB_n (by omega)
    go_enter Try.func17, Try.ntmps17
    go_wp2_with (go_at_call 38; refine (l1In_any _ _ _ _).mono ?_; rintro e w' ⟨rfl, rfl⟩)
    go_ret
    exact ⟨ret_int (mostB_no hc).symm, rfl⟩
theorem implMostLoad (car top bottom : Int) (w : World) :
    Calls Try.prog 18 #[.int .i64 car, .int .i64 top, .int .i64 bottom] w fun e w' => e = .returned (.int .i64 (mostB car top bottom)) ∧ w = w' := by
  by_cases hc : 1 ≤ car ∧ car ≤ 160
  · have HC := hide hc
    obtain ⟨h1, h2⟩ := hc
    go_enter Try.func18, Try.ntmps18
    go_wp2_with fail
    go_loop [7] (fun i => ∃ k : Nat, k ≤ 41 ∧ i = .int .i64 (k : Int) ∧ Hid (∀ j, j < k → loadP car top bottom j = true)) (fun i => (41 - intOf i).toNat)
    case atStart => exact ⟨0, by omega, rfl, fun j hj => by omega⟩
    case round =>
      obtain ⟨k, hk, rfl, hA⟩ := hrel
      by_cases hlt : k < 41
      · cases hb : loadP car top bottom k
        · have hb' : holdsB (car + (k : Int)) (car + 20) top bottom = false := hb
          go_wp2_with (go_at_call 16; refine (implHolds _ _ _ _ _).mono ?_; rintro e w' ⟨rfl, rfl⟩)
          go_ret
          exact ⟨ret_int (mostB_of HC.out (by omega) hA (.inr hb)).symm, rfl⟩
        · have hb' : holdsB (car + (k : Int)) (car + 20) top bottom = true := hb
          go_wp2_with (go_at_call 16; refine (implHolds _ _ _ _ _).mono ?_; rintro e w' ⟨rfl, rfl⟩)
          go_round
          case rel => exact ⟨k + 1, by omega, by go_num, fun j hj => by rcases Nat.lt_succ_iff_lt_or_eq.1 hj with h | rfl; exact hA j h; exact hb⟩
          case measure => simp [intOf]; omega
      · go_wp2_with fail
        go_ret
        exact ⟨ret_int (mostB_of HC.out (by omega) hA (.inl (by omega))).symm, rfl⟩
  · go_enter Try.func18, Try.ntmps18
    go_wp2_with fail
    all_goals (go_ret; exact ⟨ret_int (mostB_no hc).symm, rfl⟩)
end Go.Proofs.Ytjkaabimaimicaa
