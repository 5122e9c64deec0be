import Derived.Test.YtjkaabimaimicaaSmall
namespace Go.Proofs.Ytjkaabimaimicaa
open Go.RowKit

def ropeB (xs : List Int) : Bool := decide (xs.length ≤ 24) && xs.all (fun x => inB x 0 9)
theorem ropeB_bad {xs : List Int} {k : Nat} {x : Int} (h : xs[k]? = some x) (hx : x < 0 ∨ 9 < x) : ropeB xs = false := by
  unfold ropeB; rw [all_bad (p := fun x => inB x 0 9) h (inB_n hx)]; simp
theorem ropeB_long {xs : List Int} (h : (24 : Int) < (xs.length : Int)) : ropeB xs = false := by
  unfold ropeB; simp; omega
theorem ropeB_done {xs : List Int} {k : Nat} (h : (xs.take k).all (fun x => inB x 0 9) = true) (hk : xs.length ≤ k) : ropeB xs = decide ((xs.length : Int) ≤ 24) := by
  unfold ropeB; rw [all_done h hk, Bool.eq_iff_iff]; simp; omega

theorem implRopeValid (A : Option Addr) (c : Nat) (xs : List Int) (w : World) (h : Ints w A xs) (hl : xs.length ≤ 140737488351232) :
    Calls Try.prog 21 #[.slice A xs.length c] w fun e w' => e = .returned (.bool (ropeB xs)) ∧ w = w' := by
  have H := hide h; clear h
  go_enter Try.func21, Try.ntmps21
  go_wp2
  · go_ret; exact ⟨ret_bool (ropeB_long (by assumption)).symm, rfl⟩
  · go_loop [10] (fun i => ∃ k : Nat, k ≤ xs.length ∧ i = .int .i64 k ∧ Hid ((xs.take k).all (fun x => inB x 0 9) = true)) (fun i => xs.length - (intOf i).toNat)
    case atStart => exact ⟨0, by omega, rfl, by simp [Hid]⟩
    case round =>
      obtain ⟨k, hk, rfl, hA⟩ := hrel
      by_cases hlt : k < xs.length
      · obtain ⟨b, off, x, rfl, hx, hc⟩ := H.out.at hlt
        go_wp2
        case roundEnd =>
          go_round
          case rel => exact ⟨k + 1, by omega, by go_num, all_step hA hx (inB_t (by omega))⟩
          case measure => simp [intOf]; omega
        all_goals (go_ret; exact ⟨ret_bool (ropeB_bad hx (by omega)).symm, rfl⟩)
      · go_wp2
        go_ret
        exact ⟨ret_bool (by rw [ropeB_done hA (by omega)]; simp; omega), rfl⟩
theorem specRopeValid (A : Option Addr) (c : Nat) (xs : List Int) (w : World) (h : Ints w A xs) (hl : xs.length ≤ 140737488351232) :
    Calls Try.prog 19 #[.slice A xs.length c] w fun e w' => e = .returned (.bool (ropeB xs)) ∧ w = w' := by
  have H := hide h; clear h
  go_enter Try.func19, Try.ntmps19
  go_wp2
  go_loop [3] (fun i => ∃ k : Nat, k ≤ xs.length ∧ i = .int .i64 k ∧ Hid ((xs.take k).all (fun x => inB x 0 9) = true)) (fun i => xs.length - (intOf i).toNat)
  case atStart => exact ⟨0, by omega, rfl, by simp [Hid]⟩
  case round =>
    obtain ⟨k, hk, rfl, hA⟩ := hrel
    by_cases hlt : k < xs.length
    · obtain ⟨b, off, x, rfl, hx, hc⟩ := H.out.at hlt
      cases hb : inB x 0 9
      · go_wp2_with (go_at_call 38; refine (l1In_any _ _ _ _).mono ?_; rintro e w' ⟨rfl, rfl⟩)
        go_ret
        exact ⟨ret_bool (ropeB_bad hx ((inB_f _ _ _).1 hb)).symm, rfl⟩
      · go_wp2_with (go_at_call 38; refine (l1In_any _ _ _ _).mono ?_; rintro e w' ⟨rfl, rfl⟩)
        go_round
        case rel => exact ⟨k + 1, by omega, by go_num, all_step hA hx hb⟩
        case measure => simp [intOf]; omega
    · go_wp2
      go_ret
      exact ⟨ret_bool (ropeB_done hA (by omega)).symm, rfl⟩
end Go.Proofs.Ytjkaabimaimicaa
