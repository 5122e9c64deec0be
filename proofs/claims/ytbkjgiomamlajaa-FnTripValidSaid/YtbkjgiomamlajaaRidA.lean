/- Riders: the program's and the reference's small functions. -/
import Derived.Test.YtbkjgiomamlajaaAppG
import Derived.Test.YtbkjgiomamlajaaCells
import Derived.Test.YtbkjgiomamlajaaStopsC
import Derived.Deep.RegionHeld3
namespace Go.Proofs.Ytbkjgiomamlajaa
open Go.RowKit

open Classical in
noncomputable def ridB (n : Int) (r : Rr) : Bool := decide (ridP n r)
theorem ridB_iff {n : Int} {r : Rr} : ridB n r = true ↔ ridP n r := by unfold ridB; simp
theorem ridB_f {n : Int} {r : Rr} : ridB n r = false ↔ ¬ ridP n r := by unfold ridB; simp
open Classical in
noncomputable def wayB (r : Rr) (f d : Int) : Bool := decide (wayP r f d)
theorem wayB_iff {r : Rr} {f d : Int} : wayB r f d = true ↔ wayP r f d := by unfold wayB; simp
theorem wayB_f {r : Rr} {f d : Int} : wayB r f d = false ↔ ¬ wayP r f d := by unfold wayB; simp
set_option maxHeartbeats 1000000 in
theorem implRiderValid (r : Rr) (n : Int) (w : World) : Calls Try.prog 53 #[.agg #[.int .i64 r.1, .int .i64 r.2.1, .int .i64 r.2.2], .int .i64 n] w fun e w' => e = .returned (.bool (ridB n r)) ∧ Below w.heap.size w w' := by
  have B : Hid (∀ o : Obj, Below w.heap.size w (w.alloc o)) := fun o => (Below.refl _ _).alloc (Nat.le_refl _) o
  cases ha : inB r.1 0 (n - 1)
  · have HE : Hid (ridB n r = false) := ridB_f.2 fun h => by have := (inB_f _ _ _).1 ha; have := h.1; omega
    go_enter Try.func53, Try.ntmps53
    go_wp2_with (go_at_call 76; refine (isFloor_any _ _ _).mono ?_; rintro e w' ⟨rfl, rfl⟩)
    go_ret
    exact ⟨ret_bool HE.out.symm, B.out _⟩
  have HA := hide ((inB_iff _ _ _).1 ha)
  cases hb : inB r.2.1 0 (n - 1)
  · have HE : Hid (ridB n r = false) := ridB_f.2 fun h => by have := (inB_f _ _ _).1 hb; have := h.2.1; omega
    go_enter Try.func53, Try.ntmps53
    go_wp2_with (go_at_call 76; refine (isFloor_any _ _ _).mono ?_; rintro e w' ⟨rfl, rfl⟩)
    go_ret
    exact ⟨ret_bool HE.out.symm, B.out _⟩
  have HB := hide ((inB_iff _ _ _).1 hb)
  by_cases hc : r.1 = r.2.1
  · have HE : Hid (ridB n r = false) := ridB_f.2 fun h => h.2.2.1 hc
    have hc' : (r.1 != r.2.1) = false := by simpa using hc
    clear hc
    go_enter Try.func53, Try.ntmps53
    go_wp2_with (go_at_call 76; refine (isFloor_any _ _ _).mono ?_; rintro e w' ⟨rfl, rfl⟩)
    go_ret
    exact ⟨ret_bool HE.out.symm, B.out _⟩
  have HC := hide hc
  have hc' : (r.1 != r.2.1) = true := by simpa using hc
  clear hc
  by_cases hd : 0 ≤ r.2.2
  rotate_left
  · have HE : Hid (ridB n r = false) := ridB_f.2 fun h => hd h.2.2.2.1
    go_enter Try.func53, Try.ntmps53
    go_wp2_with (go_at_call 76; refine (isFloor_any _ _ _).mono ?_; rintro e w' ⟨rfl, rfl⟩)
    go_ret
    exact ⟨ret_bool HE.out.symm, B.out _⟩
  by_cases he : r.2.2 ≤ 2
  rotate_left
  · have HE : Hid (ridB n r = false) := ridB_f.2 fun h => he h.2.2.2.2
    go_enter Try.func53, Try.ntmps53
    go_wp2_with (go_at_call 76; refine (isFloor_any _ _ _).mono ?_; rintro e w' ⟨rfl, rfl⟩)
    go_ret
    exact ⟨ret_bool (by rw [HE.out]; simpa using he), B.out _⟩
  have HE : Hid (ridB n r = true) := ridB_iff.2 ⟨by have := HA.out; omega, by have := HB.out; omega, HC.out, hd, he⟩
  go_enter Try.func53, Try.ntmps53
  go_wp2_with (go_at_call 76; refine (isFloor_any _ _ _).mono ?_; rintro e w' ⟨rfl, rfl⟩)
  go_ret
  exact ⟨ret_bool HE.out.symm, B.out _⟩
theorem riderDir_any (r : Rr) (w : World) : Calls Try.prog 51 #[.agg #[.int .i64 r.1, .int .i64 r.2.1, .int .i64 r.2.2]] w fun e w' => e = .returned (.int .i64 (dirR r)) ∧ Below w.heap.size w w' := by
  have B : Hid (∀ o : Obj, Below w.heap.size w (w.alloc o)) := fun o => (Below.refl _ _).alloc (Nat.le_refl _) o
  by_cases h : r.1 < r.2.1
  · have HE : Hid (dirR r = 1) := by unfold Hid dirR; rw [if_pos h]
    go_enter Try.func51, Try.ntmps51
    go_wp2_with fail
    go_ret
    exact ⟨ret_int HE.out.symm, B.out _⟩
  · have HE : Hid (dirR r = -1) := by unfold Hid dirR; rw [if_neg h]
    go_enter Try.func51, Try.ntmps51
    go_wp2_with fail
    go_ret
    exact ⟨ret_int HE.out.symm, B.out _⟩
theorem l11Dir_any (r : Rr) (w : World) : Calls Try.prog 45 #[.agg #[.int .i64 r.1, .int .i64 r.2.1, .int .i64 r.2.2]] w fun e w' => e = .returned (.int .i64 (dirR r)) ∧ Below w.heap.size w w' := by
  have B : Hid (∀ o : Obj, Below w.heap.size w (w.alloc o)) := fun o => (Below.refl _ _).alloc (Nat.le_refl _) o
  by_cases h : r.1 < r.2.1
  · have HE : Hid (dirR r = 1) := by unfold Hid dirR; rw [if_pos h]
    go_enter Try.func45, Try.ntmps45
    go_wp2_with fail
    go_ret
    exact ⟨ret_int HE.out.symm, B.out _⟩
  · have HE : Hid (dirR r = -1) := by unfold Hid dirR; rw [if_neg h]
    go_enter Try.func45, Try.ntmps45
    go_wp2_with fail
    go_ret
    exact ⟨ret_int HE.out.symm, B.out _⟩
theorem ridersInside_any (A : Option Addr) (c : Nat) (rs : List Rr) (w : World) (h : Rds w A rs) (hl : (rs.length : Int) ≤ 1000000000) :
    Calls Try.prog 50 #[.slice A rs.length c] w fun e w' => e = .returned (.int .i64 (inN 1 rs)) ∧ Below w.heap.size w w' := by
  have H := hide h; clear h
  go_enter Try.func50, Try.ntmps50
  go_wp2_with fail
  go_loopw [3, 8] (fun n i wr => ∃ k : Nat, k ≤ rs.length ∧ i = .int .i64 k ∧ n = .int .i64 (inN 1 (rs.take k)) ∧ Hid (Below w.heap.size w wr)) (fun _ i _ => rs.length - (intOf i).toNat)
  case atStart => exact ⟨0, by omega, rfl, rfl, Below.refl _ _⟩
  case round =>
    obtain ⟨k, hk, rfl, rfl, B⟩ := hrel
    by_cases hlt : k < rs.length
    · obtain ⟨b, off, r, rfl, hb, hr, c0, c1, c2⟩ := (H.out.below B.out).at hlt
      have HS := hide (inN_snoc (s := 1) hr.out)
      have hbd := inN_bd 1 (rs.take k)
      have hle : (rs.take k).length ≤ rs.length := List.length_take_le' _ _
      have hn : ¬ b = wr.heap.size := by omega
      clear hr
      by_cases h1 : r.2.2 = 1
      · have h1' : (r.2.2 == 1) = true := by simpa using h1
        have HS2 := hide (show inN 1 (rs.take (k + 1)) = inN 1 (rs.take k) + 1 by rw [HS.out, if_pos h1])
        clear h1
        go_wp2_with fail
        go_roundw
        case rel => exact ⟨k + 1, by omega, by go_num, by rw [HS2.out], B.out.alloc (by have := B.out.size; omega) _⟩
        case measure => simp [intOf]; omega
      · have h1' : (r.2.2 == 1) = false := by simpa using h1
        have HS2 := hide (show inN 1 (rs.take (k + 1)) = inN 1 (rs.take k) by rw [HS.out, if_neg h1, Int.add_zero])
        clear h1
        go_wp2_with fail
        go_roundw
        case rel => exact ⟨k + 1, by omega, by go_num, by rw [HS2.out], B.out.alloc (by have := B.out.size; omega) _⟩
        case measure => simp [intOf]; omega
    · have HE := hide (show inN 1 (rs.take k) = inN 1 rs by rw [List.take_of_length_le (by omega)])
      go_wp2_with fail
      go_ret
      exact ⟨ret_int HE.out, B.out⟩
end Go.Proofs.Ytbkjgiomamlajaa
