import Derived.Test.YtmekhjaeclgonaaDoorFloors
namespace Go.Proofs.YtmekhjaeclgonaaDoor
open Go.RowKit

/-- What FloorAt returns. -/
def FloorAtIs (fs : List Int) (at' r : Int) : Prop :=
  (floorsB fs = false ∧ r = -1) ∨ (floorsB fs = true ∧ ((∃ k : Nat, fs[k]? = some at' ∧ r = k ∧ ∀ j, j < k → fs[j]? ≠ some at') ∨ (r = -1 ∧ at' ∉ fs)))
def FloorAtEnd (fs : List Int) (at' : Int) (w : World) (e : Ending) (w' : World) : Prop := ∃ r, e = .returned (.int .i64 r) ∧ FloorAtIs fs at' r ∧ Dr w w'
theorem floors049 : floorsB [0, 4, 9] = true := by
  rw [floorsB_iff]
  refine ⟨by simp, by simp, rfl, fun i a b hi ha hb => ?_, fun i x hx => ?_⟩
  · match i, hi with
    | 0, _ => simp at ha hb; omega
    | 1, _ => simp at ha hb; omega
    | i + 2, hi => exact absurd hi (by simp)
  · have := List.mem_of_getElem? hx
    simp at this; omega
theorem floorsNil : floorsB [] = false := floorsB_len (.inl (by simp))
theorem floorAt_one {r : Int} (h : FloorAtIs [0, 4, 9] 4 r) : r = 1 := by
  rcases h with ⟨h, -⟩ | ⟨-, ⟨k, hk, rfl, -⟩ | ⟨-, hn⟩⟩
  · rw [floors049] at h; cases h
  · match k, hk with
    | 0, hk => simp at hk
    | 1, _ => rfl
    | 2, hk => simp at hk
    | k + 3, hk => simp at hk
  · simp at hn
theorem floorAt_nil {a r : Int} (h : FloorAtIs [] a r) : r = -1 := by
  rcases h with ⟨-, h⟩ | ⟨h, -⟩
  · exact h
  · rw [floorsNil] at h; cases h

theorem implFloorAt (A : Option Addr) (c : Nat) (xs : List Int) (at' : Int) (w : World) (h : Ints w A xs) :
    Calls Tryd.prog 27 #[.slice A xs.length c, .int .i64 at'] w (FloorAtEnd xs at' w) := by
  have H := hide h; clear h
  cases hf : floorsB xs
  · go_enter Tryd.func27, Tryd.ntmps27
    go_wp2_with fail
    refine (implFloorsValid A c xs _ H.out).mono ?_
    rintro e w1 ⟨rfl, D1⟩
    have D1 := hide D1
    go_wp2
    go_ret
    exact ⟨-1, rfl, .inl ⟨hf, rfl⟩, D1.out⟩
  · obtain ⟨f1, f2, -⟩ := floorsB_iff.1 hf
    go_enter Tryd.func27, Tryd.ntmps27
    go_wp2_with fail
    refine (implFloorsValid A c xs _ H.out).mono ?_
    rintro e w1 ⟨rfl, D1⟩
    have D1 := hide D1
    go_wp2
    go_loop [12] (fun i => ∃ k : Nat, k ≤ xs.length ∧ i = .int .i64 (k : Int) ∧ Hid (∀ j, j < k → xs[j]? ≠ some at')) (fun i => xs.length - (intOf i).toNat)
    case atStart => exact ⟨0, by omega, rfl, fun j hj => by omega⟩
    case round =>
      obtain ⟨k, hk, rfl, hA⟩ := hrel
      by_cases hlt : k < xs.length
      · obtain ⟨b, off, x, rfl, hx, hc⟩ := (H.out.dr D1.out).at hlt
        by_cases he : x = at'
        · have he' : (x == at') = true := by simpa using he
          have HE := hide he
          clear he
          go_wp2
          go_ret
          exact ⟨k, rfl, .inr ⟨hf, .inl ⟨k, by rw [← HE.out]; exact hx.out, rfl, hA⟩⟩, D1.out⟩
        · have he' : (x == at') = false := by simpa using he
          go_wp2
          go_round
          case rel => exact ⟨k + 1, by omega, by go_num, fun j hj => by rcases Nat.lt_succ_iff_lt_or_eq.1 hj with h | rfl; exact hA j h; rw [hx.out]; simpa using he⟩
          case measure => simp [intOf]; omega
      · go_wp2
        go_ret
        exact ⟨-1, rfl, .inr ⟨hf, .inr ⟨rfl, fun hm => by obtain ⟨j, hj⟩ := List.mem_iff_getElem?.1 hm; exact hA j (by have := getElem?_lt hj; omega) hj⟩⟩, D1.out⟩
theorem alive_any (w : World) : Calls Tryd.prog 10 #[] w fun e w' => e = .returned (.bool true) ∧ Below w.heap.size w w' := by
  go_enter Tryd.func10, Tryd.ntmps10
  go_wp2_with fail
  refine (implFloorAt _ _ [0, 4, 9] 4 _ (.inr ⟨w.heap.size, 0, rfl, by simp, fun k u hu => ?_⟩)).mono ?_
  · rw [Nat.zero_add, cell_of_row _ w.heap.size k _ _ (0, 0) (heap_alloc_new w _)]
    rw [← hu]; simp [ivs, iv]
  rintro e w1 ⟨r, rfl, hr, D1⟩
  obtain rfl := floorAt_one hr
  clear hr
  have D1 := hide D1
  go_wp2_with fail
  refine (implFloorAt none 0 [] 0 _ (Ints.nil _ _)).mono ?_
  rintro e w2 ⟨r, rfl, hr, D2⟩
  obtain rfl := floorAt_nil hr
  clear hr
  have D2 := hide D2
  go_wp2
  go_ret
  exact ⟨rfl, bthen (bthen ((Below.refl _ _).alloc (Nat.le_refl _) _) D1.out.below) D2.out.below⟩
end Go.Proofs.YtmekhjaeclgonaaDoor
