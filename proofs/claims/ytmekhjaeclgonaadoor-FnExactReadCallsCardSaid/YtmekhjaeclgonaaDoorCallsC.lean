/- Calls: copies, comparisons and marks of the laws. -/
import Derived.Test.YtmekhjaeclgonaaDoorCallsB
namespace Go.Proofs.YtmekhjaeclgonaaDoor
open Go.RowKit

/-- What toBoolS has made after k rounds. -/
def toB (xs : List Bool) (k : Nat) : List Bool := xs.take k ++ List.replicate (xs.length - k) false
theorem toB_zero (xs : List Bool) : toB xs 0 = List.replicate xs.length false := by simp [toB]
theorem toB_all (xs : List Bool) : toB xs xs.length = xs := by simp [toB]
theorem toB_len (xs : List Bool) {k : Nat} (hk : k ≤ xs.length) : (toB xs k).length = xs.length := by simp [toB]; omega
theorem toB_set {xs : List Bool} {k : Nat} {x : Bool} (hx : xs[k]? = some x) : (toB xs k).set k x = toB xs (k + 1) := by
  have hk := getElem?_lt hx
  unfold toB
  rw [take_snoc' xs k x hx, List.set_append_right _ _ (by simp; omega)]
  have e : xs.length - k = (xs.length - (k + 1)) + 1 := by omega
  have e2 : k - (xs.take k).length = 0 := by simp; omega
  rw [e2, e, List.replicate_succ]
  simp
/-- A truth that marks. -/
def mk3 (k : Int) : Bool := k % 3 == 0
/-- The first j places are marked from k on. -/
def mkB (xs : List Bool) (k : Int) (j : Nat) : List Bool := (List.range j).map (fun (i : Nat) => mk3 (k + (i : Int))) ++ xs.drop j
theorem mkB_zero (xs : List Bool) (k : Int) : mkB xs k 0 = xs := by simp [mkB]
theorem mkB_len (xs : List Bool) (k : Int) {j : Nat} (hj : j ≤ xs.length) : (mkB xs k j).length = xs.length := by simp [mkB]; omega
theorem mkB_set {xs : List Bool} {k : Int} {j : Nat} (hj : j < xs.length) : (mkB xs k j).set j (mk3 (k + j)) = mkB xs k (j + 1) := by
  unfold mkB
  rw [List.set_append_right _ _ (by simp), List.range_succ, List.map_append, List.drop_eq_getElem_cons hj]
  simp only [List.length_map, List.length_range, Nat.sub_self, List.set_cons_zero, List.append_assoc]
  rfl
theorem mkB_get {xs : List Bool} {k : Int} {j i : Nat} (hi : i < j) : (mkB xs k j)[i]? = some (mk3 (k + i)) := by
  unfold mkB; rw [List.getElem?_append_left (by simpa using hi)]; simp [hi]
/-- All marked. -/
def mkAll (xs : List Bool) (k : Int) : List Bool := mkB xs k xs.length
theorem mkAll_len (xs : List Bool) (k : Int) : (mkAll xs k).length = xs.length := mkB_len xs k (Nat.le_refl _)
theorem mkAll_get {xs : List Bool} {k : Int} {i : Nat} (hi : i < xs.length) : (mkAll xs k)[i]? = some (mk3 (k + i)) := mkB_get hi

theorem eqBoolS_any (A A' : Option Addr) (c c' : Nat) (xs ys : List Bool) (w : World) (h : Bools w A xs) (h' : Bools w A' ys) (hl : xs.length ≤ 140737488351232) :
    Calls Tryd.prog 29 #[.slice A xs.length c, .slice A' ys.length c'] w fun e w' => e = .returned (.bool (eqL xs ys)) ∧ Dr w w' := by
  have H := hide h; have H' := hide h'; clear h h'
  by_cases hn : xs.length = ys.length
  · have HN := hide hn
    have hn1 : ((xs.length : Int) != (ys.length : Int)) = false := by simp; omega
    clear hn
    go_enter Tryd.func29, Tryd.ntmps29
    go_wp2
    go_loopw [5] (fun i wr => ∃ k : Nat, k ≤ xs.length ∧ i = .int .i64 k ∧ Hid (Dr w wr) ∧ Hid (xs.take k = ys.take k)) (fun i _ => xs.length - (intOf i).toNat)
    case atStart => exact ⟨0, by omega, rfl, Dr.refl _, by simp [Hid]⟩
    case round =>
      obtain ⟨k, hk, rfl, hD, HE⟩ := hrel
      by_cases hlt : k < xs.length
      · have hlt' : k < ys.length := by have := HN.out; omega
        obtain ⟨b, off, x, rfl, -, hx, hc⟩ := (H.out.dr hD.out).at hlt
        obtain ⟨b', off', y, rfl, -, hy, hc'⟩ := (H'.out.dr hD.out).at hlt'
        cases x <;> cases y
        all_goals
          go_wp2
          go_quiet (fail)
          go_wp2
        · go_roundw
          case rel => exact ⟨k + 1, by omega, by go_num, hD.out.more _, eqL_step HE hx hy rfl⟩
          case measure => simp [intOf]; omega
        · go_ret
          exact ⟨ret_bool (eqL_bad hx hy (by simp)).symm, hD.out.more _⟩
        · go_ret
          exact ⟨ret_bool (eqL_bad hx hy (by simp)).symm, hD.out.more _⟩
        · go_roundw
          case rel => exact ⟨k + 1, by omega, by go_num, hD.out.more _, eqL_step HE hx hy rfl⟩
          case measure => simp [intOf]; omega
      · go_wp2
        go_ret
        exact ⟨ret_bool (eqL_done HE (by omega) (by have := HN.out; omega)).symm, hD.out⟩
  · have hn1 : ((xs.length : Int) != (ys.length : Int)) = true := by simp; omega
    go_enter Tryd.func29, Tryd.ntmps29
    go_wp2
    go_ret
    exact ⟨ret_bool (eqL_len hn).symm, Dr.refl _⟩
theorem sameBools_any (A A' : Option Addr) (c c' : Nat) (xs ys : List Bool) (w : World) (h : Bools w A xs) (h' : Bools w A' ys) (hl : xs.length ≤ 140737488351232) :
    Calls Tryd.prog 26 #[.slice A xs.length c, .slice A' ys.length c'] w fun e w' => e = .returned (.bool (eqL xs ys)) ∧ Dr w w' := by
  have H := hide h; have H' := hide h'; clear h h'
  by_cases hn : xs.length = ys.length
  · have HN := hide hn
    have hn1 : ((xs.length : Int) != (ys.length : Int)) = false := by simp; omega
    clear hn
    go_enter Tryd.func26, Tryd.ntmps26
    go_wp2
    go_loopw [5] (fun i wr => ∃ k : Nat, k ≤ xs.length ∧ i = .int .i64 k ∧ Hid (Dr w wr) ∧ Hid (xs.take k = ys.take k)) (fun i _ => xs.length - (intOf i).toNat)
    case atStart => exact ⟨0, by omega, rfl, Dr.refl _, by simp [Hid]⟩
    case round =>
      obtain ⟨k, hk, rfl, hD, HE⟩ := hrel
      by_cases hlt : k < xs.length
      · have hlt' : k < ys.length := by have := HN.out; omega
        obtain ⟨b, off, x, rfl, -, hx, hc⟩ := (H.out.dr hD.out).at hlt
        obtain ⟨b', off', y, rfl, -, hy, hc'⟩ := (H'.out.dr hD.out).at hlt'
        cases x <;> cases y
        all_goals
          go_wp2
          go_quiet (fail)
          go_wp2
        · go_roundw
          case rel => exact ⟨k + 1, by omega, by go_num, hD.out.more _, eqL_step HE hx hy rfl⟩
          case measure => simp [intOf]; omega
        · go_ret
          exact ⟨ret_bool (eqL_bad hx hy (by simp)).symm, hD.out.more _⟩
        · go_ret
          exact ⟨ret_bool (eqL_bad hx hy (by simp)).symm, hD.out.more _⟩
        · go_roundw
          case rel => exact ⟨k + 1, by omega, by go_num, hD.out.more _, eqL_step HE hx hy rfl⟩
          case measure => simp [intOf]; omega
      · go_wp2
        go_ret
        exact ⟨ret_bool (eqL_done HE (by omega) (by have := HN.out; omega)).symm, hD.out⟩
  · have hn1 : ((xs.length : Int) != (ys.length : Int)) = true := by simp; omega
    go_enter Tryd.func26, Tryd.ntmps26
    go_wp2
    go_ret
    exact ⟨ret_bool (eqL_len hn).symm, Dr.refl _⟩
theorem markBoolS_any (A : Option Addr) (c lo hi : Nat) (xs : List Bool) (k : Int) (w : World) (h : BO lo hi w A xs) (hl : xs.length ≤ 1048576) (k0 : 0 ≤ k) (k1 : k ≤ 1000000000) :
    Calls Tryd.prog 30 #[.slice A xs.length c, .int .i64 k] w fun e w' => e = .returned (.int .i64 (k + xs.length)) ∧ BO lo hi w' A (mkAll xs k) ∧ w.grownBy w' (rowOf A xs.length) := by
  have H := hide h; clear h
  go_enter Tryd.func30, Tryd.ntmps30
  go_wp2
  go_loopw [1, 5] (fun q i wr => ∃ j : Nat, j ≤ xs.length ∧ i = .int .i64 j ∧ q = .int .i64 (k + j) ∧ Hid (BO lo hi wr A (mkB xs k j)) ∧ Hid (w.grownBy wr (rowOf A xs.length))) (fun _ i _ => xs.length - (intOf i).toNat)
  case atStart => exact ⟨0, by omega, rfl, by go_num, by rw [mkB_zero]; exact H, World.grownBy.refl _ _⟩
  case round =>
    obtain ⟨j, hj, rfl, rfl, HO, HG⟩ := hrel
    by_cases hlt : j < xs.length
    · obtain ⟨b, off, x, rfl, hb, -, hc, hf⟩ := HO.out.at (k := j) (by rw [mkB_len xs k hj]; exact hlt)
      have HS := hide (HO.out.set j (mk3 (k + j)))
      rw [mkB_set hlt] at HS
      have HM : Hid (mk3 (k + j) = ((k + j) % 3 == 0)) := rfl
      go_wp2
      go_roundw
      case rel =>
        rw [← HM.out]
        refine ⟨j + 1, by omega, by go_num, by go_num, HS, ?_⟩
        have hr : rowOf (some ⟨b, off, none⟩) xs.length = some b := by unfold rowOf; rw [if_neg (by omega)]; rfl
        rw [hr] at HG ⊢
        exact grown_then' HG.out (grown_one _ _ _ _)
      case measure => simp [intOf]; omega
    · obtain rfl : j = xs.length := by omega
      go_wp2
      go_ret
      exact ⟨rfl, HO.out, HG.out⟩
theorem heldBoolS_any (A : Option Addr) (c : Nat) (xs : List Bool) (k : Int) (w : World) (h : Bools w A (mkAll xs k)) (hl : xs.length ≤ 1048576) (k0 : 0 ≤ k) (k1 : k ≤ 1000000000) :
    Calls Tryd.prog 31 #[.slice A xs.length c, .int .i64 k] w fun e w' => e = .returned (.int .i64 (k + xs.length)) ∧ w = w' := by
  have H := hide h; clear h
  go_enter Tryd.func31, Tryd.ntmps31
  go_wp2
  go_loop [1, 5] (fun q i => ∃ j : Nat, j ≤ xs.length ∧ i = .int .i64 j ∧ q = .int .i64 (k + j)) (fun _ i => xs.length - (intOf i).toNat)
  case atStart => exact ⟨0, by omega, rfl, by go_num⟩
  case round =>
    obtain ⟨j, hj, rfl, rfl⟩ := hrel
    by_cases hlt : j < xs.length
    · obtain ⟨b, off, x, rfl, hb, hx, hc⟩ := H.out.at (k := j) (by rw [mkAll_len]; exact hlt)
      obtain rfl : x = ((k + j) % 3 == 0) := by have := hx.out; rw [mkAll_get hlt] at this; injection this with this; exact this.symm
      go_wp2
      go_round
      case rel => exact ⟨j + 1, by omega, by go_num, by go_num⟩
      case measure => simp [intOf]; omega
    · obtain rfl : j = xs.length := by omega
      go_wp2
      go_ret
      exact ⟨rfl, rfl⟩
end Go.Proofs.YtmekhjaeclgonaaDoor
