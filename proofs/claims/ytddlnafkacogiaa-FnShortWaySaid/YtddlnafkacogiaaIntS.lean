import Derived.Test.YtddlnafkacogiaaSmall
namespace Go.Proofs.Ytddlnafkacogiaa
open Go.RowKit

theorem info_int : (Try.prog.info? 3).map (fun i => (i.zero, i.size, i.bytes)) = some (some (.int .i64 0), 1, 8) := by kernel_rfl

/-- What toIntS has made after k rounds. -/
def tocells (xs : List Int) (k : Nat) : List Value := ivs (xs.take k) ++ List.replicate (xs.length - k) (.int .i64 0)
theorem tocells_zero (xs : List Int) : tocells xs 0 = List.replicate xs.length (.int .i64 0) := by simp [tocells, ivs]
theorem tocells_all (xs : List Int) : tocells xs xs.length = ivs xs := by simp [tocells]
theorem tocells_set {xs : List Int} {k : Nat} {x : Int} (hx : xs[k]? = some x) : (tocells xs k).set k (.int .i64 x) = tocells xs (k + 1) := by
  have hk := getElem?_lt hx
  unfold tocells
  rw [take_snoc' xs k x hx, List.set_append_right _ _ (by simp [ivs]; omega)]
  have e : xs.length - k = (xs.length - (k + 1)) + 1 := by omega
  have e2 : k - (ivs (xs.take k)).length = 0 := by simp [ivs]; omega
  rw [e2, e, List.replicate_succ]
  simp [ivs, iv]
theorem tocells_at {xs : List Int} {k : Nat} (hk : k < xs.length) : (tocells xs k)[k]? = some (.int .i64 0) := by
  unfold tocells
  rw [List.getElem?_append_right (by simp [ivs]; omega)]
  simp [ivs, List.getElem?_replicate]; omega

theorem toIntS_any (A : Option Addr) (c : Nat) (xs : List Int) (w : World) (h : Ints w A xs) (hl : xs.length ≤ 1048576) :
    Calls Try.prog 8 #[.slice A xs.length c] w fun e w' => ∃ A', e = .returned (.slice A' xs.length xs.length) ∧ Ints w' A' xs ∧ Fr w.heap.size w' A' xs.length ∧ Below w.heap.size w w' := by
  have H := hide h; clear h
  obtain ⟨i0, hi, hz0, hz1, hz2⟩ := info_parts info_int
  go_enter Try.func8, Try.ntmps8
  go_wp2_with (at_make; refine wpList_make_full _ rfl (.tmp 6) (.tmp 6) 22 rfl w.heap.size 3 i0 (.int .i64 0) 1 Try.underlying22 hi hz0 hz1 .i64 .i64 _ _ xs.length rfl rfl rfl rfl (by rw [hz2]; omega) (by unfold maxLen; omega) (Nat.le_refl _) ?_; intro w1 hown hgrow)
  have hb1 : Below w.heap.size w w1 := (Below.refl _ _).grown hgrow (Nat.le_refl _) (by simp)
  rw [show (madeCells (Value.int .i64 0).cells (xs.length * 1)).toList = tocells xs 0 from by rw [tocells_zero, Nat.mul_one]; exact toList_madeCells_one _ _] at hown
  have HO := hide hown; have HB := hide hb1; clear hown hgrow hb1 hi hz0 hz1 hz2
  go_wp2
  go_loopw [4] (fun i wr => ∃ k : Nat, k ≤ xs.length ∧ i = .int .i64 k ∧ Hid (wr.ownsRow w.heap.size 3 1 (.slice (some ⟨w.heap.size, 0, none⟩) xs.length xs.length) xs.length (tocells xs k)) ∧ Hid (Below w.heap.size w wr)) (fun i _ => xs.length - (intOf i).toNat)
  case atStart => exact ⟨0, by omega, rfl, HO, HB⟩
  case round =>
    clear HO HB
    obtain ⟨k, hk, rfl, HO, HB⟩ := hrel
    by_cases hlt : k < xs.length
    · obtain ⟨b, off, x, rfl, hx, hc⟩ := (H.out.below HB.out).at hlt
      have hg : wr.cell? ⟨w.heap.size, k, none⟩ = some (.int .i64 0) := (HO.out.cellAt k (by omega)).trans (tocells_at hlt)
      have hf : wr.frozen? ⟨w.heap.size, k, none⟩ = false := HO.out.frozenAt k
      go_wp2
      go_roundw
      case rel =>
        have hs := HO.out.stored k (.int .i64 x)
        rw [tocells_set hx] at hs
        exact ⟨k + 1, by omega, by go_num, hs.1, HB.out.setCell (Nat.le_refl _) _⟩
      case measure => simp [intOf]; omega
    · obtain rfl : k = xs.length := by omega
      have hown := HO.out
      rw [tocells_all] at hown
      have HO2 := hide hown; clear hown
      go_wp2
      go_ret
      exact ⟨_, rfl, owns_ints HO2.out, owns_fr HO2.out, HB.out⟩
theorem eqIntS_any (A A' : Option Addr) (c c' : Nat) (xs ys : List Int) (w : World) (h : Ints w A xs) (h' : Ints w A' ys) (hl : xs.length ≤ 140737488351232) :
    Calls Try.prog 10 #[.slice A xs.length c, .slice A' ys.length c'] w fun e w' => e = .returned (.bool (eqL xs ys)) ∧ Dr w w' := by
  have H := hide h; have H' := hide h'; clear h h'
  by_cases hn : xs.length = ys.length
  · have HN := hide hn
    have hn1 : ((xs.length : Int) != (ys.length : Int)) = false := by simp; omega
    clear hn
    go_enter Try.func10, Try.ntmps10
    go_wp2
    go_loopw [5] (fun i wr => ∃ k : Nat, k ≤ xs.length ∧ i = .int .i64 k ∧ Hid (Dr w wr) ∧ Hid (xs.take k = ys.take k)) (fun i _ => xs.length - (intOf i).toNat)
    case atStart => exact ⟨0, by omega, rfl, Dr.refl _, by simp [Hid]⟩
    case round =>
      obtain ⟨k, hk, rfl, hD, HE⟩ := hrel
      by_cases hlt : k < xs.length
      · have hlt' : k < ys.length := by have := HN.out; omega
        obtain ⟨b, off, x, rfl, hx, hc⟩ := (H.out.dr hD.out).at hlt
        obtain ⟨b', off', y, rfl, hy, hc'⟩ := (H'.out.dr hD.out).at hlt'
        go_wp2
        go_quiet (fail)
        go_wp2
        case roundEnd =>
          go_roundw
          case rel =>
            have e : x = y := by rename_i h; simpa using h
            exact ⟨k + 1, by omega, by go_num, hD.out.more _, eqL_step HE hx hy e⟩
          case measure => simp [intOf]; omega
        go_ret
        exact ⟨ret_bool (eqL_bad hx hy (by rename_i h; simpa using h)).symm, hD.out.more _⟩
      · go_wp2
        go_ret
        exact ⟨ret_bool (eqL_done HE (by omega) (by have := HN.out; omega)).symm, hD.out⟩
  · have hn1 : ((xs.length : Int) != (ys.length : Int)) = true := by simp; omega
    go_enter Try.func10, Try.ntmps10
    go_wp2
    go_ret
    exact ⟨ret_bool (eqL_len hn).symm, Dr.refl _⟩
end Go.Proofs.Ytddlnafkacogiaa
