/- slices.Clone, slices.Reverse, turned, at []int: walked in place. -/
import Derived.Test.YtddlnafkacogiaaOwn
import Derived.RegionTactic
import Derived.Lib.SliceRun
namespace Go.Proofs.Ytddlnafkacogiaa
open Go.RowKit

theorem OwnI.form2 {LO : Nat} {w : World} {v : Value} {xs : List Int} (h : OwnI LO w v xs) (hn : 0 < xs.length) : ∃ g c, v = .slice (some ⟨g, 0, none⟩) xs.length c ∧ LO ≤ g := by
  obtain ⟨g, c, e, hg, -⟩ := World.ownsRow.form h hn
  exact ⟨g, c, e, hg⟩
/-- The row after k exchanges. -/
def revK (xs : List Int) (k : Nat) : List Int := (List.range xs.length).map fun p => if p < k ∨ xs.length ≤ p + k then (xs[xs.length - 1 - p]?).getD 0 else (xs[p]?).getD 0
theorem revK_len (xs : List Int) (k : Nat) : (revK xs k).length = xs.length := by simp [revK]
theorem revK_get {xs : List Int} {k p : Nat} (h : p < xs.length) : (revK xs k)[p]? = some (if p < k ∨ xs.length ≤ p + k then (xs[xs.length - 1 - p]?).getD 0 else (xs[p]?).getD 0) := by
  simp [revK, List.getElem?_map, List.getElem?_range h]
theorem revK_zero (xs : List Int) : revK xs 0 = xs := by
  apply List.ext_getElem?
  intro p
  by_cases h : p < xs.length
  · rw [revK_get h, if_neg (by omega), List.getElem?_eq_getElem h]; rfl
  · rw [List.getElem?_eq_none (by rw [revK_len]; omega), List.getElem?_eq_none (by omega)]
theorem revK_all {xs : List Int} {k : Nat} (h : xs.length ≤ 2 * k + 1) : revK xs k = xs.reverse := by
  apply List.ext_getElem?
  intro p
  by_cases hp : p < xs.length
  · rw [revK_get hp, List.getElem?_reverse hp]
    by_cases hq : p < k ∨ xs.length ≤ p + k
    · rw [if_pos hq, List.getElem?_eq_getElem (show xs.length - 1 - p < xs.length by omega)]; rfl
    · rw [if_neg hq, List.getElem?_eq_getElem hp]
      have : xs.length - 1 - p = p := by omega
      rw [List.getElem?_eq_getElem (show xs.length - 1 - p < xs.length by omega)]
      simp [this]
  · rw [List.getElem?_eq_none (by rw [revK_len]; omega), List.getElem?_eq_none (by simp; omega)]
theorem revK_step {xs : List Int} {k : Nat} {x y : Int} (h : 2 * k + 1 < xs.length) (hx : (revK xs k)[k]? = some x) (hy : (revK xs k)[xs.length - 1 - k]? = some y) : ((revK xs k).set k y).set (xs.length - 1 - k) x = revK xs (k + 1) := by
  rw [revK_get (by omega), if_neg (by omega)] at hx hy
  injection hx with hx; injection hy with hy
  apply List.ext_getElem?
  intro p
  by_cases hp : p < xs.length
  · rw [revK_get hp, List.getElem?_set, List.getElem?_set]
    simp only [revK_len, List.length_set]
    by_cases h1 : xs.length - 1 - k = p
    · subst h1
      rw [if_pos rfl, if_pos hp, if_pos (by omega), ← hx]
      rw [show xs.length - 1 - (xs.length - 1 - k) = k from by omega]
    · rw [if_neg h1]
      by_cases h2 : k = p
      · subst h2
        rw [if_pos rfl, if_pos hp, if_pos (by omega), ← hy]
      · rw [if_neg h2, revK_get hp]
        by_cases h3 : p < k ∨ xs.length ≤ p + k
        · rw [if_pos h3, if_pos (by omega)]
        · rw [if_neg h3, if_neg (by omega)]
  · rw [List.getElem?_eq_none (by simp [revK_len]; omega), List.getElem?_eq_none (by rw [revK_len]; omega)]
theorem OwnI.stored {LO g c k : Nat} {w : World} {xs : List Int} (h : OwnI LO w (.slice (some ⟨g, 0, none⟩) xs.length c) xs) (y : Int) : OwnI LO (w.setCell ⟨g, k, none⟩ (.int .i64 y)) (.slice (some ⟨g, 0, none⟩) xs.length c) (xs.set k y) := by
  have := (World.ownsRow.stored h k (.int .i64 y)).1
  rw [show (ivs xs).set k (.int .i64 y) = ivs (xs.set k y) from by simp [ivs, iv, List.map_set]] at this
  unfold OwnI; rw [List.length_set]; exact this
theorem OwnI.stored' {LO g c k n : Nat} {w : World} {xs : List Int} (hn : n = xs.length) (h : OwnI LO w (.slice (some ⟨g, 0, none⟩) n c) xs) (y : Int) : OwnI LO (w.setCell ⟨g, k, none⟩ (.int .i64 y)) (.slice (some ⟨g, 0, none⟩) n c) (xs.set k y) := by
  subst hn; exact h.stored y
theorem OwnI.cellAt {LO g c k n : Nat} {w : World} {xs : List Int} {x : Int} (hn : n = xs.length) (h : OwnI LO w (.slice (some ⟨g, 0, none⟩) n c) xs) (hx : xs[k]? = some x) : w.cell? ⟨g, k, none⟩ = some (.int .i64 x) ∧ w.frozen? ⟨g, k, none⟩ = false := by
  subst hn
  have hk := getElem?_lt hx
  have h0 : w.ownsRow LO 3 1 (.slice (some ⟨g, 0, none⟩) xs.length c) xs.length (ivs xs) := h
  refine ⟨?_, h0.frozenAt k⟩
  rw [h0.cellAt k (by omega)]; simp [ivs, iv, hx]
theorem clone_any (A : Option Addr) (c n : Nat) (xs : List Int) (w : World) (hn : n = xs.length) (h : Ints w A xs) (hl : xs.length ≤ 1048576) :
    Calls Try.prog 27 #[.slice A n c] w fun e w' => ∃ v, e = .returned v ∧ OwnI w.heap.size w' v xs ∧ Below w.heap.size w w' := by
  subst hn
  have H := hide h; clear h
  have q : ∀ (w : World) (a : Option Addr) (n c n' c' : Nat), (binOp .eql 22 (.slice a n c) (.slice none n' c')).run Try.prog w = .ok (.bool a.isNone) w := fun w a n c n' c' => Lib.run_eql_slice_nil w _ _ a n c n' c' Try.underlying22
  rcases A with _ | ad
  · have hx : xs = [] := by
      rcases H.out with h | ⟨_, _, h, -⟩
      · simpa [ivs] using h
      · cases h
    subst hx
    go_enter Try.func27, Try.ntmps27
    go_wp2_with fail
    go_ret
    exact ⟨_, rfl, OwnI.nil _ _, Below.refl _ _⟩
  · go_enter Try.func27, Try.ntmps27
    have b0 : Below w.heap.size w (w.alloc (.cells #[] 3)) := (Below.refl _ _).alloc (Nat.le_refl _) _
    go_wp2_with (at_builtin; refine wp_app rfl (.tmp 5) (.tmp 6) rfl w.heap.size _ (.slice (some ⟨w.heap.size, 0, none⟩) 0 0) [] (some ad) xs.length c xs rfl rfl rfl (OwnI.lit [] #[] rfl (Nat.le_refl _) (by simp)) (H.out.below b0) (by simp; omega) b0.size ?_; intro v' w1 hown hb)
    have O := hide hown; have B := hide (b0.trans hb)
    clear hown hb b0
    go_wp2_with fail
    go_ret
    exact ⟨v', rfl, O.out, B.out⟩
theorem reverse_any (LO : Nat) (v : Value) (xs : List Int) (w : World) (h : OwnI LO w v xs) (hl : xs.length ≤ 1048576) (hL : LO ≤ w.heap.size) :
    Calls Try.prog 39 #[v] w fun e w' => e = .returned (.tuple #[]) ∧ OwnI LO w' v xs.reverse ∧ Below LO w w' := by
  by_cases h0 : xs.length = 0
  · have hx := List.eq_nil_of_length_eq_zero h0
    subst hx
    have O := hide h
    obtain ⟨A, c, rfl, -, -⟩ := h.form
    go_enter Try.func39, Try.ntmps39
    go_wp2_with fail
    go_loopw [2, 3] (fun i j wr => i = .int .i64 0 ∧ j = .int .i64 (-1) ∧ wr = w) (fun _ _ _ => 0)
    case atStart => exact ⟨rfl, rfl, rfl⟩
    case round =>
      obtain ⟨rfl, rfl, rfl⟩ := hrel
      go_wp2_with fail
      go_end0
      exact ⟨rfl, by simpa using O.out, Below.refl _ _⟩
  · obtain ⟨g, c, rfl, hg⟩ := h.form2 (by omega)
    have O : Hid (OwnI LO w (.slice (some ⟨g, 0, none⟩) xs.length c) (revK xs 0)) := by rw [revK_zero]; exact h
    have B : Hid (Below LO w w) := Below.refl _ _
    clear h
    go_enter Try.func39, Try.ntmps39
    go_wp2_with fail
    go_loopw [2, 3] (fun i j wr => ∃ k : Nat, 2 * k ≤ xs.length + 1 ∧ i = .int .i64 (k : Int) ∧ j = .int .i64 ((xs.length : Int) - 1 - k) ∧ Hid (OwnI LO wr (.slice (some ⟨g, 0, none⟩) xs.length c) (revK xs k)) ∧ Hid (Below LO w wr)) (fun i _ _ => xs.length - (intOf i).toNat)
    case atStart => exact ⟨0, by omega, rfl, by simp, O, B⟩
    case round =>
      clear O B
      obtain ⟨k, hk, rfl, rfl, O, B⟩ := hrel
      by_cases hlt : (k : Int) < (xs.length : Int) - 1 - k
      · obtain ⟨x, hx⟩ : ∃ x, (revK xs k)[k]? = some x := ⟨_, revK_get (by omega)⟩
        obtain ⟨y, hy⟩ : ∃ y, (revK xs k)[xs.length - 1 - k]? = some y := ⟨_, revK_get (by omega)⟩
        obtain ⟨j, hj⟩ : ∃ j : Nat, (j : Int) = (xs.length : Int) - 1 - k := ⟨xs.length - 1 - k, by omega⟩
        have hj' : xs.length - 1 - k = j := by omega
        rw [hj'] at hy
        rw [← hj] at hlt ⊢
        have hjl : j < xs.length := by omega
        have HS := hide (revK_step (by omega) hx (by rw [hj']; exact hy))
        rw [hj'] at HS
        obtain ⟨ci, fi⟩ := O.out.cellAt (revK_len xs k).symm hx
        obtain ⟨cj, fj⟩ := O.out.cellAt (revK_len xs k).symm hy
        have O1 := hide (O.out.stored' (k := k) (revK_len xs k).symm y)
        have O2 := hide (O1.out.stored' (k := j) (by rw [List.length_set, revK_len]) x)
        rw [HS.out] at O2
        have B2 := hide ((B.out.setCell (p := ⟨g, k, none⟩) hg (.int .i64 y)).setCell (p := ⟨g, j, none⟩) hg (.int .i64 x))
        have HJ := hide hj
        have hk1 : k < xs.length := by omega
        clear hj hj' hx hy
        go_wp2_with fail
        go_region
        go_wp2_with fail
        go_roundw
        case rel => exact ⟨k + 1, by have := HJ.out; omega, by go_num, by rw [HJ.out]; go_num, own_after O2.out (below_drewN (Below.refl _ _) 1), below_drewN B2.out 1⟩
        case measure => simp [intOf]; omega
      · have HE := hide (revK_all (xs := xs) (k := k) (by omega))
        rw [HE.out] at O
        go_wp2_with fail
        go_end0
        exact ⟨rfl, O.out, B.out⟩
theorem turned_any (A : Option Addr) (c n : Nat) (xs : List Int) (w : World) (hn : n = xs.length) (h : Ints w A xs) (hl : xs.length ≤ 1048576) :
    Calls Try.prog 28 #[.slice A n c] w fun e w' => ∃ v, e = .returned v ∧ OwnI w.heap.size w' v xs.reverse ∧ Below w.heap.size w w' := by
  have H := hide h; clear h
  have HN := hide hn; clear hn
  go_enter Try.func28, Try.ntmps28
  go_wp2_with fail
  refine (clone_any A c n xs _ HN.out H.out hl).mono ?_
  rintro e w1 ⟨v, rfl, o, b⟩
  have O := hide o; have B := hide b; have hs := b.size
  clear o b
  go_wp2_with fail
  refine (reverse_any w.heap.size v xs _ O.out hl hs).mono ?_
  rintro e w2 ⟨rfl, o, b⟩
  have O2 := hide o; have B2 := hide (B.out.trans b)
  clear o b
  go_wp2_with fail
  go_ret
  exact ⟨v, rfl, O2.out, B2.out⟩
end Go.Proofs.Ytddlnafkacogiaa
