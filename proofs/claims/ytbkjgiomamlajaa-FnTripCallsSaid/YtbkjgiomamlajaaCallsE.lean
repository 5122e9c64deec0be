/- How many calls; the text of calls. -/
import Derived.Test.YtbkjgiomamlajaaCallsD
import Derived.Deep.RegionHeld3
import Derived.Deep.DrawnRows
import Derived.Lib.SlBytesRow
namespace Go.Proofs.Ytbkjgiomamlajaa
open Go.RowKit
attribute [local go_sem ↓] Go.wp_at_zero Go.wp_at_succ

theorem manyB_no {C : Cl} (h : callsB C = false) : manyB C = -1 := by unfold manyB; rw [h]; rfl
theorem manyB_yes {C : Cl} (h : callsB C = true) : manyB C = manyC C := by unfold manyB; rw [h]; rfl
/-- The calls at the first k floors. -/
def manyTo (C : Cl) (k : Nat) : Int := cnt (C.up.take k) + cnt (C.dn.take k) + cnt (C.car.take k)
theorem manyTo_bd (C : Cl) (k : Nat) : 0 ≤ manyTo C k ∧ manyTo C k ≤ 3 * k := by
  unfold manyTo
  have h1 := cnt_bd (C.up.take k); have h2 := cnt_bd (C.dn.take k); have h3 := cnt_bd (C.car.take k)
  have : (C.up.take k).length ≤ k := by simp; omega
  have : (C.dn.take k).length ≤ k := by simp; omega
  have : (C.car.take k).length ≤ k := by simp; omega
  omega
theorem manyTo_succ {C : Cl} {k : Nat} {x y z : Bool} (hx : C.up[k]? = some x) (hy : C.dn[k]? = some y) (hz : C.car[k]? = some z) : manyTo C (k + 1) = manyTo C k + (if x then 1 else 0) + (if y then 1 else 0) + (if z then 1 else 0) := by
  unfold manyTo; rw [cnt_snoc hx, cnt_snoc hy, cnt_snoc hz]; omega
theorem manyTo_all {C : Cl} (h : callsP C) {k : Nat} (hk : C.car.length ≤ k) : manyTo C k = manyC C := by
  obtain ⟨-, -, h3, h4, -, -⟩ := h
  unfold manyTo manyC; rw [List.take_of_length_le (by omega), List.take_of_length_le (by omega), List.take_of_length_le hk]
theorem countTrue_any (A : Option Addr) (c : Nat) (xs : List Bool) (w : World) (h : Bools w A xs) (hl : xs.length ≤ 1000) :
    Calls Try.prog 55 #[.slice A xs.length c] w fun e w' => e = .returned (.int .i64 (cnt xs)) ∧ w = w' := by
  have H := hide h; clear h
  go_enter Try.func55, Try.ntmps55
  go_wp2
  go_loop [3, 5, 8] (fun s u i => ∃ (k : Nat) (t : Int), k ≤ xs.length ∧ i = .int .i64 k ∧ s = .int .i64 t ∧ 0 ≤ t ∧ t ≤ k ∧ Hid (t = cnt (xs.take k))) (fun _ _ i => xs.length - (intOf i).toNat)
  case atStart => exact ⟨0, 0, by omega, rfl, rfl, by omega, by omega, rfl⟩
  case round =>
    obtain ⟨k, t, hk, rfl, rfl, t0, t1, ht⟩ := hrel
    by_cases hlt : k < xs.length
    · obtain ⟨b, off, x, rfl, hb, hx, hc⟩ := H.out.at hlt
      have HS := hide (cnt_snoc hx.out)
      cases x
      · go_wp2
        go_round
        case rel => exact ⟨k + 1, t, by omega, by go_num, rfl, by omega, by omega, by rw [HS.out, ht.out]; simp [Hid]⟩
        case measure => simp [intOf]; omega
      · go_wp2
        go_round
        case rel => exact ⟨k + 1, t + 1, by omega, by go_num, rfl, by omega, by omega, by rw [HS.out, ht.out]; simp [Hid]⟩
        case measure => simp [intOf]; omega
    · go_wp2
      go_ret
      exact ⟨ret_int (by rw [ht.out, List.take_of_length_le (by omega)]), rfl⟩
theorem implCallsMany (A0 A1 A2 : Option Addr) (c0 c1 c2 : Nat) (C : Cl) (w : World) (h : CR w A0 A1 A2 C) :
    Calls Try.prog 22 #[.agg #[.slice A0 C.up.length c0, .slice A1 C.dn.length c1, .slice A2 C.car.length c2]] w fun e w' => e = .returned (.int .i64 (manyB C)) ∧ Below w.heap.size w w' := by
  have H := hide h; clear h
  go_enter Try.func22, Try.ntmps22
  go_wp2_with fail
  refine calls_name fun W hW => ?_
  have X1 : Hid (Box W w.heap.size #[.slice A0 C.up.length c0, .slice A1 C.dn.length c1, .slice A2 C.car.length c2]) := by rw [hW]; exact Box.new rfl
  have BW : Hid (Below w.heap.size w W) := by rw [hW]; exact (Below.refl _ _).alloc (Nat.le_refl _) _
  clear hW
  refine (implCallsValid A0 A1 A2 c0 c1 c2 C _ (H.out.below BW.out)).mono ?_
  rintro e w1 ⟨rfl, b⟩
  replace X1 := hide (X1.out.below b)
  replace BW := hide (bthen BW.out b)
  replace H := hide (H.out.below BW.out)
  clear b
  cases hv : callsB C
  · go_wp2_with fail
    go_ret
    exact ⟨ret_int (manyB_no hv).symm, BW.out⟩
  · obtain ⟨h1, h2, h3, h4, -, -⟩ := callsB_iff.1 hv
    have HY : Hid (manyB C = cnt C.up + cnt C.dn + cnt C.car) := manyB_yes hv
    have k0 := cnt_bd C.up; have k1 := cnt_bd C.dn; have k2 := cnt_bd C.car
    have m0 : C.up.length ≤ 8 := by omega
    have m1 : C.dn.length ≤ 8 := by omega
    clear h3 h4
    have HD : Hid (CR w1.drew A0 A1 A2 C) := H.out.below (below_drewN (Below.refl _ _) 1)
    have X1_lt := X1.out.lt
    have X1_c0 := X1.out.at (i := 0) rfl; have X1_f0 := X1.out.frozen 0
    have X1_c1 := X1.out.at (i := 1) rfl; have X1_f1 := X1.out.frozen 1
    have X1_c2 := X1.out.at (i := 2) rfl; have X1_f2 := X1.out.frozen 2
    go_wp2_with fail
    go_region_held3 (fun W => W.cell? ⟨w.heap.size, 0, none⟩ = some (.slice A0 C.up.length c0) ∧ W.cell? ⟨w.heap.size, 1, none⟩ = some (.slice A1 C.dn.length c1) ∧ W.cell? ⟨w.heap.size, 2, none⟩ = some (.slice A2 C.car.length c2)) (go_keep) (first | (go_at_call 55; (with_reducible refine (countTrue_any A0 c0 C.up w1.drew HD.out.up (by omega)).mono ?_); rintro e w' ⟨rfl, rfl⟩) | (go_at_call 55; (with_reducible refine (countTrue_any A1 c1 C.dn w1.drew HD.out.dn (by omega)).mono ?_); rintro e w' ⟨rfl, rfl⟩) | (go_at_call 55; (with_reducible refine (countTrue_any A2 c2 C.car w1.drew HD.out.car (by omega)).mono ?_); rintro e w' ⟨rfl, rfl⟩))
    go_wp2
    go_ret
    have e1 : IntKind.i64.wrap (cnt C.up + cnt C.dn) = cnt C.up + cnt C.dn := IntWalk.i64_in _ (by omega)
    have e2 : IntKind.i64.wrap (cnt C.up + cnt C.dn + cnt C.car) = cnt C.up + cnt C.dn + cnt C.car := IntWalk.i64_in _ (by omega)
    exact ⟨ret_int (by rw [e1, e2, HY.out]), BW.out.drew⟩
/-- The bytes of truths. -/
def bits (xs : List Bool) : List UInt8 := xs.map fun b => if b then 49 else 48
theorem bits_len (xs : List Bool) : (bits xs).length = xs.length := by simp [bits]
theorem bits_snoc {xs : List Bool} {k : Nat} {x : Bool} (h : xs[k]? = some x) : bits (xs.take (k + 1)) = bits (xs.take k) ++ [if x then 49 else 48] := by
  rw [take_snoc' xs k x h]; simp [bits]
def str (l : List UInt8) : ByteArray := ⟨l.toArray⟩
theorem str_size (l : List UInt8) : (str l).size = l.length := rfl
theorem str_app (a b : List UInt8) : str a ++ str b = str (a ++ b) := by
  apply ByteArray.ext; simp [str]
/-- CallsText of valid calls. -/
def textC (C : Cl) : List UInt8 := bits C.up ++ [47] ++ bits C.dn ++ [47] ++ bits C.car
noncomputable def textB (C : Cl) : List UInt8 := if callsB C then textC C else []
theorem textB_no {C : Cl} (h : callsB C = false) : textB C = [] := by unfold textB; rw [h]; rfl
theorem textB_yes {C : Cl} (h : callsB C = true) : textB C = textC C := by unfold textB; rw [h]; rfl
theorem ret_str {a b : ByteArray} (h : a = b) : Ending.returned (.string a) = .returned (.string b) := by rw [h]
theorem textC_str (C : Cl) : str (bits C.up) ++ ⟨#[47]⟩ ++ str (bits C.dn) ++ ⟨#[47]⟩ ++ str (bits C.car) = str (textC C) := by
  unfold textC; rw [← str_app, ← str_app, ← str_app, ← str_app]; rfl
theorem str_small {xs : List Bool} (h : xs.length ≤ 8) : (str (bits xs)).size ≤ 8 := by rw [str_size, bits_len]; exact h
end Go.Proofs.Ytbkjgiomamlajaa
