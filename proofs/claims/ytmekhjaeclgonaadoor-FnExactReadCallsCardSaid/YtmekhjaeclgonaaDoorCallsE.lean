/- How many calls; the text of calls. -/
import Derived.Test.YtmekhjaeclgonaaDoorCallsD
import Derived.Deep.RegionHeld3
import Derived.Deep.DrawnRows
import Derived.Lib.SlBytesRow
namespace Go.Proofs.YtmekhjaeclgonaaDoor
open Go.RowKit
attribute [local go_sem ↓] Go.wp_at_zero Go.wp_at_succ

theorem manyB_no {C : Cl} (h : callsB C = false) : manyB C = -1 := by unfold manyB; rw [h]; rfl
theorem manyB_yes {C : Cl} (h : callsB C = true) : manyB C = manyC C := by unfold manyB; rw [h]; rfl
/-- The calls at the first k floors. -/
def manyTo (C : Cl) (k : Nat) : Int := cnt (C.up.take k) + cnt (C.dn.take k) + cnt (C.car.take k)
theorem manyTo_bd (C : Cl) (k : Nat) : 0 ≤ manyTo C k ∧ manyTo C k ≤ 3 * k := by
  unfold manyTo
  have h1 := cnt_bd (C.up.take k); have h2 := cnt_bd (C.dn.take k); have h3 := cnt_bd (C.car.take k)
  have : (C.up.take k).length ≤ k := by simp; omega
  have : (C.dn.take k).length ≤ k := by simp; omega
  have : (C.car.take k).length ≤ k := by simp; omega
  omega
theorem manyTo_succ {C : Cl} {k : Nat} {x y z : Bool} (hx : C.up[k]? = some x) (hy : C.dn[k]? = some y) (hz : C.car[k]? = some z) : manyTo C (k + 1) = manyTo C k + (if x then 1 else 0) + (if y then 1 else 0) + (if z then 1 else 0) := by
  unfold manyTo; rw [cnt_snoc hx, cnt_snoc hy, cnt_snoc hz]; omega
theorem manyTo_all {C : Cl} (h : callsP C) {k : Nat} (hk : C.car.length ≤ k) : manyTo C k = manyC C := by
  obtain ⟨-, -, h3, h4, -, -⟩ := h
  unfold manyTo manyC; rw [List.take_of_length_le (by omega), List.take_of_length_le (by omega), List.take_of_length_le hk]
/-- The bytes of truths. -/
def bits (xs : List Bool) : List UInt8 := xs.map fun b => if b then 49 else 48
theorem bits_len (xs : List Bool) : (bits xs).length = xs.length := by simp [bits]
theorem bits_snoc {xs : List Bool} {k : Nat} {x : Bool} (h : xs[k]? = some x) : bits (xs.take (k + 1)) = bits (xs.take k) ++ [if x then 49 else 48] := by
  rw [take_snoc' xs k x h]; simp [bits]
def str (l : List UInt8) : ByteArray := ⟨l.toArray⟩
theorem str_size (l : List UInt8) : (str l).size = l.length := rfl
theorem str_app (a b : List UInt8) : str a ++ str b = str (a ++ b) := by
  apply ByteArray.ext; simp [str]
theorem l8Bits_any (A : Option Addr) (c : Nat) (xs : List Bool) (w : World) (h : Bools w A xs) (hl : xs.length ≤ 1000) :
    Calls Tryd.prog 32 #[.slice A xs.length c] w fun e w' => e = .returned (.string (str (bits xs))) ∧ w = w' := by
  have H := hide h; clear h
  go_enter Tryd.func32, Tryd.ntmps32
  go_wp2
  go_loop [3, 4] (fun s i => ∃ (k : Nat) (t : ByteArray), k ≤ xs.length ∧ i = .int .i64 k ∧ s = .string t ∧ t.size ≤ k ∧ Hid (t = str (bits (xs.take k)))) (fun _ i => xs.length - (intOf i).toNat)
  case atStart => exact ⟨0, _, by omega, rfl, rfl, Nat.zero_le _, rfl⟩
  case round =>
    obtain ⟨k, t, hk, rfl, rfl, t0, ht⟩ := hrel
    by_cases hlt : k < xs.length
    · obtain ⟨b, off, x, rfl, hb, hx, hc⟩ := H.out.at hlt
      have HS := hide (bits_snoc hx.out)
      cases x
      · go_wp2
        go_round
        case rel => exact ⟨k + 1, _, by omega, by go_num, rfl, by rw [ByteArray.size_append]; show t.size + 1 ≤ k + 1; omega, by rw [HS.out, ht.out]; exact str_app _ [48]⟩
        case measure => simp [intOf]; omega
      · go_wp2
        go_round
        case rel => exact ⟨k + 1, _, by omega, by go_num, rfl, by rw [ByteArray.size_append]; show t.size + 1 ≤ k + 1; omega, by rw [HS.out, ht.out]; exact str_app _ [49]⟩
        case measure => simp [intOf]; omega
    · go_wp2
      go_ret
      exact ⟨by rw [ht.out, List.take_of_length_le (by omega)]; rfl, rfl⟩
theorem info_u8 : (Tryd.prog.info? 5).map (fun i => (i.zero, i.size, i.bytes)) = some (some (.int .u8 0), 1, 1) := by kernel_rfl
def u8s (l : List UInt8) : List Value := l.map fun c => .int .u8 (c.toNat : Int)
def txt (xs : List Bool) (k : Nat) : List Value := u8s (bits (xs.take k)) ++ List.replicate (xs.length - k) (.int .u8 0)
theorem txt_len (xs : List Bool) {k : Nat} (hk : k ≤ xs.length) : (txt xs k).length = xs.length := by simp [txt, u8s, bits]; omega
theorem txt_set {xs : List Bool} {k : Nat} {x : Bool} (hx : xs[k]? = some x) : (txt xs k).set k (.int .u8 (if x then 49 else 48)) = txt xs (k + 1) := by
  have hk := getElem?_lt hx
  unfold txt
  rw [bits_snoc hx, List.set_append_right _ _ (by simp [u8s, bits]; omega)]
  have e : xs.length - k = (xs.length - (k + 1)) + 1 := by omega
  have e2 : k - (u8s (bits (xs.take k))).length = 0 := by simp [u8s, bits]; omega
  rw [e2, e, List.replicate_succ]
  cases x <;> simp [u8s]
theorem OS.made {w : World} {g n lo s : Nat} {t : TypeId} {z : Value} (hz : z.cells = #[z]) (hs : s = 1) (h : w.heap[g]? = some (.cells (madeCells z.cells (n * s)) t (0, 0))) (hl : lo ≤ g) : OS lo w.heap.size w (some ⟨g, 0, none⟩) n (List.replicate n z) := by
  subst hs
  have hlt := (Array.getElem?_eq_some_iff.1 h).1
  rw [hz] at h
  have e : (madeCells #[z] (n * 1)).toList = List.replicate n z := by rw [Nat.mul_one]; exact toList_madeCells_one _ _
  refine ⟨.inr ⟨g, 0, rfl, hlt, fun k u hu => ?_⟩, .inr ⟨g, 0, rfl, hl, hlt⟩, fun b off k e' _ => ?_, fun hn => by subst hn; rfl⟩
  · rw [cell_of_row w g _ _ _ (0, 0) h, Nat.zero_add, ← Array.getElem?_toList, e]; exact hu
  · injection e' with e'; injection e' with e1 e2; subst e1
    exact frozen_of_row w g _ _ t h
theorem bytes_of {w : World} {g n lo hi : Nat} {l : List UInt8} (h : OS lo hi w (some ⟨g, 0, none⟩) n (u8s l)) : Go.Lib.Bytes w g 0 (str l) := by
  intro i hi
  have hi' : i < (u8s l).length := by rw [str_size] at hi; simpa [u8s] using hi
  obtain ⟨b, off, v, e, -, hv, hc, -⟩ := h.at hi'
  injection e with e; injection e with e1 e2; subst e1; subst e2
  rw [hc]
  have := hv.out
  simp only [u8s, List.getElem?_map] at this
  have hl : i < l.length := by simpa [u8s] using hi'
  rw [List.getElem?_eq_getElem hl] at this
  injection this with this
  rw [← this]; rfl
theorem truthText_any (A : Option Addr) (c : Nat) (xs : List Bool) (w : World) (h : Bools w A xs) (hl : xs.length ≤ 1000) :
    Calls Tryd.prog 28 #[.slice A xs.length c] w fun e w' => e = .returned (.string (str (bits xs))) ∧ Below w.heap.size w w' := by
  have H := hide h; clear h
  obtain ⟨i0, hi, hz0, hz1, hz2⟩ := info_parts info_u8
  have hmk := run_make_rowN (P := Tryd.prog) 22 5 i0 (.int .u8 0) Tryd.underlying22 hi hz0 .i64 .i64 xs.length xs.length (Nat.le_refl _) (by rw [hz2]; omega) (by omega) w
  have Z := hide hz1
  clear hi hz0 hz1 hz2
  go_enter Tryd.func28, Tryd.ntmps28
  go_wp2
  go_loopw [4, 5, 11] (fun u v i wr => ∃ k : Nat, k ≤ xs.length ∧ i = .int .i64 k ∧ Hid (OS w.heap.size wr.heap.size wr (some ⟨w.heap.size, 0, none⟩) xs.length (txt xs k)) ∧ Hid (Below w.heap.size w wr)) (fun _ _ i _ => xs.length - (intOf i).toNat)
  case atStart => exact ⟨0, by omega, rfl, OS.made (z := .int .u8 0) rfl Z.out (heap_alloc_new w _) (Nat.le_refl _), (Below.refl _ _).alloc (Nat.le_refl _) _⟩
  case round =>
    clear hmk
    obtain ⟨k, hk, rfl, HO, HB⟩ := hrel
    by_cases hlt : k < xs.length
    · obtain ⟨b, off, x, rfl, hb, hx, hc⟩ := (H.out.below HB.out).at hlt
      obtain ⟨b2, off2, y, e2, hb2, -, hg, hf⟩ := HO.out.at (k := k) (by rw [txt_len xs hk]; exact hlt)
      injection e2 with e2; injection e2 with e3 e4; subst e3; subst e4
      have hs := txt_set hx.out
      have S1 := hide (HO.out.set k (.int .u8 48))
      have S2 := hide (S1.out.set k (.int .u8 49))
      rw [List.set_set] at S2
      rw [Nat.zero_add] at hg hf S1 S2
      have HB1 := hide (HB.out.setCell (p := ⟨w.heap.size, k, none⟩) (Nat.le_refl _) (.int .u8 48))
      have HB2 := hide (HB1.out.setCell (p := ⟨w.heap.size, k, none⟩) (Nat.le_refl _) (.int .u8 49))
      cases x
      · have HS : Hid ((txt xs k).set k (.int .u8 48) = txt xs (k + 1)) := hs
        clear hs
        rw [HS.out] at S1
        go_wp2
        go_roundw
        case rel => exact ⟨k + 1, by omega, by go_num, S1.out.mono (Nat.le_refl _) (by simp [World.setCell]), HB1⟩
        case measure => simp [intOf]; omega
      · have HS : Hid ((txt xs k).set k (.int .u8 49) = txt xs (k + 1)) := hs
        clear hs
        rw [HS.out] at S2
        go_wp2
        go_roundw
        case rel => exact ⟨k + 1, by omega, by go_num, S2.out.mono (Nat.le_refl _) (by simp [World.setCell]), HB2⟩
        case measure => simp [intOf]; omega
    · obtain rfl : k = xs.length := by omega
      have hown := HO.out
      have ex : txt xs xs.length = u8s (bits xs) := by simp [txt]
      rw [ex] at hown
      have hcv := Go.Lib.run_convert_whole (P := Tryd.prog) wr 22 5 9 Tryd.underlying22 Tryd.underlying5 Tryd.underlying9 w.heap.size 0 (str (bits xs)) (bytes_of hown) xs.length
      rw [str_size, bits_len] at hcv
      clear hown ex
      go_wp2
      go_ret
      exact ⟨rfl, HB.out⟩
/-- CallsText of valid calls. -/
def textC (C : Cl) : List UInt8 := bits C.up ++ [47] ++ bits C.dn ++ [47] ++ bits C.car
noncomputable def textB (C : Cl) : List UInt8 := if callsB C then textC C else []
theorem textB_no {C : Cl} (h : callsB C = false) : textB C = [] := by unfold textB; rw [h]; rfl
theorem textB_yes {C : Cl} (h : callsB C = true) : textB C = textC C := by unfold textB; rw [h]; rfl
theorem ret_str {a b : ByteArray} (h : a = b) : Ending.returned (.string a) = .returned (.string b) := by rw [h]
theorem textC_str (C : Cl) : str (bits C.up) ++ ⟨#[47]⟩ ++ str (bits C.dn) ++ ⟨#[47]⟩ ++ str (bits C.car) = str (textC C) := by
  unfold textC; rw [← str_app, ← str_app, ← str_app, ← str_app]; rfl
theorem str_small {xs : List Bool} (h : xs.length ≤ 8) : (str (bits xs)).size ≤ 8 := by rw [str_size, bits_len]; exact h
theorem specCallsText (A0 A1 A2 : Option Addr) (c0 c1 c2 : Nat) (C : Cl) (w : World) (h : CR w A0 A1 A2 C) :
    Calls Tryd.prog 17 #[.agg #[.slice A0 C.up.length c0, .slice A1 C.dn.length c1, .slice A2 C.car.length c2]] w fun e w' => e = .returned (.string (str (textB C))) ∧ Below w.heap.size w w' := by
  have H := hide h; clear h
  go_enter Tryd.func17, Tryd.ntmps17
  go_wp2_with fail
  refine calls_name fun W hW => ?_
  have X1 : Hid (Box W w.heap.size #[.slice A0 C.up.length c0, .slice A1 C.dn.length c1, .slice A2 C.car.length c2]) := by rw [hW]; exact Box.new rfl
  have BW : Hid (Below w.heap.size w W) := by rw [hW]; exact (Below.refl _ _).alloc (Nat.le_refl _) _
  clear hW
  refine (specCallsValid A0 A1 A2 c0 c1 c2 C _ (H.out.below BW.out)).mono ?_
  rintro e w1 ⟨rfl, b⟩
  replace X1 := hide (X1.out.below b)
  replace BW := hide (bthen BW.out b)
  replace H := hide (H.out.below BW.out)
  clear b
  cases hv : callsB C
  · go_wp2_with fail
    go_ret
    exact ⟨ret_str (by rw [textB_no hv]; rfl), BW.out⟩
  · obtain ⟨h1, h2, h3, h4, -, -⟩ := callsB_iff.1 hv
    have HY : Hid (textB C = textC C) := textB_yes hv
    have s0 := str_small (xs := C.up) (by omega); have s1 := str_small (xs := C.dn) (by omega); have s2 := str_small (xs := C.car) (by omega)
    have m0 : C.up.length ≤ 8 := by omega
    have m1 : C.dn.length ≤ 8 := by omega
    have q0 : ¬ 9223372036854775807 < (str (bits C.up)).size + 1 := by omega
    have q1 : ¬ 9223372036854775807 < (str (bits C.up)).size + 1 + (str (bits C.dn)).size := by omega
    have q2 : ¬ 9223372036854775807 < (str (bits C.up)).size + 1 + (str (bits C.dn)).size + 1 := by omega
    have q3 : ¬ 9223372036854775807 < (str (bits C.up)).size + 1 + (str (bits C.dn)).size + 1 + (str (bits C.car)).size := by omega
    clear h3 h4
    have HD : Hid (CR w1.drew A0 A1 A2 C) := H.out.below (below_drewN (Below.refl _ _) 1)
    have X1_lt := X1.out.lt
    have X1_c0 := X1.out.at (i := 0) rfl; have X1_f0 := X1.out.frozen 0
    have X1_c1 := X1.out.at (i := 1) rfl; have X1_f1 := X1.out.frozen 1
    have X1_c2 := X1.out.at (i := 2) rfl; have X1_f2 := X1.out.frozen 2
    go_wp2_with fail
    go_region_held3 (fun W => W.cell? ⟨w.heap.size, 0, none⟩ = some (.slice A0 C.up.length c0) ∧ W.cell? ⟨w.heap.size, 1, none⟩ = some (.slice A1 C.dn.length c1) ∧ W.cell? ⟨w.heap.size, 2, none⟩ = some (.slice A2 C.car.length c2)) (go_keep) (first | (go_at_call 32; (with_reducible refine (l8Bits_any A0 c0 C.up w1.drew HD.out.up (by omega)).mono ?_); rintro e w' ⟨rfl, rfl⟩) | (go_at_call 32; (with_reducible refine (l8Bits_any A1 c1 C.dn w1.drew HD.out.dn (by omega)).mono ?_); rintro e w' ⟨rfl, rfl⟩) | (go_at_call 32; (with_reducible refine (l8Bits_any A2 c2 C.car w1.drew HD.out.car (by omega)).mono ?_); rintro e w' ⟨rfl, rfl⟩))
    go_wp2
    go_ret
    exact ⟨ret_str (by rw [HY.out]; exact textC_str C), BW.out.drew⟩
theorem implCallsText (A0 A1 A2 : Option Addr) (c0 c1 c2 : Nat) (C : Cl) (w : World) (h : CR w A0 A1 A2 C) :
    Calls Tryd.prog 12 #[.agg #[.slice A0 C.up.length c0, .slice A1 C.dn.length c1, .slice A2 C.car.length c2]] w fun e w' => e = .returned (.string (str (textB C))) ∧ Below w.heap.size w w' := by
  have H := hide h; clear h
  go_enter Tryd.func12, Tryd.ntmps12
  go_wp2_with fail
  refine calls_name fun W hW => ?_
  have X1 : Hid (Box W w.heap.size #[.slice A0 C.up.length c0, .slice A1 C.dn.length c1, .slice A2 C.car.length c2]) := by rw [hW]; exact Box.new rfl
  have BW : Hid (Below w.heap.size w W) := by rw [hW]; exact (Below.refl _ _).alloc (Nat.le_refl _) _
  clear hW
  refine (implCallsValid A0 A1 A2 c0 c1 c2 C _ (H.out.below BW.out)).mono ?_
  rintro e w1 ⟨rfl, b⟩
  replace X1 := hide (X1.out.below b)
  replace BW := hide (bthen BW.out b)
  replace H := hide (H.out.below BW.out)
  clear b
  cases hv : callsB C
  · go_wp2_with fail
    go_ret
    exact ⟨ret_str (by rw [textB_no hv]; rfl), BW.out⟩
  · obtain ⟨h1, h2, h3, h4, -, -⟩ := callsB_iff.1 hv
    have HY : Hid (textB C = textC C) := textB_yes hv
    have s0 := str_small (xs := C.up) (by omega); have s1 := str_small (xs := C.dn) (by omega); have s2 := str_small (xs := C.car) (by omega)
    have m0 : C.up.length ≤ 8 := by omega
    have m1 : C.dn.length ≤ 8 := by omega
    have q0 : ¬ 9223372036854775807 < (str (bits C.up)).size + 1 := by omega
    have q1 : ¬ 9223372036854775807 < (str (bits C.up)).size + 1 + (str (bits C.dn)).size := by omega
    have q2 : ¬ 9223372036854775807 < (str (bits C.up)).size + 1 + (str (bits C.dn)).size + 1 := by omega
    have q3 : ¬ 9223372036854775807 < (str (bits C.up)).size + 1 + (str (bits C.dn)).size + 1 + (str (bits C.car)).size := by omega
    clear h3 h4
    have HD : Hid (CR w1.drew A0 A1 A2 C) := H.out.below (below_drewN (Below.refl _ _) 1)
    have XD := hide X1.out.drew
    have X1_lt := X1.out.lt
    have X1_c0 := X1.out.at (i := 0) rfl; have X1_f0 := X1.out.frozen 0
    have X1_c1 := X1.out.at (i := 1) rfl; have X1_f1 := X1.out.frozen 1
    have X1_c2 := X1.out.at (i := 2) rfl; have X1_f2 := X1.out.frozen 2
    go_wp2_with fail
    go_region_held3 (fun W => W.cell? ⟨w.heap.size, 0, none⟩ = some (.slice A0 C.up.length c0) ∧ W.cell? ⟨w.heap.size, 1, none⟩ = some (.slice A1 C.dn.length c1) ∧ W.cell? ⟨w.heap.size, 2, none⟩ = some (.slice A2 C.car.length c2)) (first | go_keep | (exact ⟨(XD.out.below b4.out).at rfl, (XD.out.below b4.out).at rfl, (XD.out.below b4.out).at rfl⟩) | (exact ⟨(XD.out.below b3.out).at rfl, (XD.out.below b3.out).at rfl, (XD.out.below b3.out).at rfl⟩) | (exact ⟨(XD.out.below b2.out).at rfl, (XD.out.below b2.out).at rfl, (XD.out.below b2.out).at rfl⟩)) (first | (go_at_call 28; (with_reducible refine (truthText_any A0 c0 C.up w1.drew HD.out.up (by omega)).mono ?_); rintro e w2 ⟨rfl, b2⟩; replace b2 := hide b2) | (go_at_call 28; (with_reducible refine (truthText_any A1 c1 C.dn w2 (HD.out.below b2.out).dn (by omega)).mono ?_); rintro e w3 ⟨rfl, b3⟩; replace b3 := hide (bthen b2.out b3)) | (go_at_call 28; (with_reducible refine (truthText_any A2 c2 C.car w3 (HD.out.below b3.out).car (by omega)).mono ?_); rintro e w4 ⟨rfl, b4⟩; replace b4 := hide (bthen b3.out b4)))
    go_wp2
    go_ret
    exact ⟨ret_str (by rw [HY.out]; exact textC_str C), bthen BW.out.drew b4.out⟩
end Go.Proofs.YtmekhjaeclgonaaDoor
