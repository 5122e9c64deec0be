/- Slices of stops: comparing, marking, holding; append of one. -/
import Derived.Test.YtngblphkpkhppaaStopsL
import Derived.Test.YtngblphkpkhppaaCells
import Derived.Test.YtngblphkpkhppaaOwn
import Derived.Deep.RegionHeld3
namespace Go.Proofs.Ytngblphkpkhppaa
open Go.RowKit

theorem at_one {α : Type} {l : List α} {k : Nat} {x y : α} (h : Hid (l[k]? = some x)) (h' : Hid (l[k]? = some y)) : y = x := by
  have := h.out; rw [h'.out] at this; injection this
set_option maxHeartbeats 1000000 in
theorem eqStopS_self (A A' : Option Addr) (c c' : Nat) (l : List (Int × Int)) (w : World) (h : Stps w A l) (h' : Stps w A' l) (hl : l.length ≤ 1048576) :
    Calls Try.prog 29 #[.slice A l.length c, .slice A' l.length c'] w fun e w' => e = .returned (.bool true) ∧ Below w.heap.size w w' := by
  have H := hide h; have H' := hide h'; clear h h'
  have hn1 : ((l.length : Int) != (l.length : Int)) = false := by simp
  go_enter Try.func29, Try.ntmps29
  go_wp2
  go_loopw [5] (fun i wr => ∃ k : Nat, k ≤ l.length ∧ i = .int .i64 k ∧ Hid (Below w.heap.size w wr)) (fun i _ => l.length - (intOf i).toNat)
  case atStart => exact ⟨0, by omega, rfl, Below.refl _ _⟩
  case round =>
    obtain ⟨k, hk, rfl, B⟩ := hrel
    by_cases hlt : k < l.length
    · obtain ⟨b, off, r, rfl, hb, hr, c0, c1⟩ := (H.out.below B.out).at hlt
      obtain ⟨b', off', r', rfl, hb', hr', c0', c1'⟩ := (H'.out.below B.out).at hlt
      obtain rfl := at_one hr hr'
      clear hr hr'
      obtain ⟨r0, r1⟩ := r'
      go_wp2
      have KS : Hid (∀ W, Below wr.drew.heap.size wr.drew W → (W.cell? ⟨b, off + k * 2, none⟩ = some (.int .i64 r0) ∧ W.cell? ⟨b, off + k * 2 + 1, none⟩ = some (.int .i64 r1)) ∧ W.cell? ⟨b', off' + k * 2, none⟩ = some (.int .i64 r0) ∧ W.cell? ⟨b', off' + k * 2 + 1, none⟩ = some (.int .i64 r1)) := fun W bb => ⟨⟨(World.cell?_of_block (bb.block b hb)).trans c0, (World.cell?_of_block (bb.block b hb)).trans c1⟩, (World.cell?_of_block (bb.block b' hb')).trans c0', (World.cell?_of_block (bb.block b' hb')).trans c1'⟩
      go_region_held3 (fun W => (W.cell? ⟨b, off + k * 2, none⟩ = some (.int .i64 r0) ∧ W.cell? ⟨b, off + k * 2 + 1, none⟩ = some (.int .i64 r1)) ∧ W.cell? ⟨b', off' + k * 2, none⟩ = some (.int .i64 r0) ∧ W.cell? ⟨b', off' + k * 2 + 1, none⟩ = some (.int .i64 r1)) (first | (go_keep; done) | exact KS.out _ b2.out) ((go_at_call 14; refine (eqStop_self r0 r1 _).mono ?_; rintro e w2 ⟨rfl, b2⟩; replace b2 := hide b2; replace B := hide (bthen B.out.drew b2.out); clear c0 c1 c0' c1'))
      go_wp2
      go_roundw
      case rel => exact ⟨k + 1, by omega, by go_num, B⟩
      case measure => simp [intOf]; omega
    · go_wp2
      go_ret
      exact ⟨rfl, B.out⟩
set_option maxHeartbeats 1000000 in
theorem sameStops_self (A A' : Option Addr) (c c' : Nat) (l : List (Int × Int)) (w : World) (h : Stps w A l) (h' : Stps w A' l) (hl : l.length ≤ 1048576) :
    Calls Try.prog 33 #[.slice A l.length c, .slice A' l.length c'] w fun e w' => e = .returned (.bool true) ∧ Dr w w' := by
  have H := hide h; have H' := hide h'; clear h h'
  have hn1 : ((l.length : Int) != (l.length : Int)) = false := by simp
  go_enter Try.func33, Try.ntmps33
  go_wp2
  go_loopw [5] (fun i wr => ∃ k : Nat, k ≤ l.length ∧ i = .int .i64 k ∧ Hid (Dr w wr)) (fun i _ => l.length - (intOf i).toNat)
  case atStart => exact ⟨0, by omega, rfl, Dr.refl _⟩
  case round =>
    obtain ⟨k, hk, rfl, hD⟩ := hrel
    by_cases hlt : k < l.length
    · obtain ⟨b, off, r, rfl, hb, hr, c0, c1⟩ := (show Stps wr A l from Sl.dr H.out hD.out).at hlt
      obtain ⟨b', off', r', rfl, hb', hr', c0', c1'⟩ := (show Stps wr A' l from Sl.dr H'.out hD.out).at hlt
      obtain rfl := at_one hr hr'
      clear hr hr'
      obtain ⟨r0, r1⟩ := r'
      have e0 : (r0 == r0) = true := by simp
      have e1 : (r1 == r1) = true := by simp
      go_wp2
      go_quiet (fail)
      go_wp2
      go_roundw
      case rel => exact ⟨k + 1, by omega, by go_num, hD.out.more _⟩
      case measure => simp [intOf]; omega
    · go_wp2
      go_ret
      exact ⟨rfl, hD.out⟩
/-- The marks: two numbers to a stop. -/
def mkS (l : List (Int × Int)) (k : Int) (j : Nat) : List (Int × Int) := (List.range j).map (fun (i : Nat) => (k + 2 * (i : Int), k + 2 * (i : Int) + 1)) ++ l.drop j
theorem mkS_zero (l : List (Int × Int)) (k : Int) : mkS l k 0 = l := by simp [mkS]
theorem mkS_len (l : List (Int × Int)) (k : Int) {j : Nat} (h : j ≤ l.length) : (mkS l k j).length = l.length := by simp [mkS]; omega
theorem mkS_at {l : List (Int × Int)} {k : Int} {j : Nat} (_h : j < l.length) : (mkS l k j)[j]? = l[j]? := by
  unfold mkS; rw [List.getElem?_append_right (by simp)]; simp
theorem mkS_set {l : List (Int × Int)} {k : Int} {j : Nat} (h : j < l.length) : (mkS l k j).set j (k + 2 * j, k + 2 * j + 1) = mkS l k (j + 1) := by
  unfold mkS
  rw [List.set_append_right _ _ (by simp), List.range_succ]
  simp only [List.map_append, List.length_map, List.length_range, Nat.sub_self, List.map_cons, List.map_nil]
  rw [List.drop_eq_getElem_cons h, List.append_assoc]
  rfl
theorem mkS_get {l : List (Int × Int)} {k : Int} {j : Nat} (h : j < l.length) : (mkS l k l.length)[j]? = some (k + 2 * j, k + 2 * j + 1) := by
  simp [mkS, h]
theorem mkS_set2 {l : List (Int × Int)} {k : Int} {j : Nat} {r : Int × Int} (h : j < l.length) : ((mkS l k j).set j (k + 2 * j, r.2)).set j (k + 2 * j, k + 2 * j + 1) = mkS l k (j + 1) := by
  rw [List.set_set, mkS_set h]
set_option maxHeartbeats 1000000 in
theorem markStopS_any (A : Option Addr) (c lo hi : Nat) (l : List (Int × Int)) (k : Int) (w : World) (h : SW lo hi w A l) (hl : l.length ≤ 1048576) (k0 : 0 ≤ k) (k1 : k ≤ 1000000000) (_hh : hi ≤ w.heap.size) :
    Calls Try.prog 30 #[.slice A l.length c, .int .i64 k] w fun e w' => e = .returned (.int .i64 (k + 2 * l.length)) ∧ SW lo hi w' A (mkS l k l.length) ∧ Only lo hi w w' := by
  have H := hide h; clear h
  go_enter Try.func30, Try.ntmps30
  go_wp2
  go_loopw [1, 5] (fun q i wr => ∃ j : Nat, j ≤ l.length ∧ i = .int .i64 j ∧ q = .int .i64 (k + 2 * j) ∧ Hid (SW lo hi wr A (mkS l k j)) ∧ Hid (Only lo hi w wr)) (fun _ i _ => l.length - (intOf i).toNat)
  case atStart => exact ⟨0, by omega, rfl, by go_num, by rw [mkS_zero]; exact H, Only.refl _ _ _⟩
  case round =>
    obtain ⟨j, hj, rfl, rfl, HO, HG⟩ := hrel
    by_cases hlt : j < l.length
    · obtain ⟨b, off, r, rfl, hb, hr, ⟨c0, c1⟩, f0, f1⟩ := HO.out.at (k := j) (by rw [mkS_len l k hj]; exact hlt)
      have s0 := HO.out.set0 hr (k + 2 * j)
      have s1 := hide (s0.set1 (r := (k + 2 * j, r.2)) (by rw [List.getElem?_set_self (getElem?_lt hr)]) (k + 2 * j + 1))
      have HG2 := hide ((HG.out.setCell (p := ⟨b, off + j * 2, none⟩) hb.1 hb.2.1 (.int .i64 (k + 2 * j))).setCell (p := ⟨b, off + j * 2 + 1, none⟩) hb.1 hb.2.1 (.int .i64 (k + 2 * j + 1)))
      rw [mkS_set2 hlt] at s1
      clear s0 hr
      go_wp2
      go_roundw
      case rel => exact ⟨j + 1, by omega, by go_num, by go_num, s1, HG2⟩
      case measure => simp [intOf]; omega
    · obtain rfl : j = l.length := by omega
      go_wp2
      go_ret
      exact ⟨rfl, HO.out, HG.out⟩
set_option maxHeartbeats 1000000 in
theorem heldStopS_any (A : Option Addr) (c : Nat) (l : List (Int × Int)) (k : Int) (w : World) (h : Stps w A (mkS l k l.length)) (hl : l.length ≤ 1048576) (k0 : 0 ≤ k) (k1 : k ≤ 1000000000) :
    Calls Try.prog 31 #[.slice A l.length c, .int .i64 k] w fun e w' => e = .returned (.int .i64 (k + 2 * l.length)) ∧ Dr w w' := by
  have H := hide h; clear h
  go_enter Try.func31, Try.ntmps31
  go_wp2
  go_loopw [1, 5] (fun q i wr => ∃ j : Nat, j ≤ l.length ∧ i = .int .i64 j ∧ q = .int .i64 (k + 2 * j) ∧ Hid (Dr w wr)) (fun _ i _ => l.length - (intOf i).toNat)
  case atStart => exact ⟨0, by omega, rfl, by go_num, Dr.refl _⟩
  case round =>
    obtain ⟨j, hj, rfl, rfl, hD⟩ := hrel
    by_cases hlt : j < l.length
    · obtain ⟨b, off, r, rfl, hb, hr, c0, c1⟩ := (show Stps wr A _ from Sl.dr H.out hD.out).at (k := j) (by rw [mkS_len l k (Nat.le_refl _)]; exact hlt)
      obtain rfl : (k + 2 * (j : Int), k + 2 * (j : Int) + 1) = r := by have := hr.out; rw [mkS_get hlt] at this; injection this
      clear hr
      have e0 : ((k + 2 * (j : Int)) != (k + 2 * (j : Int))) = false := by simp
      have e1 : ((k + 2 * (j : Int) + 1) != (k + 2 * (j : Int) + 1)) = false := by simp
      go_wp2
      go_roundw
      case rel => exact ⟨j + 1, by omega, by go_num, by go_num, hD⟩
      case measure => simp [intOf]; omega
    · obtain rfl : j = l.length := by omega
      go_wp2
      go_ret
      exact ⟨rfl, hD.out⟩
end Go.Proofs.Ytngblphkpkhppaa
