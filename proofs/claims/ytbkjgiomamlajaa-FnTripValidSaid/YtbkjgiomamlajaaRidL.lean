/- Riders and trips: the laws' copies, comparisons, marks. -/
import Derived.Test.YtbkjgiomamlajaaStopsL
import Derived.Test.YtbkjgiomamlajaaAppG
import Derived.Test.YtbkjgiomamlajaaCells
import Derived.Deep.RegionHeld3
import Derived.Deep.CutRange
namespace Go.Proofs.Ytbkjgiomamlajaa
open Go.RowKit

theorem at_oneR {α : Type} {l : List α} {k : Nat} {x y : α} (h : Hid (l[k]? = some x)) (h' : Hid (l[k]? = some y)) : y = x := by
  have := h.out; rw [h'.out] at this; injection this
theorem info_rider : (Try.prog.info? 50).map (fun i => (i.zero, i.size, i.bytes)) = some (some (.agg #[.int .i64 0, .int .i64 0, .int .i64 0]), 3, 24) := by kernel_rfl
/-- v owns the riders rs, in blocks from LO on. -/
def OwnR (LO : Nat) (w : World) (v : Value) (rs : List Rr) : Prop := w.ownsRow LO 50 3 v rs.length (rcs rs)
theorem OwnR.nil (LO : Nat) (w : World) : OwnR LO w (.slice none 0 0) [] := World.ownsRow_nil _ _ _ _
theorem OwnR.below {LO : Nat} {w w' : World} {v : Value} {rs : List Rr} (h : OwnR LO w v rs) (b : Below w.heap.size w w') : OwnR LO w' v rs := own_after h b
theorem OwnR.only {LO lo hi : Nat} {w w' : World} {v : Value} {rs : List Rr} (h : OwnR LO w v rs) (o : Only lo hi w w') (hd : hi ≤ LO) : OwnR LO w' v rs := owns_only h o hd
theorem OwnR.block {LO : Nat} {w : World} {v : Value} {rs : List Rr} (h : OwnR LO w v rs) : ∀ k, v.ownBlock = some k → LO ≤ k ∧ k < w.heap.size := fun k hk => World.ownsRow.lt h k hk
theorem OwnR.form {LO : Nat} {w : World} {v : Value} {rs : List Rr} (h : OwnR LO w v rs) : ∃ A c, v = .slice A rs.length c ∧ RW LO w.heap.size w A rs := by
  have h' := h
  rcases h'.2 with ⟨rfl, hn⟩ | ⟨g, cap, cur, rfl, _, _, hc, _⟩
  · have : rs = [] := List.eq_nil_of_length_eq_zero hn
    subst this
    exact ⟨none, 0, rfl, RW.empty _ _ _ _⟩
  · exact ⟨_, cap, rfl, own_os h⟩
/-- A new row of n zero riders. -/
def madeR (n : Nat) : Array Value := madeCells (Value.agg #[.int .i64 0, .int .i64 0, .int .i64 0]).cells (n * 3)
theorem toList_madeR (n : Nat) : (madeR n).toList = rcs (List.replicate n (0, 0, 0)) := by
  rw [rcs_rep]
  apply List.ext_getElem?
  intro j
  show (madeCells #[Value.int .i64 0, .int .i64 0, .int .i64 0] (n * 3)).toList[j]? = _
  by_cases hj : j < n * 3
  · have h3 : j % 3 = 0 ∨ j % 3 = 1 ∨ j % 3 = 2 := by omega
    rcases h3 with h | h | h <;> simp [madeCells, hj, h]
  · simp [madeCells, hj]
theorem run_make_rider (n : Nat) (hn : n ≤ 1048576) (w : World) : (Instr.makeSlice 25 (.int .i64 (n : Int)) (.int .i64 (n : Int))).run Try.prog w = .ok (.slice (some ⟨w.heap.size, 0, none⟩) n n) (w.alloc (.cells (madeR n) 50)) := by
  obtain ⟨i0, hi, hz0, hz1, hz2⟩ := info_parts info_rider
  have := run_make_rowN (P := Try.prog) 25 50 i0 (.agg #[.int .i64 0, .int .i64 0, .int .i64 0]) Try.underlying25 hi hz0 .i64 .i64 n n (Nat.le_refl _) (by rw [hz2]; omega) (by omega) w
  rw [hz1] at this; exact this
theorem RW.new {w : World} {g n lo : Nat} {t : TypeId} (h : w.heap[g]? = some (.cells (madeR n) t (0, 0))) (hl : lo ≤ g) : RW lo w.heap.size w (some ⟨g, 0, none⟩) (List.replicate n (0, 0, 0)) := by
  have hlt := (Array.getElem?_eq_some_iff.1 h).1
  unfold RW; rw [List.length_replicate]
  refine ⟨.inr ⟨g, 0, rfl, hlt, fun k u hu => ?_⟩, .inr ⟨g, 0, rfl, hl, hlt⟩, fun b off k e' _ => ?_, fun hn => ?_⟩
  · rw [cell_of_row w g _ _ _ (0, 0) h, Nat.zero_add, ← Array.getElem?_toList, toList_madeR]; exact hu
  · injection e' with e'; injection e' with e1 e2; subst e1
    exact frozen_of_row w g _ _ t h
  · subst hn; rfl
theorem RW.setR {lo hi : Nat} {w : World} {b : Nat} {l : List Rr} {k : Nat} (h : RW lo hi w (some ⟨b, 0, none⟩) l) (hk : k < l.length) (r : Rr) :
    RW lo hi (((w.setCell ⟨b, k * 3, none⟩ (.int .i64 r.1)).setCell ⟨b, k * 3 + 1, none⟩ (.int .i64 r.2.1)).setCell ⟨b, k * 3 + 2, none⟩ (.int .i64 r.2.2)) (some ⟨b, 0, none⟩) (l.set k r) := by
  have h0 := h.set0 (List.getElem?_eq_getElem hk) r.1
  have h1 := h0.set1 (k := k) (r := (r.1, l[k].2)) (by rw [List.getElem?_set_self hk]) r.2.1
  rw [List.set_set] at h1
  have h2 := h1.set2 (k := k) (r := (r.1, r.2.1, l[k].2.2)) (by rw [List.getElem?_set_self hk]) r.2.2
  rw [List.set_set] at h2
  simpa using h2
/-- The first k are copied. -/
def toR (rs : List Rr) (k : Nat) : List Rr := rs.take k ++ List.replicate (rs.length - k) (0, 0, 0)
theorem toR_zero (rs : List Rr) : toR rs 0 = List.replicate rs.length (0, 0, 0) := by simp [toR]
theorem toR_all (rs : List Rr) : toR rs rs.length = rs := by simp [toR]
theorem toR_len (rs : List Rr) {k : Nat} (hk : k ≤ rs.length) : (toR rs k).length = rs.length := by simp [toR]; omega
theorem toR_set {rs : List Rr} {k : Nat} {r : Rr} (hr : rs[k]? = some r) : (toR rs k).set k r = toR rs (k + 1) := by
  have hk := getElem?_lt hr
  unfold toR
  rw [take_snoc' rs k r hr, List.set_append_right _ _ (by simp; omega), List.append_assoc]
  congr 1
  rw [List.length_take, Nat.min_eq_left (by omega), Nat.sub_self, show rs.length - k = rs.length - (k + 1) + 1 from by omega, List.replicate_succ]
  rfl
theorem toR_at {rs : List Rr} {k : Nat} (hk : k < rs.length) : (toR rs k)[k]? = some (0, 0, 0) := by
  unfold toR; rw [List.getElem?_append_right (by simp; omega), List.length_take, Nat.min_eq_left (by omega), Nat.sub_self, List.getElem?_replicate, if_pos (by omega)]
theorem toRider_any (r : Rr) (w : World) : Calls Try.prog 77 #[.agg #[.int .i64 r.1, .int .i64 r.2.1, .int .i64 r.2.2]] w fun e w' => e = .returned (.agg #[.int .i64 r.1, .int .i64 r.2.1, .int .i64 r.2.2]) ∧ Below w.heap.size w w' := by
  go_enter Try.func77, Try.ntmps77
  go_upto_region 1 with fail
  refine code_name fun W hW => ?_
  have X1 : Hid (Box W w.heap.size #[.int .i64 r.1, .int .i64 r.2.1, .int .i64 r.2.2]) := by rw [hW]; exact (Box.new rfl).alloc _
  have X2 : Hid (Box W (w.heap.size + 1) #[.int .i64 0, .int .i64 0, .int .i64 0]) := by rw [hW]; exact Box.new (by simp)
  have BW : Hid (Below w.heap.size w W) := by rw [hW]; exact ((Below.refl _ _).alloc (Nat.le_refl _) _).alloc (by simp) _
  have z0 : W.heap.size = w.heap.size + 1 + 1 := by rw [hW]; simp
  clear hW
  go_upto_region 2 with fail
  refine code_name fun W2 hW => ?_
  have X3 : Hid (Box W2 W.heap.size #[.int .i64 0, .int .i64 0, .int .i64 0]) := by rw [hW]; exact Box.new rfl
  have b : Below W.heap.size W W2 := by rw [hW]; exact (Below.refl _ _).alloc (Nat.le_refl _) _
  have Z0 := hide z0
  clear z0 hW
  replace X1 := hide (X1.out.below b)
  replace X2 := hide (X2.out.below b)
  replace BW := hide (bthen BW.out b)
  clear b
  rw [Z0.out] at X3
  have X1_lt := X1.out.lt
  have X1_c0 := X1.out.at (i := 0) rfl; have X1_f0 := X1.out.frozen 0
  have X1_c1 := X1.out.at (i := 1) rfl; have X1_f1 := X1.out.frozen 1
  have X1_c2 := X1.out.at (i := 2) rfl; have X1_f2 := X1.out.frozen 2
  have X2_lt := X2.out.lt
  have X2_c0 := X2.out.at (i := 0) rfl; have X2_f0 := X2.out.frozen 0
  have X2_c1 := X2.out.at (i := 1) rfl; have X2_f1 := X2.out.frozen 1
  have X2_c2 := X2.out.at (i := 2) rfl; have X2_f2 := X2.out.frozen 2
  have X3_lt := X3.out.lt
  have X3_c0 := X3.out.at (i := 0) rfl; have X3_f0 := X3.out.frozen 0
  have X3_c1 := X3.out.at (i := 1) rfl; have X3_f1 := X3.out.frozen 1
  have X3_c2 := X3.out.at (i := 2) rfl; have X3_f2 := X3.out.frozen 2
  go_wp2_with fail
  refine bodyPost_ret (by simp [results, Try.results77, go_sem, X2_c0, X2_c1, X2_c2]; rfl) rfl ?_
  exact ⟨rfl, (((((BW.out.setCell (by simp; omega) _).setCell (by simp; omega) _).setCell (by simp; omega) _).setCell (by simp) _).setCell (by simp) _).setCell (by simp) _⟩
theorem eqRider_self (r : Rr) (w : World) : Calls Try.prog 78 #[.agg #[.int .i64 r.1, .int .i64 r.2.1, .int .i64 r.2.2], .agg #[.int .i64 r.1, .int .i64 r.2.1, .int .i64 r.2.2]] w fun e w' => e = .returned (.bool true) ∧ Below w.heap.size w w' := by
  have e1 : (r.1 != r.1) = false := by simp
  have e2 : (r.2.1 != r.2.1) = false := by simp
  have e3 : (r.2.2 != r.2.2) = false := by simp
  go_enter Try.func78, Try.ntmps78
  go_wp2_with fail
  go_ret
  exact ⟨rfl, ((Below.refl _ _).alloc (Nat.le_refl _) _).alloc (by simp) _⟩
set_option maxHeartbeats 1000000 in
theorem toRiderS_any (A : Option Addr) (c : Nat) (rs : List Rr) (w : World) (h : Rds w A rs) (hl : rs.length ≤ 1048576) :
    Calls Try.prog 59 #[.slice A rs.length c] w fun e w' => ∃ A', e = .returned (.slice A' rs.length rs.length) ∧ RW w.heap.size w'.heap.size w' A' rs ∧ Below w.heap.size w w' := by
  have H := hide h; clear h
  have hmk := run_make_rider rs.length hl w
  go_enter Try.func59, Try.ntmps59
  go_wp2_with fail
  go_loopw [4] (fun i wr => ∃ k : Nat, k ≤ rs.length ∧ i = .int .i64 k ∧ Hid (RW w.heap.size wr.heap.size wr (some ⟨w.heap.size, 0, none⟩) (toR rs k)) ∧ Hid (Below w.heap.size w wr)) (fun i _ => rs.length - (intOf i).toNat)
  case atStart => exact ⟨0, by omega, rfl, by rw [toR_zero]; exact RW.new (heap_alloc_new w _) (Nat.le_refl _), (Below.refl _ _).alloc (Nat.le_refl _) _⟩
  case round =>
    clear hmk
    obtain ⟨k, hk, rfl, HO, HB⟩ := hrel
    by_cases hlt : k < rs.length
    · obtain ⟨b, off, r, rfl, hb, hr, c0, c1, c2⟩ := (H.out.below HB.out).at hlt
      go_wp2_with fail
      refine (toRider_any r _).mono ?_
      rintro e w2 ⟨rfl, bb⟩
      replace HO := hide ((HO.out.below bb).mono (Nat.le_refl _) bb.size)
      replace HB := hide (bthen HB.out bb)
      clear bb c0 c1 c2
      obtain ⟨b2, off2, r2, e2, -, hr2, ⟨g0, g1, g2⟩, f0, f1, f2⟩ := HO.out.at (k := k) (by rw [toR_len rs hk]; exact hlt)
      injection e2 with e2; injection e2 with e3 e4; subst e3; subst e4
      rw [Nat.zero_add] at g0 g1 g2 f0 f1 f2
      have HS := hide (HO.out.setR (by rw [toR_len rs hk]; exact hlt) r)
      rw [toR_set hr.out] at HS
      clear hr hr2
      go_wp2_with fail
      go_roundw
      case rel => exact ⟨k + 1, by omega, by go_num, HS.out.mono (Nat.le_refl _) (by simp [World.setCell]), ((HB.out.setCell (Nat.le_refl _) _).setCell (Nat.le_refl _) _).setCell (Nat.le_refl _) _⟩
      case measure => simp [intOf]; omega
    · obtain rfl : k = rs.length := by omega
      have hown := HO.out
      rw [toR_all] at hown
      have HO2 := hide hown; clear hown
      go_wp2_with fail
      go_ret
      exact ⟨_, rfl, HO2.out, HB.out⟩
set_option maxHeartbeats 1000000 in
theorem eqRiderS_self (A A' : Option Addr) (c c' : Nat) (l : List Rr) (w : World) (h : Rds w A l) (h' : Rds w A' l) (hl : l.length ≤ 1048576) :
    Calls Try.prog 61 #[.slice A l.length c, .slice A' l.length c'] w fun e w' => e = .returned (.bool true) ∧ Below w.heap.size w w' := by
  have H := hide h; have H' := hide h'; clear h h'
  have hn1 : ((l.length : Int) != (l.length : Int)) = false := by simp
  go_enter Try.func61, Try.ntmps61
  go_wp2
  go_loopw [5] (fun i wr => ∃ k : Nat, k ≤ l.length ∧ i = .int .i64 k ∧ Hid (Below w.heap.size w wr)) (fun i _ => l.length - (intOf i).toNat)
  case atStart => exact ⟨0, by omega, rfl, Below.refl _ _⟩
  case round =>
    obtain ⟨k, hk, rfl, B⟩ := hrel
    by_cases hlt : k < l.length
    · obtain ⟨b, off, r, rfl, hb, hr, c0, c1, c2⟩ := (H.out.below B.out).at hlt
      obtain ⟨b', off', r', rfl, hb', hr', c0', c1', c2'⟩ := (H'.out.below B.out).at hlt
      obtain rfl := at_oneR hr hr'
      clear hr hr'
      obtain ⟨r0, r1, r2⟩ := r'
      go_wp2
      have KS : Hid (∀ W, Below wr.drew.heap.size wr.drew W → (W.cell? ⟨b, off + k * 3, none⟩ = some (.int .i64 r0) ∧ W.cell? ⟨b, off + k * 3 + 1, none⟩ = some (.int .i64 r1) ∧ W.cell? ⟨b, off + k * 3 + 2, none⟩ = some (.int .i64 r2)) ∧ W.cell? ⟨b', off' + k * 3, none⟩ = some (.int .i64 r0) ∧ W.cell? ⟨b', off' + k * 3 + 1, none⟩ = some (.int .i64 r1) ∧ W.cell? ⟨b', off' + k * 3 + 2, none⟩ = some (.int .i64 r2)) := fun W bb => ⟨⟨(World.cell?_of_block (bb.block b hb)).trans c0, (World.cell?_of_block (bb.block b hb)).trans c1, (World.cell?_of_block (bb.block b hb)).trans c2⟩, (World.cell?_of_block (bb.block b' hb')).trans c0', (World.cell?_of_block (bb.block b' hb')).trans c1', (World.cell?_of_block (bb.block b' hb')).trans c2'⟩
      go_region_held3 (fun W => (W.cell? ⟨b, off + k * 3, none⟩ = some (.int .i64 r0) ∧ W.cell? ⟨b, off + k * 3 + 1, none⟩ = some (.int .i64 r1) ∧ W.cell? ⟨b, off + k * 3 + 2, none⟩ = some (.int .i64 r2)) ∧ W.cell? ⟨b', off' + k * 3, none⟩ = some (.int .i64 r0) ∧ W.cell? ⟨b', off' + k * 3 + 1, none⟩ = some (.int .i64 r1) ∧ W.cell? ⟨b', off' + k * 3 + 2, none⟩ = some (.int .i64 r2)) (first | (go_keep; done) | exact KS.out _ b2.out) ((go_at_call 78; refine (eqRider_self (r0, r1, r2) _).mono ?_; rintro e w2 ⟨rfl, b2⟩; replace b2 := hide b2; replace B := hide (bthen B.out.drew b2.out); clear c0 c1 c2 c0' c1' c2'))
      go_wp2
      go_roundw
      case rel => exact ⟨k + 1, by omega, by go_num, B⟩
      case measure => simp [intOf]; omega
    · go_wp2
      go_ret
      exact ⟨rfl, B.out⟩
/-- The marks: three numbers to a rider. -/
def mkR (l : List Rr) (k : Int) (j : Nat) : List Rr := (List.range j).map (fun (i : Nat) => (k + 3 * (i : Int), k + 3 * (i : Int) + 1, k + 3 * (i : Int) + 1 + 1)) ++ l.drop j
theorem mkR_zero (l : List Rr) (k : Int) : mkR l k 0 = l := by simp [mkR]
theorem mkR_len (l : List Rr) (k : Int) {j : Nat} (h : j ≤ l.length) : (mkR l k j).length = l.length := by simp [mkR]; omega
theorem mkR_set {l : List Rr} {k : Int} {j : Nat} (h : j < l.length) : (mkR l k j).set j (k + 3 * j, k + 3 * j + 1, k + 3 * j + 1 + 1) = mkR l k (j + 1) := by
  unfold mkR
  rw [List.set_append_right _ _ (by simp), List.range_succ]
  simp only [List.map_append, List.length_map, List.length_range, Nat.sub_self, List.map_cons, List.map_nil]
  rw [List.drop_eq_getElem_cons h, List.append_assoc]
  rfl
theorem mkR_get {l : List Rr} {k : Int} {j : Nat} (h : j < l.length) : (mkR l k l.length)[j]? = some (k + 3 * j, k + 3 * j + 1, k + 3 * j + 1 + 1) := by
  simp [mkR, h]
theorem RW.setR' {lo hi : Nat} {w : World} {b off : Nat} {l : List Rr} {k : Nat} (h : RW lo hi w (some ⟨b, off, none⟩) l) (hk : k < l.length) (r : Rr) :
    RW lo hi (((w.setCell ⟨b, off + k * 3, none⟩ (.int .i64 r.1)).setCell ⟨b, off + k * 3 + 1, none⟩ (.int .i64 r.2.1)).setCell ⟨b, off + k * 3 + 2, none⟩ (.int .i64 r.2.2)) (some ⟨b, off, none⟩) (l.set k r) := by
  have h0 := h.set0 (List.getElem?_eq_getElem hk) r.1
  have h1 := h0.set1 (k := k) (r := (r.1, l[k].2)) (by rw [List.getElem?_set_self hk]) r.2.1
  rw [List.set_set] at h1
  have h2 := h1.set2 (k := k) (r := (r.1, r.2.1, l[k].2.2)) (by rw [List.getElem?_set_self hk]) r.2.2
  rw [List.set_set] at h2
  exact h2
set_option maxHeartbeats 1000000 in
theorem markRiderS_any (A : Option Addr) (c lo hi : Nat) (l : List Rr) (k : Int) (w : World) (h : RW lo hi w A l) (hl : l.length ≤ 1048576) (k0 : 0 ≤ k) (k1 : k ≤ 1000000000) (_hh : hi ≤ w.heap.size) :
    Calls Try.prog 62 #[.slice A l.length c, .int .i64 k] w fun e w' => e = .returned (.int .i64 (k + 3 * l.length)) ∧ RW lo hi w' A (mkR l k l.length) ∧ Only lo hi w w' := by
  have H := hide h; clear h
  go_enter Try.func62, Try.ntmps62
  go_wp2
  go_loopw [1, 5] (fun q i wr => ∃ j : Nat, j ≤ l.length ∧ i = .int .i64 j ∧ q = .int .i64 (k + 3 * j) ∧ Hid (RW lo hi wr A (mkR l k j)) ∧ Hid (Only lo hi w wr)) (fun _ i _ => l.length - (intOf i).toNat)
  case atStart => exact ⟨0, by omega, rfl, by go_num, by rw [mkR_zero]; exact H, Only.refl _ _ _⟩
  case round =>
    obtain ⟨j, hj, rfl, rfl, HO, HG⟩ := hrel
    by_cases hlt : j < l.length
    · obtain ⟨b, off, r, rfl, hb, hr, ⟨c0, c1, c2⟩, f0, f1, f2⟩ := HO.out.at (k := j) (by rw [mkR_len l k hj]; exact hlt)
      have s1 := hide (HO.out.setR' (by rw [mkR_len l k hj]; exact hlt) (k + 3 * (j : Int), k + 3 * (j : Int) + 1, k + 3 * (j : Int) + 1 + 1))
      have HG2 := hide (((HG.out.setCell (p := ⟨b, off + j * 3, none⟩) hb.1 hb.2.1 (.int .i64 (k + 3 * (j : Int)))).setCell (p := ⟨b, off + j * 3 + 1, none⟩) hb.1 hb.2.1 (.int .i64 (k + 3 * (j : Int) + 1))).setCell (p := ⟨b, off + j * 3 + 2, none⟩) hb.1 hb.2.1 (.int .i64 (k + 3 * (j : Int) + 1 + 1)))
      rw [mkR_set hlt] at s1
      clear hr
      go_wp2
      go_roundw
      case rel => exact ⟨j + 1, by omega, by go_num, by go_num, s1, HG2⟩
      case measure => simp [intOf]; omega
    · obtain rfl : j = l.length := by omega
      go_wp2
      go_ret
      exact ⟨rfl, HO.out, HG.out⟩
set_option maxHeartbeats 1000000 in
theorem heldRiderS_any (A : Option Addr) (c : Nat) (l : List Rr) (k : Int) (w : World) (h : Rds w A (mkR l k l.length)) (hl : l.length ≤ 1048576) (k0 : 0 ≤ k) (k1 : k ≤ 1000000000) :
    Calls Try.prog 63 #[.slice A l.length c, .int .i64 k] w fun e w' => e = .returned (.int .i64 (k + 3 * l.length)) ∧ Dr w w' := by
  have H := hide h; clear h
  go_enter Try.func63, Try.ntmps63
  go_wp2
  go_loopw [1, 5] (fun q i wr => ∃ j : Nat, j ≤ l.length ∧ i = .int .i64 j ∧ q = .int .i64 (k + 3 * j) ∧ Hid (Dr w wr)) (fun _ i _ => l.length - (intOf i).toNat)
  case atStart => exact ⟨0, by omega, rfl, by go_num, Dr.refl _⟩
  case round =>
    obtain ⟨j, hj, rfl, rfl, hD⟩ := hrel
    by_cases hlt : j < l.length
    · obtain ⟨b, off, r, rfl, hb, hr, c0, c1, c2⟩ := (show Rds wr A _ from Sl.dr H.out hD.out).at (k := j) (by rw [mkR_len l k (Nat.le_refl _)]; exact hlt)
      obtain rfl : (k + 3 * (j : Int), k + 3 * (j : Int) + 1, k + 3 * (j : Int) + 1 + 1) = r := by have := hr.out; rw [mkR_get hlt] at this; injection this
      clear hr
      have e0 : ((k + 3 * (j : Int)) != (k + 3 * (j : Int))) = false := by simp
      have e1 : ((k + 3 * (j : Int) + 1) != (k + 3 * (j : Int) + 1)) = false := by simp
      have e2 : ((k + 3 * (j : Int) + 1 + 1) != (k + 3 * (j : Int) + 1 + 1)) = false := by simp
      go_wp2
      go_roundw
      case rel => exact ⟨j + 1, by omega, by go_num, by go_num, hD⟩
      case measure => simp [intOf]; omega
    · obtain rfl : j = l.length := by omega
      go_wp2
      go_ret
      exact ⟨rfl, hD.out⟩
end Go.Proofs.Ytbkjgiomamlajaa
