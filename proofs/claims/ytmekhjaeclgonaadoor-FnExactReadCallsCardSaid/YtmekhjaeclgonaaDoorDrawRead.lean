/- A drawn text. -/
import Derived.Test.YtmekhjaeclgonaaDoorDrawCalls2
import Derived.Test.YtmekhjaeclgonaaDoorReadWalk
import Derived.Test.YtmekhjaeclgonaaDoorHeldBy
namespace Go.Proofs.YtmekhjaeclgonaaDoor
open Go.RowKit
attribute [local go_sem ↓] Go.wp_at_zero Go.wp_at_succ

theorem textB_len {C : Cl} (h : C.up.length ≤ 9 ∧ C.dn.length ≤ 9 ∧ C.car.length ≤ 9) : (textB C).length ≤ 29 := by
  unfold textB
  split
  · unfold textC; simp only [List.length_append, bits_len, List.length_cons, List.length_nil]; omega
  · simp
def four : Array Value := #[.string ⟨#[]⟩, .string ⟨#[49]⟩, .string ⟨#[47]⟩, .string ⟨#[50]⟩]
theorem four_at {k : Nat} (h : k < 4) : ∃ z : List UInt8, z.length ≤ 1 ∧ four[k]? = some (.string (str z)) := by
  have h4 : k = 0 ∨ k = 1 ∨ k = 2 ∨ k = 3 := by omega
  rcases h4 with rfl | rfl | rfl | rfl
  · exact ⟨[], by simp, rfl⟩
  · exact ⟨[49], by simp, rfl⟩
  · exact ⟨[47], by simp, rfl⟩
  · exact ⟨[50], by simp, rfl⟩
theorem four_get {k : Nat} {v : Value} (h : k < 4) (hv : four[k]? = some v) : ([Value.string ⟨#[]⟩, Value.string ⟨#[49]⟩, Value.string ⟨#[47]⟩, Value.string ⟨#[50]⟩] : List Value)[k]'(show k < [Value.string ⟨#[]⟩, Value.string ⟨#[49]⟩, Value.string ⟨#[47]⟩, Value.string ⟨#[50]⟩].length from h) = v := by
  have h2 : ([Value.string ⟨#[]⟩, Value.string ⟨#[49]⟩, Value.string ⟨#[47]⟩, Value.string ⟨#[50]⟩] : List Value)[k]? = some v := by rw [← hv]; simp [four]
  rw [List.getElem?_eq_getElem (show k < [Value.string ⟨#[]⟩, Value.string ⟨#[49]⟩, Value.string ⟨#[47]⟩, Value.string ⟨#[50]⟩].length from h)] at h2
  injection h2
/-- A short text. -/
def DrewS (w : World) (e : Ending) (w' : World) : Prop := ∃ l : List UInt8, e = .returned (.string (str l)) ∧ l.length ≤ 100 ∧ Below w.heap.size w w'
theorem drewS_of {w w' : World} (s : ByteArray) (h : s.size ≤ 100) (b : Below w.heap.size w w') : DrewS w (.returned (.string s)) w' := ⟨s.data.toList, by rw [str_data], by rw [← Lib.size_eq]; exact h, b⟩
set_option maxRecDepth 100000 in
set_option maxHeartbeats 2000000 in
theorem drawReadCalls_any (A : Option Addr) (c : Nat) (bs : List Int) (w : World) (h : Sl w A (bvs bs)) (hb : ∀ x ∈ bs, 0 ≤ x ∧ x ≤ 255) (hl : bs.length ≤ 1048576) (hc : bs.length ≤ c) :
    Calls Tryd.prog 6 #[.slice A bs.length c] w (DrewS w) := by
  have H := hide h; have HB := hide hb; clear h hb
  go_enter Tryd.func6, Tryd.ntmps6
  go_wp2_with fail
  refine (l20Open_any A c bs _ H.out HB.out hl hc).mono ?_
  rintro e w1 ⟨R, rfl, hR, r, b⟩
  have BW : Hid (Below w.heap.size w w1) := b
  replace r := hide r
  clear b
  go_wp2_with fail
  refine (pick_any R _ 8 _ r.out (by omega) (by omega)).mono ?_
  rintro e w2 ⟨x, rfl, xa, xb, r', g, z⟩
  have zB := BW.out.size
  replace BW := hide (BW.out.grown g BW.out.size (by intro k hk; injection hk; omega)); replace r := hide r'
  clear r' g z
  obtain ⟨fl, hfl⟩ : ∃ fl : Nat, (fl : Int) = 1 + x := ⟨(1 + x).toNat, by omega⟩
  have hf1 : 1 ≤ fl := by omega
  have hf2 : fl ≤ 8 := by omega
  go_wp2_with fail
  rw [← hfl]
  clear hfl
  refine (l20Calls_any R _ fl _ _ r.out (by omega) hf1 hf2 (by omega) (by omega)).mono ?_
  rintro e w3 ⟨P0, P1, P2, p0, p1, p2, C, rfl, P, len, r', g⟩
  replace BW := hide (BW.out.grown g BW.out.size (by intro k hk; injection hk; omega)); replace P := hide P; replace r := hide r'
  clear r' g
  have hT := textB_len len
  obtain ⟨T, hTT⟩ : ∃ T, T = textB C := ⟨_, rfl⟩
  have HTT := hide hTT
  rw [← hTT] at hT
  clear hTT len
  go_wp2_with fail
  refine (specCallsText P0 P1 P2 p0 p1 p2 C _ P.out.cr).mono ?_
  rw [← HTT.out]
  rintro e w4 ⟨rfl, b⟩
  have zr := r.out.lt
  replace r := hide (r.out.below b)
  replace BW := hide (bthen BW.out b)
  clear b
  clear P HTT
  have hsz : (str T).size = T.length := rfl
  go_wp2_with fail
  refine (pick_any R _ 3 _ r.out (by omega) (by omega)).mono ?_
  rintro e w5 ⟨y, rfl, ya, yb, r', g, z⟩
  replace BW := hide (BW.out.grown g BW.out.size (by intro k hk; injection hk; omega)); replace r := hide r'
  clear r' g z
  have hy : (y == 0) = true ∨ (y == 0) = false := by cases y == 0 <;> simp
  rcases hy with hy | hy
  rotate_left
  · go_wp2_with fail
    go_ret
    exact drewS_of _ (by rw [hsz]; omega) BW.out
  by_cases h0 : 0 < T.length
  rotate_left
  · go_wp2_with fail
    go_ret
    exact drewS_of _ (by rw [hsz]; omega) BW.out
  go_wp2_with fail
  refine (pick_any R _ (T.length : Int) _ r.out (by omega) (by omega)).mono ?_
  rintro e w6 ⟨k, rfl, ka, kb, r', g, z⟩
  replace BW := hide (BW.out.grown g BW.out.size (by intro k hk; injection hk; omega)); replace r := hide r'
  clear r' g z
  obtain ⟨j, rfl⟩ := Int.eq_ofNat_of_zero_le ka
  have hj : j < T.length := by omega
  have hjs : j + 1 ≤ (str T).size := hj
  have zR := r.out.lt
  have zB6 := BW.out.size
  have hj1 : j ≤ T.length := by omega
  have hj2 : j + 1 ≤ T.length := by omega
  have hj3 : (j : Int) + 1 ≤ (T.length : Int) := by omega
  have hj4 : (0 : Int) ≤ (j : Int) + 1 := by omega
  have e1 : IntKind.i64.wrap ((j : Int) + 1) = (j : Int) + 1 := IntWalk.i64_in _ (by omega)
  clear ka kb hy
  go_wp2_with fail
  refine wp_region_noPanic ?_
  refine wp_region_held_drew (S := (fun W => True)) (by kernel_rfl) ?_ (fun hHeld => ?_)
  · (trivial)
  (refine take_in (i := 0) (v := ?_) rfl (by rfl) (by kernel_rfl) (by kernel_rfl) (by kernel_rfl) (fun _ _ _ h => h) (by rfl) ?_ (by assumption) ?_; rotate_left; (focus ((intro w hSw; (try dsimp only at hSw); go_simp); (try with_reducible rfl); done)); (try simp only [List.setIfInBounds_toArray, List.set_cons_succ, List.set_cons_zero]))
  (refine take_in (i := 1) (v := ?_) rfl (by rfl) (by kernel_rfl) (by kernel_rfl) (by kernel_rfl) (fun _ _ _ h => h) (by rfl) ?_ (by assumption) ?_; rotate_left; (focus ((intro w hSw; (try dsimp only at hSw); go_simp); (try with_reducible rfl); done)); (try simp only [List.setIfInBounds_toArray, List.set_cons_succ, List.set_cons_zero]))
  (refine take_in (i := 2) (v := ?_) rfl (by rfl) (by kernel_rfl) (by kernel_rfl) (by kernel_rfl) (fun _ _ _ h => h) (by rfl) ?_ (by assumption) ?_; rotate_left; (focus ((intro w hSw; (try dsimp only at hSw); go_simp); (try with_reducible rfl); done)); (try simp only [List.setIfInBounds_toArray, List.set_cons_succ, List.set_cons_zero]))
  (refine take_in (i := 4) (v := ?_) rfl (by rfl) (by kernel_rfl) (by kernel_rfl) (by kernel_rfl) (fun _ _ _ h => h) (by rfl) ?_ (by assumption) ?_; rotate_left; (focus ((intro w hSw; (try dsimp only at hSw); go_simp); (try with_reducible rfl); done)); (try simp only [List.setIfInBounds_toArray, List.set_cons_succ, List.set_cons_zero]))
  (refine take_in (i := 9) (v := ?_) rfl (by rfl) (by kernel_rfl) (by kernel_rfl) (by kernel_rfl) (fun _ _ _ h => h) (by rfl) ?_ (by assumption) ?_; rotate_left; (focus ((intro w hSw; (try dsimp only at hSw); go_simp); (try with_reducible rfl); done)); (try simp only [List.setIfInBounds_toArray, List.set_cons_succ, List.set_cons_zero]))
  (refine take_in (i := 10) (v := ?_) rfl (by rfl) (by kernel_rfl) (by kernel_rfl) (by kernel_rfl) (fun _ _ _ h => h) (by rfl) ?_ (by assumption) ?_; rotate_left; (focus ((intro w hSw; (try dsimp only at hSw); go_simp); (try with_reducible rfl); done)); (try simp only [List.setIfInBounds_toArray, List.set_cons_succ, List.set_cons_zero]))
  (refine take_in (i := 11) (v := ?_) rfl (by rfl) (by kernel_rfl) (by kernel_rfl) (by kernel_rfl) (fun _ _ _ h => h) (by rfl) ?_ (by assumption) ?_; rotate_left; (focus ((intro w hSw; (try dsimp only at hSw); go_simp); (try with_reducible rfl); done)); (try simp only [List.setIfInBounds_toArray, List.set_cons_succ, List.set_cons_zero]))
  (refine take_in (i := 12) (v := ?_) rfl (by rfl) (by kernel_rfl) (by kernel_rfl) (by kernel_rfl) (fun _ _ _ h => h) (by rfl) ?_ (by assumption) ?_; rotate_left; (focus ((intro w hSw; (try dsimp only at hSw); go_simp); (try with_reducible rfl); done)); (try simp only [List.setIfInBounds_toArray, List.set_cons_succ, List.set_cons_zero]))
  refine wpAnyH_ready (rs := [3, 5]) (by kernel_rfl) (by simp) ?_
  refine AllReadyH.cons rfl (fun K hK => ?_) ?_
  go_simp
  refine hK.out _ _ ?_ (fun hHeld => ?_)
  · (trivial)
  clear hK K
  (try simp only [Act.put, List.setIfInBounds_toArray, List.set_cons_zero, List.set_cons_succ])
  refine wpAnyH_ready (rs := [5]) (by kernel_rfl) (by simp) ?_
  refine AllReadyH.cons rfl (fun K hK => ?_) AllReadyH.nil
  (go_simp; go_at_call 20; refine (pick_any R (0 + 1 + 100 + 1 + 1) 4 _ ?_ (by omega) (by omega)).mono ?_; (focus (first | exact r.out | exact r.out.below ((Below.refl _ _).alloc (Nat.le_refl _) _).drew)); rintro e w8 ⟨u, rfl, ua, ub, r', g, z⟩; obtain ⟨i, rfl⟩ := Int.eq_ofNat_of_zero_le ua; have hi4 : i < 4 := (by omega); have hi5 : (i : Int) < 4 := (by omega); obtain ⟨zz, hz1, hz2⟩ := four_at hi4; have hzs : (str zz).size ≤ 1 := hz1; have q1 : ¬ 9223372036854775807 < j + (str zz).size := (by omega); have q2 : ¬ 9223372036854775807 < j + (str zz).size + (T.length - (j + 1)) := (by omega); have hz3 : (#[.string ⟨#[]⟩, .string ⟨#[49]⟩, .string ⟨#[47]⟩, .string ⟨#[50]⟩] : Array Value)[i]? = some (.string (str zz)) := hz2; have hz4 := four_get hi4 hz2; have B8 : Hid (Below w.heap.size w w8) := (by first | exact hide (Below.grown BW.out.drew g BW.out.size (by intro k hk; injection hk; omega)) | exact hide (Below.grown (BW.out.alloc (by omega) _).drew g (by simp; omega) (by intro k hk; injection hk; omega))); (try have hcA := ((Box.new (cs := four) (t := 9) (w := w6) rfl).drew.grown g (by intro e; injection e; omega)).at hz2); clear r' g z hz2 ub; go_wp2_with fail)
  refine hK.out _ _ ?_ (fun hHeld => ?_)
  · (trivial)
  clear hK K
  (try simp only [Act.put, List.setIfInBounds_toArray, List.set_cons_zero, List.set_cons_succ])
  (refine take_in (i := 6) (v := ?_) rfl (by rfl) (by kernel_rfl) (by kernel_rfl) (by kernel_rfl) (fun _ _ _ h => h) (by rfl) ?_ (by assumption) ?_; rotate_left; (focus ((intro w hSw; (try dsimp only at hSw); go_simp); (try with_reducible rfl); done)); (try simp only [List.setIfInBounds_toArray, List.set_cons_succ, List.set_cons_zero]))
  refine wpAnyH_ready (rs := [7]) (by kernel_rfl) (by simp) ?_
  refine AllReadyH.cons rfl (fun K hK => ?_) AllReadyH.nil
  go_simp
  refine hK.out _ _ ?_ (fun hHeld => ?_)
  · (trivial)
  clear hK K
  (try simp only [Act.put, List.setIfInBounds_toArray, List.set_cons_zero, List.set_cons_succ])
  (refine take_in (i := 8) (v := ?_) rfl (by rfl) (by kernel_rfl) (by kernel_rfl) (by kernel_rfl) (fun _ _ _ h => h) (by rfl) ?_ (by assumption) ?_; rotate_left; (focus ((intro w hSw; (try dsimp only at hSw); go_simp); (try with_reducible rfl); done)); (try simp only [List.setIfInBounds_toArray, List.set_cons_succ, List.set_cons_zero]))
  (refine take_in (i := 13) (v := ?_) rfl (by rfl) (by kernel_rfl) (by kernel_rfl) (by kernel_rfl) (fun _ _ _ h => h) (by rfl) ?_ (by assumption) ?_; rotate_left; (focus ((intro w hSw; (try dsimp only at hSw); go_simp); (try with_reducible rfl); done)); (try simp only [List.setIfInBounds_toArray, List.set_cons_succ, List.set_cons_zero]))
  (refine take_in (i := 14) (v := ?_) rfl (by rfl) (by kernel_rfl) (by kernel_rfl) (by kernel_rfl) (fun _ _ _ h => h) (by rfl) ?_ (by assumption) ?_; rotate_left; (focus ((intro w hSw; (try dsimp only at hSw); go_simp); (try with_reducible rfl); done)); (try simp only [List.setIfInBounds_toArray, List.set_cons_succ, List.set_cons_zero]))
  refine wpAnyH_done (by kernel_rfl) ?_ _
  refine NoPanic.normal ?_
  rotate_left
  refine AllReadyH.cons rfl (fun K hK => ?_) AllReadyH.nil
  (go_simp; go_at_call 20; refine (pick_any R (0 + 1 + 100 + 1 + 1) 4 _ ?_ (by omega) (by omega)).mono ?_; (focus (first | exact r.out | exact r.out.below ((Below.refl _ _).alloc (Nat.le_refl _) _).drew)); rintro e w8 ⟨u, rfl, ua, ub, r', g, z⟩; obtain ⟨i, rfl⟩ := Int.eq_ofNat_of_zero_le ua; have hi4 : i < 4 := (by omega); have hi5 : (i : Int) < 4 := (by omega); obtain ⟨zz, hz1, hz2⟩ := four_at hi4; have hzs : (str zz).size ≤ 1 := hz1; have q1 : ¬ 9223372036854775807 < j + (str zz).size := (by omega); have q2 : ¬ 9223372036854775807 < j + (str zz).size + (T.length - (j + 1)) := (by omega); have hz3 : (#[.string ⟨#[]⟩, .string ⟨#[49]⟩, .string ⟨#[47]⟩, .string ⟨#[50]⟩] : Array Value)[i]? = some (.string (str zz)) := hz2; have hz4 := four_get hi4 hz2; have B8 : Hid (Below w.heap.size w w8) := (by first | exact hide (Below.grown BW.out.drew g BW.out.size (by intro k hk; injection hk; omega)) | exact hide (Below.grown (BW.out.alloc (by omega) _).drew g (by simp; omega) (by intro k hk; injection hk; omega))); (try have hcA := ((Box.new (cs := four) (t := 9) (w := w6) rfl).drew.grown g (by intro e; injection e; omega)).at hz2); clear r' g z hz2 ub; go_wp2_with fail)
  refine hK.out _ _ ?_ (fun hHeld => ?_)
  · (trivial)
  clear hK K
  (try simp only [Act.put, List.setIfInBounds_toArray, List.set_cons_zero, List.set_cons_succ])
  refine wpAnyH_ready (rs := [3]) (by kernel_rfl) (by simp) ?_
  refine AllReadyH.cons rfl (fun K hK => ?_) AllReadyH.nil
  go_simp
  refine hK.out _ _ ?_ (fun hHeld => ?_)
  · (trivial)
  clear hK K
  (try simp only [Act.put, List.setIfInBounds_toArray, List.set_cons_zero, List.set_cons_succ])
  (refine take_in (i := 6) (v := ?_) rfl (by rfl) (by kernel_rfl) (by kernel_rfl) (by kernel_rfl) (fun _ _ _ h => h) (by rfl) ?_ (by assumption) ?_; rotate_left; (focus ((intro w hSw; (try dsimp only at hSw); go_simp); (try with_reducible rfl); done)); (try simp only [List.setIfInBounds_toArray, List.set_cons_succ, List.set_cons_zero]))
  refine wpAnyH_ready (rs := [7]) (by kernel_rfl) (by simp) ?_
  refine AllReadyH.cons rfl (fun K hK => ?_) AllReadyH.nil
  go_simp
  refine hK.out _ _ ?_ (fun hHeld => ?_)
  · (trivial)
  clear hK K
  (try simp only [Act.put, List.setIfInBounds_toArray, List.set_cons_zero, List.set_cons_succ])
  (refine take_in (i := 8) (v := ?_) rfl (by rfl) (by kernel_rfl) (by kernel_rfl) (by kernel_rfl) (fun _ _ _ h => h) (by rfl) ?_ (by assumption) ?_; rotate_left; (focus ((intro w hSw; (try dsimp only at hSw); go_simp); (try with_reducible rfl); done)); (try simp only [List.setIfInBounds_toArray, List.set_cons_succ, List.set_cons_zero]))
  (refine take_in (i := 13) (v := ?_) rfl (by rfl) (by kernel_rfl) (by kernel_rfl) (by kernel_rfl) (fun _ _ _ h => h) (by rfl) ?_ (by assumption) ?_; rotate_left; (focus ((intro w hSw; (try dsimp only at hSw); go_simp); (try with_reducible rfl); done)); (try simp only [List.setIfInBounds_toArray, List.set_cons_succ, List.set_cons_zero]))
  (refine take_in (i := 14) (v := ?_) rfl (by rfl) (by kernel_rfl) (by kernel_rfl) (by kernel_rfl) (fun _ _ _ h => h) (by rfl) ?_ (by assumption) ?_; rotate_left; (focus ((intro w hSw; (try dsimp only at hSw); go_simp); (try with_reducible rfl); done)); (try simp only [List.setIfInBounds_toArray, List.set_cons_succ, List.set_cons_zero]))
  refine wpAnyH_done (by kernel_rfl) ?_ _
  refine NoPanic.normal ?_
  rotate_left
  all_goals
    go_wp2_with fail
    go_ret
    refine drewS_of _ ?_ ?_
    · rw [ByteArray.size_append, ByteArray.size_append, ByteArray.size_extract, ByteArray.size_extract, str_size, str_size]; omega
    · first | exact B8.out | exact B8.out.alloc B8.out.size _
end Go.Proofs.YtmekhjaeclgonaaDoor
