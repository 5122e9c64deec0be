/- Riders: on the way; how many are inside, by the reference. -/
import Derived.Test.YtbkjgiomamlajaaRidA
import Derived.Test.YtbkjgiomamlajaaHeldBy
namespace Go.Proofs.Ytbkjgiomamlajaa
open Go.RowKit

set_option maxHeartbeats 2000000 in
theorem onTheWay_any (r : Rr) (f d n : Int) (w : World) (hr : ridP n r) (hf : 0 ≤ f ∧ f < n) (hn : n ≤ 8) (hd : d = 1 ∨ d = -1) :
    Calls Try.prog 54 #[.agg #[.int .i64 r.1, .int .i64 r.2.1, .int .i64 r.2.2], .agg #[.int .i64 f, .int .i64 d]] w fun e w' => e = .returned (.bool (wayB r f d)) ∧ Below w.heap.size w w' := by
  obtain ⟨⟨a0, a1⟩, ⟨b0, b1⟩, -, -⟩ := hr
  have e1 : IntKind.i64.wrap (f - r.1) = f - r.1 := IntWalk.i64_in _ (by omega)
  have e2 : IntKind.i64.wrap ((f - r.1) * d) = (f - r.1) * d := by rcases hd with rfl | rfl <;> exact IntWalk.i64_in _ (by omega)
  have e3 : IntKind.i64.wrap (r.2.1 - f) = r.2.1 - f := IntWalk.i64_in _ (by omega)
  have e4 : IntKind.i64.wrap ((r.2.1 - f) * d) = (r.2.1 - f) * d := by rcases hd with rfl | rfl <;> exact IntWalk.i64_in _ (by omega)
  have E1 := hide e1; have E2 := hide e2; have E3 := hide e3; have E4 := hide e4
  clear e1 e2 e3 e4
  clear hd
  by_cases p1 : dirR r = d
  rotate_left
  · have HE : Hid (wayB r f d = false) := wayB_f.2 fun h => p1 h.1
    have p1' : (dirR r == d) = false := by simpa using p1
    clear p1
    go_enter Try.func54, Try.ntmps54
    go_wp2_with fail
    refine code_name fun W hW => ?_
    have X2 : Hid (Box W w.heap.size #[.int .i64 r.1, .int .i64 r.2.1, .int .i64 r.2.2]) := by rw [hW]; exact (Box.new rfl).alloc _
    have X3 : Hid (Box W (w.heap.size + 1) #[.int .i64 f, .int .i64 d]) := by rw [hW]; exact Box.new (by simp)
    have BW : Hid (Below w.heap.size w W) := by rw [hW]; exact ((Below.refl _ _).alloc (Nat.le_refl _) _).alloc (by simp) _
    clear hW
    have X2_lt := X2.out.lt
    have X2_c0 := X2.out.at (i := 0) rfl; have X2_f0 := X2.out.frozen 0
    have X2_c1 := X2.out.at (i := 1) rfl; have X2_f1 := X2.out.frozen 1
    have X2_c2 := X2.out.at (i := 2) rfl; have X2_f2 := X2.out.frozen 2
    have X3_lt := X3.out.lt
    have X3_c0 := X3.out.at (i := 0) rfl; have X3_f0 := X3.out.frozen 0
    have X3_c1 := X3.out.at (i := 1) rfl; have X3_f1 := X3.out.frozen 1
    have KS : Hid (∀ W', Below W.heap.size W W' → (W'.cell? ⟨w.heap.size, 0, none⟩ = some (.int .i64 r.1) ∧ W'.cell? ⟨w.heap.size, 1, none⟩ = some (.int .i64 r.2.1) ∧ W'.cell? ⟨w.heap.size, 2, none⟩ = some (.int .i64 r.2.2)) ∧ W'.cell? ⟨w.heap.size + 1, 0, none⟩ = some (.int .i64 f) ∧ W'.cell? ⟨w.heap.size + 1, 1, none⟩ = some (.int .i64 d)) := fun W' bb => ⟨⟨(X2.out.below bb).at rfl, (X2.out.below bb).at rfl, (X2.out.below bb).at rfl⟩, (X3.out.below bb).at rfl, (X3.out.below bb).at rfl⟩
    have KK : Hid (Below W.heap.size W W.drew) := (Below.refl _ _).drew
    refine wp_region_noPanic ?_
    refine wp_region_held_drew (S := (fun W => (W.cell? ⟨w.heap.size, 0, none⟩ = some (.int .i64 r.1) ∧ W.cell? ⟨w.heap.size, 1, none⟩ = some (.int .i64 r.2.1) ∧ W.cell? ⟨w.heap.size, 2, none⟩ = some (.int .i64 r.2.2)) ∧ W.cell? ⟨w.heap.size + 1, 0, none⟩ = some (.int .i64 f) ∧ W.cell? ⟨w.heap.size + 1, 1, none⟩ = some (.int .i64 d))) (by kernel_rfl) ?_ (fun hHeld => ?_)
    · exact KS.out _ KK.out
    (refine take_in (i := 0) (v := ?_) rfl (by rfl) (by kernel_rfl) (by kernel_rfl) (by kernel_rfl) (fun _ _ _ h => h) (by rfl) ?_ (by assumption) ?_; rotate_left; (focus ((intro w hSw; (try dsimp only at hSw); go_simp); (try with_reducible rfl); done)); (try simp only [List.setIfInBounds_toArray, List.set_cons_succ, List.set_cons_zero]))
    (refine take_in (i := 2) (v := ?_) rfl (by rfl) (by kernel_rfl) (by kernel_rfl) (by kernel_rfl) (fun _ _ _ h => h) (by rfl) ?_ (by assumption) ?_; rotate_left; (focus ((intro w hSw; (try dsimp only at hSw); go_simp); (try with_reducible rfl); done)); (try simp only [List.setIfInBounds_toArray, List.set_cons_succ, List.set_cons_zero]))
    (refine take_in (i := 3) (v := ?_) rfl (by rfl) (by kernel_rfl) (by kernel_rfl) (by kernel_rfl) (fun _ _ _ h => h) (by rfl) ?_ (by assumption) ?_; rotate_left; (focus ((intro w hSw; (try dsimp only at hSw); go_simp); (try with_reducible rfl); done)); (try simp only [List.setIfInBounds_toArray, List.set_cons_succ, List.set_cons_zero]))
    refine wpAnyH_ready (rs := [1]) (by kernel_rfl) (by simp) ?_
    refine AllReadyH.cons rfl (fun K hK => ?_) AllReadyH.nil
    go_simp
    go_at_call 51
    refine (riderDir_any r _).mono ?_
    rintro e v ⟨rfl, bb⟩
    replace KK := hide (bthen KK.out bb)
    have zKK := KK.out.size
    clear bb
    go_wp2_with fail
    refine hK.out _ _ ?_ (fun hHeld => ?_)
    · exact KS.out _ KK.out
    clear hK K
    (try simp only [Act.put, List.setIfInBounds_toArray, List.set_cons_zero, List.set_cons_succ])
    (refine take_in (i := 4) (v := ?_) rfl (by rfl) (by kernel_rfl) (by kernel_rfl) (by kernel_rfl) (fun _ _ _ h => h) (by rfl) ?_ (by assumption) ?_; rotate_left; (focus ((intro w hSw; (try dsimp only at hSw); go_simp); (try with_reducible rfl); done)); (try simp only [List.setIfInBounds_toArray, List.set_cons_succ, List.set_cons_zero]))
    (refine take_in (i := 5) (v := ?_) rfl (by rfl) (by kernel_rfl) (by kernel_rfl) (by kernel_rfl) (fun _ _ _ h => h) (by rfl) ?_ (by assumption) ?_; rotate_left; (focus ((intro w hSw; (try dsimp only at hSw); go_simp); (try with_reducible rfl); done)); (try simp only [List.setIfInBounds_toArray, List.set_cons_succ, List.set_cons_zero]))
    first | (refine take_in (i := 6) (v := ?_) rfl (by rfl) (by kernel_rfl) (by kernel_rfl) (by kernel_rfl) (fun _ _ _ h => h) (by rfl) ?_ (by assumption) ?_; rotate_left; (focus ((intro w hSw; (try dsimp only at hSw); go_simp); (try with_reducible rfl); done)); (try simp only [List.setIfInBounds_toArray, List.set_cons_succ, List.set_cons_zero])) | (refine take_out (i := 6) rfl (by rfl) (by kernel_rfl) (by kernel_rfl) (by kernel_rfl) (fun _ _ _ h => h) (by rfl) (by assumption) ?_; (try simp only [List.setIfInBounds_toArray, List.set_cons_succ, List.set_cons_zero]))
    first | (refine take_in (i := 7) (v := ?_) rfl (by rfl) (by kernel_rfl) (by kernel_rfl) (by kernel_rfl) (fun _ _ _ h => h) (by rfl) ?_ (by assumption) ?_; rotate_left; (focus ((intro w hSw; (try dsimp only at hSw); go_simp); (try with_reducible rfl); done)); (try simp only [List.setIfInBounds_toArray, List.set_cons_succ, List.set_cons_zero])) | (refine take_out (i := 7) rfl (by rfl) (by kernel_rfl) (by kernel_rfl) (by kernel_rfl) (fun _ _ _ h => h) (by rfl) (by assumption) ?_; (try simp only [List.setIfInBounds_toArray, List.set_cons_succ, List.set_cons_zero]))
    first | (refine take_in (i := 8) (v := ?_) rfl (by rfl) (by kernel_rfl) (by kernel_rfl) (by kernel_rfl) (fun _ _ _ h => h) (by rfl) ?_ (by assumption) ?_; rotate_left; (focus ((intro w hSw; (try dsimp only at hSw); go_simp); (try with_reducible rfl); done)); (try simp only [List.setIfInBounds_toArray, List.set_cons_succ, List.set_cons_zero])) | (refine take_out (i := 8) rfl (by rfl) (by kernel_rfl) (by kernel_rfl) (by kernel_rfl) (fun _ _ _ h => h) (by rfl) (by assumption) ?_; (try simp only [List.setIfInBounds_toArray, List.set_cons_succ, List.set_cons_zero]))
    first | (refine take_in (i := 9) (v := ?_) rfl (by rfl) (by kernel_rfl) (by kernel_rfl) (by kernel_rfl) (fun _ _ _ h => h) (by rfl) ?_ (by assumption) ?_; rotate_left; (focus ((intro w hSw; (try dsimp only at hSw); go_simp); (try with_reducible rfl); done)); (try simp only [List.setIfInBounds_toArray, List.set_cons_succ, List.set_cons_zero])) | (refine take_out (i := 9) rfl (by rfl) (by kernel_rfl) (by kernel_rfl) (by kernel_rfl) (fun _ _ _ h => h) (by rfl) (by assumption) ?_; (try simp only [List.setIfInBounds_toArray, List.set_cons_succ, List.set_cons_zero]))
    first | (refine take_in (i := 10) (v := ?_) rfl (by rfl) (by kernel_rfl) (by kernel_rfl) (by kernel_rfl) (fun _ _ _ h => h) (by rfl) ?_ (by assumption) ?_; rotate_left; (focus ((intro w hSw; (try dsimp only at hSw); go_simp); (try with_reducible rfl); done)); (try simp only [List.setIfInBounds_toArray, List.set_cons_succ, List.set_cons_zero])) | (refine take_out (i := 10) rfl (by rfl) (by kernel_rfl) (by kernel_rfl) (by kernel_rfl) (fun _ _ _ h => h) (by rfl) (by assumption) ?_; (try simp only [List.setIfInBounds_toArray, List.set_cons_succ, List.set_cons_zero]))
    first | (refine take_in (i := 11) (v := ?_) rfl (by rfl) (by kernel_rfl) (by kernel_rfl) (by kernel_rfl) (fun _ _ _ h => h) (by rfl) ?_ (by assumption) ?_; rotate_left; (focus ((intro w hSw; (try dsimp only at hSw); go_simp); (try with_reducible rfl); done)); (try simp only [List.setIfInBounds_toArray, List.set_cons_succ, List.set_cons_zero])) | (refine take_out (i := 11) rfl (by rfl) (by kernel_rfl) (by kernel_rfl) (by kernel_rfl) (fun _ _ _ h => h) (by rfl) (by assumption) ?_; (try simp only [List.setIfInBounds_toArray, List.set_cons_succ, List.set_cons_zero]))
    first | (refine take_in (i := 12) (v := ?_) rfl (by rfl) (by kernel_rfl) (by kernel_rfl) (by kernel_rfl) (fun _ _ _ h => h) (by rfl) ?_ (by assumption) ?_; rotate_left; (focus ((intro w hSw; (try dsimp only at hSw); go_simp); (try with_reducible rfl); done)); (try simp only [List.setIfInBounds_toArray, List.set_cons_succ, List.set_cons_zero])) | (refine take_out (i := 12) rfl (by rfl) (by kernel_rfl) (by kernel_rfl) (by kernel_rfl) (fun _ _ _ h => h) (by rfl) (by assumption) ?_; (try simp only [List.setIfInBounds_toArray, List.set_cons_succ, List.set_cons_zero]))
    first | (refine take_in (i := 13) (v := ?_) rfl (by rfl) (by kernel_rfl) (by kernel_rfl) (by kernel_rfl) (fun _ _ _ h => h) (by rfl) ?_ (by assumption) ?_; rotate_left; (focus ((intro w hSw; (try dsimp only at hSw); go_simp); (try with_reducible rfl); done)); (try simp only [List.setIfInBounds_toArray, List.set_cons_succ, List.set_cons_zero])) | (refine take_out (i := 13) rfl (by rfl) (by kernel_rfl) (by kernel_rfl) (by kernel_rfl) (fun _ _ _ h => h) (by rfl) (by assumption) ?_; (try simp only [List.setIfInBounds_toArray, List.set_cons_succ, List.set_cons_zero]))
    first | (refine take_in (i := 14) (v := ?_) rfl (by rfl) (by kernel_rfl) (by kernel_rfl) (by kernel_rfl) (fun _ _ _ h => h) (by rfl) ?_ (by assumption) ?_; rotate_left; (focus ((intro w hSw; (try dsimp only at hSw); go_simp); (try with_reducible rfl); done)); (try simp only [List.setIfInBounds_toArray, List.set_cons_succ, List.set_cons_zero])) | (refine take_out (i := 14) rfl (by rfl) (by kernel_rfl) (by kernel_rfl) (by kernel_rfl) (fun _ _ _ h => h) (by rfl) (by assumption) ?_; (try simp only [List.setIfInBounds_toArray, List.set_cons_succ, List.set_cons_zero]))
    (refine take_in (i := 15) (v := ?_) rfl (by rfl) (by kernel_rfl) (by kernel_rfl) (by kernel_rfl) (fun _ _ _ h => h) (by rfl) ?_ (by assumption) ?_; rotate_left; (focus ((intro w hSw; (try dsimp only at hSw); go_simp); (try with_reducible rfl); done)); (try simp only [List.setIfInBounds_toArray, List.set_cons_succ, List.set_cons_zero]))
    (refine take_in (i := 16) (v := ?_) rfl (by rfl) (by kernel_rfl) (by kernel_rfl) (by kernel_rfl) (fun _ _ _ h => h) (by rfl) ?_ (by assumption) ?_; rotate_left; (focus ((intro w hSw; (try dsimp only at hSw); go_simp); (try with_reducible rfl); done)); (try simp only [List.setIfInBounds_toArray, List.set_cons_succ, List.set_cons_zero]))
    first | (refine take_in (i := 17) (v := ?_) rfl (by rfl) (by kernel_rfl) (by kernel_rfl) (by kernel_rfl) (fun _ _ _ h => h) (by rfl) ?_ (by assumption) ?_; rotate_left; (focus ((intro w hSw; (try dsimp only at hSw); go_simp); (try with_reducible rfl); done)); (try simp only [List.setIfInBounds_toArray, List.set_cons_succ, List.set_cons_zero])) | (refine take_out (i := 17) rfl (by rfl) (by kernel_rfl) (by kernel_rfl) (by kernel_rfl) (fun _ _ _ h => h) (by rfl) (by assumption) ?_; (try simp only [List.setIfInBounds_toArray, List.set_cons_succ, List.set_cons_zero]))
    first | (refine take_in (i := 18) (v := ?_) rfl (by rfl) (by kernel_rfl) (by kernel_rfl) (by kernel_rfl) (fun _ _ _ h => h) (by rfl) ?_ (by assumption) ?_; rotate_left; (focus ((intro w hSw; (try dsimp only at hSw); go_simp); (try with_reducible rfl); done)); (try simp only [List.setIfInBounds_toArray, List.set_cons_succ, List.set_cons_zero])) | (refine take_out (i := 18) rfl (by rfl) (by kernel_rfl) (by kernel_rfl) (by kernel_rfl) (fun _ _ _ h => h) (by rfl) (by assumption) ?_; (try simp only [List.setIfInBounds_toArray, List.set_cons_succ, List.set_cons_zero]))
    first | (refine take_in (i := 19) (v := ?_) rfl (by rfl) (by kernel_rfl) (by kernel_rfl) (by kernel_rfl) (fun _ _ _ h => h) (by rfl) ?_ (by assumption) ?_; rotate_left; (focus ((intro w hSw; (try dsimp only at hSw); go_simp); (try with_reducible rfl); done)); (try simp only [List.setIfInBounds_toArray, List.set_cons_succ, List.set_cons_zero])) | (refine take_out (i := 19) rfl (by rfl) (by kernel_rfl) (by kernel_rfl) (by kernel_rfl) (fun _ _ _ h => h) (by rfl) (by assumption) ?_; (try simp only [List.setIfInBounds_toArray, List.set_cons_succ, List.set_cons_zero]))
    first | (refine take_in (i := 20) (v := ?_) rfl (by rfl) (by kernel_rfl) (by kernel_rfl) (by kernel_rfl) (fun _ _ _ h => h) (by rfl) ?_ (by assumption) ?_; rotate_left; (focus ((intro w hSw; (try dsimp only at hSw); go_simp); (try with_reducible rfl); done)); (try simp only [List.setIfInBounds_toArray, List.set_cons_succ, List.set_cons_zero])) | (refine take_out (i := 20) rfl (by rfl) (by kernel_rfl) (by kernel_rfl) (by kernel_rfl) (fun _ _ _ h => h) (by rfl) (by assumption) ?_; (try simp only [List.setIfInBounds_toArray, List.set_cons_succ, List.set_cons_zero]))
    first | (refine take_in (i := 21) (v := ?_) rfl (by rfl) (by kernel_rfl) (by kernel_rfl) (by kernel_rfl) (fun _ _ _ h => h) (by rfl) ?_ (by assumption) ?_; rotate_left; (focus ((intro w hSw; (try dsimp only at hSw); go_simp); (try with_reducible rfl); done)); (try simp only [List.setIfInBounds_toArray, List.set_cons_succ, List.set_cons_zero])) | (refine take_out (i := 21) rfl (by rfl) (by kernel_rfl) (by kernel_rfl) (by kernel_rfl) (fun _ _ _ h => h) (by rfl) (by assumption) ?_; (try simp only [List.setIfInBounds_toArray, List.set_cons_succ, List.set_cons_zero]))
    first | (refine take_in (i := 22) (v := ?_) rfl (by rfl) (by kernel_rfl) (by kernel_rfl) (by kernel_rfl) (fun _ _ _ h => h) (by rfl) ?_ (by assumption) ?_; rotate_left; (focus ((intro w hSw; (try dsimp only at hSw); go_simp); (try with_reducible rfl); done)); (try simp only [List.setIfInBounds_toArray, List.set_cons_succ, List.set_cons_zero])) | (refine take_out (i := 22) rfl (by rfl) (by kernel_rfl) (by kernel_rfl) (by kernel_rfl) (fun _ _ _ h => h) (by rfl) (by assumption) ?_; (try simp only [List.setIfInBounds_toArray, List.set_cons_succ, List.set_cons_zero]))
    first | (refine take_in (i := 23) (v := ?_) rfl (by rfl) (by kernel_rfl) (by kernel_rfl) (by kernel_rfl) (fun _ _ _ h => h) (by rfl) ?_ (by assumption) ?_; rotate_left; (focus ((intro w hSw; (try dsimp only at hSw); go_simp); (try with_reducible rfl); done)); (try simp only [List.setIfInBounds_toArray, List.set_cons_succ, List.set_cons_zero])) | (refine take_out (i := 23) rfl (by rfl) (by kernel_rfl) (by kernel_rfl) (by kernel_rfl) (fun _ _ _ h => h) (by rfl) (by assumption) ?_; (try simp only [List.setIfInBounds_toArray, List.set_cons_succ, List.set_cons_zero]))
    first | (refine take_in (i := 24) (v := ?_) rfl (by rfl) (by kernel_rfl) (by kernel_rfl) (by kernel_rfl) (fun _ _ _ h => h) (by rfl) ?_ (by assumption) ?_; rotate_left; (focus ((intro w hSw; (try dsimp only at hSw); go_simp); (try with_reducible rfl); done)); (try simp only [List.setIfInBounds_toArray, List.set_cons_succ, List.set_cons_zero])) | (refine take_out (i := 24) rfl (by rfl) (by kernel_rfl) (by kernel_rfl) (by kernel_rfl) (fun _ _ _ h => h) (by rfl) (by assumption) ?_; (try simp only [List.setIfInBounds_toArray, List.set_cons_succ, List.set_cons_zero]))
    first | (refine take_in (i := 25) (v := ?_) rfl (by rfl) (by kernel_rfl) (by kernel_rfl) (by kernel_rfl) (fun _ _ _ h => h) (by rfl) ?_ (by assumption) ?_; rotate_left; (focus ((intro w hSw; (try dsimp only at hSw); go_simp); (try with_reducible rfl); done)); (try simp only [List.setIfInBounds_toArray, List.set_cons_succ, List.set_cons_zero])) | (refine take_out (i := 25) rfl (by rfl) (by kernel_rfl) (by kernel_rfl) (by kernel_rfl) (fun _ _ _ h => h) (by rfl) (by assumption) ?_; (try simp only [List.setIfInBounds_toArray, List.set_cons_succ, List.set_cons_zero]))
    (refine take_in (i := 26) (v := ?_) rfl (by rfl) (by kernel_rfl) (by kernel_rfl) (by kernel_rfl) (fun _ _ _ h => h) (by rfl) ?_ (by assumption) ?_; rotate_left; (focus ((intro w hSw; (try dsimp only at hSw); go_simp); (try with_reducible rfl); done)); (try simp only [List.setIfInBounds_toArray, List.set_cons_succ, List.set_cons_zero]))
    (refine take_in (i := 27) (v := ?_) rfl (by rfl) (by kernel_rfl) (by kernel_rfl) (by kernel_rfl) (fun _ _ _ h => h) (by rfl) ?_ (by assumption) ?_; rotate_left; (focus ((intro w hSw; (try dsimp only at hSw); go_simp); (try with_reducible rfl); done)); (try simp only [List.setIfInBounds_toArray, List.set_cons_succ, List.set_cons_zero]))
    refine wpAnyH_done (by kernel_rfl) ?_ _
    refine NoPanic.normal ?_
    clear KS
    go_wp2_with fail
    go_ret
    exact ⟨ret_bool HE.out.symm, bthen BW.out KK.out⟩
  have p1' : (dirR r == d) = true := by simpa using p1
  have P1 := hide p1
  clear p1
  by_cases p2 : 0 ≤ (f - r.1) * d
  rotate_left
  · have HE : Hid (wayB r f d = false) := wayB_f.2 fun h => p2 h.2.1
    have p2d : decide (0 ≤ (f - r.1) * d) = false := decide_eq_false p2
    clear p2
    go_enter Try.func54, Try.ntmps54
    go_wp2_with fail
    refine code_name fun W hW => ?_
    have X2 : Hid (Box W w.heap.size #[.int .i64 r.1, .int .i64 r.2.1, .int .i64 r.2.2]) := by rw [hW]; exact (Box.new rfl).alloc _
    have X3 : Hid (Box W (w.heap.size + 1) #[.int .i64 f, .int .i64 d]) := by rw [hW]; exact Box.new (by simp)
    have BW : Hid (Below w.heap.size w W) := by rw [hW]; exact ((Below.refl _ _).alloc (Nat.le_refl _) _).alloc (by simp) _
    clear hW
    have X2_lt := X2.out.lt
    have X2_c0 := X2.out.at (i := 0) rfl; have X2_f0 := X2.out.frozen 0
    have X2_c1 := X2.out.at (i := 1) rfl; have X2_f1 := X2.out.frozen 1
    have X2_c2 := X2.out.at (i := 2) rfl; have X2_f2 := X2.out.frozen 2
    have X3_lt := X3.out.lt
    have X3_c0 := X3.out.at (i := 0) rfl; have X3_f0 := X3.out.frozen 0
    have X3_c1 := X3.out.at (i := 1) rfl; have X3_f1 := X3.out.frozen 1
    have e1 := E1.out; have e2 := E2.out
    have KS : Hid (∀ W', Below W.heap.size W W' → (W'.cell? ⟨w.heap.size, 0, none⟩ = some (.int .i64 r.1) ∧ W'.cell? ⟨w.heap.size, 1, none⟩ = some (.int .i64 r.2.1) ∧ W'.cell? ⟨w.heap.size, 2, none⟩ = some (.int .i64 r.2.2)) ∧ W'.cell? ⟨w.heap.size + 1, 0, none⟩ = some (.int .i64 f) ∧ W'.cell? ⟨w.heap.size + 1, 1, none⟩ = some (.int .i64 d)) := fun W' bb => ⟨⟨(X2.out.below bb).at rfl, (X2.out.below bb).at rfl, (X2.out.below bb).at rfl⟩, (X3.out.below bb).at rfl, (X3.out.below bb).at rfl⟩
    have KK : Hid (Below W.heap.size W W.drew) := (Below.refl _ _).drew
    refine wp_region_noPanic ?_
    refine wp_region_held_drew (S := (fun W => (W.cell? ⟨w.heap.size, 0, none⟩ = some (.int .i64 r.1) ∧ W.cell? ⟨w.heap.size, 1, none⟩ = some (.int .i64 r.2.1) ∧ W.cell? ⟨w.heap.size, 2, none⟩ = some (.int .i64 r.2.2)) ∧ W.cell? ⟨w.heap.size + 1, 0, none⟩ = some (.int .i64 f) ∧ W.cell? ⟨w.heap.size + 1, 1, none⟩ = some (.int .i64 d))) (by kernel_rfl) ?_ (fun hHeld => ?_)
    · exact KS.out _ KK.out
    (refine take_in (i := 0) (v := ?_) rfl (by rfl) (by kernel_rfl) (by kernel_rfl) (by kernel_rfl) (fun _ _ _ h => h) (by rfl) ?_ (by assumption) ?_; rotate_left; (focus ((intro w hSw; (try dsimp only at hSw); go_simp); (try with_reducible rfl); done)); (try simp only [List.setIfInBounds_toArray, List.set_cons_succ, List.set_cons_zero]))
    (refine take_in (i := 2) (v := ?_) rfl (by rfl) (by kernel_rfl) (by kernel_rfl) (by kernel_rfl) (fun _ _ _ h => h) (by rfl) ?_ (by assumption) ?_; rotate_left; (focus ((intro w hSw; (try dsimp only at hSw); go_simp); (try with_reducible rfl); done)); (try simp only [List.setIfInBounds_toArray, List.set_cons_succ, List.set_cons_zero]))
    (refine take_in (i := 3) (v := ?_) rfl (by rfl) (by kernel_rfl) (by kernel_rfl) (by kernel_rfl) (fun _ _ _ h => h) (by rfl) ?_ (by assumption) ?_; rotate_left; (focus ((intro w hSw; (try dsimp only at hSw); go_simp); (try with_reducible rfl); done)); (try simp only [List.setIfInBounds_toArray, List.set_cons_succ, List.set_cons_zero]))
    refine wpAnyH_ready (rs := [1]) (by kernel_rfl) (by simp) ?_
    refine AllReadyH.cons rfl (fun K hK => ?_) AllReadyH.nil
    go_simp
    go_at_call 51
    refine (riderDir_any r _).mono ?_
    rintro e v ⟨rfl, bb⟩
    replace KK := hide (bthen KK.out bb)
    have zKK := KK.out.size
    clear bb
    go_wp2_with fail
    refine hK.out _ _ ?_ (fun hHeld => ?_)
    · exact KS.out _ KK.out
    clear hK K
    (try simp only [Act.put, List.setIfInBounds_toArray, List.set_cons_zero, List.set_cons_succ])
    (refine take_in (i := 4) (v := ?_) rfl (by rfl) (by kernel_rfl) (by kernel_rfl) (by kernel_rfl) (fun _ _ _ h => h) (by rfl) ?_ (by assumption) ?_; rotate_left; (focus ((intro w hSw; (try dsimp only at hSw); go_simp); (try with_reducible rfl); done)); (try simp only [List.setIfInBounds_toArray, List.set_cons_succ, List.set_cons_zero]))
    (refine take_in (i := 5) (v := ?_) rfl (by rfl) (by kernel_rfl) (by kernel_rfl) (by kernel_rfl) (fun _ _ _ h => h) (by rfl) ?_ (by assumption) ?_; rotate_left; (focus ((intro w hSw; (try dsimp only at hSw); go_simp); (try with_reducible rfl); done)); (try simp only [List.setIfInBounds_toArray, List.set_cons_succ, List.set_cons_zero]))
    first | (refine take_in (i := 6) (v := ?_) rfl (by rfl) (by kernel_rfl) (by kernel_rfl) (by kernel_rfl) (fun _ _ _ h => h) (by rfl) ?_ (by assumption) ?_; rotate_left; (focus ((intro w hSw; (try dsimp only at hSw); go_simp); (try with_reducible rfl); done)); (try simp only [List.setIfInBounds_toArray, List.set_cons_succ, List.set_cons_zero])) | (refine take_out (i := 6) rfl (by rfl) (by kernel_rfl) (by kernel_rfl) (by kernel_rfl) (fun _ _ _ h => h) (by rfl) (by assumption) ?_; (try simp only [List.setIfInBounds_toArray, List.set_cons_succ, List.set_cons_zero]))
    first | (refine take_in (i := 7) (v := ?_) rfl (by rfl) (by kernel_rfl) (by kernel_rfl) (by kernel_rfl) (fun _ _ _ h => h) (by rfl) ?_ (by assumption) ?_; rotate_left; (focus ((intro w hSw; (try dsimp only at hSw); go_simp); (try with_reducible rfl); done)); (try simp only [List.setIfInBounds_toArray, List.set_cons_succ, List.set_cons_zero])) | (refine take_out (i := 7) rfl (by rfl) (by kernel_rfl) (by kernel_rfl) (by kernel_rfl) (fun _ _ _ h => h) (by rfl) (by assumption) ?_; (try simp only [List.setIfInBounds_toArray, List.set_cons_succ, List.set_cons_zero]))
    first | (refine take_in (i := 8) (v := ?_) rfl (by rfl) (by kernel_rfl) (by kernel_rfl) (by kernel_rfl) (fun _ _ _ h => h) (by rfl) ?_ (by assumption) ?_; rotate_left; (focus ((intro w hSw; (try dsimp only at hSw); go_simp); (try with_reducible rfl); done)); (try simp only [List.setIfInBounds_toArray, List.set_cons_succ, List.set_cons_zero])) | (refine take_out (i := 8) rfl (by rfl) (by kernel_rfl) (by kernel_rfl) (by kernel_rfl) (fun _ _ _ h => h) (by rfl) (by assumption) ?_; (try simp only [List.setIfInBounds_toArray, List.set_cons_succ, List.set_cons_zero]))
    first | (refine take_in (i := 9) (v := ?_) rfl (by rfl) (by kernel_rfl) (by kernel_rfl) (by kernel_rfl) (fun _ _ _ h => h) (by rfl) ?_ (by assumption) ?_; rotate_left; (focus ((intro w hSw; (try dsimp only at hSw); go_simp); (try with_reducible rfl); done)); (try simp only [List.setIfInBounds_toArray, List.set_cons_succ, List.set_cons_zero])) | (refine take_out (i := 9) rfl (by rfl) (by kernel_rfl) (by kernel_rfl) (by kernel_rfl) (fun _ _ _ h => h) (by rfl) (by assumption) ?_; (try simp only [List.setIfInBounds_toArray, List.set_cons_succ, List.set_cons_zero]))
    first | (refine take_in (i := 10) (v := ?_) rfl (by rfl) (by kernel_rfl) (by kernel_rfl) (by kernel_rfl) (fun _ _ _ h => h) (by rfl) ?_ (by assumption) ?_; rotate_left; (focus ((intro w hSw; (try dsimp only at hSw); go_simp); (try with_reducible rfl); done)); (try simp only [List.setIfInBounds_toArray, List.set_cons_succ, List.set_cons_zero])) | (refine take_out (i := 10) rfl (by rfl) (by kernel_rfl) (by kernel_rfl) (by kernel_rfl) (fun _ _ _ h => h) (by rfl) (by assumption) ?_; (try simp only [List.setIfInBounds_toArray, List.set_cons_succ, List.set_cons_zero]))
    first | (refine take_in (i := 11) (v := ?_) rfl (by rfl) (by kernel_rfl) (by kernel_rfl) (by kernel_rfl) (fun _ _ _ h => h) (by rfl) ?_ (by assumption) ?_; rotate_left; (focus ((intro w hSw; (try dsimp only at hSw); go_simp); (try with_reducible rfl); done)); (try simp only [List.setIfInBounds_toArray, List.set_cons_succ, List.set_cons_zero])) | (refine take_out (i := 11) rfl (by rfl) (by kernel_rfl) (by kernel_rfl) (by kernel_rfl) (fun _ _ _ h => h) (by rfl) (by assumption) ?_; (try simp only [List.setIfInBounds_toArray, List.set_cons_succ, List.set_cons_zero]))
    first | (refine take_in (i := 12) (v := ?_) rfl (by rfl) (by kernel_rfl) (by kernel_rfl) (by kernel_rfl) (fun _ _ _ h => h) (by rfl) ?_ (by assumption) ?_; rotate_left; (focus ((intro w hSw; (try dsimp only at hSw); go_simp); (try with_reducible rfl); done)); (try simp only [List.setIfInBounds_toArray, List.set_cons_succ, List.set_cons_zero])) | (refine take_out (i := 12) rfl (by rfl) (by kernel_rfl) (by kernel_rfl) (by kernel_rfl) (fun _ _ _ h => h) (by rfl) (by assumption) ?_; (try simp only [List.setIfInBounds_toArray, List.set_cons_succ, List.set_cons_zero]))
    first | (refine take_in (i := 13) (v := ?_) rfl (by rfl) (by kernel_rfl) (by kernel_rfl) (by kernel_rfl) (fun _ _ _ h => h) (by rfl) ?_ (by assumption) ?_; rotate_left; (focus ((intro w hSw; (try dsimp only at hSw); go_simp); (try with_reducible rfl); done)); (try simp only [List.setIfInBounds_toArray, List.set_cons_succ, List.set_cons_zero])) | (refine take_out (i := 13) rfl (by rfl) (by kernel_rfl) (by kernel_rfl) (by kernel_rfl) (fun _ _ _ h => h) (by rfl) (by assumption) ?_; (try simp only [List.setIfInBounds_toArray, List.set_cons_succ, List.set_cons_zero]))
    first | (refine take_in (i := 14) (v := ?_) rfl (by rfl) (by kernel_rfl) (by kernel_rfl) (by kernel_rfl) (fun _ _ _ h => h) (by rfl) ?_ (by assumption) ?_; rotate_left; (focus ((intro w hSw; (try dsimp only at hSw); go_simp); (try with_reducible rfl); done)); (try simp only [List.setIfInBounds_toArray, List.set_cons_succ, List.set_cons_zero])) | (refine take_out (i := 14) rfl (by rfl) (by kernel_rfl) (by kernel_rfl) (by kernel_rfl) (fun _ _ _ h => h) (by rfl) (by assumption) ?_; (try simp only [List.setIfInBounds_toArray, List.set_cons_succ, List.set_cons_zero]))
    (refine take_in (i := 15) (v := ?_) rfl (by rfl) (by kernel_rfl) (by kernel_rfl) (by kernel_rfl) (fun _ _ _ h => h) (by rfl) ?_ (by assumption) ?_; rotate_left; (focus ((intro w hSw; (try dsimp only at hSw); go_simp); (try with_reducible rfl); done)); (try simp only [List.setIfInBounds_toArray, List.set_cons_succ, List.set_cons_zero]))
    (refine take_in (i := 16) (v := ?_) rfl (by rfl) (by kernel_rfl) (by kernel_rfl) (by kernel_rfl) (fun _ _ _ h => h) (by rfl) ?_ (by assumption) ?_; rotate_left; (focus ((intro w hSw; (try dsimp only at hSw); go_simp); (try with_reducible rfl); done)); (try simp only [List.setIfInBounds_toArray, List.set_cons_succ, List.set_cons_zero]))
    first | (refine take_in (i := 17) (v := ?_) rfl (by rfl) (by kernel_rfl) (by kernel_rfl) (by kernel_rfl) (fun _ _ _ h => h) (by rfl) ?_ (by assumption) ?_; rotate_left; (focus ((intro w hSw; (try dsimp only at hSw); go_simp); (try with_reducible rfl); done)); (try simp only [List.setIfInBounds_toArray, List.set_cons_succ, List.set_cons_zero])) | (refine take_out (i := 17) rfl (by rfl) (by kernel_rfl) (by kernel_rfl) (by kernel_rfl) (fun _ _ _ h => h) (by rfl) (by assumption) ?_; (try simp only [List.setIfInBounds_toArray, List.set_cons_succ, List.set_cons_zero]))
    first | (refine take_in (i := 18) (v := ?_) rfl (by rfl) (by kernel_rfl) (by kernel_rfl) (by kernel_rfl) (fun _ _ _ h => h) (by rfl) ?_ (by assumption) ?_; rotate_left; (focus ((intro w hSw; (try dsimp only at hSw); go_simp); (try with_reducible rfl); done)); (try simp only [List.setIfInBounds_toArray, List.set_cons_succ, List.set_cons_zero])) | (refine take_out (i := 18) rfl (by rfl) (by kernel_rfl) (by kernel_rfl) (by kernel_rfl) (fun _ _ _ h => h) (by rfl) (by assumption) ?_; (try simp only [List.setIfInBounds_toArray, List.set_cons_succ, List.set_cons_zero]))
    first | (refine take_in (i := 19) (v := ?_) rfl (by rfl) (by kernel_rfl) (by kernel_rfl) (by kernel_rfl) (fun _ _ _ h => h) (by rfl) ?_ (by assumption) ?_; rotate_left; (focus ((intro w hSw; (try dsimp only at hSw); go_simp); (try with_reducible rfl); done)); (try simp only [List.setIfInBounds_toArray, List.set_cons_succ, List.set_cons_zero])) | (refine take_out (i := 19) rfl (by rfl) (by kernel_rfl) (by kernel_rfl) (by kernel_rfl) (fun _ _ _ h => h) (by rfl) (by assumption) ?_; (try simp only [List.setIfInBounds_toArray, List.set_cons_succ, List.set_cons_zero]))
    first | (refine take_in (i := 20) (v := ?_) rfl (by rfl) (by kernel_rfl) (by kernel_rfl) (by kernel_rfl) (fun _ _ _ h => h) (by rfl) ?_ (by assumption) ?_; rotate_left; (focus ((intro w hSw; (try dsimp only at hSw); go_simp); (try with_reducible rfl); done)); (try simp only [List.setIfInBounds_toArray, List.set_cons_succ, List.set_cons_zero])) | (refine take_out (i := 20) rfl (by rfl) (by kernel_rfl) (by kernel_rfl) (by kernel_rfl) (fun _ _ _ h => h) (by rfl) (by assumption) ?_; (try simp only [List.setIfInBounds_toArray, List.set_cons_succ, List.set_cons_zero]))
    first | (refine take_in (i := 21) (v := ?_) rfl (by rfl) (by kernel_rfl) (by kernel_rfl) (by kernel_rfl) (fun _ _ _ h => h) (by rfl) ?_ (by assumption) ?_; rotate_left; (focus ((intro w hSw; (try dsimp only at hSw); go_simp); (try with_reducible rfl); done)); (try simp only [List.setIfInBounds_toArray, List.set_cons_succ, List.set_cons_zero])) | (refine take_out (i := 21) rfl (by rfl) (by kernel_rfl) (by kernel_rfl) (by kernel_rfl) (fun _ _ _ h => h) (by rfl) (by assumption) ?_; (try simp only [List.setIfInBounds_toArray, List.set_cons_succ, List.set_cons_zero]))
    first | (refine take_in (i := 22) (v := ?_) rfl (by rfl) (by kernel_rfl) (by kernel_rfl) (by kernel_rfl) (fun _ _ _ h => h) (by rfl) ?_ (by assumption) ?_; rotate_left; (focus ((intro w hSw; (try dsimp only at hSw); go_simp); (try with_reducible rfl); done)); (try simp only [List.setIfInBounds_toArray, List.set_cons_succ, List.set_cons_zero])) | (refine take_out (i := 22) rfl (by rfl) (by kernel_rfl) (by kernel_rfl) (by kernel_rfl) (fun _ _ _ h => h) (by rfl) (by assumption) ?_; (try simp only [List.setIfInBounds_toArray, List.set_cons_succ, List.set_cons_zero]))
    first | (refine take_in (i := 23) (v := ?_) rfl (by rfl) (by kernel_rfl) (by kernel_rfl) (by kernel_rfl) (fun _ _ _ h => h) (by rfl) ?_ (by assumption) ?_; rotate_left; (focus ((intro w hSw; (try dsimp only at hSw); go_simp); (try with_reducible rfl); done)); (try simp only [List.setIfInBounds_toArray, List.set_cons_succ, List.set_cons_zero])) | (refine take_out (i := 23) rfl (by rfl) (by kernel_rfl) (by kernel_rfl) (by kernel_rfl) (fun _ _ _ h => h) (by rfl) (by assumption) ?_; (try simp only [List.setIfInBounds_toArray, List.set_cons_succ, List.set_cons_zero]))
    first | (refine take_in (i := 24) (v := ?_) rfl (by rfl) (by kernel_rfl) (by kernel_rfl) (by kernel_rfl) (fun _ _ _ h => h) (by rfl) ?_ (by assumption) ?_; rotate_left; (focus ((intro w hSw; (try dsimp only at hSw); go_simp); (try with_reducible rfl); done)); (try simp only [List.setIfInBounds_toArray, List.set_cons_succ, List.set_cons_zero])) | (refine take_out (i := 24) rfl (by rfl) (by kernel_rfl) (by kernel_rfl) (by kernel_rfl) (fun _ _ _ h => h) (by rfl) (by assumption) ?_; (try simp only [List.setIfInBounds_toArray, List.set_cons_succ, List.set_cons_zero]))
    first | (refine take_in (i := 25) (v := ?_) rfl (by rfl) (by kernel_rfl) (by kernel_rfl) (by kernel_rfl) (fun _ _ _ h => h) (by rfl) ?_ (by assumption) ?_; rotate_left; (focus ((intro w hSw; (try dsimp only at hSw); go_simp); (try with_reducible rfl); done)); (try simp only [List.setIfInBounds_toArray, List.set_cons_succ, List.set_cons_zero])) | (refine take_out (i := 25) rfl (by rfl) (by kernel_rfl) (by kernel_rfl) (by kernel_rfl) (fun _ _ _ h => h) (by rfl) (by assumption) ?_; (try simp only [List.setIfInBounds_toArray, List.set_cons_succ, List.set_cons_zero]))
    (refine take_in (i := 26) (v := ?_) rfl (by rfl) (by kernel_rfl) (by kernel_rfl) (by kernel_rfl) (fun _ _ _ h => h) (by rfl) ?_ (by assumption) ?_; rotate_left; (focus ((intro w hSw; (try dsimp only at hSw); go_simp); (try with_reducible rfl); done)); (try simp only [List.setIfInBounds_toArray, List.set_cons_succ, List.set_cons_zero]))
    (refine take_in (i := 27) (v := ?_) rfl (by rfl) (by kernel_rfl) (by kernel_rfl) (by kernel_rfl) (fun _ _ _ h => h) (by rfl) ?_ (by assumption) ?_; rotate_left; (focus ((intro w hSw; (try dsimp only at hSw); go_simp); (try with_reducible rfl); done)); (try simp only [List.setIfInBounds_toArray, List.set_cons_succ, List.set_cons_zero]))
    refine wpAnyH_done (by kernel_rfl) ?_ _
    refine NoPanic.normal ?_
    clear KS
    go_wp2_with fail
    go_ret
    exact ⟨ret_bool HE.out.symm, bthen BW.out KK.out⟩
  have p2d : decide (0 ≤ (f - r.1) * d) = true := decide_eq_true p2
  have P2 := hide p2
  clear p2
  by_cases p3 : 0 < (r.2.1 - f) * d
  rotate_left
  · have HE : Hid (wayB r f d = false) := wayB_f.2 fun h => p3 h.2.2
    have p3d : decide (0 < (r.2.1 - f) * d) = false := decide_eq_false p3
    clear p3
    go_enter Try.func54, Try.ntmps54
    go_wp2_with fail
    refine code_name fun W hW => ?_
    have X2 : Hid (Box W w.heap.size #[.int .i64 r.1, .int .i64 r.2.1, .int .i64 r.2.2]) := by rw [hW]; exact (Box.new rfl).alloc _
    have X3 : Hid (Box W (w.heap.size + 1) #[.int .i64 f, .int .i64 d]) := by rw [hW]; exact Box.new (by simp)
    have BW : Hid (Below w.heap.size w W) := by rw [hW]; exact ((Below.refl _ _).alloc (Nat.le_refl _) _).alloc (by simp) _
    clear hW
    have X2_lt := X2.out.lt
    have X2_c0 := X2.out.at (i := 0) rfl; have X2_f0 := X2.out.frozen 0
    have X2_c1 := X2.out.at (i := 1) rfl; have X2_f1 := X2.out.frozen 1
    have X2_c2 := X2.out.at (i := 2) rfl; have X2_f2 := X2.out.frozen 2
    have X3_lt := X3.out.lt
    have X3_c0 := X3.out.at (i := 0) rfl; have X3_f0 := X3.out.frozen 0
    have X3_c1 := X3.out.at (i := 1) rfl; have X3_f1 := X3.out.frozen 1
    have e1 := E1.out; have e2 := E2.out; have e3 := E3.out; have e4 := E4.out
    have KS : Hid (∀ W', Below W.heap.size W W' → (W'.cell? ⟨w.heap.size, 0, none⟩ = some (.int .i64 r.1) ∧ W'.cell? ⟨w.heap.size, 1, none⟩ = some (.int .i64 r.2.1) ∧ W'.cell? ⟨w.heap.size, 2, none⟩ = some (.int .i64 r.2.2)) ∧ W'.cell? ⟨w.heap.size + 1, 0, none⟩ = some (.int .i64 f) ∧ W'.cell? ⟨w.heap.size + 1, 1, none⟩ = some (.int .i64 d)) := fun W' bb => ⟨⟨(X2.out.below bb).at rfl, (X2.out.below bb).at rfl, (X2.out.below bb).at rfl⟩, (X3.out.below bb).at rfl, (X3.out.below bb).at rfl⟩
    have KK : Hid (Below W.heap.size W W.drew) := (Below.refl _ _).drew
    refine wp_region_noPanic ?_
    refine wp_region_held_drew (S := (fun W => (W.cell? ⟨w.heap.size, 0, none⟩ = some (.int .i64 r.1) ∧ W.cell? ⟨w.heap.size, 1, none⟩ = some (.int .i64 r.2.1) ∧ W.cell? ⟨w.heap.size, 2, none⟩ = some (.int .i64 r.2.2)) ∧ W.cell? ⟨w.heap.size + 1, 0, none⟩ = some (.int .i64 f) ∧ W.cell? ⟨w.heap.size + 1, 1, none⟩ = some (.int .i64 d))) (by kernel_rfl) ?_ (fun hHeld => ?_)
    · exact KS.out _ KK.out
    (refine take_in (i := 0) (v := ?_) rfl (by rfl) (by kernel_rfl) (by kernel_rfl) (by kernel_rfl) (fun _ _ _ h => h) (by rfl) ?_ (by assumption) ?_; rotate_left; (focus ((intro w hSw; (try dsimp only at hSw); go_simp); (try with_reducible rfl); done)); (try simp only [List.setIfInBounds_toArray, List.set_cons_succ, List.set_cons_zero]))
    (refine take_in (i := 2) (v := ?_) rfl (by rfl) (by kernel_rfl) (by kernel_rfl) (by kernel_rfl) (fun _ _ _ h => h) (by rfl) ?_ (by assumption) ?_; rotate_left; (focus ((intro w hSw; (try dsimp only at hSw); go_simp); (try with_reducible rfl); done)); (try simp only [List.setIfInBounds_toArray, List.set_cons_succ, List.set_cons_zero]))
    (refine take_in (i := 3) (v := ?_) rfl (by rfl) (by kernel_rfl) (by kernel_rfl) (by kernel_rfl) (fun _ _ _ h => h) (by rfl) ?_ (by assumption) ?_; rotate_left; (focus ((intro w hSw; (try dsimp only at hSw); go_simp); (try with_reducible rfl); done)); (try simp only [List.setIfInBounds_toArray, List.set_cons_succ, List.set_cons_zero]))
    refine wpAnyH_ready (rs := [1]) (by kernel_rfl) (by simp) ?_
    refine AllReadyH.cons rfl (fun K hK => ?_) AllReadyH.nil
    go_simp
    go_at_call 51
    refine (riderDir_any r _).mono ?_
    rintro e v ⟨rfl, bb⟩
    replace KK := hide (bthen KK.out bb)
    have zKK := KK.out.size
    clear bb
    go_wp2_with fail
    refine hK.out _ _ ?_ (fun hHeld => ?_)
    · exact KS.out _ KK.out
    clear hK K
    (try simp only [Act.put, List.setIfInBounds_toArray, List.set_cons_zero, List.set_cons_succ])
    (refine take_in (i := 4) (v := ?_) rfl (by rfl) (by kernel_rfl) (by kernel_rfl) (by kernel_rfl) (fun _ _ _ h => h) (by rfl) ?_ (by assumption) ?_; rotate_left; (focus ((intro w hSw; (try dsimp only at hSw); go_simp); (try with_reducible rfl); done)); (try simp only [List.setIfInBounds_toArray, List.set_cons_succ, List.set_cons_zero]))
    (refine take_in (i := 5) (v := ?_) rfl (by rfl) (by kernel_rfl) (by kernel_rfl) (by kernel_rfl) (fun _ _ _ h => h) (by rfl) ?_ (by assumption) ?_; rotate_left; (focus ((intro w hSw; (try dsimp only at hSw); go_simp); (try with_reducible rfl); done)); (try simp only [List.setIfInBounds_toArray, List.set_cons_succ, List.set_cons_zero]))
    first | (refine take_in (i := 6) (v := ?_) rfl (by rfl) (by kernel_rfl) (by kernel_rfl) (by kernel_rfl) (fun _ _ _ h => h) (by rfl) ?_ (by assumption) ?_; rotate_left; (focus ((intro w hSw; (try dsimp only at hSw); go_simp); (try with_reducible rfl); done)); (try simp only [List.setIfInBounds_toArray, List.set_cons_succ, List.set_cons_zero])) | (refine take_out (i := 6) rfl (by rfl) (by kernel_rfl) (by kernel_rfl) (by kernel_rfl) (fun _ _ _ h => h) (by rfl) (by assumption) ?_; (try simp only [List.setIfInBounds_toArray, List.set_cons_succ, List.set_cons_zero]))
    first | (refine take_in (i := 7) (v := ?_) rfl (by rfl) (by kernel_rfl) (by kernel_rfl) (by kernel_rfl) (fun _ _ _ h => h) (by rfl) ?_ (by assumption) ?_; rotate_left; (focus ((intro w hSw; (try dsimp only at hSw); go_simp); (try with_reducible rfl); done)); (try simp only [List.setIfInBounds_toArray, List.set_cons_succ, List.set_cons_zero])) | (refine take_out (i := 7) rfl (by rfl) (by kernel_rfl) (by kernel_rfl) (by kernel_rfl) (fun _ _ _ h => h) (by rfl) (by assumption) ?_; (try simp only [List.setIfInBounds_toArray, List.set_cons_succ, List.set_cons_zero]))
    first | (refine take_in (i := 8) (v := ?_) rfl (by rfl) (by kernel_rfl) (by kernel_rfl) (by kernel_rfl) (fun _ _ _ h => h) (by rfl) ?_ (by assumption) ?_; rotate_left; (focus ((intro w hSw; (try dsimp only at hSw); go_simp); (try with_reducible rfl); done)); (try simp only [List.setIfInBounds_toArray, List.set_cons_succ, List.set_cons_zero])) | (refine take_out (i := 8) rfl (by rfl) (by kernel_rfl) (by kernel_rfl) (by kernel_rfl) (fun _ _ _ h => h) (by rfl) (by assumption) ?_; (try simp only [List.setIfInBounds_toArray, List.set_cons_succ, List.set_cons_zero]))
    first | (refine take_in (i := 9) (v := ?_) rfl (by rfl) (by kernel_rfl) (by kernel_rfl) (by kernel_rfl) (fun _ _ _ h => h) (by rfl) ?_ (by assumption) ?_; rotate_left; (focus ((intro w hSw; (try dsimp only at hSw); go_simp); (try with_reducible rfl); done)); (try simp only [List.setIfInBounds_toArray, List.set_cons_succ, List.set_cons_zero])) | (refine take_out (i := 9) rfl (by rfl) (by kernel_rfl) (by kernel_rfl) (by kernel_rfl) (fun _ _ _ h => h) (by rfl) (by assumption) ?_; (try simp only [List.setIfInBounds_toArray, List.set_cons_succ, List.set_cons_zero]))
    first | (refine take_in (i := 10) (v := ?_) rfl (by rfl) (by kernel_rfl) (by kernel_rfl) (by kernel_rfl) (fun _ _ _ h => h) (by rfl) ?_ (by assumption) ?_; rotate_left; (focus ((intro w hSw; (try dsimp only at hSw); go_simp); (try with_reducible rfl); done)); (try simp only [List.setIfInBounds_toArray, List.set_cons_succ, List.set_cons_zero])) | (refine take_out (i := 10) rfl (by rfl) (by kernel_rfl) (by kernel_rfl) (by kernel_rfl) (fun _ _ _ h => h) (by rfl) (by assumption) ?_; (try simp only [List.setIfInBounds_toArray, List.set_cons_succ, List.set_cons_zero]))
    first | (refine take_in (i := 11) (v := ?_) rfl (by rfl) (by kernel_rfl) (by kernel_rfl) (by kernel_rfl) (fun _ _ _ h => h) (by rfl) ?_ (by assumption) ?_; rotate_left; (focus ((intro w hSw; (try dsimp only at hSw); go_simp); (try with_reducible rfl); done)); (try simp only [List.setIfInBounds_toArray, List.set_cons_succ, List.set_cons_zero])) | (refine take_out (i := 11) rfl (by rfl) (by kernel_rfl) (by kernel_rfl) (by kernel_rfl) (fun _ _ _ h => h) (by rfl) (by assumption) ?_; (try simp only [List.setIfInBounds_toArray, List.set_cons_succ, List.set_cons_zero]))
    first | (refine take_in (i := 12) (v := ?_) rfl (by rfl) (by kernel_rfl) (by kernel_rfl) (by kernel_rfl) (fun _ _ _ h => h) (by rfl) ?_ (by assumption) ?_; rotate_left; (focus ((intro w hSw; (try dsimp only at hSw); go_simp); (try with_reducible rfl); done)); (try simp only [List.setIfInBounds_toArray, List.set_cons_succ, List.set_cons_zero])) | (refine take_out (i := 12) rfl (by rfl) (by kernel_rfl) (by kernel_rfl) (by kernel_rfl) (fun _ _ _ h => h) (by rfl) (by assumption) ?_; (try simp only [List.setIfInBounds_toArray, List.set_cons_succ, List.set_cons_zero]))
    first | (refine take_in (i := 13) (v := ?_) rfl (by rfl) (by kernel_rfl) (by kernel_rfl) (by kernel_rfl) (fun _ _ _ h => h) (by rfl) ?_ (by assumption) ?_; rotate_left; (focus ((intro w hSw; (try dsimp only at hSw); go_simp); (try with_reducible rfl); done)); (try simp only [List.setIfInBounds_toArray, List.set_cons_succ, List.set_cons_zero])) | (refine take_out (i := 13) rfl (by rfl) (by kernel_rfl) (by kernel_rfl) (by kernel_rfl) (fun _ _ _ h => h) (by rfl) (by assumption) ?_; (try simp only [List.setIfInBounds_toArray, List.set_cons_succ, List.set_cons_zero]))
    first | (refine take_in (i := 14) (v := ?_) rfl (by rfl) (by kernel_rfl) (by kernel_rfl) (by kernel_rfl) (fun _ _ _ h => h) (by rfl) ?_ (by assumption) ?_; rotate_left; (focus ((intro w hSw; (try dsimp only at hSw); go_simp); (try with_reducible rfl); done)); (try simp only [List.setIfInBounds_toArray, List.set_cons_succ, List.set_cons_zero])) | (refine take_out (i := 14) rfl (by rfl) (by kernel_rfl) (by kernel_rfl) (by kernel_rfl) (fun _ _ _ h => h) (by rfl) (by assumption) ?_; (try simp only [List.setIfInBounds_toArray, List.set_cons_succ, List.set_cons_zero]))
    (refine take_in (i := 15) (v := ?_) rfl (by rfl) (by kernel_rfl) (by kernel_rfl) (by kernel_rfl) (fun _ _ _ h => h) (by rfl) ?_ (by assumption) ?_; rotate_left; (focus ((intro w hSw; (try dsimp only at hSw); go_simp); (try with_reducible rfl); done)); (try simp only [List.setIfInBounds_toArray, List.set_cons_succ, List.set_cons_zero]))
    (refine take_in (i := 16) (v := ?_) rfl (by rfl) (by kernel_rfl) (by kernel_rfl) (by kernel_rfl) (fun _ _ _ h => h) (by rfl) ?_ (by assumption) ?_; rotate_left; (focus ((intro w hSw; (try dsimp only at hSw); go_simp); (try with_reducible rfl); done)); (try simp only [List.setIfInBounds_toArray, List.set_cons_succ, List.set_cons_zero]))
    first | (refine take_in (i := 17) (v := ?_) rfl (by rfl) (by kernel_rfl) (by kernel_rfl) (by kernel_rfl) (fun _ _ _ h => h) (by rfl) ?_ (by assumption) ?_; rotate_left; (focus ((intro w hSw; (try dsimp only at hSw); go_simp); (try with_reducible rfl); done)); (try simp only [List.setIfInBounds_toArray, List.set_cons_succ, List.set_cons_zero])) | (refine take_out (i := 17) rfl (by rfl) (by kernel_rfl) (by kernel_rfl) (by kernel_rfl) (fun _ _ _ h => h) (by rfl) (by assumption) ?_; (try simp only [List.setIfInBounds_toArray, List.set_cons_succ, List.set_cons_zero]))
    first | (refine take_in (i := 18) (v := ?_) rfl (by rfl) (by kernel_rfl) (by kernel_rfl) (by kernel_rfl) (fun _ _ _ h => h) (by rfl) ?_ (by assumption) ?_; rotate_left; (focus ((intro w hSw; (try dsimp only at hSw); go_simp); (try with_reducible rfl); done)); (try simp only [List.setIfInBounds_toArray, List.set_cons_succ, List.set_cons_zero])) | (refine take_out (i := 18) rfl (by rfl) (by kernel_rfl) (by kernel_rfl) (by kernel_rfl) (fun _ _ _ h => h) (by rfl) (by assumption) ?_; (try simp only [List.setIfInBounds_toArray, List.set_cons_succ, List.set_cons_zero]))
    first | (refine take_in (i := 19) (v := ?_) rfl (by rfl) (by kernel_rfl) (by kernel_rfl) (by kernel_rfl) (fun _ _ _ h => h) (by rfl) ?_ (by assumption) ?_; rotate_left; (focus ((intro w hSw; (try dsimp only at hSw); go_simp); (try with_reducible rfl); done)); (try simp only [List.setIfInBounds_toArray, List.set_cons_succ, List.set_cons_zero])) | (refine take_out (i := 19) rfl (by rfl) (by kernel_rfl) (by kernel_rfl) (by kernel_rfl) (fun _ _ _ h => h) (by rfl) (by assumption) ?_; (try simp only [List.setIfInBounds_toArray, List.set_cons_succ, List.set_cons_zero]))
    first | (refine take_in (i := 20) (v := ?_) rfl (by rfl) (by kernel_rfl) (by kernel_rfl) (by kernel_rfl) (fun _ _ _ h => h) (by rfl) ?_ (by assumption) ?_; rotate_left; (focus ((intro w hSw; (try dsimp only at hSw); go_simp); (try with_reducible rfl); done)); (try simp only [List.setIfInBounds_toArray, List.set_cons_succ, List.set_cons_zero])) | (refine take_out (i := 20) rfl (by rfl) (by kernel_rfl) (by kernel_rfl) (by kernel_rfl) (fun _ _ _ h => h) (by rfl) (by assumption) ?_; (try simp only [List.setIfInBounds_toArray, List.set_cons_succ, List.set_cons_zero]))
    first | (refine take_in (i := 21) (v := ?_) rfl (by rfl) (by kernel_rfl) (by kernel_rfl) (by kernel_rfl) (fun _ _ _ h => h) (by rfl) ?_ (by assumption) ?_; rotate_left; (focus ((intro w hSw; (try dsimp only at hSw); go_simp); (try with_reducible rfl); done)); (try simp only [List.setIfInBounds_toArray, List.set_cons_succ, List.set_cons_zero])) | (refine take_out (i := 21) rfl (by rfl) (by kernel_rfl) (by kernel_rfl) (by kernel_rfl) (fun _ _ _ h => h) (by rfl) (by assumption) ?_; (try simp only [List.setIfInBounds_toArray, List.set_cons_succ, List.set_cons_zero]))
    first | (refine take_in (i := 22) (v := ?_) rfl (by rfl) (by kernel_rfl) (by kernel_rfl) (by kernel_rfl) (fun _ _ _ h => h) (by rfl) ?_ (by assumption) ?_; rotate_left; (focus ((intro w hSw; (try dsimp only at hSw); go_simp); (try with_reducible rfl); done)); (try simp only [List.setIfInBounds_toArray, List.set_cons_succ, List.set_cons_zero])) | (refine take_out (i := 22) rfl (by rfl) (by kernel_rfl) (by kernel_rfl) (by kernel_rfl) (fun _ _ _ h => h) (by rfl) (by assumption) ?_; (try simp only [List.setIfInBounds_toArray, List.set_cons_succ, List.set_cons_zero]))
    first | (refine take_in (i := 23) (v := ?_) rfl (by rfl) (by kernel_rfl) (by kernel_rfl) (by kernel_rfl) (fun _ _ _ h => h) (by rfl) ?_ (by assumption) ?_; rotate_left; (focus ((intro w hSw; (try dsimp only at hSw); go_simp); (try with_reducible rfl); done)); (try simp only [List.setIfInBounds_toArray, List.set_cons_succ, List.set_cons_zero])) | (refine take_out (i := 23) rfl (by rfl) (by kernel_rfl) (by kernel_rfl) (by kernel_rfl) (fun _ _ _ h => h) (by rfl) (by assumption) ?_; (try simp only [List.setIfInBounds_toArray, List.set_cons_succ, List.set_cons_zero]))
    first | (refine take_in (i := 24) (v := ?_) rfl (by rfl) (by kernel_rfl) (by kernel_rfl) (by kernel_rfl) (fun _ _ _ h => h) (by rfl) ?_ (by assumption) ?_; rotate_left; (focus ((intro w hSw; (try dsimp only at hSw); go_simp); (try with_reducible rfl); done)); (try simp only [List.setIfInBounds_toArray, List.set_cons_succ, List.set_cons_zero])) | (refine take_out (i := 24) rfl (by rfl) (by kernel_rfl) (by kernel_rfl) (by kernel_rfl) (fun _ _ _ h => h) (by rfl) (by assumption) ?_; (try simp only [List.setIfInBounds_toArray, List.set_cons_succ, List.set_cons_zero]))
    first | (refine take_in (i := 25) (v := ?_) rfl (by rfl) (by kernel_rfl) (by kernel_rfl) (by kernel_rfl) (fun _ _ _ h => h) (by rfl) ?_ (by assumption) ?_; rotate_left; (focus ((intro w hSw; (try dsimp only at hSw); go_simp); (try with_reducible rfl); done)); (try simp only [List.setIfInBounds_toArray, List.set_cons_succ, List.set_cons_zero])) | (refine take_out (i := 25) rfl (by rfl) (by kernel_rfl) (by kernel_rfl) (by kernel_rfl) (fun _ _ _ h => h) (by rfl) (by assumption) ?_; (try simp only [List.setIfInBounds_toArray, List.set_cons_succ, List.set_cons_zero]))
    (refine take_in (i := 26) (v := ?_) rfl (by rfl) (by kernel_rfl) (by kernel_rfl) (by kernel_rfl) (fun _ _ _ h => h) (by rfl) ?_ (by assumption) ?_; rotate_left; (focus ((intro w hSw; (try dsimp only at hSw); go_simp); (try with_reducible rfl); done)); (try simp only [List.setIfInBounds_toArray, List.set_cons_succ, List.set_cons_zero]))
    (refine take_in (i := 27) (v := ?_) rfl (by rfl) (by kernel_rfl) (by kernel_rfl) (by kernel_rfl) (fun _ _ _ h => h) (by rfl) ?_ (by assumption) ?_; rotate_left; (focus ((intro w hSw; (try dsimp only at hSw); go_simp); (try with_reducible rfl); done)); (try simp only [List.setIfInBounds_toArray, List.set_cons_succ, List.set_cons_zero]))
    refine wpAnyH_done (by kernel_rfl) ?_ _
    refine NoPanic.normal ?_
    clear KS
    go_wp2_with fail
    go_ret
    exact ⟨ret_bool HE.out.symm, bthen BW.out KK.out⟩
  · have HE : Hid (wayB r f d = true) := wayB_iff.2 ⟨P1.out, P2.out, p3⟩
    have p3d : decide (0 < (r.2.1 - f) * d) = true := decide_eq_true p3
    clear p3
    go_enter Try.func54, Try.ntmps54
    go_wp2_with fail
    refine code_name fun W hW => ?_
    have X2 : Hid (Box W w.heap.size #[.int .i64 r.1, .int .i64 r.2.1, .int .i64 r.2.2]) := by rw [hW]; exact (Box.new rfl).alloc _
    have X3 : Hid (Box W (w.heap.size + 1) #[.int .i64 f, .int .i64 d]) := by rw [hW]; exact Box.new (by simp)
    have BW : Hid (Below w.heap.size w W) := by rw [hW]; exact ((Below.refl _ _).alloc (Nat.le_refl _) _).alloc (by simp) _
    clear hW
    have X2_lt := X2.out.lt
    have X2_c0 := X2.out.at (i := 0) rfl; have X2_f0 := X2.out.frozen 0
    have X2_c1 := X2.out.at (i := 1) rfl; have X2_f1 := X2.out.frozen 1
    have X2_c2 := X2.out.at (i := 2) rfl; have X2_f2 := X2.out.frozen 2
    have X3_lt := X3.out.lt
    have X3_c0 := X3.out.at (i := 0) rfl; have X3_f0 := X3.out.frozen 0
    have X3_c1 := X3.out.at (i := 1) rfl; have X3_f1 := X3.out.frozen 1
    have e1 := E1.out; have e2 := E2.out; have e3 := E3.out; have e4 := E4.out
    have KS : Hid (∀ W', Below W.heap.size W W' → (W'.cell? ⟨w.heap.size, 0, none⟩ = some (.int .i64 r.1) ∧ W'.cell? ⟨w.heap.size, 1, none⟩ = some (.int .i64 r.2.1) ∧ W'.cell? ⟨w.heap.size, 2, none⟩ = some (.int .i64 r.2.2)) ∧ W'.cell? ⟨w.heap.size + 1, 0, none⟩ = some (.int .i64 f) ∧ W'.cell? ⟨w.heap.size + 1, 1, none⟩ = some (.int .i64 d)) := fun W' bb => ⟨⟨(X2.out.below bb).at rfl, (X2.out.below bb).at rfl, (X2.out.below bb).at rfl⟩, (X3.out.below bb).at rfl, (X3.out.below bb).at rfl⟩
    have KK : Hid (Below W.heap.size W W.drew) := (Below.refl _ _).drew
    refine wp_region_noPanic ?_
    refine wp_region_held_drew (S := (fun W => (W.cell? ⟨w.heap.size, 0, none⟩ = some (.int .i64 r.1) ∧ W.cell? ⟨w.heap.size, 1, none⟩ = some (.int .i64 r.2.1) ∧ W.cell? ⟨w.heap.size, 2, none⟩ = some (.int .i64 r.2.2)) ∧ W.cell? ⟨w.heap.size + 1, 0, none⟩ = some (.int .i64 f) ∧ W.cell? ⟨w.heap.size + 1, 1, none⟩ = some (.int .i64 d))) (by kernel_rfl) ?_ (fun hHeld => ?_)
    · exact KS.out _ KK.out
    (refine take_in (i := 0) (v := ?_) rfl (by rfl) (by kernel_rfl) (by kernel_rfl) (by kernel_rfl) (fun _ _ _ h => h) (by rfl) ?_ (by assumption) ?_; rotate_left; (focus ((intro w hSw; (try dsimp only at hSw); go_simp); (try with_reducible rfl); done)); (try simp only [List.setIfInBounds_toArray, List.set_cons_succ, List.set_cons_zero]))
    (refine take_in (i := 2) (v := ?_) rfl (by rfl) (by kernel_rfl) (by kernel_rfl) (by kernel_rfl) (fun _ _ _ h => h) (by rfl) ?_ (by assumption) ?_; rotate_left; (focus ((intro w hSw; (try dsimp only at hSw); go_simp); (try with_reducible rfl); done)); (try simp only [List.setIfInBounds_toArray, List.set_cons_succ, List.set_cons_zero]))
    (refine take_in (i := 3) (v := ?_) rfl (by rfl) (by kernel_rfl) (by kernel_rfl) (by kernel_rfl) (fun _ _ _ h => h) (by rfl) ?_ (by assumption) ?_; rotate_left; (focus ((intro w hSw; (try dsimp only at hSw); go_simp); (try with_reducible rfl); done)); (try simp only [List.setIfInBounds_toArray, List.set_cons_succ, List.set_cons_zero]))
    refine wpAnyH_ready (rs := [1]) (by kernel_rfl) (by simp) ?_
    refine AllReadyH.cons rfl (fun K hK => ?_) AllReadyH.nil
    go_simp
    go_at_call 51
    refine (riderDir_any r _).mono ?_
    rintro e v ⟨rfl, bb⟩
    replace KK := hide (bthen KK.out bb)
    have zKK := KK.out.size
    clear bb
    go_wp2_with fail
    refine hK.out _ _ ?_ (fun hHeld => ?_)
    · exact KS.out _ KK.out
    clear hK K
    (try simp only [Act.put, List.setIfInBounds_toArray, List.set_cons_zero, List.set_cons_succ])
    (refine take_in (i := 4) (v := ?_) rfl (by rfl) (by kernel_rfl) (by kernel_rfl) (by kernel_rfl) (fun _ _ _ h => h) (by rfl) ?_ (by assumption) ?_; rotate_left; (focus ((intro w hSw; (try dsimp only at hSw); go_simp); (try with_reducible rfl); done)); (try simp only [List.setIfInBounds_toArray, List.set_cons_succ, List.set_cons_zero]))
    (refine take_in (i := 5) (v := ?_) rfl (by rfl) (by kernel_rfl) (by kernel_rfl) (by kernel_rfl) (fun _ _ _ h => h) (by rfl) ?_ (by assumption) ?_; rotate_left; (focus ((intro w hSw; (try dsimp only at hSw); go_simp); (try with_reducible rfl); done)); (try simp only [List.setIfInBounds_toArray, List.set_cons_succ, List.set_cons_zero]))
    first | (refine take_in (i := 6) (v := ?_) rfl (by rfl) (by kernel_rfl) (by kernel_rfl) (by kernel_rfl) (fun _ _ _ h => h) (by rfl) ?_ (by assumption) ?_; rotate_left; (focus ((intro w hSw; (try dsimp only at hSw); go_simp); (try with_reducible rfl); done)); (try simp only [List.setIfInBounds_toArray, List.set_cons_succ, List.set_cons_zero])) | (refine take_out (i := 6) rfl (by rfl) (by kernel_rfl) (by kernel_rfl) (by kernel_rfl) (fun _ _ _ h => h) (by rfl) (by assumption) ?_; (try simp only [List.setIfInBounds_toArray, List.set_cons_succ, List.set_cons_zero]))
    first | (refine take_in (i := 7) (v := ?_) rfl (by rfl) (by kernel_rfl) (by kernel_rfl) (by kernel_rfl) (fun _ _ _ h => h) (by rfl) ?_ (by assumption) ?_; rotate_left; (focus ((intro w hSw; (try dsimp only at hSw); go_simp); (try with_reducible rfl); done)); (try simp only [List.setIfInBounds_toArray, List.set_cons_succ, List.set_cons_zero])) | (refine take_out (i := 7) rfl (by rfl) (by kernel_rfl) (by kernel_rfl) (by kernel_rfl) (fun _ _ _ h => h) (by rfl) (by assumption) ?_; (try simp only [List.setIfInBounds_toArray, List.set_cons_succ, List.set_cons_zero]))
    first | (refine take_in (i := 8) (v := ?_) rfl (by rfl) (by kernel_rfl) (by kernel_rfl) (by kernel_rfl) (fun _ _ _ h => h) (by rfl) ?_ (by assumption) ?_; rotate_left; (focus ((intro w hSw; (try dsimp only at hSw); go_simp); (try with_reducible rfl); done)); (try simp only [List.setIfInBounds_toArray, List.set_cons_succ, List.set_cons_zero])) | (refine take_out (i := 8) rfl (by rfl) (by kernel_rfl) (by kernel_rfl) (by kernel_rfl) (fun _ _ _ h => h) (by rfl) (by assumption) ?_; (try simp only [List.setIfInBounds_toArray, List.set_cons_succ, List.set_cons_zero]))
    first | (refine take_in (i := 9) (v := ?_) rfl (by rfl) (by kernel_rfl) (by kernel_rfl) (by kernel_rfl) (fun _ _ _ h => h) (by rfl) ?_ (by assumption) ?_; rotate_left; (focus ((intro w hSw; (try dsimp only at hSw); go_simp); (try with_reducible rfl); done)); (try simp only [List.setIfInBounds_toArray, List.set_cons_succ, List.set_cons_zero])) | (refine take_out (i := 9) rfl (by rfl) (by kernel_rfl) (by kernel_rfl) (by kernel_rfl) (fun _ _ _ h => h) (by rfl) (by assumption) ?_; (try simp only [List.setIfInBounds_toArray, List.set_cons_succ, List.set_cons_zero]))
    first | (refine take_in (i := 10) (v := ?_) rfl (by rfl) (by kernel_rfl) (by kernel_rfl) (by kernel_rfl) (fun _ _ _ h => h) (by rfl) ?_ (by assumption) ?_; rotate_left; (focus ((intro w hSw; (try dsimp only at hSw); go_simp); (try with_reducible rfl); done)); (try simp only [List.setIfInBounds_toArray, List.set_cons_succ, List.set_cons_zero])) | (refine take_out (i := 10) rfl (by rfl) (by kernel_rfl) (by kernel_rfl) (by kernel_rfl) (fun _ _ _ h => h) (by rfl) (by assumption) ?_; (try simp only [List.setIfInBounds_toArray, List.set_cons_succ, List.set_cons_zero]))
    first | (refine take_in (i := 11) (v := ?_) rfl (by rfl) (by kernel_rfl) (by kernel_rfl) (by kernel_rfl) (fun _ _ _ h => h) (by rfl) ?_ (by assumption) ?_; rotate_left; (focus ((intro w hSw; (try dsimp only at hSw); go_simp); (try with_reducible rfl); done)); (try simp only [List.setIfInBounds_toArray, List.set_cons_succ, List.set_cons_zero])) | (refine take_out (i := 11) rfl (by rfl) (by kernel_rfl) (by kernel_rfl) (by kernel_rfl) (fun _ _ _ h => h) (by rfl) (by assumption) ?_; (try simp only [List.setIfInBounds_toArray, List.set_cons_succ, List.set_cons_zero]))
    first | (refine take_in (i := 12) (v := ?_) rfl (by rfl) (by kernel_rfl) (by kernel_rfl) (by kernel_rfl) (fun _ _ _ h => h) (by rfl) ?_ (by assumption) ?_; rotate_left; (focus ((intro w hSw; (try dsimp only at hSw); go_simp); (try with_reducible rfl); done)); (try simp only [List.setIfInBounds_toArray, List.set_cons_succ, List.set_cons_zero])) | (refine take_out (i := 12) rfl (by rfl) (by kernel_rfl) (by kernel_rfl) (by kernel_rfl) (fun _ _ _ h => h) (by rfl) (by assumption) ?_; (try simp only [List.setIfInBounds_toArray, List.set_cons_succ, List.set_cons_zero]))
    first | (refine take_in (i := 13) (v := ?_) rfl (by rfl) (by kernel_rfl) (by kernel_rfl) (by kernel_rfl) (fun _ _ _ h => h) (by rfl) ?_ (by assumption) ?_; rotate_left; (focus ((intro w hSw; (try dsimp only at hSw); go_simp); (try with_reducible rfl); done)); (try simp only [List.setIfInBounds_toArray, List.set_cons_succ, List.set_cons_zero])) | (refine take_out (i := 13) rfl (by rfl) (by kernel_rfl) (by kernel_rfl) (by kernel_rfl) (fun _ _ _ h => h) (by rfl) (by assumption) ?_; (try simp only [List.setIfInBounds_toArray, List.set_cons_succ, List.set_cons_zero]))
    first | (refine take_in (i := 14) (v := ?_) rfl (by rfl) (by kernel_rfl) (by kernel_rfl) (by kernel_rfl) (fun _ _ _ h => h) (by rfl) ?_ (by assumption) ?_; rotate_left; (focus ((intro w hSw; (try dsimp only at hSw); go_simp); (try with_reducible rfl); done)); (try simp only [List.setIfInBounds_toArray, List.set_cons_succ, List.set_cons_zero])) | (refine take_out (i := 14) rfl (by rfl) (by kernel_rfl) (by kernel_rfl) (by kernel_rfl) (fun _ _ _ h => h) (by rfl) (by assumption) ?_; (try simp only [List.setIfInBounds_toArray, List.set_cons_succ, List.set_cons_zero]))
    (refine take_in (i := 15) (v := ?_) rfl (by rfl) (by kernel_rfl) (by kernel_rfl) (by kernel_rfl) (fun _ _ _ h => h) (by rfl) ?_ (by assumption) ?_; rotate_left; (focus ((intro w hSw; (try dsimp only at hSw); go_simp); (try with_reducible rfl); done)); (try simp only [List.setIfInBounds_toArray, List.set_cons_succ, List.set_cons_zero]))
    (refine take_in (i := 16) (v := ?_) rfl (by rfl) (by kernel_rfl) (by kernel_rfl) (by kernel_rfl) (fun _ _ _ h => h) (by rfl) ?_ (by assumption) ?_; rotate_left; (focus ((intro w hSw; (try dsimp only at hSw); go_simp); (try with_reducible rfl); done)); (try simp only [List.setIfInBounds_toArray, List.set_cons_succ, List.set_cons_zero]))
    first | (refine take_in (i := 17) (v := ?_) rfl (by rfl) (by kernel_rfl) (by kernel_rfl) (by kernel_rfl) (fun _ _ _ h => h) (by rfl) ?_ (by assumption) ?_; rotate_left; (focus ((intro w hSw; (try dsimp only at hSw); go_simp); (try with_reducible rfl); done)); (try simp only [List.setIfInBounds_toArray, List.set_cons_succ, List.set_cons_zero])) | (refine take_out (i := 17) rfl (by rfl) (by kernel_rfl) (by kernel_rfl) (by kernel_rfl) (fun _ _ _ h => h) (by rfl) (by assumption) ?_; (try simp only [List.setIfInBounds_toArray, List.set_cons_succ, List.set_cons_zero]))
    first | (refine take_in (i := 18) (v := ?_) rfl (by rfl) (by kernel_rfl) (by kernel_rfl) (by kernel_rfl) (fun _ _ _ h => h) (by rfl) ?_ (by assumption) ?_; rotate_left; (focus ((intro w hSw; (try dsimp only at hSw); go_simp); (try with_reducible rfl); done)); (try simp only [List.setIfInBounds_toArray, List.set_cons_succ, List.set_cons_zero])) | (refine take_out (i := 18) rfl (by rfl) (by kernel_rfl) (by kernel_rfl) (by kernel_rfl) (fun _ _ _ h => h) (by rfl) (by assumption) ?_; (try simp only [List.setIfInBounds_toArray, List.set_cons_succ, List.set_cons_zero]))
    first | (refine take_in (i := 19) (v := ?_) rfl (by rfl) (by kernel_rfl) (by kernel_rfl) (by kernel_rfl) (fun _ _ _ h => h) (by rfl) ?_ (by assumption) ?_; rotate_left; (focus ((intro w hSw; (try dsimp only at hSw); go_simp); (try with_reducible rfl); done)); (try simp only [List.setIfInBounds_toArray, List.set_cons_succ, List.set_cons_zero])) | (refine take_out (i := 19) rfl (by rfl) (by kernel_rfl) (by kernel_rfl) (by kernel_rfl) (fun _ _ _ h => h) (by rfl) (by assumption) ?_; (try simp only [List.setIfInBounds_toArray, List.set_cons_succ, List.set_cons_zero]))
    first | (refine take_in (i := 20) (v := ?_) rfl (by rfl) (by kernel_rfl) (by kernel_rfl) (by kernel_rfl) (fun _ _ _ h => h) (by rfl) ?_ (by assumption) ?_; rotate_left; (focus ((intro w hSw; (try dsimp only at hSw); go_simp); (try with_reducible rfl); done)); (try simp only [List.setIfInBounds_toArray, List.set_cons_succ, List.set_cons_zero])) | (refine take_out (i := 20) rfl (by rfl) (by kernel_rfl) (by kernel_rfl) (by kernel_rfl) (fun _ _ _ h => h) (by rfl) (by assumption) ?_; (try simp only [List.setIfInBounds_toArray, List.set_cons_succ, List.set_cons_zero]))
    first | (refine take_in (i := 21) (v := ?_) rfl (by rfl) (by kernel_rfl) (by kernel_rfl) (by kernel_rfl) (fun _ _ _ h => h) (by rfl) ?_ (by assumption) ?_; rotate_left; (focus ((intro w hSw; (try dsimp only at hSw); go_simp); (try with_reducible rfl); done)); (try simp only [List.setIfInBounds_toArray, List.set_cons_succ, List.set_cons_zero])) | (refine take_out (i := 21) rfl (by rfl) (by kernel_rfl) (by kernel_rfl) (by kernel_rfl) (fun _ _ _ h => h) (by rfl) (by assumption) ?_; (try simp only [List.setIfInBounds_toArray, List.set_cons_succ, List.set_cons_zero]))
    first | (refine take_in (i := 22) (v := ?_) rfl (by rfl) (by kernel_rfl) (by kernel_rfl) (by kernel_rfl) (fun _ _ _ h => h) (by rfl) ?_ (by assumption) ?_; rotate_left; (focus ((intro w hSw; (try dsimp only at hSw); go_simp); (try with_reducible rfl); done)); (try simp only [List.setIfInBounds_toArray, List.set_cons_succ, List.set_cons_zero])) | (refine take_out (i := 22) rfl (by rfl) (by kernel_rfl) (by kernel_rfl) (by kernel_rfl) (fun _ _ _ h => h) (by rfl) (by assumption) ?_; (try simp only [List.setIfInBounds_toArray, List.set_cons_succ, List.set_cons_zero]))
    first | (refine take_in (i := 23) (v := ?_) rfl (by rfl) (by kernel_rfl) (by kernel_rfl) (by kernel_rfl) (fun _ _ _ h => h) (by rfl) ?_ (by assumption) ?_; rotate_left; (focus ((intro w hSw; (try dsimp only at hSw); go_simp); (try with_reducible rfl); done)); (try simp only [List.setIfInBounds_toArray, List.set_cons_succ, List.set_cons_zero])) | (refine take_out (i := 23) rfl (by rfl) (by kernel_rfl) (by kernel_rfl) (by kernel_rfl) (fun _ _ _ h => h) (by rfl) (by assumption) ?_; (try simp only [List.setIfInBounds_toArray, List.set_cons_succ, List.set_cons_zero]))
    first | (refine take_in (i := 24) (v := ?_) rfl (by rfl) (by kernel_rfl) (by kernel_rfl) (by kernel_rfl) (fun _ _ _ h => h) (by rfl) ?_ (by assumption) ?_; rotate_left; (focus ((intro w hSw; (try dsimp only at hSw); go_simp); (try with_reducible rfl); done)); (try simp only [List.setIfInBounds_toArray, List.set_cons_succ, List.set_cons_zero])) | (refine take_out (i := 24) rfl (by rfl) (by kernel_rfl) (by kernel_rfl) (by kernel_rfl) (fun _ _ _ h => h) (by rfl) (by assumption) ?_; (try simp only [List.setIfInBounds_toArray, List.set_cons_succ, List.set_cons_zero]))
    first | (refine take_in (i := 25) (v := ?_) rfl (by rfl) (by kernel_rfl) (by kernel_rfl) (by kernel_rfl) (fun _ _ _ h => h) (by rfl) ?_ (by assumption) ?_; rotate_left; (focus ((intro w hSw; (try dsimp only at hSw); go_simp); (try with_reducible rfl); done)); (try simp only [List.setIfInBounds_toArray, List.set_cons_succ, List.set_cons_zero])) | (refine take_out (i := 25) rfl (by rfl) (by kernel_rfl) (by kernel_rfl) (by kernel_rfl) (fun _ _ _ h => h) (by rfl) (by assumption) ?_; (try simp only [List.setIfInBounds_toArray, List.set_cons_succ, List.set_cons_zero]))
    (refine take_in (i := 26) (v := ?_) rfl (by rfl) (by kernel_rfl) (by kernel_rfl) (by kernel_rfl) (fun _ _ _ h => h) (by rfl) ?_ (by assumption) ?_; rotate_left; (focus ((intro w hSw; (try dsimp only at hSw); go_simp); (try with_reducible rfl); done)); (try simp only [List.setIfInBounds_toArray, List.set_cons_succ, List.set_cons_zero]))
    (refine take_in (i := 27) (v := ?_) rfl (by rfl) (by kernel_rfl) (by kernel_rfl) (by kernel_rfl) (fun _ _ _ h => h) (by rfl) ?_ (by assumption) ?_; rotate_left; (focus ((intro w hSw; (try dsimp only at hSw); go_simp); (try with_reducible rfl); done)); (try simp only [List.setIfInBounds_toArray, List.set_cons_succ, List.set_cons_zero]))
    refine wpAnyH_done (by kernel_rfl) ?_ _
    refine NoPanic.normal ?_
    clear KS
    go_wp2_with fail
    go_ret
    exact ⟨ret_bool HE.out.symm, bthen BW.out KK.out⟩
theorem l11Inside_any (A : Option Addr) (c : Nat) (t : Tp) (w : World) (h : Rds w A t.rs) (hl : (t.rs.length : Int) ≤ 1000000000) :
    Calls Try.prog 46 #[.agg #[.int .i64 t.n, .int .i64 t.room, .int .i64 t.f, .int .i64 t.d, .slice A t.rs.length c]] w fun e w' => e = .returned (.int .i64 (inN 1 t.rs)) ∧ Below w.heap.size w w' := by
  have H := hide h; clear h
  go_enter Try.func46, Try.ntmps46
  go_wp2_with fail
  refine code_name fun W hW => ?_
  have X1 := hide (Box.new' (g := w.heap.size) hW rfl)
  have BW : Hid (Below w.heap.size w W) := by rw [hW]; exact (Below.refl _ _).alloc (Nat.le_refl _) _
  replace H := hide (H.out.below BW.out)
  clear hW
  have X1_lt := X1.out.lt
  have X1_c0 := X1.out.at (i := 0) rfl; have X1_f0 := X1.out.frozen 0
  have X1_c1 := X1.out.at (i := 1) rfl; have X1_f1 := X1.out.frozen 1
  have X1_c2 := X1.out.at (i := 2) rfl; have X1_f2 := X1.out.frozen 2
  have X1_c3 := X1.out.at (i := 3) rfl; have X1_f3 := X1.out.frozen 3
  have X1_c4 := X1.out.at (i := 4) rfl; have X1_f4 := X1.out.frozen 4
  go_loop [3, 4] (fun n i => ∃ k : Nat, k ≤ t.rs.length ∧ i = .int .i64 k ∧ n = .int .i64 (inN 1 (t.rs.take k))) (fun _ i => t.rs.length - (intOf i).toNat)
  case atStart => exact ⟨0, by omega, rfl, rfl⟩
  case round =>
    obtain ⟨k, hk, rfl, rfl⟩ := hrel
    by_cases hlt : k < t.rs.length
    · obtain ⟨b, off, r, rfl, hb, hr, c0, c1, c2⟩ := H.out.at hlt
      have HS := hide (inN_snoc (s := 1) hr.out)
      have hbd := inN_bd 1 (t.rs.take k)
      have hle : (t.rs.take k).length ≤ t.rs.length := List.length_take_le' _ _
      clear hr
      by_cases h1 : r.2.2 = 1
      · have h1' : (r.2.2 == 1) = true := by simpa using h1
        have HS2 := hide (show inN 1 (t.rs.take (k + 1)) = inN 1 (t.rs.take k) + 1 by rw [HS.out, if_pos h1])
        clear h1
        go_wp2_with fail
        go_round
        case rel => exact ⟨k + 1, by omega, by go_num, by rw [HS2.out]⟩
        case measure => simp [intOf]; omega
      · have h1' : (r.2.2 == 1) = false := by simpa using h1
        have HS2 := hide (show inN 1 (t.rs.take (k + 1)) = inN 1 (t.rs.take k) by rw [HS.out, if_neg h1, Int.add_zero])
        clear h1
        go_wp2_with fail
        go_round
        case rel => exact ⟨k + 1, by omega, by go_num, by rw [HS2.out]⟩
        case measure => simp [intOf]; omega
    · have HE := hide (show inN 1 (t.rs.take k) = inN 1 t.rs by rw [List.take_of_length_le (by omega)])
      go_wp2_with fail
      go_ret
      exact ⟨ret_int HE.out, BW.out⟩
end Go.Proofs.Ytbkjgiomamlajaa
