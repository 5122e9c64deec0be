import Derived.Test.YtjkaabimaimicaaWRope3
namespace Go.Proofs.Ytjkaabimaimicaa
open Go.RowKit

/-- A store into a row of the call's own. -/
theorem own_store {LO k : Nat} {w : World} {v : Value} {xs : List Int} {x : Int} (h : OwnI LO w v xs) (hx : xs[k]? = some x) (hk : k < xs.length) (y : Int) :
    ∃ g cap, v = .slice (some ⟨g, 0, none⟩) xs.length cap ∧ LO ≤ g ∧ w.cell? ⟨g, k, none⟩ = some (.int .i64 x) ∧ w.frozen? ⟨g, k, none⟩ = false ∧ Ints (w.setCell ⟨g, k, none⟩ (.int .i64 y)) (some ⟨g, 0, none⟩) (xs.set k y) := by
  have h0 : w.ownsRow LO 3 1 v xs.length (ivs xs) := h
  obtain ⟨g, cap, rfl, hg, -⟩ := h0.form (by omega)
  refine ⟨g, cap, rfl, hg, ?_, h0.frozenAt k, ?_⟩
  · rw [h0.cellAt k (by omega)]; simp [ivs, iv, hx]
  · have := (h0.stored k (.int .i64 y)).1
    rw [show (ivs xs).set k (.int .i64 y) = ivs (xs.set k y) from by simp [ivs, iv, List.map_set]] at this
    exact owns_ints this
theorem wDiscard (A : Option Addr) (c : Nat) (bs : List Int) (w : World) (h0 : InRow .u8 w A c bs) :
    Calls Try.prog 14 #[.slice A bs.length c] w fun e w' => e = .returned (.bool true) ∧ Below w.heap.size w w' := by
  have HB := hide h0.byte
  obtain ⟨h, hc, hc2, -⟩ := h0
  have H : Hid (Sl w A (bvs bs)) := h
  clear h
  by_cases hl : ¬ bs.length ≤ 1048576
  · go_enter Try.func14, Try.ntmps14
    go_wp2
    go_ret
    exact ⟨rfl, Below.refl _ _⟩
  have hl : bs.length ≤ 1048576 := by omega
  clear hc2
  go_enter Try.func14, Try.ntmps14
  go_wp2_with fail
  refine (drawDiscard_any A c bs _ H.out HB.out hl hc).mono ?_
  rintro e w1 ⟨A1, c1, xs, m, rfl, hc1, f, ⟨p1, p2⟩, m1, m2, b⟩
  have F := hide f.1; have B := hide b; have HP := hide p2
  clear f b p2
  go_wp2_with fail
  refine (implDiscard A1 c1 xs m _ F.out (by omega)).mono ?_
  rintro e w' ⟨rfl, rfl⟩
  go_wp2_with fail
  refine (specDiscard A1 c1 xs m _ F.out (by omega)).mono ?_
  rintro e w' ⟨rfl, rfl⟩
  go_wp2_with fail
  refine (specRopeValid A1 c1 xs _ F.out (by omega)).mono ?_
  rintro e w' ⟨rfl, rfl⟩
  cases hr : ropeB xs
  · have hd : discardB xs m = false := by unfold discardB; rw [hr]; rfl
    rw [hd]
    go_wp2_with fail
    refine (alive_any _).mono ?_
    rintro e w9 ⟨rfl, b9⟩
    have B9 := hide b9
    clear b9
    go_wp2
    go_ret
    exact ⟨rfl, bthen B.out B9.out⟩
  · have HR := hide hr
    obtain ⟨d, hd⟩ : ∃ d, d = discardB xs m := ⟨_, rfl⟩
    rw [← hd]
    have HD := hide hd
    clear hd hr
    go_wp2_with fail
    go_loopw [6, 7] (fun i _ wr => ∃ k : Nat, k ≤ xs.length ∧ i = .int .i64 (k : Int) ∧ Hid (Below w1.heap.size w1 wr)) (fun i _ _ => xs.length - (intOf i).toNat)
    case atStart => exact ⟨0, by omega, rfl, Below.refl _ _⟩
    case round =>
      obtain ⟨k, hk, rfl, b1⟩ := hrel
      by_cases hlt : k < xs.length
      · have F1 := hide (F.out.below b1.out)
        obtain ⟨b, off, x, rfl, hx, -⟩ := F1.out.at hlt
        have hx10 := HP.out x (List.mem_of_getElem? hx)
        obtain ⟨x1, x2⟩ := hx10
        have FA : Hid (∀ o, Ints (wr.alloc o) (some ⟨b, off, none⟩) xs) := fun o => F1.out.below ((Below.refl _ _).alloc (Nat.le_refl _) o)
        have hset : discardB xs m = true → x + 1 ≤ 9 → discardB (xs.set k (x + 1)) m = true := fun h h9 => discardB_set h hx h9
        have HS := hide hset
        clear hset
        by_cases h9 : x + 1 ≤ 9
        · cases d
          · go_wp2_with (at_builtin; refine wp_app rfl (.tmp 38) (.tmp 39) rfl wr.heap.size _ _ [] (some ⟨b, off, none⟩) xs.length c1 xs rfl rfl rfl (OwnI.lit [] #[] rfl (Nat.le_refl _) (by simp)) (FA.out _) (by simp; omega) (by simp) ?_; intro v1 w2 own1 b2; obtain ⟨g, cap, hv1, hgg, hcg, hfg, hst⟩ := own_store own1 hx hlt (x + 1); subst hv1; replace hst := hide hst; replace b2 := hide (bthen b1.out (((Below.refl _ _).alloc (Nat.le_refl _) _).trans b2)); clear own1)
            have B3 := hide (b2.out.setCell (p := ⟨g, k, none⟩) (by have := b1.out.size; exact Nat.le_trans this hgg) (.int .i64 (x + 1)))
            go_roundw
            case rel => exact ⟨k + 1, by omega, by go_num, B3.out⟩
            case measure => simp [intOf]; omega
          · go_wp2_with (at_builtin; refine wp_app rfl (.tmp 38) (.tmp 39) rfl wr.heap.size _ _ [] (some ⟨b, off, none⟩) xs.length c1 xs rfl rfl rfl (OwnI.lit [] #[] rfl (Nat.le_refl _) (by simp)) (FA.out _) (by simp; omega) (by simp) ?_; intro v1 w2 own1 b2; obtain ⟨g, cap, hv1, hgg, hcg, hfg, hst⟩ := own_store own1 hx hlt (x + 1); subst hv1; replace hst := hide hst; replace b2 := hide (bthen b1.out (((Below.refl _ _).alloc (Nat.le_refl _) _).trans b2)); clear own1)
            have B3 := hide (b2.out.setCell (p := ⟨g, k, none⟩) (by have := b1.out.size; exact Nat.le_trans this hgg) (.int .i64 (x + 1)))
            refine (calls_len (implDiscard _ _ (xs.set k (x + 1)) m _ hst.out (by simp; omega)) (by simp)).mono ?_
            rintro e w' ⟨rfl, rfl⟩
            rw [HS.out HD.out.symm h9]
            go_wp2_with fail
            go_roundw
            case rel => exact ⟨k + 1, by omega, by go_num, B3.out⟩
            case measure => simp [intOf]; omega
        · cases d
          all_goals
            go_wp2_with (at_builtin; refine wp_app rfl (.tmp 38) (.tmp 39) rfl wr.heap.size _ _ [] (some ⟨b, off, none⟩) xs.length c1 xs rfl rfl rfl (OwnI.lit [] #[] rfl (Nat.le_refl _) (by simp)) (FA.out _) (by simp; omega) (by simp) ?_; intro v1 w2 own1 b2; obtain ⟨g, cap, hv1, hgg, hcg, hfg, hst⟩ := own_store own1 hx hlt (x + 1); subst hv1; replace hst := hide hst; replace b2 := hide (bthen b1.out (((Below.refl _ _).alloc (Nat.le_refl _) _).trans b2)); clear own1)
            have B3 := hide (b2.out.setCell (p := ⟨g, k, none⟩) (by have := b1.out.size; exact Nat.le_trans this hgg) (.int .i64 (x + 1)))
            go_roundw
            case rel => exact ⟨k + 1, by omega, by go_num, B3.out⟩
            case measure => simp [intOf]; omega
      · have HD2 : Hid (d = false → discardB xs (m + 1) = false) := fun h => discardB_more (HD.out.symm.trans h)
        cases d
        · have hd2 := HD2.out rfl
          have HD3 := hide hd2
          clear hd2
          go_wp2_with fail
          refine (implDiscard _ _ xs (m + 1) _ (F.out.below b1.out) (by omega)).mono ?_
          rintro e w' ⟨rfl, rfl⟩
          rw [HD3.out]
          go_wp2_with fail
          go_ret
          exact ⟨rfl, bthen B.out b1.out⟩
        · go_wp2_with fail
          go_ret
          exact ⟨rfl, bthen B.out b1.out⟩
end Go.Proofs.Ytjkaabimaimicaa
