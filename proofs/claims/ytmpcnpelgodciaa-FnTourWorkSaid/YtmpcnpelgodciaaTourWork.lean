import Derived.Test.YtmpcnpelgodciaaWork
namespace Go.Proofs.Ytmpcnpelgodciaa
open Go.RowKit

def nth (xs : List Int) (k : Nat) : Int := (xs[k]?).getD 0
theorem nth_at {xs : List Int} {k : Nat} {x : Int} (h : xs[k]? = some x) : nth xs k = x := by unfold nth; rw [h]; rfl
noncomputable def twK (fs ss ls : List Int) : Nat → Int
  | 0 => 0
  | k + 1 => twK fs ss ls k + workV fs (nth ss k) (nth ss (k + 1)) (nth ls k)
theorem twK_bd (fs ss ls : List Int) (k : Nat) : -1200 * (k : Int) ≤ twK fs ss ls k ∧ twK fs ss ls k ≤ 1200 * k := by
  induction k with
  | zero => simp [twK]
  | succ k ih => have := workV_bd fs (nth ss k) (nth ss (k + 1)) (nth ls k); simp only [twK]; omega
def TwOk (fs ss ls : List Int) (k : Nat) : Prop := ∀ j, j < k → workOk fs (nth ss j) (nth ss (j + 1)) (nth ls j) = true
theorem TwOk.zero (fs ss ls : List Int) : TwOk fs ss ls 0 := fun j h => by omega
theorem TwOk.step {fs ss ls : List Int} {k : Nat} (h : TwOk fs ss ls k) (hk : workOk fs (nth ss k) (nth ss (k + 1)) (nth ls k) = true) : TwOk fs ss ls (k + 1) := fun j hj => by
  rcases Nat.lt_succ_iff_lt_or_eq.1 hj with h1 | rfl
  · exact h j h1
  · exact hk
def TourOk (fs ss ls : List Int) : Prop := floorsB fs = true ∧ ss.length = ls.length + 1 ∧ inB (nth ss 0) 0 ((fs.length : Int) - 1) = true ∧ TwOk fs ss ls ls.length
open Classical in
noncomputable def tourOkB (fs ss ls : List Int) : Bool := decide (TourOk fs ss ls)
theorem tourOkB_iff {fs ss ls : List Int} : tourOkB fs ss ls = true ↔ TourOk fs ss ls := by unfold tourOkB; simp
theorem tourOkB_f {fs ss ls : List Int} : tourOkB fs ss ls = false ↔ ¬ TourOk fs ss ls := by unfold tourOkB; simp
noncomputable def tourWkB (fs ss ls : List Int) : Int := if tourOkB fs ss ls then twK fs ss ls ls.length else 0
theorem tourWk_no {fs ss ls : List Int} (h : ¬ TourOk fs ss ls) : tourWkB fs ss ls = 0 := by unfold tourWkB; rw [tourOkB_f.2 h]; rfl
theorem tourWk_yes {fs ss ls : List Int} (h : TourOk fs ss ls) : tourWkB fs ss ls = twK fs ss ls ls.length := by unfold tourWkB; rw [tourOkB_iff.2 h]; rfl
theorem nth_take {xs : List Int} {n k : Nat} (h : k < n) : nth (xs.take n) k = nth xs k := by unfold nth; rw [List.getElem?_take, if_pos h]
theorem nth_drop (xs : List Int) (n k : Nat) : nth (xs.drop n) k = nth xs (n + k) := by unfold nth; rw [List.getElem?_drop]
theorem tw_take (fs ss ls : List Int) (n k : Nat) (h : k ≤ n) : twK fs (ss.take (n + 1)) (ls.take n) k = twK fs ss ls k := by
  induction k with
  | zero => rfl
  | succ k ih => simp only [twK]; rw [ih (by omega), nth_take (by omega), nth_take (by omega), nth_take (by omega)]
theorem tw_drop (fs ss ls : List Int) (n k : Nat) : twK fs ss ls n + twK fs (ss.drop n) (ls.drop n) k = twK fs ss ls (n + k) := by
  induction k with
  | zero => simp [twK]
  | succ k ih => rw [show n + (k + 1) = n + k + 1 from rfl]; simp only [twK]; rw [nth_drop, nth_drop, nth_drop, ← ih]; rw [show n + (k + 1) = n + k + 1 from rfl]; omega
theorem TourOk.inAt {fs ss ls : List Int} (h : TourOk fs ss ls) {k : Nat} (hk : k ≤ ls.length) : inB (nth ss k) 0 ((fs.length : Int) - 1) = true := by
  cases k with
  | zero => exact h.2.2.1
  | succ k => exact (workOk_iff.1 (h.2.2.2 k (by omega))).2.2.1
theorem TourOk.take {fs ss ls : List Int} (h : TourOk fs ss ls) {n : Nat} (hn : n ≤ ls.length) : TourOk fs (ss.take (n + 1)) (ls.take n) := by
  refine ⟨h.1, by have := h.2.1; simp; omega, by rw [nth_take (by omega)]; exact h.2.2.1, fun j hj => ?_⟩
  simp at hj
  rw [nth_take (by omega), nth_take (by omega), nth_take (by omega)]
  exact h.2.2.2 j (by omega)
theorem TourOk.drop {fs ss ls : List Int} (h : TourOk fs ss ls) {n : Nat} (hn : n ≤ ls.length) : TourOk fs (ss.drop n) (ls.drop n) := by
  refine ⟨h.1, by have := h.2.1; simp; omega, by rw [nth_drop]; exact h.inAt (by omega), fun j hj => ?_⟩
  simp at hj
  rw [nth_drop, nth_drop, nth_drop]
  exact h.2.2.2 (n + j) (by omega)
theorem tour_parts {fs ss ls : List Int} (h : TourOk fs ss ls) {n : Nat} (hn : n ≤ ls.length) : tourWkB fs (ss.take (n + 1)) (ls.take n) + tourWkB fs (ss.drop n) (ls.drop n) = tourWkB fs ss ls := by
  rw [tourWk_yes h, tourWk_yes (h.take hn), tourWk_yes (h.drop hn), List.length_take, Nat.min_eq_left hn, tw_take _ _ _ _ _ (Nat.le_refl _), List.length_drop, tw_drop]
  congr 1; omega
/-- The round tour with the load seven all the way. -/
theorem nth_snoc {ss : List Int} {x : Int} {k : Nat} (h : k < ss.length) : nth (ss ++ [x]) k = nth ss k := by unfold nth; rw [List.getElem?_append_left h]
theorem nth_last (ss : List Int) (x : Int) : nth (ss ++ [x]) ss.length = x := by unfold nth; simp
theorem nth_rep {n k : Nat} {x : Int} (h : k < n) : nth (List.replicate n x) k = x := by unfold nth; simp [h]
theorem tour_round {fs ss ls : List Int} (h : TourOk fs ss ls) : TourOk fs (ss ++ [nth ss 0]) (List.replicate ss.length 7) ∧ tourWkB fs (ss ++ [nth ss 0]) (List.replicate ss.length 7) = 0 := by
  have hl := h.2.1
  have hin : ∀ k, k ≤ ss.length → inB (nth (ss ++ [nth ss 0]) k) 0 ((fs.length : Int) - 1) = true := by
    intro k hk
    rcases Nat.lt_or_ge k ss.length with h1 | h1
    · rw [nth_snoc h1]; exact h.inAt (by omega)
    · rw [show k = ss.length from by omega, nth_last]; exact h.2.2.1
  have hok : ∀ k, k < ss.length → workOk fs (nth (ss ++ [nth ss 0]) k) (nth (ss ++ [nth ss 0]) (k + 1)) (nth (List.replicate ss.length 7) k) = true := fun k hk =>
    workOk_iff.2 ⟨h.1, hin k (by omega), hin (k + 1) (by omega), by rw [nth_rep hk]; rfl⟩
  have ht : TourOk fs (ss ++ [nth ss 0]) (List.replicate ss.length 7) := ⟨h.1, by simp, hin 0 (by omega), fun j hj => hok j (by simpa using hj)⟩
  refine ⟨ht, ?_⟩
  rw [tourWk_yes ht, List.length_replicate]
  have key : ∀ k, k ≤ ss.length → twK fs (ss ++ [nth ss 0]) (List.replicate ss.length 7) k = -13 * (hgt fs (nth (ss ++ [nth ss 0]) k) - hgt fs (nth (ss ++ [nth ss 0]) 0)) := by
    intro k
    induction k with
    | zero => intro _; simp [twK]
    | succ k ih =>
      intro hk
      simp only [twK]
      rw [ih (by omega), workV_yes (hok k (by omega)), nth_rep (by omega)]
      omega
  rw [key ss.length (Nat.le_refl _), nth_last, nth_snoc (by omega)]
  omega

theorem implTourWork (A0 A1 A2 : Option Addr) (c0 c1 c2 n1 n2 : Nat) (fs ss ls : List Int) (w : World) (h0 : Ints w A0 fs) (h1 : Ints w A1 ss) (h2 : Ints w A2 ls) (hn1 : n1 = ss.length) (hn2 : n2 = ls.length) (hl1 : ss.length ≤ 1000000) (hl2 : ls.length ≤ 1000000) :
    Calls Try.prog 18 #[.slice A0 fs.length c0, .slice A1 n1 c1, .slice A2 n2 c2] w fun e w' => e = .returned (.tuple #[.int .i64 (tourWkB fs ss ls), .bool (tourOkB fs ss ls)]) ∧ Dr w w' := by
  subst hn1; subst hn2
  have H0 := hide h0; have H1 := hide h1; have H2 := hide h2; clear h0 h1 h2
  have no : Hid (¬ TourOk fs ss ls → Ending.returned (.tuple #[.int .i64 0, .bool false]) = .returned (.tuple #[.int .i64 (tourWkB fs ss ls), .bool (tourOkB fs ss ls)])) := fun h => ret_ib (tourWk_no h).symm (tourOkB_f.2 h).symm
  go_enter Try.func18, Try.ntmps18
  go_wp2_with fail
  refine (implFloorsValid A0 c0 fs _ H0.out).mono ?_
  rintro e w1 ⟨rfl, D1⟩
  have D1 := hide D1
  cases hf : floorsB fs
  · go_wp2
    go_ret2
    exact ⟨no.out (fun h => by rw [h.1] at hf; cases hf), D1.out⟩
  · have HF := hide hf
    by_cases hn : ss.length = ls.length + 1
    · obtain ⟨b1, off1, x, rfl, hx, hcx⟩ := (H1.out.dr D1.out).at (k := 0) (by omega)
      simp only [Nat.add_zero] at hcx
      have hn' : ((ss.length : Int) != (ls.length : Int) + 1) = false := by simp; omega
      have HN := hide hn
      have hlen : 0 < ss.length := by omega
      clear hn
      cases ha : inB x 0 ((fs.length : Int) - 1)
      · go_wp2_with (go_at_call 23; refine (isFloor_any _ _ _).mono ?_; rintro e w' ⟨rfl, rfl⟩)
        go_ret2
        exact ⟨no.out (fun h => by have := h.2.2.1; rw [nth_at hx.out, ha] at this; cases this), D1.out⟩
      · go_wp2_with (go_at_call 23; refine (isFloor_any _ _ _).mono ?_; rintro e w' ⟨rfl, rfl⟩)
        have HA := hide ha
        clear hcx hf ha
        go_loopw [8, 35] (fun s i wr => ∃ k : Nat, k ≤ ls.length ∧ i = .int .i64 k ∧ s = .int .i64 (twK fs ss ls k) ∧ Hid (Dr w wr) ∧ Hid (TwOk fs ss ls k)) (fun _ i _ => ls.length - (intOf i).toNat)
        case atStart => exact ⟨0, by omega, rfl, rfl, D1, TwOk.zero _ _ _⟩
        case round =>
          obtain ⟨k, hk, rfl, rfl, hD, hO⟩ := hrel
          have hb := twK_bd fs ss ls k
          by_cases hlt : k < ls.length
          · have hL := HN.out
            obtain ⟨y, hy, hcy⟩ := (H1.out.dr hD.out).cell (k := k) (by omega)
            obtain ⟨z, hz, hcz⟩ := (H1.out.dr hD.out).cell (k := k + 1) (by omega)
            have hk1 : k + 1 < ss.length := by omega
            clear hL
            obtain ⟨b2, off2, u, rfl, hu, hcu⟩ := (H2.out.dr hD.out).at (k := k) hlt
            have hwb := workV_bd fs y z u
            have e1 := hide (nth_at hy.out); have e2 := hide (nth_at hz.out); have e3 := hide (nth_at hu.out)
            go_wp2_with fail
            go_quiet ((go_at_call 33; exact quiet_dr (implTripWork A0 c0 fs y z u _ (H0.out.dr (hD.out.more _))) ⟨_, rfl⟩))
            cases hw : workOk fs y z u
            · go_wp2_with fail
              go_ret2
              exact ⟨no.out (fun h => by have := h.2.2.2 k hlt; rw [e1.out, e2.out, e3.out, hw] at this; cases this), hD.out.more _⟩
            · go_wp2_with fail
              go_roundw
              case rel => exact ⟨k + 1, by omega, by go_num, by simp only [twK]; rw [e1.out, e2.out, e3.out], hD.out.more _, hO.out.step (by rw [e1.out, e2.out, e3.out]; exact hw)⟩
              case measure => simp [intOf]; omega
          · obtain rfl : k = ls.length := by omega
            have ht : TourOk fs ss ls := ⟨HF.out, HN.out, by rw [nth_at hx.out]; exact HA.out, hO.out⟩
            have HT := hide ht
            clear ht
            go_wp2_with fail
            go_ret2
            exact ⟨ret_ib (tourWk_yes HT.out).symm (tourOkB_iff.2 HT.out).symm, hD.out⟩
    · have hn' : ((ss.length : Int) != (ls.length : Int) + 1) = true := by simp; omega
      go_wp2
      go_ret2
      exact ⟨no.out (fun h => hn h.2.1), D1.out⟩
theorem specTourWork (A0 A1 A2 : Option Addr) (c0 c1 c2 : Nat) (fs ss ls : List Int) (w : World) (h0 : Ints w A0 fs) (h1 : Ints w A1 ss) (h2 : Ints w A2 ls) (hl0 : fs.length ≤ 140737488351232) (hl1 : ss.length ≤ 1000000) (hl2 : ls.length ≤ 1000000) :
    Calls Try.prog 19 #[.slice A0 fs.length c0, .slice A1 ss.length c1, .slice A2 ls.length c2] w fun e w' => e = .returned (.tuple #[.int .i64 (tourWkB fs ss ls), .bool (tourOkB fs ss ls)]) ∧ Dr w w' := by
  have H0 := hide h0; have H1 := hide h1; have H2 := hide h2; clear h0 h1 h2
  have no : Hid (¬ TourOk fs ss ls → Ending.returned (.tuple #[.int .i64 0, .bool false]) = .returned (.tuple #[.int .i64 (tourWkB fs ss ls), .bool (tourOkB fs ss ls)])) := fun h => ret_ib (tourWk_no h).symm (tourOkB_f.2 h).symm
  by_cases hn : ss.length = ls.length + 1
  · obtain ⟨b1, off1, x, rfl, hx, hcx⟩ := H1.out.at (k := 0) (by omega)
    simp only [Nat.add_zero] at hcx
    have hn' : ((ss.length : Int) != (ls.length : Int) + 1) = false := by simp; omega
    have HN := hide hn
    have hlen : 0 < ss.length := by omega
    clear hn
    have hbd := wayB_bd fs x x
    go_enter Try.func19, Try.ntmps19
    go_wp2_with fail
    go_quiet ((go_at_call 28; exact quiet_dr (specFloorWay A0 c0 fs x x _ (H0.out.drewN _) hl0) ⟨_, rfl⟩))
    by_cases hw : wayB fs x x < 0
    · have HW := hide ((wayB_neg fs x x).1 hw)
      go_wp2_with fail
      go_ret2
      exact ⟨no.out (fun h => HW.out ⟨h.1, by have := h.2.2.1; rwa [nth_at hx.out] at this, by have := h.2.2.1; rwa [nth_at hx.out] at this⟩), ⟨_, rfl⟩⟩
    · have hw' : floorsB fs = true ∧ inB x 0 ((fs.length : Int) - 1) = true ∧ inB x 0 ((fs.length : Int) - 1) = true := Classical.byContradiction fun h => hw ((wayB_neg fs x x).2 h)
      have HF := hide hw'.1; have HA := hide hw'.2.1
      clear hw' hcx
      go_wp2_with fail
      go_loopw [8, 9] (fun s i wr => ∃ k : Nat, k ≤ ls.length ∧ i = .int .i64 k ∧ s = .int .i64 (twK fs ss ls k) ∧ Hid (Dr w wr) ∧ Hid (TwOk fs ss ls k)) (fun _ i _ => ls.length - (intOf i).toNat)
      case atStart => exact ⟨0, by omega, rfl, rfl, ⟨_, rfl⟩, TwOk.zero _ _ _⟩
      case round =>
        obtain ⟨k, hk, rfl, rfl, hD, hO⟩ := hrel
        have hb := twK_bd fs ss ls k
        by_cases hlt : k < ls.length
        · have hL := HN.out
          obtain ⟨y, hy, hcy⟩ := (H1.out.dr hD.out).cell (k := k) (by omega)
          obtain ⟨z, hz, hcz⟩ := (H1.out.dr hD.out).cell (k := k + 1) (by omega)
          have hk1 : k + 1 < ss.length := by omega
          clear hL
          obtain ⟨b2, off2, u, rfl, hu, hcu⟩ := (H2.out.dr hD.out).at (k := k) hlt
          have hwb := workV_bd fs y z u
          have e1 := hide (nth_at hy.out); have e2 := hide (nth_at hz.out); have e3 := hide (nth_at hu.out)
          go_wp2_with fail
          go_quiet ((go_at_call 34; exact quiet_dr (specTripWork A0 c0 fs y z u _ (H0.out.dr (hD.out.more _)) hl0) ⟨_, rfl⟩))
          cases hw : workOk fs y z u
          · go_wp2_with fail
            go_ret2
            exact ⟨no.out (fun h => by have := h.2.2.2 k hlt; rw [e1.out, e2.out, e3.out, hw] at this; cases this), hD.out.more _⟩
          · go_wp2_with fail
            go_roundw
            case rel => exact ⟨k + 1, by omega, by go_num, by simp only [twK]; rw [e1.out, e2.out, e3.out], hD.out.more _, hO.out.step (by rw [e1.out, e2.out, e3.out]; exact hw)⟩
            case measure => simp [intOf]; omega
        · obtain rfl : k = ls.length := by omega
          have ht : TourOk fs ss ls := ⟨HF.out, HN.out, by rw [nth_at hx.out]; exact HA.out, hO.out⟩
          have HT := hide ht
          clear ht
          go_wp2_with fail
          go_ret2
          exact ⟨ret_ib (tourWk_yes HT.out).symm (tourOkB_iff.2 HT.out).symm, hD.out⟩
  · have hn' : ((ss.length : Int) != (ls.length : Int) + 1) = true := by simp; omega
    go_enter Try.func19, Try.ntmps19
    go_wp2_with fail
    go_quiet (fail)
    go_wp2_with fail
    go_ret2
    exact ⟨no.out (fun h => hn h.2.1), ⟨_, rfl⟩⟩
end Go.Proofs.Ytmpcnpelgodciaa
