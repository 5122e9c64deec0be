import Derived.Test.YtammgbnekmcaeaaWays
import Derived.Test.YtammgbnekmcaeaaGroup
namespace Go.Proofs.Ytammgbnekmcaeaa
open Go.RowKit

/-- The longest way so far. -/
noncomputable def longK (fs cars calls give : List Int) : Nat → Int
  | 0 => 0
  | k + 1 => max (longK fs cars calls give k) (wayB fs (hgt cars (hgt give k)) (hgt calls k))
theorem longK_bd (fs cars calls give : List Int) (k : Nat) : 0 ≤ longK fs cars calls give k ∧ longK fs cars calls give k ≤ 60 := by
  induction k with
  | zero => unfold longK; omega
  | succ k ih => unfold longK; have := wayB_bd fs (hgt cars (hgt give k)) (hgt calls k); omega
noncomputable def givenB (fs cars calls give : List Int) : Bool := groupB fs cars calls && (decide (give.length = calls.length) && withinB give cars.length)
noncomputable def longB (fs cars calls give : List Int) : Int := if givenB fs cars calls give then longK fs cars calls give calls.length else -1
theorem groupB_parts {fs cars calls : List Int} (h : groupB fs cars calls = true) : floorsB fs = true ∧ 1 ≤ cars.length ∧ cars.length ≤ 4 ∧ calls.length ≤ 5 ∧ withinB cars fs.length = true ∧ withinB calls fs.length = true := by
  unfold groupB at h; simp only [Bool.and_eq_true, decide_eq_true_eq] at h
  exact ⟨h.1, h.2.1.1, h.2.1.2.1, h.2.1.2.2, h.2.2.1, h.2.2.2⟩
theorem within_at {vs : List Int} {m : Int} (h : withinB vs m = true) {k : Nat} {x : Int} (hx : vs[k]? = some x) : 0 ≤ x ∧ x < m := by
  have := (inB_iff _ _ _).1 (List.all_eq_true.1 h x (List.mem_of_getElem? hx)); omega

theorem givenOk_any (A0 A1 A2 A3 : Option Addr) (c0 c1 c2 c3 : Nat) (fs cars calls give : List Int) (w : World) (h0 : Ints w A0 fs) (h1 : Ints w A1 cars) (h2 : Ints w A2 calls) (h3 : Ints w A3 give) (hl1 : cars.length ≤ 140737488351232) (hl2 : calls.length ≤ 140737488351232) (hl3 : give.length ≤ 140737488351232) :
    Calls Try.prog 55 #[.slice A0 fs.length c0, .slice A1 cars.length c1, .slice A2 calls.length c2, .slice A3 give.length c3] w fun e w' => e = .returned (.bool (givenB fs cars calls give)) ∧ Dr w w' := by
  have H0 := hide h0; have H1 := hide h1; have H2 := hide h2; have H3 := hide h3; clear h0 h1 h2 h3
  cases hg : groupB fs cars calls
  · go_enter Try.func55, Try.ntmps55
    go_wp2_with fail
    refine (implGroupOk A0 A1 A2 c0 c1 c2 fs cars calls _ H0.out H1.out H2.out hl1 hl2).mono ?_
    rintro e w1 ⟨rfl, D1⟩
    have D1 := hide D1
    rw [hg]
    go_wp2
    go_ret
    exact ⟨ret_bool (by unfold givenB; rw [hg]; rfl), D1.out⟩
  · by_cases hn : give.length = calls.length
    · have hn' : (calls.length : Int) = give.length := by omega
      have HN := hide hn
      clear hn
      have HN' := hide hn'
      clear hn'
      go_enter Try.func55, Try.ntmps55
      go_wp2_with fail
      refine (implGroupOk A0 A1 A2 c0 c1 c2 fs cars calls _ H0.out H1.out H2.out hl1 hl2).mono ?_
      rintro e w1 ⟨rfl, D1⟩
      have D1 := hide D1
      rw [hg]
      have hn' := HN'.out
      go_wp2_with fail
      refine (allWithin_any A3 c3 give _ _ (H3.out.dr D1.out) hl3).mono ?_
      rintro e w1' ⟨rfl, rfl⟩
      go_wp2
      go_ret
      exact ⟨ret_bool (by unfold givenB; rw [hg]; simp [HN.out]), D1.out⟩
    · have hn' : ¬ ((give.length : Int) = calls.length) := by omega
      go_enter Try.func55, Try.ntmps55
      go_wp2_with fail
      refine (implGroupOk A0 A1 A2 c0 c1 c2 fs cars calls _ H0.out H1.out H2.out hl1 hl2).mono ?_
      rintro e w1 ⟨rfl, D1⟩
      have D1 := hide D1
      rw [hg]
      go_wp2
      go_ret
      exact ⟨ret_bool (by unfold givenB; simp [hn]), D1.out⟩
theorem l12Give_any (A1 A2 A3 : Option Addr) (c1 c2 c3 : Nat) (cars calls give : List Int) (w : World) (h3 : Ints w A3 give) (hl1 : cars.length ≤ 140737488351232) (hl3 : give.length ≤ 140737488351232) :
    Calls Try.prog 54 #[.slice A1 cars.length c1, .slice A2 calls.length c2, .slice A3 give.length c3] w fun e w' => e = .returned (.bool (decide (give.length = calls.length) && withinB give cars.length)) ∧ Dr w w' := by
  have H := hide h3; clear h3
  go_enter Try.func54, Try.ntmps54
  go_wp2
  go_loopw [7] (fun i wr => ∃ k : Nat, k ≤ give.length ∧ i = .int .i64 k ∧ Hid (Dr w wr) ∧ Hid ((give.take k).all (fun x => inB x 0 ((cars.length : Int) - 1)) = true)) (fun i _ => give.length - (intOf i).toNat)
  case atStart => exact ⟨0, by omega, rfl, Dr.refl _, by simp [Hid]⟩
  case round =>
    obtain ⟨k, hk, rfl, hD, hA⟩ := hrel
    by_cases hlt : k < give.length
    · obtain ⟨b, off, x, rfl, hx, hc⟩ := (H.out.dr hD.out).at hlt
      cases hb : inB x 0 ((cars.length : Int) - 1)
      · go_wp2_with (go_at_call 48; refine (l1In_any _ _ _ _).mono ?_; rintro e w' ⟨rfl, rfl⟩)
        go_ret
        exact ⟨ret_bool (by rw [within_bad hx hb]; simp), hD.out⟩
      · go_wp2_with (go_at_call 48; refine (l1In_any _ _ _ _).mono ?_; rintro e w' ⟨rfl, rfl⟩)
        go_roundw
        case rel => exact ⟨k + 1, by omega, by go_num, hD, all_step hA hx hb⟩
        case measure => simp [intOf]; omega
    · go_wp2
      go_ret
      exact ⟨ret_bool (by rw [within_done hA (by omega), Bool.eq_iff_iff]; simp; try omega), hD.out⟩
theorem implGroupLongest (A0 A1 A2 A3 : Option Addr) (c0 c1 c2 c3 : Nat) (fs cars calls give : List Int) (w : World) (h0 : Ints w A0 fs) (h1 : Ints w A1 cars) (h2 : Ints w A2 calls) (h3 : Ints w A3 give) (hl1 : cars.length ≤ 140737488351232) (hl2 : calls.length ≤ 140737488351232) (hl3 : give.length ≤ 140737488351232) :
    Calls Try.prog 30 #[.slice A0 fs.length c0, .slice A1 cars.length c1, .slice A2 calls.length c2, .slice A3 give.length c3] w fun e w' => e = .returned (.int .i64 (longB fs cars calls give)) ∧ Dr w w' := by
  have H0 := hide h0; have H1 := hide h1; have H2 := hide h2; have H3 := hide h3; clear h0 h1 h2 h3
  go_enter Try.func30, Try.ntmps30
  go_wp2_with fail
  refine (givenOk_any A0 A1 A2 A3 c0 c1 c2 c3 fs cars calls give _ H0.out H1.out H2.out H3.out hl1 hl2 hl3).mono ?_
  rintro e w1 ⟨rfl, D1⟩
  have D1 := hide D1
  cases hg : givenB fs cars calls give
  · go_wp2
    go_ret
    exact ⟨ret_int (by unfold longB; rw [hg]; rfl), D1.out⟩
  · have HG := hide hg
    unfold givenB at hg
    simp only [Bool.and_eq_true, decide_eq_true_eq] at hg
    obtain ⟨g1, g2, g3⟩ := hg
    have G3 := hide g3
    obtain ⟨-, n1, n2, n3, -, -⟩ := groupB_parts g1
    clear g1 g3
    go_wp2
    go_loopw [9, 20] (fun s i wr => ∃ k : Nat, k ≤ calls.length ∧ i = .int .i64 k ∧ s = .int .i64 (longK fs cars calls give k) ∧ Hid (Dr w wr)) (fun _ i _ => calls.length - (intOf i).toNat)
    case atStart => exact ⟨0, by omega, rfl, rfl, D1⟩
    case round =>
      obtain ⟨k, hk, rfl, rfl, hD⟩ := hrel
      have hb := longK_bd fs cars calls give k
      by_cases hlt : k < calls.length
      · obtain ⟨b2, off2, x, rfl, hx, hcx⟩ := (H2.out.dr hD.out).at hlt
        obtain ⟨b3, off3, y, rfl, hy, hcy⟩ := (H3.out.dr hD.out).at (k := k) (by omega)
        have hyr := within_at G3.out hy.out
        obtain ⟨ky, rfl⟩ : ∃ k : Nat, y = k := ⟨y.toNat, by omega⟩
        obtain ⟨b1, off1, z, rfl, hz, hcz⟩ := (H1.out.dr hD.out).at (k := ky) (by omega)
        go_wp2_with fail
        refine (implFloorWay A0 c0 fs _ _ _ (H0.out.dr hD.out)).mono ?_
        rintro e w2 ⟨rfl, D2⟩
        have D2 := hide D2
        have hw := wayB_bd fs z x
        have hs : longK fs cars calls give (k + 1) = max (longK fs cars calls give k) (wayB fs z x) := by
          show max _ (wayB fs (hgt cars (hgt give k)) (hgt calls k)) = _
          rw [hgt_at hy.out, hgt_at hz.out, hgt_at hx.out]
        have HS := hide hs
        clear hs
        go_wp2
        all_goals
          go_roundw
          case rel => exact ⟨k + 1, by omega, by go_num, by rw [HS.out]; congr 1; omega, hD.out.then D2.out⟩
          case measure => simp [intOf]; omega
      · obtain rfl : k = calls.length := by omega
        go_wp2
        go_ret
        exact ⟨ret_int (by unfold longB; rw [HG.out]; rfl), hD.out⟩
theorem specGroupLongest (A0 A1 A2 A3 : Option Addr) (c0 c1 c2 c3 : Nat) (fs cars calls give : List Int) (w : World) (h0 : Ints w A0 fs) (h1 : Ints w A1 cars) (h2 : Ints w A2 calls) (h3 : Ints w A3 give) (hl0 : fs.length ≤ 140737488351232) (hl1 : cars.length ≤ 140737488351232) (hl2 : calls.length ≤ 140737488351232) (hl3 : give.length ≤ 140737488351232) :
    Calls Try.prog 29 #[.slice A0 fs.length c0, .slice A1 cars.length c1, .slice A2 calls.length c2, .slice A3 give.length c3] w fun e w' => e = .returned (.int .i64 (longB fs cars calls give)) ∧ Dr w w' := by
  have H0 := hide h0; have H1 := hide h1; have H2 := hide h2; have H3 := hide h3; clear h0 h1 h2 h3
  go_enter Try.func29, Try.ntmps29
  go_wp2_with fail
  refine (specGroupOk A0 A1 A2 c0 c1 c2 fs cars calls _ H0.out H1.out H2.out hl0 hl1 hl2).mono ?_
  rintro e w1 ⟨rfl, D1⟩
  have D1 := hide D1
  cases hg : groupB fs cars calls
  · go_wp2
    go_ret
    exact ⟨ret_int (by unfold longB givenB; rw [hg]; rfl), D1.out⟩
  · go_wp2_with fail
    refine (l12Give_any A1 A2 A3 c1 c2 c3 cars calls give _ (H3.out.dr D1.out) hl1 hl3).mono ?_
    rintro e w2 ⟨rfl, D2⟩
    have D2 := hide (D1.out.then D2)
    cases hv : decide (give.length = calls.length) && withinB give cars.length
    · go_wp2
      go_ret
      exact ⟨ret_int (by unfold longB givenB; rw [hg, hv]; rfl), D2.out⟩
    · have HG : Hid (givenB fs cars calls give = true) := by unfold Hid givenB; rw [hg, hv]; rfl
      simp only [Bool.and_eq_true, decide_eq_true_eq] at hv
      obtain ⟨g2, g3⟩ := hv
      have G3 := hide g3
      obtain ⟨-, n1, n2, n3, -, -⟩ := groupB_parts hg
      clear hg g3
      go_wp2
      go_loopw [9, 10] (fun s i wr => ∃ k : Nat, k ≤ calls.length ∧ i = .int .i64 k ∧ s = .int .i64 (longK fs cars calls give k) ∧ Hid (Dr w wr)) (fun _ i _ => calls.length - (intOf i).toNat)
      case atStart => exact ⟨0, by omega, rfl, rfl, D2⟩
      case round =>
        obtain ⟨k, hk, rfl, rfl, hD⟩ := hrel
        have hb := longK_bd fs cars calls give k
        by_cases hlt : k < calls.length
        · obtain ⟨b2, off2, x, rfl, hx, hcx⟩ := (H2.out.dr hD.out).at hlt
          obtain ⟨b3, off3, y, rfl, hy, hcy⟩ := (H3.out.dr hD.out).at (k := k) (by omega)
          have hyr := within_at G3.out hy.out
          obtain ⟨ky, rfl⟩ : ∃ k : Nat, y = k := ⟨y.toNat, by omega⟩
          obtain ⟨b1, off1, z, rfl, hz, hcz⟩ := (H1.out.dr hD.out).at (k := ky) (by omega)
          have hw := wayB_bd fs z x
          have hs : longK fs cars calls give (k + 1) = max (longK fs cars calls give k) (wayB fs z x) := by
            show max _ (wayB fs (hgt cars (hgt give k)) (hgt calls k)) = _
            rw [hgt_at hy.out, hgt_at hz.out, hgt_at hx.out]
          have HS := hide hs
          clear hs
          go_wp2_with fail
          go_quiet ((go_at_call 43; exact quiet_dr (specFloorWay A0 c0 fs _ _ _ (H0.out.dr (hD.out.more _)) hl0) ⟨_, rfl⟩))
          go_wp2
          all_goals
            go_roundw
            case rel => exact ⟨k + 1, by omega, by go_num, by rw [HS.out]; congr 1; omega, hD.out.more _⟩
            case measure => simp [intOf]; omega
        · obtain rfl : k = calls.length := by omega
          go_wp2
          go_ret
          exact ⟨ret_int (by unfold longB; rw [HG.out]; rfl), hD.out⟩
end Go.Proofs.Ytammgbnekmcaeaa
