import Derived.Test.YtjkaabimaimicaaWorstPlain
namespace Go.Proofs.Ytjkaabimaimicaa
open Go.RowKit

theorem implWorstLay (A : Option Addr) (c : Nat) (xs : List Int) (w : World) (h : Ints w A xs) (hl : xs.length ≤ 140737488351232) :
    Calls Try.prog 30 #[.slice A xs.length c] w fun e w' => e = .returned (.int .i64 (worstB xs)) ∧ w = w' := by
  have H := hide h; clear h
  cases hr : ropeB xs
  · go_enter Try.func30, Try.ntmps30
    go_wp2_with (go_at_call 21; refine (implRopeValid _ _ _ _ H.out hl).mono ?_; rintro e w' ⟨rfl, rfl⟩)
    go_ret
    exact ⟨ret_int (worstB_no hr).symm, rfl⟩
  · have HM := hide (ropeB_mem hr)
    have hlen := ropeB_length hr
    have HV := hide (worstB_yes hr)
    go_enter Try.func30, Try.ntmps30
    go_wp2_with (go_at_call 21; refine (implRopeValid _ _ _ _ H.out hl).mono ?_; rintro e w' ⟨rfl, rfl⟩)
    go_loop [3, 4, 12] (fun s m i => ∃ (k : Nat) (t u : Int), k ≤ xs.length ∧ i = .int .i64 k ∧ s = .int .i64 t ∧ m = .int .i64 u ∧ 0 ≤ t ∧ t ≤ 36 ∧ 0 ≤ u ∧ u ≤ 36 ∧ Hid (t = winE xs k) ∧ Hid (u = maxTo (fun k => winE xs (k + 1)) k)) (fun _ _ i => xs.length - (intOf i).toNat)
    case atStart => exact ⟨0, 0, 0, by omega, rfl, rfl, rfl, by omega, by omega, by omega, by omega, rfl, rfl⟩
    case round =>
      obtain ⟨k, t, u, hk, rfl, rfl, rfl, t1, t2, u1, u2, ht, hu⟩ := hrel
      by_cases hlt : k < xs.length
      · obtain ⟨b, off, x, rfl, hx, hc⟩ := H.out.at hlt
        have hx9 := HM.out x (List.mem_of_getElem? hx)
        obtain ⟨x1, x2⟩ := hx9
        have hw := winE_bd HM.out (k + 1)
        by_cases h4 : 4 ≤ k
        · obtain ⟨y, hy, hcy⟩ := H.out.cell (k := k - 4) (by omega)
          have hy9 := HM.out y (List.mem_of_getElem? hy)
          obtain ⟨y1, y2⟩ := hy9
          have e := winE_step hx h4 hy
          rw [← ht.out] at e
          have e1 : 0 ≤ t + x - y := by omega
          have e2 : t + x - y ≤ 36 := by omega
          have E := hide e
          clear e hw
          go_wp2
          go_round
          case rel => exact ⟨k + 1, t + x - y, max u (t + x - y), by omega, by go_num, rfl, by first | rfl | go_num, e1, e2, by omega, by omega, E.out.symm, by show _ = max (maxTo _ k) (winE xs (k + 1)); rw [← hu.out, E.out]⟩
          case measure => simp [intOf]; omega
        · have e := winE_small hx (by omega)
          rw [← ht.out] at e
          have e1 : 0 ≤ t + x := by omega
          have e2 : t + x ≤ 36 := by omega
          have E := hide e
          clear e hw
          go_wp2
          go_round
          case rel => exact ⟨k + 1, t + x, max u (t + x), by omega, by go_num, rfl, by first | rfl | go_num, e1, e2, by omega, by omega, E.out.symm, by show _ = max (maxTo _ k) (winE xs (k + 1)); rw [← hu.out, E.out]⟩
          case measure => simp [intOf]; omega
      · obtain rfl : k = xs.length := by omega
        go_wp2
        go_ret
        exact ⟨ret_int (by rw [HV.out, hu.out]; exact worstV_eq fun x hx => (HM.out x hx).1), rfl⟩
theorem specWorstLay (A : Option Addr) (c : Nat) (xs : List Int) (w : World) (h : Ints w A xs) (hl : xs.length ≤ 140737488351232) :
    Calls Try.prog 29 #[.slice A xs.length c] w fun e w' => e = .returned (.int .i64 (worstB xs)) ∧ w = w' := by
  have H := hide h; clear h
  cases hr : ropeB xs
  · go_enter Try.func29, Try.ntmps29
    go_wp2_with (go_at_call 19; refine (specRopeValid _ _ _ _ H.out hl).mono ?_; rintro e w' ⟨rfl, rfl⟩)
    go_ret
    exact ⟨ret_int (worstB_no hr).symm, rfl⟩
  · have HM := hide (ropeB_mem hr)
    have hlen := ropeB_length hr
    have HV := hide (worstB_yes hr)
    go_enter Try.func29, Try.ntmps29
    go_wp2_with (go_at_call 19; refine (specRopeValid _ _ _ _ H.out hl).mono ?_; rintro e w' ⟨rfl, rfl⟩)
    go_loop [3, 4] (fun m i => ∃ (k : Nat) (u : Int), k ≤ xs.length ∧ i = .int .i64 k ∧ m = .int .i64 u ∧ 0 ≤ u ∧ u ≤ 36 ∧ Hid (u = maxTo (winB xs) k)) (fun _ i => xs.length - (intOf i).toNat)
    case atStart => exact ⟨0, 0, by omega, rfl, rfl, by omega, by omega, rfl⟩
    case round =>
      obtain ⟨k, u, hk, rfl, rfl, u1, u2, hu⟩ := hrel
      by_cases hlt : k < xs.length
      · go_wp2
        go_loop [5, 6] (fun s j => ∃ (d : Nat) (t : Int), d ≤ 4 ∧ k + d ≤ xs.length ∧ j = .int .i64 ((k + d : Nat) : Int) ∧ s = .int .i64 t ∧ 0 ≤ t ∧ t ≤ 36 ∧ Hid (t = isum ((xs.drop k).take d))) (fun _ j => xs.length - (intOf j).toNat)
        case atStart => exact ⟨0, 0, by omega, by omega, rfl, rfl, by omega, by omega, rfl⟩
        case round =>
          obtain ⟨d, t, hd, hkd, rfl, rfl, t1, t2, ht⟩ := hrel
          by_cases hgo : k + d < xs.length ∧ d < 4
          · obtain ⟨g1, g2⟩ := hgo
            obtain ⟨b, off, x, rfl, hx, hc⟩ := H.out.at g1
            have hx9 := HM.out x (List.mem_of_getElem? hx)
            obtain ⟨x1, x2⟩ := hx9
            have hw := winP_bd HM.out k (d + 1) (by omega)
            have e := winP_step hx
            rw [← ht.out] at e
            have e1 : 0 ≤ t + x := by omega
            have e2 : t + x ≤ 36 := by omega
            have E := hide e
            clear e hw
            go_wp2
            go_round
            case rel => exact ⟨d + 1, t + x, by omega, by omega, by go_num, rfl, e1, e2, E.out.symm⟩
            case measure => simp [intOf]; omega
          · have e := winP_full (xs := xs) (k := k) (d := d) (by omega)
            rw [← ht.out] at e
            have E := hide e
            clear e
            go_wp2
            all_goals
              go_round
              case rel => exact ⟨k + 1, max u t, by omega, by go_num, by first | rfl | go_num, by omega, by omega, by show _ = max (maxTo _ k) _; rw [← hu.out, E.out]⟩
              case measure => simp [intOf]; omega
      · obtain rfl : k = xs.length := by omega
        go_wp2
        go_ret
        exact ⟨ret_int (by rw [HV.out, hu.out]; rfl), rfl⟩
theorem implDiscard (A : Option Addr) (c : Nat) (xs : List Int) (m : Int) (w : World) (h : Ints w A xs) (hl : xs.length ≤ 140737488351232) :
    Calls Try.prog 32 #[.slice A xs.length c, .int .i64 m] w fun e w' => e = .returned (.bool (discardB xs m)) ∧ w = w' := by
  have H := hide h; clear h
  cases hr : ropeB xs
  all_goals
    go_enter Try.func32, Try.ntmps32
    go_wp2_with (first | (go_at_call 21; refine (implRopeValid _ _ _ _ H.out hl).mono ?_; rintro e w' ⟨rfl, rfl⟩) | (go_at_call 30; refine (implWorstLay _ _ _ _ H.out hl).mono ?_; rintro e w' ⟨rfl, rfl⟩))
    go_ret
    exact ⟨ret_bool (by unfold discardB; rw [hr]; rfl), rfl⟩
theorem specDiscard (A : Option Addr) (c : Nat) (xs : List Int) (m : Int) (w : World) (h : Ints w A xs) (hl : xs.length ≤ 140737488351232) :
    Calls Try.prog 31 #[.slice A xs.length c, .int .i64 m] w fun e w' => e = .returned (.bool (discardB xs m)) ∧ w = w' := by
  have H := hide h; clear h
  cases hr : ropeB xs
  all_goals
    go_enter Try.func31, Try.ntmps31
    go_wp2_with (first | (go_at_call 19; refine (specRopeValid _ _ _ _ H.out hl).mono ?_; rintro e w' ⟨rfl, rfl⟩) | (go_at_call 29; refine (specWorstLay _ _ _ _ H.out hl).mono ?_; rintro e w' ⟨rfl, rfl⟩))
    go_ret
    exact ⟨ret_bool (by unfold discardB; rw [hr]; rfl), rfl⟩
end Go.Proofs.Ytjkaabimaimicaa
