import Derived.Test.YtmpcnpelgodciaaVisits
namespace Go.Proofs.Ytmpcnpelgodciaa
open Go.RowKit

/-- GroupOk. -/
noncomputable def groupB (fs cars calls : List Int) : Bool :=
  floorsB fs && (decide (1 ≤ cars.length ∧ cars.length ≤ 4 ∧ calls.length ≤ 5) && (withinB cars fs.length && withinB calls fs.length))
theorem within_bad {vs : List Int} {m : Int} {k : Nat} {x : Int} (hx : vs[k]? = some x) (h : inB x 0 (m - 1) = false) : withinB vs m = false := all_bad (p := fun x => inB x 0 (m - 1)) hx h
theorem within_done {vs : List Int} {m : Int} {k : Nat} (h : (vs.take k).all (fun x => inB x 0 (m - 1)) = true) (hk : vs.length ≤ k) : withinB vs m = true := all_done h hk

theorem allWithin_any (A : Option Addr) (c : Nat) (xs : List Int) (m : Int) (w : World) (h : Ints w A xs) (hl : xs.length ≤ 140737488351232) :
    Calls Try.prog 37 #[.slice A xs.length c, .int .i64 m] w fun e w' => e = .returned (.bool (withinB xs m)) ∧ w = w' := by
  have H := hide h; clear h
  go_enter Try.func37, Try.ntmps37
  go_wp2
  go_loop [9] (fun i => ∃ k : Nat, k ≤ xs.length ∧ i = .int .i64 k ∧ Hid ((xs.take k).all (fun x => inB x 0 (m - 1)) = true)) (fun i => xs.length - (intOf i).toNat)
  case atStart => exact ⟨0, by omega, rfl, by simp [Hid]⟩
  case round =>
    obtain ⟨k, hk, rfl, hA⟩ := hrel
    by_cases hlt : k < xs.length
    · obtain ⟨b, off, x, rfl, hx, hc⟩ := H.out.at hlt
      go_wp2
      case roundEnd =>
        go_round
        case rel => exact ⟨k + 1, by omega, by go_num, all_step hA hx (inB_t (by omega))⟩
        case measure => simp [intOf]; omega
      all_goals (go_ret; exact ⟨ret_bool (within_bad hx (inB_n (by omega))).symm, rfl⟩)
    · go_wp2
      go_ret
      exact ⟨ret_bool (within_done hA (by omega)).symm, rfl⟩
theorem l12Floors_any (A A' : Option Addr) (c c' : Nat) (fs xs : List Int) (m : Int) (w : World) (h : Ints w A' xs) (hl0 : fs.length ≤ 140737488351232) (hl : xs.length ≤ 140737488351232) :
    Calls Try.prog 35 #[.slice A fs.length c, .slice A' xs.length c', .int .i64 m] w fun e w' => e = .returned (.bool (withinB xs fs.length && decide ((xs.length : Int) ≤ m))) ∧ w = w' := by
  have H := hide h; clear h
  go_enter Try.func35, Try.ntmps35
  go_wp2
  go_loop [7] (fun i => ∃ k : Nat, k ≤ xs.length ∧ i = .int .i64 k ∧ Hid ((xs.take k).all (fun x => inB x 0 ((fs.length : Int) - 1)) = true)) (fun i => xs.length - (intOf i).toNat)
  case atStart => exact ⟨0, by omega, rfl, by simp [Hid]⟩
  case round =>
    obtain ⟨k, hk, rfl, hA⟩ := hrel
    by_cases hlt : k < xs.length
    · obtain ⟨b, off, x, rfl, hx, hc⟩ := H.out.at hlt
      cases hb : inB x 0 ((fs.length : Int) - 1)
      · go_wp2_with (go_at_call 24; refine (l1In_any _ _ _ _).mono ?_; rintro e w' ⟨rfl, rfl⟩)
        go_ret
        exact ⟨ret_bool (by rw [within_bad hx hb]; rfl), rfl⟩
      · go_wp2_with (go_at_call 24; refine (l1In_any _ _ _ _).mono ?_; rintro e w' ⟨rfl, rfl⟩)
        go_round
        case rel => exact ⟨k + 1, by omega, by go_num, all_step hA hx hb⟩
        case measure => simp [intOf]; omega
    · go_wp2
      go_ret
      exact ⟨ret_bool (by rw [within_done hA (by omega)]; simp), rfl⟩
theorem implGroupOk (A0 A1 A2 : Option Addr) (c0 c1 c2 : Nat) (fs cars calls : List Int) (w : World) (h0 : Ints w A0 fs) (h1 : Ints w A1 cars) (h2 : Ints w A2 calls) (hl1 : cars.length ≤ 140737488351232) (hl2 : calls.length ≤ 140737488351232) :
    Calls Try.prog 29 #[.slice A0 fs.length c0, .slice A1 cars.length c1, .slice A2 calls.length c2] w fun e w' => e = .returned (.bool (groupB fs cars calls)) ∧ Dr w w' := by
  have H0 := hide h0; have H1 := hide h1; have H2 := hide h2; clear h0 h1 h2
  cases hf : floorsB fs
  · go_enter Try.func29, Try.ntmps29
    go_wp2_with fail
    refine (implFloorsValid A0 c0 fs _ H0.out).mono ?_
    rintro e w1 ⟨rfl, D1⟩
    have D1 := hide D1
    go_wp2
    go_ret
    exact ⟨ret_bool (by unfold groupB; rw [hf]; rfl), D1.out⟩
  · by_cases hn : 1 ≤ cars.length ∧ cars.length ≤ 4 ∧ calls.length ≤ 5
    · obtain ⟨n1, n2, n3⟩ := hn
      go_enter Try.func29, Try.ntmps29
      go_wp2_with fail
      refine (implFloorsValid A0 c0 fs _ H0.out).mono ?_
      rintro e w1 ⟨rfl, D1⟩
      have D1 := hide D1
      go_wp2_with fail
      refine (allWithin_any A1 c1 cars _ _ (H1.out.dr D1.out) hl1).mono ?_
      rintro e w1' ⟨rfl, rfl⟩
      cases hb1 : withinB cars fs.length
      · go_wp2_with fail
        go_ret
        exact ⟨ret_bool (by unfold groupB; rw [hf, hb1]; simp), D1.out⟩
      · go_wp2_with fail
        refine (allWithin_any A2 c2 calls _ _ (H2.out.dr D1.out) hl2).mono ?_
        rintro e w1' ⟨rfl, rfl⟩
        go_wp2
        go_ret
        exact ⟨ret_bool (by unfold groupB; rw [hf, hb1]; simp [n1, n2, n3]), D1.out⟩
    · go_enter Try.func29, Try.ntmps29
      go_wp2_with fail
      refine (implFloorsValid A0 c0 fs _ H0.out).mono ?_
      rintro e w1 ⟨rfl, D1⟩
      have D1 := hide D1
      go_wp2
      all_goals (go_ret; exact ⟨ret_bool (by unfold groupB; rw [decide_eq_false hn]; simp), D1.out⟩)
theorem specGroupOk (A0 A1 A2 : Option Addr) (c0 c1 c2 : Nat) (fs cars calls : List Int) (w : World) (h0 : Ints w A0 fs) (h1 : Ints w A1 cars) (h2 : Ints w A2 calls) (hl0 : fs.length ≤ 140737488351232) (hl1 : cars.length ≤ 140737488351232) (hl2 : calls.length ≤ 140737488351232) :
    Calls Try.prog 27 #[.slice A0 fs.length c0, .slice A1 cars.length c1, .slice A2 calls.length c2] w fun e w' => e = .returned (.bool (groupB fs cars calls)) ∧ Dr w w' := by
  have H0 := hide h0; have H1 := hide h1; have H2 := hide h2; clear h0 h1 h2
  cases hf : floorsB fs
  · go_enter Try.func27, Try.ntmps27
    go_wp2_with fail
    refine (specFloorsValid A0 c0 fs _ H0.out hl0).mono ?_
    rintro e w1 ⟨rfl, D1⟩
    have D1 := hide D1
    go_wp2
    go_ret
    exact ⟨ret_bool (by unfold groupB; rw [hf]; rfl), D1.out⟩
  · by_cases n1 : 1 ≤ cars.length
    · cases hb1 : withinB cars fs.length && decide ((cars.length : Int) ≤ 4)
      · go_enter Try.func27, Try.ntmps27
        go_wp2_with fail
        refine (specFloorsValid A0 c0 fs _ H0.out hl0).mono ?_
        rintro e w1 ⟨rfl, D1⟩
        have D1 := hide D1
        go_wp2_with fail
        refine (l12Floors_any A0 A1 c0 c1 fs cars _ _ (H1.out.dr D1.out) hl0 hl1).mono ?_
        rintro e w1' ⟨rfl, rfl⟩
        go_wp2
        go_ret
        exact ⟨ret_bool (by
          unfold groupB; rw [hf]; rw [Bool.and_eq_false_iff] at hb1
          rcases hb1 with h | h
          · simp [h]
          · have : ¬ cars.length ≤ 4 := by simp at h; omega
            simp [this]), D1.out⟩
      · go_enter Try.func27, Try.ntmps27
        go_wp2_with fail
        refine (specFloorsValid A0 c0 fs _ H0.out hl0).mono ?_
        rintro e w1 ⟨rfl, D1⟩
        have D1 := hide D1
        go_wp2_with fail
        refine (l12Floors_any A0 A1 c0 c1 fs cars _ _ (H1.out.dr D1.out) hl0 hl1).mono ?_
        rintro e w1' ⟨rfl, rfl⟩
        go_wp2_with fail
        refine (l12Floors_any A0 A2 c0 c2 fs calls _ _ (H2.out.dr D1.out) hl0 hl2).mono ?_
        rintro e w1' ⟨rfl, rfl⟩
        go_wp2
        go_ret
        exact ⟨ret_bool (by
          rw [Bool.and_eq_true] at hb1
          have n2 : cars.length ≤ 4 := by have := hb1.2; simp at this; omega
          unfold groupB; rw [hf, hb1.1, Bool.eq_iff_iff]; simp [n1, n2]; constructor <;> (intro h; obtain ⟨p, q⟩ := h; first | exact ⟨by omega, by assumption⟩ | exact ⟨by assumption, by omega⟩)), D1.out⟩
    · go_enter Try.func27, Try.ntmps27
      go_wp2_with fail
      refine (specFloorsValid A0 c0 fs _ H0.out hl0).mono ?_
      rintro e w1 ⟨rfl, D1⟩
      have D1 := hide D1
      go_wp2
      go_ret
      exact ⟨ret_bool (by unfold groupB; simp [n1]), D1.out⟩
end Go.Proofs.Ytmpcnpelgodciaa
