import Derived.Test.YtddlnafkacogiaaFloors
namespace Go.Proofs.Ytddlnafkacogiaa
open Go.RowKit

open Classical in
noncomputable def ascB (vs : List Int) : Bool := decide (AscTo vs vs.length)
def withinB (vs : List Int) (m : Int) : Bool := vs.all (fun x => inB x 0 (m - 1))
/-- VisitsOk. -/
noncomputable def visitsB (fs vs : List Int) : Bool := floorsB fs && (withinB vs fs.length && ascB vs)
theorem visitsB_no {fs vs : List Int} (h : floorsB fs = false) : visitsB fs vs = false := by unfold visitsB; simp [h]
theorem visitsB_out {fs vs : List Int} {k : Nat} {x : Int} (hx : vs[k]? = some x) (h : inB x 0 ((fs.length : Int) - 1) = false) : visitsB fs vs = false := by
  unfold visitsB withinB; rw [all_bad (p := fun x => inB x 0 ((fs.length : Int) - 1)) hx h]; simp
theorem visitsB_adj {fs vs : List Int} {i : Nat} {a b : Int} (ha : vs[i]? = some a) (hb : vs[i + 1]? = some b) (h : b ≤ a) : visitsB fs vs = false := by
  have : ascB vs = false := by
    unfold ascB; simp only [decide_eq_false_iff_not]; intro h4
    have := h4 i a b (getElem?_lt hb) ha hb; omega
  unfold visitsB; simp [this]
theorem visitsB_done {fs vs : List Int} {k : Nat} (hk : vs.length ≤ k) (h1 : (vs.take k).all (fun x => inB x 0 ((fs.length : Int) - 1)) = true) (h2 : AscTo vs k) : visitsB fs vs = floorsB fs := by
  have e1 : withinB vs fs.length = true := all_done h1 hk
  have e2 : ascB vs = true := by unfold ascB; simp only [decide_eq_true_eq]; exact h2.mono hk
  unfold visitsB; simp [e1, e2]

theorem implVisitsOk (A A' : Option Addr) (c c' : Nat) (fs vs : List Int) (w : World) (h : Ints w A fs) (h' : Ints w A' vs) (hl : vs.length ≤ 140737488351232) :
    Calls Try.prog 25 #[.slice A fs.length c, .slice A' vs.length c'] w fun e w' => e = .returned (.bool (visitsB fs vs)) ∧ Dr w w' := by
  have H := hide h; have H' := hide h'; clear h h'
  cases hf : floorsB fs
  · go_enter Try.func25, Try.ntmps25
    go_wp2_with fail
    refine (implFloorsValid A c fs _ H.out).mono ?_
    rintro e w1 ⟨rfl, D1⟩
    have D1 := hide D1
    go_wp2
    go_ret
    exact ⟨ret_bool (visitsB_no hf).symm, D1.out⟩
  · have HF := hide hf
    obtain ⟨f1, f2, -⟩ := floorsB_iff.1 hf
    go_enter Try.func25, Try.ntmps25
    go_wp2_with fail
    refine (implFloorsValid A c fs _ H.out).mono ?_
    rintro e w1 ⟨rfl, D1⟩
    have D1 := hide D1
    go_wp2
    go_loop [12] (fun i => ∃ k : Nat, k ≤ vs.length ∧ i = .int .i64 (k : Int) ∧ Hid (AscTo vs k) ∧ Hid ((vs.take k).all (fun x => inB x 0 ((fs.length : Int) - 1)) = true)) (fun i => vs.length - (intOf i).toNat)
    case atStart => exact ⟨0, by omega, rfl, AscTo.one _ (by omega), by simp [Hid]⟩
    case round =>
      obtain ⟨k, hk, rfl, hA, hin⟩ := hrel
      by_cases hlt : k < vs.length
      · obtain ⟨b, off, x, rfl, hx, hc⟩ := (H'.out.dr D1.out).at hlt
        cases hb : inB x 0 ((fs.length : Int) - 1)
        · go_wp2_with (go_at_call 26; refine (isFloor_any _ _ _).mono ?_; rintro e w' ⟨rfl, rfl⟩)
          go_ret
          exact ⟨ret_bool (visitsB_out hx hb).symm, D1.out⟩
        · by_cases hk0 : k = 0
          · subst hk0
            simp only [Nat.add_zero] at hc
            go_wp2_with (go_at_call 26; refine (isFloor_any _ _ _).mono ?_; rintro e w' ⟨rfl, rfl⟩)
            go_round
            case rel => exact ⟨1, by omega, by go_num, AscTo.one _ (by omega), all_step hin hx hb⟩
            case measure => simp [intOf]; omega
          · obtain ⟨j, rfl⟩ : ∃ j, k = j + 1 := ⟨k - 1, by omega⟩
            obtain ⟨u, hu, hcu⟩ := (H'.out.dr D1.out).cell (k := j) (by omega)
            by_cases hux : x ≤ u
            · go_wp2_with (go_at_call 26; refine (isFloor_any _ _ _).mono ?_; rintro e w' ⟨rfl, rfl⟩)
              go_ret
              exact ⟨ret_bool (visitsB_adj hu hx hux).symm, D1.out⟩
            · go_wp2_with (go_at_call 26; refine (isFloor_any _ _ _).mono ?_; rintro e w' ⟨rfl, rfl⟩)
              go_round
              case rel => exact ⟨j + 2, by omega, by go_num, AscTo.step hA hu hx (by omega), all_step hin hx hb⟩
              case measure => simp [intOf]; omega
      · go_wp2
        go_ret
        exact ⟨ret_bool ((visitsB_done (by omega) hin hA).trans HF.out).symm, D1.out⟩
theorem specVisitsOk (A A' : Option Addr) (c c' : Nat) (fs vs : List Int) (w : World) (h : Ints w A fs) (h' : Ints w A' vs) (hl : vs.length ≤ 140737488351232) (hl0 : fs.length ≤ 140737488351232) :
    Calls Try.prog 17 #[.slice A fs.length c, .slice A' vs.length c'] w fun e w' => e = .returned (.bool (visitsB fs vs)) ∧ Dr w w' := by
  have H := hide h; have H' := hide h'; clear h h'
  go_enter Try.func17, Try.ntmps17
  go_wp2
  go_loopw [5] (fun i wr => ∃ k : Nat, k ≤ vs.length ∧ i = .int .i64 (k : Int) ∧ Hid (Dr w wr) ∧ Hid (AscTo vs k) ∧ Hid ((vs.take k).all (fun x => inB x 0 ((fs.length : Int) - 1)) = true)) (fun i _ => vs.length - (intOf i).toNat)
  case atStart => exact ⟨0, by omega, rfl, Dr.refl _, AscTo.one _ (by omega), by simp [Hid]⟩
  case round =>
    obtain ⟨k, hk, rfl, hD, hA, hin⟩ := hrel
    by_cases hlt : k < vs.length
    · obtain ⟨b, off, x, rfl, hx, hc⟩ := (H'.out.dr hD.out).at hlt
      cases hb : inB x 0 ((fs.length : Int) - 1)
      · go_wp2_with fail
        have hw1 : IntKind.i64.wrap ((fs.length : Int) - 1) = (fs.length : Int) - 1 := IntWalk.i64_in _ (by omega)
        go_quiet ((go_at_call 23; exact quiet_left (l1In_any _ _ _ _) ⟨_, rfl⟩))
        clear hw1
        go_wp2_with fail
        go_ret
        exact ⟨ret_bool (visitsB_out hx hb).symm, hD.out.more _⟩
      · by_cases hk0 : k = 0
        · subst hk0
          simp only [Nat.add_zero] at hc
          go_wp2_with fail
          have hw1 : IntKind.i64.wrap ((fs.length : Int) - 1) = (fs.length : Int) - 1 := IntWalk.i64_in _ (by omega)
          go_quiet ((go_at_call 23; exact quiet_left (l1In_any _ _ _ _) ⟨_, rfl⟩))
          clear hw1
          go_wp2_with fail
          go_roundw
          case rel => exact ⟨1, by omega, by go_num, hD.out.more _, AscTo.one _ (by omega), all_step hin hx hb⟩
          case measure => simp [intOf]; omega
        · obtain ⟨j, rfl⟩ : ∃ j, k = j + 1 := ⟨k - 1, by omega⟩
          obtain ⟨u, hu, hcu⟩ := (H'.out.dr hD.out).cell (k := j) (by omega)
          by_cases hux : x ≤ u
          · go_wp2_with fail
            have hw1 : IntKind.i64.wrap ((fs.length : Int) - 1) = (fs.length : Int) - 1 := IntWalk.i64_in _ (by omega)
            go_quiet ((go_at_call 23; exact quiet_left (l1In_any _ _ _ _) ⟨_, rfl⟩))
            clear hw1
            go_wp2_with fail
            go_ret
            exact ⟨ret_bool (visitsB_adj hu hx hux).symm, hD.out.more _⟩
          · go_wp2_with fail
            have hw1 : IntKind.i64.wrap ((fs.length : Int) - 1) = (fs.length : Int) - 1 := IntWalk.i64_in _ (by omega)
            go_quiet ((go_at_call 23; exact quiet_left (l1In_any _ _ _ _) ⟨_, rfl⟩))
            clear hw1
            go_wp2_with fail
            go_roundw
            case rel => exact ⟨j + 2, by omega, by go_num, hD.out.more _, AscTo.step hA hu hx (by omega), all_step hin hx hb⟩
            case measure => simp [intOf]; omega
    · go_wp2_with fail
      refine (specFloorsValid A c fs _ (H.out.dr hD.out) hl0).mono ?_
      rintro e w1 ⟨rfl, D1⟩
      have D1 := hide D1
      go_wp2
      go_ret
      exact ⟨ret_bool (visitsB_done (by omega) hin hA).symm, hD.out.then D1.out⟩
end Go.Proofs.Ytddlnafkacogiaa
