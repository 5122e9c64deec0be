import Derived.Test.YtmpcnpelgodciaaWays
namespace Go.Proofs.Ytmpcnpelgodciaa
open Go.RowKit

theorem mul_bd {a b : Int} (ha : -20 ≤ a ∧ a ≤ 20) (hb : -60 ≤ b ∧ b ≤ 60) : -1200 ≤ a * b ∧ a * b ≤ 1200 := by
  have h : (a * b).natAbs ≤ 20 * 60 := by rw [Int.natAbs_mul]; exact Nat.mul_le_mul (by omega) (by omega)
  omega
/-- TripWork's number, and whether there is one. -/
noncomputable def workOk (fs : List Int) (a b l : Int) : Bool := floorsB fs && (inB a 0 ((fs.length : Int) - 1) && (inB b 0 ((fs.length : Int) - 1) && inB l 0 40))
noncomputable def workV (fs : List Int) (a b l : Int) : Int := if workOk fs a b l then (l - 20) * (hgt fs b - hgt fs a) else 0
theorem workOk_iff {fs : List Int} {a b l : Int} : workOk fs a b l = true ↔ floorsB fs = true ∧ inB a 0 ((fs.length : Int) - 1) = true ∧ inB b 0 ((fs.length : Int) - 1) = true ∧ inB l 0 40 = true := by unfold workOk; simp [Bool.and_eq_true]
theorem workV_no {fs : List Int} {a b l : Int} (h : workOk fs a b l = false) : workV fs a b l = 0 := by unfold workV; rw [h]; rfl
theorem workV_yes {fs : List Int} {a b l : Int} (h : workOk fs a b l = true) : workV fs a b l = (l - 20) * (hgt fs b - hgt fs a) := by unfold workV; rw [h]; rfl
theorem workV_bd (fs : List Int) (a b l : Int) : -1200 ≤ workV fs a b l ∧ workV fs a b l ≤ 1200 := by
  cases h : workOk fs a b l
  · rw [workV_no h]; omega
  · rw [workV_yes h]
    obtain ⟨h1, -, -, h4⟩ := workOk_iff.1 h
    have := (inB_iff _ _ _).1 h4
    have := hgt_bd (floorsB_iff.1 h1) a; have := hgt_bd (floorsB_iff.1 h1) b
    exact mul_bd (by omega) (by omega)
theorem ret_ib {a b : Int} {p q : Bool} (h : a = b) (k : p = q) : Ending.returned (.tuple #[.int .i64 a, .bool p]) = .returned (.tuple #[.int .i64 b, .bool q]) := by rw [h, k]

theorem implTripWork (A : Option Addr) (c : Nat) (fs : List Int) (a b l : Int) (w : World) (h : Ints w A fs) :
    Calls Try.prog 33 #[.slice A fs.length c, .int .i64 a, .int .i64 b, .int .i64 l] w fun e w' => e = .returned (.tuple #[.int .i64 (workV fs a b l), .bool (workOk fs a b l)]) ∧ Dr w w' := by
  have H := hide h; clear h
  go_enter Try.func33, Try.ntmps33
  go_wp2_with fail
  refine (implFloorsValid A c fs _ H.out).mono ?_
  rintro e w1 ⟨rfl, D1⟩
  have D1 := hide D1
  have no : Hid (workOk fs a b l = false → Ending.returned (.tuple #[.int .i64 0, .bool false]) = .returned (.tuple #[.int .i64 (workV fs a b l), .bool (workOk fs a b l)]) ) := fun h => ret_ib (workV_no h).symm h.symm
  cases hf : floorsB fs
  · go_wp2
    go_ret2
    exact ⟨no.out (by unfold workOk; rw [hf]; rfl), D1.out⟩
  · cases ha : inB a 0 ((fs.length : Int) - 1)
    · go_wp2_with (go_at_call 23; refine (isFloor_any _ _ _).mono ?_; rintro e w' ⟨rfl, rfl⟩)
      go_ret2
      exact ⟨no.out (by unfold workOk; rw [ha]; simp), D1.out⟩
    · cases hb : inB b 0 ((fs.length : Int) - 1)
      · go_wp2_with (go_at_call 23; refine (isFloor_any _ _ _).mono ?_; rintro e w' ⟨rfl, rfl⟩)
        go_ret2
        exact ⟨no.out (by unfold workOk; rw [hb]; simp), D1.out⟩
      · by_cases hl : 0 ≤ l ∧ l ≤ 40
        · obtain ⟨l1, l2⟩ := hl
          have hk : workOk fs a b l = true := workOk_iff.2 ⟨hf, ha, hb, inB_t ⟨l1, l2⟩⟩
          have HK := hide hk
          have HF := hide hf
          have ia := (inB_iff _ _ _).1 ha
          have ib := (inB_iff _ _ _).1 hb
          obtain ⟨ka, rfl⟩ : ∃ k : Nat, a = k := ⟨a.toNat, by omega⟩
          obtain ⟨kb, rfl⟩ : ∃ k : Nat, b = k := ⟨b.toNat, by omega⟩
          obtain ⟨bb, off, x, rfl, hx, hcx⟩ := (H.out.dr D1.out).at (k := ka) (by omega)
          obtain ⟨y, hy, hcy⟩ := (H.out.dr D1.out).cell (k := kb) (by omega)
          have rx := floorsP_range (floorsB_iff.1 HF.out) hx
          have ry := floorsP_range (floorsB_iff.1 HF.out) hy
          have hm := mul_bd (a := l - 20) (b := y - x) (by omega) (by omega)
          have e1 : IntKind.i64.wrap ((l - 20) * (y - x)) = (l - 20) * (y - x) := IntWalk.i64_in _ (by omega)
          have e2 : IntKind.i64.wrap (l - 20) = l - 20 := IntWalk.i64_in _ (by omega)
          have e3 : IntKind.i64.wrap (y - x) = y - x := IntWalk.i64_in _ (by omega)
          clear hk hf
          go_wp2_with (go_at_call 23; refine (isFloor_any _ _ _).mono ?_; rintro e w' ⟨rfl, rfl⟩)
          go_quiet (fail)
          go_wp2_with fail
          go_ret2
          exact ⟨ret_ib (by rw [workV_yes HK.out, hgt_at hx, hgt_at hy]) HK.out.symm, D1.out.more _⟩
        · have hk : Hid (workOk fs a b l = false) := by unfold Hid workOk; rw [inB_n (n := l) (lo := 0) (hi := 40) (by omega)]; simp
          go_wp2_with (go_at_call 23; refine (isFloor_any _ _ _).mono ?_; rintro e w' ⟨rfl, rfl⟩)
          all_goals (go_ret2; exact ⟨no.out hk.out, D1.out⟩)
theorem specTripWork (A : Option Addr) (c : Nat) (fs : List Int) (a b l : Int) (w : World) (h : Ints w A fs) (hl0 : fs.length ≤ 140737488351232) :
    Calls Try.prog 34 #[.slice A fs.length c, .int .i64 a, .int .i64 b, .int .i64 l] w fun e w' => e = .returned (.tuple #[.int .i64 (workV fs a b l), .bool (workOk fs a b l)]) ∧ Dr w w' := by
  have H := hide h; clear h
  go_enter Try.func34, Try.ntmps34
  go_wp2_with fail
  refine (specFloorWay A c fs a b _ H.out hl0).mono ?_
  rintro e w1 ⟨rfl, D1⟩
  have D1 := hide D1
  have no : Hid (workOk fs a b l = false → Ending.returned (.tuple #[.int .i64 0, .bool false]) = .returned (.tuple #[.int .i64 (workV fs a b l), .bool (workOk fs a b l)]) ) := fun h => ret_ib (workV_no h).symm h.symm
  have hbd := wayB_bd fs a b
  by_cases hw : wayB fs a b < 0
  · have hk : workOk fs a b l = false := by
      have := (wayB_neg fs a b).1 hw
      cases hk : workOk fs a b l
      · rfl
      · obtain ⟨h1, h2, h3, -⟩ := workOk_iff.1 hk; exact absurd ⟨h1, h2, h3⟩ this
    replace hk := hide hk
    go_wp2
    go_ret2
    exact ⟨no.out hk.out, D1.out⟩
  · have hw' : floorsB fs = true ∧ inB a 0 ((fs.length : Int) - 1) = true ∧ inB b 0 ((fs.length : Int) - 1) = true := Classical.byContradiction fun h => hw ((wayB_neg fs a b).2 h)
    obtain ⟨hf, ha, hb⟩ := hw'
    cases hl : inB l 0 40
    · go_wp2_with (go_at_call 24; refine (l1In_any _ _ _ _).mono ?_; rintro e w' ⟨rfl, rfl⟩)
      go_ret2
      exact ⟨no.out (by unfold workOk; rw [hl]; simp), D1.out⟩
    · have hk : workOk fs a b l = true := workOk_iff.2 ⟨hf, ha, hb, hl⟩
      have il := (inB_iff _ _ _).1 hl
      have HK := hide hk
      have HF := hide hf
      have ia := (inB_iff _ _ _).1 ha
      have ib := (inB_iff _ _ _).1 hb
      obtain ⟨ka, rfl⟩ : ∃ k : Nat, a = k := ⟨a.toNat, by omega⟩
      obtain ⟨kb, rfl⟩ : ∃ k : Nat, b = k := ⟨b.toNat, by omega⟩
      obtain ⟨bb, off, x, rfl, hx, hcx⟩ := (H.out.dr D1.out).at (k := ka) (by omega)
      obtain ⟨y, hy, hcy⟩ := (H.out.dr D1.out).cell (k := kb) (by omega)
      have rx := floorsP_range (floorsB_iff.1 HF.out) hx
      have ry := floorsP_range (floorsB_iff.1 HF.out) hy
      have hm := mul_bd (a := l - 20) (b := y - x) (by omega) (by omega)
      have e1 : IntKind.i64.wrap ((l - 20) * (y - x)) = (l - 20) * (y - x) := IntWalk.i64_in _ (by omega)
      have e2 : IntKind.i64.wrap (l - 20) = l - 20 := IntWalk.i64_in _ (by omega)
      have e3 : IntKind.i64.wrap (y - x) = y - x := IntWalk.i64_in _ (by omega)
      clear hk hf
      go_wp2_with (go_at_call 24; refine (l1In_any _ _ _ _).mono ?_; rintro e w' ⟨rfl, rfl⟩)
      go_quiet (fail)
      go_wp2_with fail
      go_ret2
      exact ⟨ret_ib (by rw [workV_yes HK.out, hgt_at hx, hgt_at hy]) HK.out.symm, D1.out.more _⟩
end Go.Proofs.Ytmpcnpelgodciaa
