import Derived.Test.YtddlnafkacogiaaTourPlain
namespace Go.Proofs.Ytddlnafkacogiaa
open Go.RowKit

theorem far_max (a b : Int) : far a b = max (a - b) (b - a) := by unfold far; split <;> omega
theorem wayB_neg (fs : List Int) (a b : Int) : wayB fs a b < 0 ↔ ¬ (floorsB fs = true ∧ inB a 0 ((fs.length : Int) - 1) = true ∧ inB b 0 ((fs.length : Int) - 1) = true) := by
  unfold wayB
  split
  · rename_i h; simp at h; have := far_nonneg (hgt fs a) (hgt fs b); constructor
    · intro; omega
    · intro h2; exact absurd ⟨h.1, h.2.1, h.2.2⟩ h2
  · rename_i h; simp at h; constructor
    · rintro _ ⟨h1, h2, h3⟩; rw [h h1 h2] at h3; simp at h3
    · intro; omega

theorem stepsBetween_any (a b : Int) (w : World) (ha : 0 ≤ a ∧ a ≤ 60) (hb : 0 ≤ b ∧ b ≤ 60) :
    Calls Try.prog 40 #[.int .i64 a, .int .i64 b] w fun e w' => e = .returned (.int .i64 (far a b)) ∧ w = w' := by
  go_enter Try.func40, Try.ntmps40
  go_wp2
  · go_ret
    exact ⟨ret_int (show b - a = far a b from by unfold far; rw [if_pos (by omega)]), rfl⟩
  · go_ret
    exact ⟨ret_int (show a - b = far a b from by unfold far; rw [if_neg (by omega)]), rfl⟩
theorem l1Far_any (a b : Int) (w : World) (ha : 0 ≤ a ∧ a ≤ 60) (hb : 0 ≤ b ∧ b ≤ 60) :
    Calls Try.prog 38 #[.int .i64 a, .int .i64 b] w fun e w' => e = .returned (.int .i64 (far a b)) ∧ w = w' := by
  go_enter Try.func38, Try.ntmps38
  go_wp2
  all_goals (go_ret; exact ⟨ret_int (by unfold far; split <;> omega), rfl⟩)
theorem implFloorWay (A : Option Addr) (c : Nat) (fs : List Int) (a b : Int) (w : World) (h : Ints w A fs) :
    Calls Try.prog 29 #[.slice A fs.length c, .int .i64 a, .int .i64 b] w fun e w' => e = .returned (.int .i64 (wayB fs a b)) ∧ Dr w w' := by
  have H := hide h; clear h
  cases hf : floorsB fs
  · go_enter Try.func29, Try.ntmps29
    go_wp2_with fail
    refine (implFloorsValid A c fs _ H.out).mono ?_
    rintro e w1 ⟨rfl, D1⟩
    have D1 := hide D1
    go_wp2
    go_ret
    exact ⟨ret_int (wayB_nof hf).symm, D1.out⟩
  · have HF := hide hf
    obtain ⟨f1, f2, -⟩ := floorsB_iff.1 hf
    cases ha : inB a 0 ((fs.length : Int) - 1)
    · go_enter Try.func29, Try.ntmps29
      go_wp2_with fail
      refine (implFloorsValid A c fs _ H.out).mono ?_
      rintro e w1 ⟨rfl, D1⟩
      have D1 := hide D1
      go_wp2_with (go_at_call 26; refine (isFloor_any _ _ _).mono ?_; rintro e w' ⟨rfl, rfl⟩)
      go_ret
      exact ⟨ret_int (wayB_noa ha).symm, D1.out⟩
    · cases hb : inB b 0 ((fs.length : Int) - 1)
      · go_enter Try.func29, Try.ntmps29
        go_wp2_with fail
        refine (implFloorsValid A c fs _ H.out).mono ?_
        rintro e w1 ⟨rfl, D1⟩
        have D1 := hide D1
        go_wp2_with (go_at_call 26; refine (isFloor_any _ _ _).mono ?_; rintro e w' ⟨rfl, rfl⟩)
        go_ret
        exact ⟨ret_int (wayB_nob hb).symm, D1.out⟩
      · have HA := hide ha
        have HB := hide hb
        have ia := (inB_iff _ _ _).1 ha
        have ib := (inB_iff _ _ _).1 hb
        obtain ⟨ka, rfl⟩ : ∃ k : Nat, a = k := ⟨a.toNat, by omega⟩
        obtain ⟨kb, rfl⟩ : ∃ k : Nat, b = k := ⟨b.toNat, by omega⟩
        go_enter Try.func29, Try.ntmps29
        go_wp2_with fail
        refine (implFloorsValid A c fs _ H.out).mono ?_
        rintro e w1 ⟨rfl, D1⟩
        have D1 := hide D1
        obtain ⟨bb, off, x, rfl, hx, hcx⟩ := (H.out.dr D1.out).at (k := ka) (by omega)
        obtain ⟨y, hy, hcy⟩ := (H.out.dr D1.out).cell (k := kb) (by omega)
        have rx := floorsP_range (floorsB_iff.1 HF.out) hx
        have ry := floorsP_range (floorsB_iff.1 HF.out) hy
        go_wp2_with (go_at_call 26; refine (isFloor_any _ _ _).mono ?_; rintro e w' ⟨rfl, rfl⟩)
        go_quiet ((go_at_call 40; exact quiet_left (stepsBetween_any _ _ _ rx ry) ⟨_, rfl⟩))
        go_wp2_with fail
        go_ret
        exact ⟨ret_int (by rw [wayB_yes HF.out HA.out HB.out, hgt_at hx, hgt_at hy]), D1.out.more _⟩
theorem specFloorWay (A : Option Addr) (c : Nat) (fs : List Int) (a b : Int) (w : World) (h : Ints w A fs) (hl : fs.length ≤ 140737488351232) :
    Calls Try.prog 24 #[.slice A fs.length c, .int .i64 a, .int .i64 b] w fun e w' => e = .returned (.int .i64 (wayB fs a b)) ∧ Dr w w' := by
  have H := hide h; clear h
  cases hf : floorsB fs
  · go_enter Try.func24, Try.ntmps24
    go_wp2_with fail
    refine (specFloorsValid A c fs _ H.out hl).mono ?_
    rintro e w1 ⟨rfl, D1⟩
    have D1 := hide D1
    go_wp2
    go_ret
    exact ⟨ret_int (wayB_nof hf).symm, D1.out⟩
  · have HF := hide hf
    obtain ⟨f1, f2, -⟩ := floorsB_iff.1 hf
    cases ha : inB a 0 ((fs.length : Int) - 1)
    · go_enter Try.func24, Try.ntmps24
      go_wp2_with fail
      refine (specFloorsValid A c fs _ H.out hl).mono ?_
      rintro e w1 ⟨rfl, D1⟩
      have D1 := hide D1
      go_wp2_with (go_at_call 23; refine (l1In_any _ _ _ _).mono ?_; rintro e w' ⟨rfl, rfl⟩)
      go_ret
      exact ⟨ret_int (wayB_noa ha).symm, D1.out⟩
    · cases hb : inB b 0 ((fs.length : Int) - 1)
      · go_enter Try.func24, Try.ntmps24
        go_wp2_with fail
        refine (specFloorsValid A c fs _ H.out hl).mono ?_
        rintro e w1 ⟨rfl, D1⟩
        have D1 := hide D1
        go_wp2_with (go_at_call 23; refine (l1In_any _ _ _ _).mono ?_; rintro e w' ⟨rfl, rfl⟩)
        go_ret
        exact ⟨ret_int (wayB_nob hb).symm, D1.out⟩
      · have HA := hide ha
        have HB := hide hb
        have ia := (inB_iff _ _ _).1 ha
        have ib := (inB_iff _ _ _).1 hb
        obtain ⟨ka, rfl⟩ : ∃ k : Nat, a = k := ⟨a.toNat, by omega⟩
        obtain ⟨kb, rfl⟩ : ∃ k : Nat, b = k := ⟨b.toNat, by omega⟩
        go_enter Try.func24, Try.ntmps24
        go_wp2_with fail
        refine (specFloorsValid A c fs _ H.out hl).mono ?_
        rintro e w1 ⟨rfl, D1⟩
        have D1 := hide D1
        obtain ⟨bb, off, x, rfl, hx, hcx⟩ := (H.out.dr D1.out).at (k := ka) (by omega)
        obtain ⟨y, hy, hcy⟩ := (H.out.dr D1.out).cell (k := kb) (by omega)
        have rx := floorsP_range (floorsB_iff.1 HF.out) hx
        have ry := floorsP_range (floorsB_iff.1 HF.out) hy
        go_wp2_with (go_at_call 23; refine (l1In_any _ _ _ _).mono ?_; rintro e w' ⟨rfl, rfl⟩)
        go_quiet ((go_at_call 38; exact quiet_left (l1Far_any _ _ _ rx ry) ⟨_, rfl⟩))
        go_wp2_with fail
        go_ret
        exact ⟨ret_int (by rw [wayB_yes HF.out HA.out HB.out, hgt_at hx, hgt_at hy]), D1.out.more _⟩

theorem path_step {fs xs : List Int} {a : Int} {k : Nat} {x : Int} (h : xs[k]? = some x) : pathL fs a (xs.take (k + 1)) = pathL fs a (xs.take k) + far (hgt fs (lastOf a (xs.take k))) (hgt fs x) := by
  rw [take_snoc' xs k x h, pathL_snoc]
theorem tourB_bad {fs xs : List Int} {a : Int} {k : Nat} {x : Int} (h : xs[k]? = some x) (hi : inB x 0 ((fs.length : Int) - 1) = false) : tourB fs a xs = -1 :=
  tourB_nox (all_bad (p := fun x => inB x 0 ((fs.length : Int) - 1)) h hi)
theorem path_bd {fs xs : List Int} (h : floorsB fs = true) (a : Int) (k : Nat) (hk : k ≤ xs.length) : 0 ≤ pathL fs a (xs.take k) ∧ pathL fs a (xs.take k) ≤ 60 * k := by
  have h1 := pathL_nonneg fs a (xs.take k)
  have h2 := pathL_le (floorsB_iff.1 h) a (xs.take k)
  rw [List.length_take, Nat.min_eq_left hk] at h2
  exact ⟨h1, h2⟩
theorem last_in {fs xs : List Int} {a : Int} {k : Nat} (ha : inB a 0 ((fs.length : Int) - 1) = true) (h : (xs.take k).all (fun x => inB x 0 ((fs.length : Int) - 1)) = true) : inB (lastOf a (xs.take k)) 0 ((fs.length : Int) - 1) = true := by
  rcases lastOf_mem a (xs.take k) with q | q
  · rw [q]; exact ha
  · exact List.all_eq_true.1 h _ q
theorem far_hgt_bd {fs : List Int} (h : floorsB fs = true) (a b : Int) : 0 ≤ far (hgt fs a) (hgt fs b) ∧ far (hgt fs a) (hgt fs b) ≤ 60 :=
  ⟨far_nonneg _ _, far_le (hgt_bd (floorsB_iff.1 h) a) (hgt_bd (floorsB_iff.1 h) b)⟩

theorem implTourWay (A A' : Option Addr) (c c' : Nat) (fs xs : List Int) (a : Int) (w : World) (h : Ints w A fs) (h' : Ints w A' xs) (hl : xs.length ≤ 140737488351232) :
    Calls Try.prog 20 #[.slice A fs.length c, .int .i64 a, .slice A' xs.length c'] w fun e w' => e = .returned (.int .i64 (tourB fs a xs)) ∧ Dr w w' := by
  have H := hide h; have H' := hide h'; clear h h'
  cases hf : floorsB fs
  · go_enter Try.func20, Try.ntmps20
    go_wp2_with fail
    refine (implFloorsValid A c fs _ H.out).mono ?_
    rintro e w1 ⟨rfl, D1⟩
    have D1 := hide D1
    go_wp2
    go_ret
    exact ⟨ret_int (tourB_nof hf).symm, D1.out⟩
  · have HF := hide hf
    cases ha : inB a 0 ((fs.length : Int) - 1)
    · go_enter Try.func20, Try.ntmps20
      go_wp2_with fail
      refine (implFloorsValid A c fs _ H.out).mono ?_
      rintro e w1 ⟨rfl, D1⟩
      have D1 := hide D1
      go_wp2_with (go_at_call 26; refine (isFloor_any _ _ _).mono ?_; rintro e w' ⟨rfl, rfl⟩)
      go_ret
      exact ⟨ret_int (tourB_noa ha).symm, D1.out⟩
    · have HA := hide ha
      go_enter Try.func20, Try.ntmps20
      go_wp2_with fail
      refine (implFloorsValid A c fs _ H.out).mono ?_
      rintro e w1 ⟨rfl, D1⟩
      have D1 := hide D1
      clear hf
      go_wp2_with (go_at_call 26; refine (isFloor_any _ _ _).mono ?_; rintro e w' ⟨rfl, rfl⟩)
      go_loopw [7, 8, 25] (fun s t i wr => ∃ k : Nat, k ≤ xs.length ∧ i = .int .i64 k ∧ s = .int .i64 (pathL fs a (xs.take k)) ∧ t = .int .i64 (lastOf a (xs.take k)) ∧ Hid (Dr w wr) ∧ Hid ((xs.take k).all (fun x => inB x 0 ((fs.length : Int) - 1)) = true)) (fun _ _ i _ => xs.length - (intOf i).toNat)
      case atStart => exact ⟨0, by omega, rfl, by simp [pathL], by simp [lastOf], D1, by simp [Hid]⟩
      case round =>
        obtain ⟨k, hk, rfl, rfl, rfl, hD, hin⟩ := hrel
        have hp := path_bd (xs := xs) HF.out a k hk
        by_cases hlt : k < xs.length
        · obtain ⟨b, off, x, rfl, hx, hc⟩ := (H'.out.dr hD.out).at hlt
          go_wp2_with fail
          refine (implFloorWay A c fs _ _ _ (H.out.dr hD.out)).mono ?_
          rintro e w2 ⟨rfl, D2⟩
          have D2 := hide D2
          cases hb : inB x 0 ((fs.length : Int) - 1)
          · have hw := wayB_nob (fs := fs) (a := lastOf a (xs.take k)) hb
            rw [hw]
            go_wp2
            go_ret
            exact ⟨ret_int (tourB_bad hx hb).symm, hD.out.then D2.out⟩
          · have hw := wayB_yes HF.out (last_in HA.out hin.out) hb
            have hn := far_hgt_bd HF.out (lastOf a (xs.take k)) x
            rw [hw]
            go_wp2
            go_roundw
            case rel => exact ⟨k + 1, by omega, by go_num, by rw [path_step hx], by rw [lastOf_take hx], hD.out.then D2.out, all_step hin hx hb⟩
            case measure => simp [intOf]; omega
        · obtain rfl : k = xs.length := by omega
          go_wp2
          go_ret
          exact ⟨ret_int (by rw [tourB_yes HF.out HA.out (all_done hin.out (by omega)), List.take_length]), hD.out⟩
theorem specTourWay (A A' : Option Addr) (c c' : Nat) (fs xs : List Int) (a : Int) (w : World) (h : Ints w A fs) (h' : Ints w A' xs) (hl0 : fs.length ≤ 140737488351232) (hl : xs.length ≤ 140737488351232) :
    Calls Try.prog 30 #[.slice A fs.length c, .int .i64 a, .slice A' xs.length c'] w fun e w' => e = .returned (.int .i64 (tourB fs a xs)) ∧ Dr w w' := by
  have H := hide h; have H' := hide h'; clear h h'
  cases hg : floorsB fs && inB a 0 ((fs.length : Int) - 1)
  · have hw : wayB fs a a = -1 := by
      unfold wayB; rw [← Bool.and_assoc, hg]; simp
    have ht : tourB fs a xs = -1 := by
      unfold tourB; rw [← Bool.and_assoc, hg]; simp
    go_enter Try.func30, Try.ntmps30
    go_wp2_with fail
    refine (specFloorWay A c fs _ _ _ H.out hl0).mono ?_
    rintro e w1 ⟨rfl, D1⟩
    have D1 := hide D1
    rw [hw]
    go_wp2
    go_ret
    exact ⟨ret_int ht.symm, D1.out⟩
  · rw [Bool.and_eq_true] at hg
    obtain ⟨hf, ha⟩ := hg
    have HF := hide hf
    have HA := hide ha
    have hw := wayB_yes hf ha ha
    have hn := far_hgt_bd hf a a
    go_enter Try.func30, Try.ntmps30
    go_wp2_with fail
    refine (specFloorWay A c fs _ _ _ H.out hl0).mono ?_
    rintro e w1 ⟨rfl, D1⟩
    have D1 := hide D1
    rw [hw]
    clear hf ha hw
    go_wp2
    go_loopw [1, 7, 8] (fun t s i wr => ∃ k : Nat, k ≤ xs.length ∧ i = .int .i64 k ∧ s = .int .i64 (pathL fs a (xs.take k)) ∧ t = .int .i64 (lastOf a (xs.take k)) ∧ Hid (Dr w wr) ∧ Hid ((xs.take k).all (fun x => inB x 0 ((fs.length : Int) - 1)) = true)) (fun _ _ i _ => xs.length - (intOf i).toNat)
    case atStart => exact ⟨0, by omega, rfl, by simp [pathL], by simp [lastOf], D1, by simp [Hid]⟩
    case round =>
      obtain ⟨k, hk, rfl, rfl, rfl, hD, hin⟩ := hrel
      have hp := path_bd (xs := xs) HF.out a k hk
      by_cases hlt : k < xs.length
      · obtain ⟨b, off, x, rfl, hx, hc⟩ := (H'.out.dr hD.out).at hlt
        go_wp2_with fail
        refine (specFloorWay A c fs _ _ _ (H.out.dr hD.out) hl0).mono ?_
        rintro e w2 ⟨rfl, D2⟩
        obtain ⟨x', hx', hc'⟩ := (H'.out.dr (hD.out.then D2)).cell hlt
        have e0 : x' = x := by have := hx.out; rw [hx'.out] at this; exact Option.some.inj this
        subst e0
        have D2 := hide D2
        cases hb : inB x' 0 ((fs.length : Int) - 1)
        · have hw := wayB_nob (fs := fs) (a := lastOf a (xs.take k)) hb
          rw [hw]
          go_wp2
          go_ret
          exact ⟨ret_int (tourB_bad hx hb).symm, hD.out.then D2.out⟩
        · have hw := wayB_yes HF.out (last_in HA.out hin.out) hb
          have hn := far_hgt_bd HF.out (lastOf a (xs.take k)) x'
          rw [hw]
          go_wp2
          go_roundw
          case rel => exact ⟨k + 1, by omega, by go_num, by rw [path_step hx], by rw [lastOf_take hx], hD.out.then D2.out, all_step hin hx hb⟩
          case measure => simp [intOf]; omega
      · obtain rfl : k = xs.length := by omega
        go_wp2
        go_ret
        exact ⟨ret_int (by rw [tourB_yes HF.out HA.out (all_done hin.out (by omega)), List.take_length]), hD.out⟩
end Go.Proofs.Ytddlnafkacogiaa
