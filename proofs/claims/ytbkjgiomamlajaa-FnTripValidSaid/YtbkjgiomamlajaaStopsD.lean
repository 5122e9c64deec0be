/- Stops: the reference's small functions. -/
import Derived.Test.YtbkjgiomamlajaaStopsC
namespace Go.Proofs.Ytbkjgiomamlajaa
open Go.RowKit

def aheadI (C : Cl) (n f d : Int) : Int := (firstP (hitB C d) (path n f d)).getD (-1)
def lastI (C : Cl) (n f d : Int) (i : Nat) : Int := (lastP (goB C (-d)) ((path n f d).take i)).getD (-1)
theorem ahead_hit {C : Cl} {n f d F : Int} {i : Nat} (h : (path n f d)[i]? = some F) (hq : hitB C d F = true) (hb : ∀ (j : Nat) (y : Int), j < i → (path n f d)[j]? = some y → hitB C d y = false) : aheadI C n f d = F := by
  unfold aheadI; rw [firstP_at h hq hb]; rfl
theorem ahead_end {C : Cl} {n f d : Int} {i : Nat} (hi : steps n f d ≤ i) (hb : ∀ (j : Nat) (y : Int), j < i → (path n f d)[j]? = some y → hitB C d y = false) : aheadI C n f d = -1 := by
  unfold aheadI; rw [firstP_none fun j y hj => hb j y (by have := (path_get' hj).1; omega) hj]; rfl
theorem last_yes {C : Cl} {n f d F : Int} {i : Nat} (h : (path n f d)[i]? = some F) (hg : goB C (-d) F = true) : lastI C n f d (i + 1) = F := by
  unfold lastI; rw [take_snoc' _ i F h, lastP_snoc, if_pos hg]; rfl
theorem last_no {C : Cl} {n f d F : Int} {i : Nat} (h : (path n f d)[i]? = some F) (hg : goB C (-d) F = false) : lastI C n f d (i + 1) = lastI C n f d i := by
  unfold lastI; rw [take_snoc' _ i F h, lastP_snoc, if_neg (by rw [hg]; simp)]
theorem last_all {C : Cl} {n f d : Int} {i : Nat} (h : steps n f d ≤ i) : lastI C n f d i = (lastP (goB C (-d)) (path n f d)).getD (-1) := by
  unfold lastI; rw [List.take_of_length_le (by rw [path_length]; exact h)]
/-- The two numbers give the stop. -/
theorem toward_two {C : Cl} {n f d : Int} (hf : 0 ≤ f ∧ f < n) (hd : d = 1 ∨ d = -1) : towardL C d (path n f d) = if 0 ≤ aheadI C n f d then some (aheadI C n f d, d) else if 0 ≤ lastI C n f d (steps n f d) then some (lastI C n f d (steps n f d), -d) else none := by
  rw [last_all (Nat.le_refl _)]
  unfold towardL aheadI
  rcases firstP_spec (hitB C d) (path n f d) with ⟨h1, -⟩ | ⟨k, y, h1, h2, -, -⟩
  · rw [h1]
    rcases lastP_spec (goB C (-d)) (path n f d) with ⟨h3, -⟩ | ⟨k, y, h3, h4, -⟩
    · rw [h3]; rfl
    · rw [h3]
      have := (path_in hf hd h4).1
      simp [this]
  · rw [h1]
    have := (path_in hf hd h2).1
    simp [this]
theorem l9Ok_any (A0 A1 A2 : Option Addr) (c0 c1 c2 : Nat) (C : Cl) (f d : Int) (w : World) (h : CR w A0 A1 A2 C) :
    Calls Try.prog 79 #[.agg #[.slice A0 C.up.length c0, .slice A1 C.dn.length c1, .slice A2 C.car.length c2], .agg #[.int .i64 f, .int .i64 d]] w fun e w' => e = .returned (.bool (callsB C && stopOkB C.car.length f d)) ∧ Below w.heap.size w w' := by
  have H := hide h; clear h
  go_enter Try.func79, Try.ntmps79
  go_wp2_with fail
  refine calls_name fun W hW => ?_
  have X2 : Hid (Box W w.heap.size #[.slice A0 C.up.length c0, .slice A1 C.dn.length c1, .slice A2 C.car.length c2]) := by rw [hW]; exact (Box.new rfl).alloc _
  have X3 : Hid (Box W (w.heap.size + 1) #[.int .i64 f, .int .i64 d]) := by rw [hW]; exact Box.new (by simp)
  have BW : Hid (Below w.heap.size w W) := by rw [hW]; exact ((Below.refl _ _).alloc (Nat.le_refl _) _).alloc (by simp) _
  clear hW
  refine (specCallsValid A0 A1 A2 c0 c1 c2 C _ (H.out.below BW.out)).mono ?_
  rintro e w1 ⟨rfl, b⟩
  replace X2 := hide (X2.out.below b)
  replace X3 := hide (X3.out.below b)
  replace BW := hide (bthen BW.out b)
  clear b
  cases hv : callsB C
  · have HV := hide hv
    go_wp2_with fail
    go_ret
    exact ⟨ret_bool (by rw [HV.out]; rfl), BW.out⟩
  · have HV := hide hv
    have hl : C.car.length ≤ 8 := (callsB_iff.1 hv).2.1
    cases hi : inB f 0 ((C.car.length : Int) - 1)
    · have HE := hide (stopOk_out (d := d) hi)
      have X2_lt := X2.out.lt
      have X2_c0 := X2.out.at (i := 0) rfl; have X2_f0 := X2.out.frozen 0
      have X2_c1 := X2.out.at (i := 1) rfl; have X2_f1 := X2.out.frozen 1
      have X2_c2 := X2.out.at (i := 2) rfl; have X2_f2 := X2.out.frozen 2
      have X3_lt := X3.out.lt
      have X3_c0 := X3.out.at (i := 0) rfl; have X3_f0 := X3.out.frozen 0
      have X3_c1 := X3.out.at (i := 1) rfl; have X3_f1 := X3.out.frozen 1
      go_wp2_with (go_at_call 44; refine (l1In_any _ _ _ _).mono ?_; rintro e w' ⟨rfl, rfl⟩)
      go_ret
      exact ⟨ret_bool (by rw [HV.out, HE.out]; rfl), BW.out⟩
    · by_cases h1 : d = 1
      · have HE := hide (stopOk_in hi (.inl h1))
        subst h1
        have X2_lt := X2.out.lt
        have X2_c0 := X2.out.at (i := 0) rfl; have X2_f0 := X2.out.frozen 0
        have X2_c1 := X2.out.at (i := 1) rfl; have X2_f1 := X2.out.frozen 1
        have X2_c2 := X2.out.at (i := 2) rfl; have X2_f2 := X2.out.frozen 2
        have X3_lt := X3.out.lt
        have X3_c0 := X3.out.at (i := 0) rfl; have X3_f0 := X3.out.frozen 0
        have X3_c1 := X3.out.at (i := 1) rfl; have X3_f1 := X3.out.frozen 1
        go_wp2_with (go_at_call 44; refine (l1In_any _ _ _ _).mono ?_; rintro e w' ⟨rfl, rfl⟩)
        go_ret
        exact ⟨ret_bool (by rw [HV.out, HE.out]; rfl), BW.out⟩
      · have h1' : (d == 1) = false := by simpa using h1
        by_cases h2 : d = -1
        · have HE := hide (stopOk_in hi (.inr h2))
          subst h2
          clear h1
          have X2_lt := X2.out.lt
          have X2_c0 := X2.out.at (i := 0) rfl; have X2_f0 := X2.out.frozen 0
          have X2_c1 := X2.out.at (i := 1) rfl; have X2_f1 := X2.out.frozen 1
          have X2_c2 := X2.out.at (i := 2) rfl; have X2_f2 := X2.out.frozen 2
          have X3_lt := X3.out.lt
          have X3_c0 := X3.out.at (i := 0) rfl; have X3_f0 := X3.out.frozen 0
          have X3_c1 := X3.out.at (i := 1) rfl; have X3_f1 := X3.out.frozen 1
          go_wp2_with (go_at_call 44; refine (l1In_any _ _ _ _).mono ?_; rintro e w' ⟨rfl, rfl⟩)
          go_ret
          exact ⟨ret_bool (by rw [HV.out, HE.out]; rfl), BW.out⟩
        · have HE := hide (stopOk_dir (n := C.car.length) (f := f) h1 h2)
          have h2' : (d == -1) = false := by simpa using h2
          clear h1 h2
          have X2_lt := X2.out.lt
          have X2_c0 := X2.out.at (i := 0) rfl; have X2_f0 := X2.out.frozen 0
          have X2_c1 := X2.out.at (i := 1) rfl; have X2_f1 := X2.out.frozen 1
          have X2_c2 := X2.out.at (i := 2) rfl; have X2_f2 := X2.out.frozen 2
          have X3_lt := X3.out.lt
          have X3_c0 := X3.out.at (i := 0) rfl; have X3_f0 := X3.out.frozen 0
          have X3_c1 := X3.out.at (i := 1) rfl; have X3_f1 := X3.out.frozen 1
          go_wp2_with (go_at_call 44; refine (l1In_any _ _ _ _).mono ?_; rintro e w' ⟨rfl, rfl⟩)
          go_ret
          exact ⟨ret_bool (by rw [HV.out, HE.out]; rfl), BW.out⟩
set_option maxHeartbeats 2000000 in
theorem l9Ahead_any (A0 A1 A2 : Option Addr) (c0 c1 c2 : Nat) (C : Cl) (f d : Int) (w : World) (h : CR w A0 A1 A2 C) (hv : callsP C) (hf : 0 ≤ f ∧ f < C.car.length) (hd : d = 1 ∨ d = -1) :
    Calls Try.prog 80 #[.agg #[.slice A0 C.up.length c0, .slice A1 C.dn.length c1, .slice A2 C.car.length c2], .agg #[.int .i64 f, .int .i64 d]] w fun e w' => e = .returned (.int .i64 (aheadI C C.car.length f d)) ∧ Below w.heap.size w w' := by
  have H := hide h; have HF0 := hide hf
  obtain ⟨v1, v2, v3, v4, -, -⟩ := hv
  have HL := hide (And.intro v3 v4)
  clear h v3 v4
  rcases hd with rfl | rfl
  · go_enter Try.func80, Try.ntmps80
    go_upto_region 1 with fail
    refine code_name fun W hW => ?_
    have X2 : Hid (Box W w.heap.size #[.slice A0 C.up.length c0, .slice A1 C.dn.length c1, .slice A2 C.car.length c2]) := by rw [hW]; exact (Box.new rfl).alloc _
    have X3 : Hid (Box W (w.heap.size + 1) #[.int .i64 f, .int .i64 (1)]) := by rw [hW]; exact Box.new (by simp)
    have BW : Hid (Below w.heap.size w W) := by rw [hW]; exact ((Below.refl _ _).alloc (Nat.le_refl _) _).alloc (by simp) _
    clear hW
    have X2_lt := X2.out.lt
    have X2_c0 := X2.out.at (i := 0) rfl; have X2_f0 := X2.out.frozen 0
    have X2_c1 := X2.out.at (i := 1) rfl; have X2_f1 := X2.out.frozen 1
    have X2_c2 := X2.out.at (i := 2) rfl; have X2_f2 := X2.out.frozen 2
    have X3_lt := X3.out.lt
    have X3_c0 := X3.out.at (i := 0) rfl; have X3_f0 := X3.out.frozen 0
    have X3_c1 := X3.out.at (i := 1) rfl; have X3_f1 := X3.out.frozen 1
    go_wp2_with fail
    go_loop [5] (fun s => ∃ (i : Nat) (F : Int), s = .int .i64 F ∧ (-1 ≤ F ∧ F ≤ C.car.length) ∧ Hid (F = f + i * (1)) ∧ Hid (∀ (j : Nat) (y : Int), j < i → (path C.car.length f (1))[j]? = some y → hitB C (1) y = false)) (fun s => steps C.car.length (intOf s) (1))
    case atStart => exact ⟨0, f, rfl, by omega, by unfold Hid; simp, fun j y hj => by omega⟩
    case round =>
      obtain ⟨i, F, rfl, hFb, hF, hN⟩ := hrel
      by_cases hr : 0 ≤ F ∧ F < C.car.length
      · obtain ⟨hp, hs⟩ := path_here (d := 1) HF0.out (by simp) hF.out hr
        have HP := hide hp
        obtain ⟨k, rfl⟩ : ∃ k : Nat, F = (k : Int) := ⟨F.toNat, by omega⟩
        have hk : k < C.car.length := by omega
        have k1 : k < C.up.length := by have := HL.out; omega
        have k2 : k < C.dn.length := by have := HL.out; omega
        have HR := hide hr
        have hin : inB (k : Int) 0 ((C.car.length : Int) - 1) = true := inB_t (by omega)
        obtain ⟨b0, o0, x, rfl, l0, hx, cx⟩ := (H.out.below BW.out).up.at k1
        obtain ⟨b1, o1, y, rfl, l1, hy, cy⟩ := (H.out.below BW.out).dn.at k2
        obtain ⟨b2, o2, z, rfl, l2, hz, cz⟩ := (H.out.below BW.out).car.at hk
        have e0 := hide (bat_at hx.out); have e1 := hide (bat_at hy.out); have e2 := hide (bat_at hz.out)
        have hF2 := hide (step_to hF.out)
        have hms := hide (steps_less (d := 1) (by simp) HR.out)
        clear hp hs hr
        cases x <;> cases y <;> cases z
        all_goals
          go_wp2_with (go_at_call 44; refine (l1In_any _ _ _ _).mono ?_; rintro e w' ⟨rfl, rfl⟩)
          first
          | (go_ret
             exact ⟨ret_int (ahead_hit HP.out (by unfold hitB goB; rw [e0.out, e1.out, e2.out]; rfl) hN.out).symm, BW.out⟩)
          | (go_round
             case rel =>
               refine ⟨i + 1, _, rfl, by omega, hF2, fun j y hj hy => ?_⟩
               rcases Nat.lt_succ_iff_lt_or_eq.1 hj with h | rfl
               · exact hN.out j y h hy
               · rw [HP.out] at hy; injection hy with hy; subst hy; unfold hitB goB; rw [e0.out, e1.out, e2.out]; rfl
             case measure => simpa [intOf] using hms.out)
      · have HT := hide (ahead_end (C := C) (path_over (d := 1) HF0.out (by simp) hF.out hr) hN.out)
        have hin : inB F 0 ((C.car.length : Int) - 1) = false := inB_n (by omega)
        go_wp2_with (go_at_call 44; refine (l1In_any _ _ _ _).mono ?_; rintro e w' ⟨rfl, rfl⟩)
        go_ret
        exact ⟨ret_int HT.out.symm, BW.out⟩
  · go_enter Try.func80, Try.ntmps80
    go_upto_region 1 with fail
    refine code_name fun W hW => ?_
    have X2 : Hid (Box W w.heap.size #[.slice A0 C.up.length c0, .slice A1 C.dn.length c1, .slice A2 C.car.length c2]) := by rw [hW]; exact (Box.new rfl).alloc _
    have X3 : Hid (Box W (w.heap.size + 1) #[.int .i64 f, .int .i64 (-1)]) := by rw [hW]; exact Box.new (by simp)
    have BW : Hid (Below w.heap.size w W) := by rw [hW]; exact ((Below.refl _ _).alloc (Nat.le_refl _) _).alloc (by simp) _
    clear hW
    have X2_lt := X2.out.lt
    have X2_c0 := X2.out.at (i := 0) rfl; have X2_f0 := X2.out.frozen 0
    have X2_c1 := X2.out.at (i := 1) rfl; have X2_f1 := X2.out.frozen 1
    have X2_c2 := X2.out.at (i := 2) rfl; have X2_f2 := X2.out.frozen 2
    have X3_lt := X3.out.lt
    have X3_c0 := X3.out.at (i := 0) rfl; have X3_f0 := X3.out.frozen 0
    have X3_c1 := X3.out.at (i := 1) rfl; have X3_f1 := X3.out.frozen 1
    go_wp2_with fail
    go_loop [5] (fun s => ∃ (i : Nat) (F : Int), s = .int .i64 F ∧ (-1 ≤ F ∧ F ≤ C.car.length) ∧ Hid (F = f + i * (-1)) ∧ Hid (∀ (j : Nat) (y : Int), j < i → (path C.car.length f (-1))[j]? = some y → hitB C (-1) y = false)) (fun s => steps C.car.length (intOf s) (-1))
    case atStart => exact ⟨0, f, rfl, by omega, by unfold Hid; simp, fun j y hj => by omega⟩
    case round =>
      obtain ⟨i, F, rfl, hFb, hF, hN⟩ := hrel
      by_cases hr : 0 ≤ F ∧ F < C.car.length
      · obtain ⟨hp, hs⟩ := path_here (d := -1) HF0.out (by simp) hF.out hr
        have HP := hide hp
        obtain ⟨k, rfl⟩ : ∃ k : Nat, F = (k : Int) := ⟨F.toNat, by omega⟩
        have hk : k < C.car.length := by omega
        have k1 : k < C.up.length := by have := HL.out; omega
        have k2 : k < C.dn.length := by have := HL.out; omega
        have HR := hide hr
        have hin : inB (k : Int) 0 ((C.car.length : Int) - 1) = true := inB_t (by omega)
        obtain ⟨b0, o0, x, rfl, l0, hx, cx⟩ := (H.out.below BW.out).up.at k1
        obtain ⟨b1, o1, y, rfl, l1, hy, cy⟩ := (H.out.below BW.out).dn.at k2
        obtain ⟨b2, o2, z, rfl, l2, hz, cz⟩ := (H.out.below BW.out).car.at hk
        have e0 := hide (bat_at hx.out); have e1 := hide (bat_at hy.out); have e2 := hide (bat_at hz.out)
        have hF2 := hide (step_to hF.out)
        have hms := hide (steps_less (d := -1) (by simp) HR.out)
        clear hp hs hr
        cases x <;> cases y <;> cases z
        all_goals
          go_wp2_with (go_at_call 44; refine (l1In_any _ _ _ _).mono ?_; rintro e w' ⟨rfl, rfl⟩)
          first
          | (go_ret
             exact ⟨ret_int (ahead_hit HP.out (by unfold hitB goB; rw [e0.out, e1.out, e2.out]; rfl) hN.out).symm, BW.out⟩)
          | (go_round
             case rel =>
               refine ⟨i + 1, _, rfl, by omega, hF2, fun j y hj hy => ?_⟩
               rcases Nat.lt_succ_iff_lt_or_eq.1 hj with h | rfl
               · exact hN.out j y h hy
               · rw [HP.out] at hy; injection hy with hy; subst hy; unfold hitB goB; rw [e0.out, e1.out, e2.out]; rfl
             case measure => simpa [intOf] using hms.out)
      · have HT := hide (ahead_end (C := C) (path_over (d := -1) HF0.out (by simp) hF.out hr) hN.out)
        have hin : inB F 0 ((C.car.length : Int) - 1) = false := inB_n (by omega)
        go_wp2_with (go_at_call 44; refine (l1In_any _ _ _ _).mono ?_; rintro e w' ⟨rfl, rfl⟩)
        go_ret
        exact ⟨ret_int HT.out.symm, BW.out⟩
set_option maxHeartbeats 2000000 in
theorem l9Last_any (A0 A1 A2 : Option Addr) (c0 c1 c2 : Nat) (C : Cl) (f d : Int) (w : World) (h : CR w A0 A1 A2 C) (hv : callsP C) (hf : 0 ≤ f ∧ f < C.car.length) (hd : d = 1 ∨ d = -1) :
    Calls Try.prog 81 #[.agg #[.slice A0 C.up.length c0, .slice A1 C.dn.length c1, .slice A2 C.car.length c2], .agg #[.int .i64 f, .int .i64 d]] w fun e w' => e = .returned (.int .i64 (lastI C C.car.length f d (steps C.car.length f d))) ∧ Below w.heap.size w w' := by
  have H := hide h; have HF0 := hide hf
  obtain ⟨v1, v2, v3, v4, -, -⟩ := hv
  have HL := hide (And.intro v3 v4)
  clear h v3 v4
  rcases hd with rfl | rfl
  · go_enter Try.func81, Try.ntmps81
    go_upto_region 1 with fail
    refine code_name fun W hW => ?_
    have X2 : Hid (Box W w.heap.size #[.slice A0 C.up.length c0, .slice A1 C.dn.length c1, .slice A2 C.car.length c2]) := by rw [hW]; exact (Box.new rfl).alloc _
    have X3 : Hid (Box W (w.heap.size + 1) #[.int .i64 f, .int .i64 (1)]) := by rw [hW]; exact Box.new (by simp)
    have BW : Hid (Below w.heap.size w W) := by rw [hW]; exact ((Below.refl _ _).alloc (Nat.le_refl _) _).alloc (by simp) _
    clear hW
    have X2_lt := X2.out.lt
    have X2_c0 := X2.out.at (i := 0) rfl; have X2_f0 := X2.out.frozen 0
    have X2_c1 := X2.out.at (i := 1) rfl; have X2_f1 := X2.out.frozen 1
    have X2_c2 := X2.out.at (i := 2) rfl; have X2_f2 := X2.out.frozen 2
    have X3_lt := X3.out.lt
    have X3_c0 := X3.out.at (i := 0) rfl; have X3_f0 := X3.out.frozen 0
    have X3_c1 := X3.out.at (i := 1) rfl; have X3_f1 := X3.out.frozen 1
    go_wp2_with fail
    go_loop [5, 6] (fun o s => ∃ (i : Nat) (F : Int), s = .int .i64 F ∧ o = .int .i64 (lastI C C.car.length f (1) i) ∧ (-1 ≤ F ∧ F ≤ C.car.length) ∧ Hid (F = f + i * (1)) ∧ Hid (i ≤ steps C.car.length f (1))) (fun _ s => steps C.car.length (intOf s) (1))
    case atStart => exact ⟨0, f, rfl, rfl, by omega, by unfold Hid; simp, Nat.zero_le _⟩
    case round =>
      obtain ⟨i, F, rfl, rfl, hFb, hF, hi⟩ := hrel
      by_cases hr : 0 ≤ F ∧ F < C.car.length
      · obtain ⟨hp, hs⟩ := path_here (d := 1) HF0.out (by simp) hF.out hr
        have HP := hide hp
        have HS := hide hs
        obtain ⟨k, rfl⟩ : ∃ k : Nat, F = (k : Int) := ⟨F.toNat, by omega⟩
        have hk : k < C.car.length := by omega
        have k1 : k < C.up.length := by have := HL.out; omega
        have k2 : k < C.dn.length := by have := HL.out; omega
        have HR := hide hr
        have hin : inB (k : Int) 0 ((C.car.length : Int) - 1) = true := inB_t (by omega)
        obtain ⟨b0, o0, x, rfl, l0, hx, cx⟩ := (H.out.below BW.out).up.at k1
        obtain ⟨b1, o1, y, rfl, l1, hy, cy⟩ := (H.out.below BW.out).dn.at k2
        have e0 := hide (bat_at hx.out); have e1 := hide (bat_at hy.out)
        have hF2 := hide (step_to hF.out)
        have hms := hide (steps_less (d := 1) (by simp) HR.out)
        clear hp hs hr
        cases x <;> cases y
        all_goals
          go_wp2_with (go_at_call 44; refine (l1In_any _ _ _ _).mono ?_; rintro e w' ⟨rfl, rfl⟩)
          go_round
          case rel => exact ⟨i + 1, _, rfl, by first | (rw [last_yes HP.out (by unfold goB; rw [e0.out]; rfl)]; done) | (rw [last_yes HP.out (by unfold goB; rw [e1.out]; rfl)]; done) | (rw [last_no HP.out (by unfold goB; rw [e0.out]; rfl)]; done) | (rw [last_no HP.out (by unfold goB; rw [e1.out]; rfl)]; done), by omega, hF2, HS.out⟩
          case measure => simpa [intOf] using hms.out
      · have hov := path_over (d := 1) HF0.out (by simp) hF.out hr
        have HT : Hid (lastI C C.car.length f (1) i = lastI C C.car.length f (1) (steps C.car.length f (1))) := by
          have := hi.out
          unfold Hid; congr 1; omega
        clear hov
        have hin : inB F 0 ((C.car.length : Int) - 1) = false := inB_n (by omega)
        go_wp2_with (go_at_call 44; refine (l1In_any _ _ _ _).mono ?_; rintro e w' ⟨rfl, rfl⟩)
        go_ret
        exact ⟨ret_int HT.out, BW.out⟩
  · go_enter Try.func81, Try.ntmps81
    go_upto_region 1 with fail
    refine code_name fun W hW => ?_
    have X2 : Hid (Box W w.heap.size #[.slice A0 C.up.length c0, .slice A1 C.dn.length c1, .slice A2 C.car.length c2]) := by rw [hW]; exact (Box.new rfl).alloc _
    have X3 : Hid (Box W (w.heap.size + 1) #[.int .i64 f, .int .i64 (-1)]) := by rw [hW]; exact Box.new (by simp)
    have BW : Hid (Below w.heap.size w W) := by rw [hW]; exact ((Below.refl _ _).alloc (Nat.le_refl _) _).alloc (by simp) _
    clear hW
    have X2_lt := X2.out.lt
    have X2_c0 := X2.out.at (i := 0) rfl; have X2_f0 := X2.out.frozen 0
    have X2_c1 := X2.out.at (i := 1) rfl; have X2_f1 := X2.out.frozen 1
    have X2_c2 := X2.out.at (i := 2) rfl; have X2_f2 := X2.out.frozen 2
    have X3_lt := X3.out.lt
    have X3_c0 := X3.out.at (i := 0) rfl; have X3_f0 := X3.out.frozen 0
    have X3_c1 := X3.out.at (i := 1) rfl; have X3_f1 := X3.out.frozen 1
    go_wp2_with fail
    go_loop [5, 6] (fun o s => ∃ (i : Nat) (F : Int), s = .int .i64 F ∧ o = .int .i64 (lastI C C.car.length f (-1) i) ∧ (-1 ≤ F ∧ F ≤ C.car.length) ∧ Hid (F = f + i * (-1)) ∧ Hid (i ≤ steps C.car.length f (-1))) (fun _ s => steps C.car.length (intOf s) (-1))
    case atStart => exact ⟨0, f, rfl, rfl, by omega, by unfold Hid; simp, Nat.zero_le _⟩
    case round =>
      obtain ⟨i, F, rfl, rfl, hFb, hF, hi⟩ := hrel
      by_cases hr : 0 ≤ F ∧ F < C.car.length
      · obtain ⟨hp, hs⟩ := path_here (d := -1) HF0.out (by simp) hF.out hr
        have HP := hide hp
        have HS := hide hs
        obtain ⟨k, rfl⟩ : ∃ k : Nat, F = (k : Int) := ⟨F.toNat, by omega⟩
        have hk : k < C.car.length := by omega
        have k1 : k < C.up.length := by have := HL.out; omega
        have k2 : k < C.dn.length := by have := HL.out; omega
        have HR := hide hr
        have hin : inB (k : Int) 0 ((C.car.length : Int) - 1) = true := inB_t (by omega)
        obtain ⟨b0, o0, x, rfl, l0, hx, cx⟩ := (H.out.below BW.out).up.at k1
        obtain ⟨b1, o1, y, rfl, l1, hy, cy⟩ := (H.out.below BW.out).dn.at k2
        have e0 := hide (bat_at hx.out); have e1 := hide (bat_at hy.out)
        have hF2 := hide (step_to hF.out)
        have hms := hide (steps_less (d := -1) (by simp) HR.out)
        clear hp hs hr
        cases x <;> cases y
        all_goals
          go_wp2_with (go_at_call 44; refine (l1In_any _ _ _ _).mono ?_; rintro e w' ⟨rfl, rfl⟩)
          go_round
          case rel => exact ⟨i + 1, _, rfl, by first | (rw [last_yes HP.out (by unfold goB; rw [e0.out]; rfl)]; done) | (rw [last_yes HP.out (by unfold goB; rw [e1.out]; rfl)]; done) | (rw [last_no HP.out (by unfold goB; rw [e0.out]; rfl)]; done) | (rw [last_no HP.out (by unfold goB; rw [e1.out]; rfl)]; done), by omega, hF2, HS.out⟩
          case measure => simpa [intOf] using hms.out
      · have hov := path_over (d := -1) HF0.out (by simp) hF.out hr
        have HT : Hid (lastI C C.car.length f (-1) i = lastI C C.car.length f (-1) (steps C.car.length f (-1))) := by
          have := hi.out
          unfold Hid; congr 1; omega
        clear hov
        have hin : inB F 0 ((C.car.length : Int) - 1) = false := inB_n (by omega)
        go_wp2_with (go_at_call 44; refine (l1In_any _ _ _ _).mono ?_; rintro e w' ⟨rfl, rfl⟩)
        go_ret
        exact ⟨ret_int HT.out, BW.out⟩
end Go.Proofs.Ytbkjgiomamlajaa
