/- Stops: looking one way. -/
import Derived.Test.YtbkjgiomamlajaaStopsA
namespace Go.Proofs.Ytbkjgiomamlajaa
open Go.RowKit

/-- The cells of a stop, or of none. -/
def stC (o : Option (Int × Int)) : Array Value := match o with
  | none => #[.int .i64 (-1), .int .i64 0]
  | some r => #[.int .i64 r.1, .int .i64 r.2]
def stF (o : Option (Int × Int)) : Int := match o with
  | none => -1
  | some r => r.1
def stD (o : Option (Int × Int)) : Int := match o with
  | none => 0
  | some r => r.2
theorem stC_eq (o : Option (Int × Int)) : stC o = #[.int .i64 (stF o), .int .i64 (stD o)] := by cases o <;> rfl
def backO (C : Cl) (n f d : Int) (i : Nat) : Option (Int × Int) := (lastP (goB C (-d)) ((path n f d).take i)).map fun k => (k, -d)
theorem back_zero (C : Cl) (n f d : Int) : backO C n f d 0 = none := rfl
theorem back_yes {C : Cl} {n f d F : Int} {i : Nat} (h : (path n f d)[i]? = some F) (hg : goB C (-d) F = true) : backO C n f d (i + 1) = some (F, -d) := by
  unfold backO; rw [take_snoc' _ i F h, lastP_snoc, if_pos hg]; rfl
theorem back_no {C : Cl} {n f d F : Int} {i : Nat} (h : (path n f d)[i]? = some F) (hg : goB C (-d) F = false) : backO C n f d (i + 1) = backO C n f d i := by
  unfold backO; rw [take_snoc' _ i F h, lastP_snoc, if_neg (by rw [hg]; simp)]
theorem toward_hit {C : Cl} {n f d F : Int} {i : Nat} (h : (path n f d)[i]? = some F) (hq : hitB C d F = true) (hb : ∀ (j : Nat) (y : Int), j < i → (path n f d)[j]? = some y → hitB C d y = false) : towardL C d (path n f d) = some (F, d) := by
  unfold towardL; rw [firstP_at h hq hb]
theorem toward_end {C : Cl} {n f d : Int} {i : Nat} (hi : steps n f d ≤ i) (hb : ∀ (j : Nat) (y : Int), j < i → (path n f d)[j]? = some y → hitB C d y = false) : towardL C d (path n f d) = backO C n f d i := by
  unfold towardL backO
  rw [firstP_none fun j y hj => hb j y (by have := (path_get' hj).1; omega) hj, List.take_of_length_le (by rw [path_length]; exact hi)]
theorem path_here {n f d F : Int} {i : Nat} (hf : 0 ≤ f ∧ f < n) (hd : d = 1 ∨ d = -1) (hF : F = f + i * d) (hr : 0 ≤ F ∧ F < n) : (path n f d)[i]? = some F ∧ i < steps n f d := by
  have hs : i < steps n f d := by
    unfold steps
    rcases hd with rfl | rfl
    · rw [if_pos rfl]; omega
    · rw [if_neg (by omega)]; omega
  exact ⟨by rw [path_get hs, hF], hs⟩
theorem path_over {n f d F : Int} {i : Nat} (hf : 0 ≤ f ∧ f < n) (hd : d = 1 ∨ d = -1) (hF : F = f + i * d) (hr : ¬ (0 ≤ F ∧ F < n)) : steps n f d ≤ i := by
  unfold steps
  rcases hd with rfl | rfl
  · rw [if_pos rfl]; omega
  · rw [if_neg (by omega)]; omega
theorem step_to {f d F : Int} {i : Nat} (hF : F = f + i * d) : F + d = f + ((i + 1 : Nat) : Int) * d := by
  rw [hF, Int.natCast_add, Int.add_mul]; omega
theorem steps_less {n F d : Int} (hd : d = 1 ∨ d = -1) (hr : 0 ≤ F ∧ F < n) : steps n (F + d) d < steps n F d := by
  unfold steps
  rcases hd with rfl | rfl
  · rw [if_pos rfl, if_pos rfl]; omega
  · rw [if_neg (by omega), if_neg (by omega)]; omega
set_option maxHeartbeats 2000000 in
theorem stopToward_any (A0 A1 A2 : Option Addr) (c0 c1 c2 : Nat) (C : Cl) (f d : Int) (w : World) (h : CR w A0 A1 A2 C) (hv : callsP C) (hf : 0 ≤ f ∧ f < C.car.length) (hd : d = 1 ∨ d = -1) :
    Calls Try.prog 75 #[.agg #[.slice A0 C.up.length c0, .slice A1 C.dn.length c1, .slice A2 C.car.length c2], .int .i64 f, .int .i64 d] w fun e w' => e = .returned (.agg (stC (towardL C d (path C.car.length f d)))) ∧ Below w.heap.size w w' := by
  have H := hide h; have HD := hide hd; have HF0 := hide hf
  obtain ⟨v1, v2, v3, v4, -, -⟩ := hv
  have HL := hide (And.intro v3 v4)
  have hdd : -1 ≤ d ∧ d ≤ 1 := by omega
  have u1 : C.up.length ≤ 8 := by omega
  clear h hd v3 v4
  go_enter Try.func75, Try.ntmps75
  go_wp2_with fail
  refine calls_name fun W hW => ?_
  have X3 : Hid (Box W w.heap.size #[.slice A0 C.up.length c0, .slice A1 C.dn.length c1, .slice A2 C.car.length c2]) := by rw [hW]; exact (Box.new rfl).alloc _
  have X6 : Hid (Box W (w.heap.size + 1) #[.int .i64 0, .int .i64 0]) := by rw [hW]; exact Box.new (by simp)
  have BW : Hid (Below w.heap.size w W) := by rw [hW]; exact ((Below.refl _ _).alloc (Nat.le_refl _) _).alloc (by simp) _
  have z0 : w.heap.size + 1 < W.heap.size := by rw [hW]; simp
  clear hW
  refine (noStop_any _).mono ?_
  rintro e w1 ⟨rfl, b⟩
  have z1 := b.size
  replace X3 := hide (X3.out.below b)
  replace X6 := hide (X6.out.below b)
  replace BW := hide (bthen BW.out b)
  clear b
  go_upto_region 2 with fail
  refine code_name fun W2 hW => ?_
  have X7 : Hid (Box W2 w1.heap.size (stC (backO C C.car.length f d 0))) := by rw [hW]; exact Box.new rfl
  have b : Below w1.heap.size w1 W2 := by rw [hW]; exact (Below.refl _ _).alloc (Nat.le_refl _) _
  have z2 := X7.out.lt
  replace X3 := hide (X3.out.below b)
  replace X6 := hide (X6.out.below b)
  replace BW := hide (bthen BW.out b)
  clear b
  clear hW
  go_wp2_with fail
  go_loopw [8] (fun s wr => ∃ (i : Nat) (F : Int), s = .int .i64 F ∧ (-1 ≤ F ∧ F ≤ C.car.length) ∧ Hid (F = f + i * d) ∧ Hid (∀ (j : Nat) (y : Int), j < i → (path C.car.length f d)[j]? = some y → hitB C d y = false) ∧ Hid (Box wr w.heap.size #[.slice A0 C.up.length c0, .slice A1 C.dn.length c1, .slice A2 C.car.length c2]) ∧ Hid (Box wr (w.heap.size + 1) #[.int .i64 0, .int .i64 0]) ∧ Hid (Box wr w1.heap.size (stC (backO C C.car.length f d i))) ∧ Hid (Below w.heap.size w wr)) (fun s _ => steps C.car.length (intOf s) d)
  case atStart => exact ⟨0, f, rfl, by omega, by unfold Hid; simp, fun j y hj => by omega, X3, X6, X7, BW⟩
  case round =>
    clear X3 X6 X7 BW
    obtain ⟨i, F, rfl, hFb, hF, hN, X3, X6, X7, BW⟩ := hrel
    have zL : w1.heap.size < wr.heap.size := X7.out.lt
    by_cases hr : 0 ≤ F ∧ F < C.car.length
    · obtain ⟨hp, hs⟩ := path_here HF0.out HD.out hF.out hr
      have HP := hide hp
      obtain ⟨k, rfl⟩ : ∃ k : Nat, F = (k : Int) := ⟨F.toNat, by omega⟩
      have hk : k < C.car.length := by omega
      have HR := hide hr
      have hin : inB (k : Int) 0 ((C.up.length : Int) - 1) = true := inB_t (by have := HL.out; omega)
      obtain ⟨b2, o2, z, rfl, l2, hz, cz⟩ := (H.out.below BW.out).car.at hk
      have hzk := bat_at hz.out
      have k1 : k < C.up.length := by have := HL.out; omega
      have k2 : k < C.dn.length := by have := HL.out; omega
      clear hp hs hr
      by_cases hh : hitB C d k = true
      · have HT := hide (toward_hit HP.out hh hN.out)
        cases z
        · have hg : Hid (goB C d k = true) := by unfold hitB at hh; rw [hzk] at hh; simpa [Hid] using hh
          clear hh
          have X3_lt := X3.out.lt
          have X3_c0 := X3.out.at (i := 0) rfl; have X3_f0 := X3.out.frozen 0
          have X3_c1 := X3.out.at (i := 1) rfl; have X3_f1 := X3.out.frozen 1
          have X3_c2 := X3.out.at (i := 2) rfl; have X3_f2 := X3.out.frozen 2
          have X6_lt := X6.out.lt
          have X6_c0 := X6.out.at (i := 0) rfl; have X6_f0 := X6.out.frozen 0
          have X6_c1 := X6.out.at (i := 1) rfl; have X6_f1 := X6.out.frozen 1
          go_wp2_with (go_at_call 76; refine (isFloor_any _ _ _).mono ?_; rintro e w' ⟨rfl, rfl⟩)
          refine (callToGo_any A0 A1 _ c0 c1 c2 C k d _ (H.out.below BW.out) k1 k2).mono ?_
          rw [hg.out]
          rintro e w2 ⟨rfl, b⟩
          clear X3_lt X3_c0 X3_f0 X3_c1 X3_f1 X3_c2 X3_f2
          clear X6_lt X6_c0 X6_f0 X6_c1 X6_f1
          replace X3 := hide (X3.out.below b)
          replace X6 := hide (X6.out.below b)
          replace BW := hide (bthen BW.out b)
          clear b
          have X6_lt := X6.out.lt
          have X6_c0 := X6.out.at (i := 0) rfl; have X6_f0 := X6.out.frozen 0
          have X6_c1 := X6.out.at (i := 1) rfl; have X6_f1 := X6.out.frozen 1
          go_wp2_with fail
          refine bodyPost_ret (by simp [results, Try.results75, go_sem, X6_c0, X6_c1]; rfl) rfl ?_
          rw [HT.out]
          exact ⟨rfl, (BW.out.setCell (by simp) _).setCell (by simp) _⟩
        · have X3_lt := X3.out.lt
          have X3_c0 := X3.out.at (i := 0) rfl; have X3_f0 := X3.out.frozen 0
          have X3_c1 := X3.out.at (i := 1) rfl; have X3_f1 := X3.out.frozen 1
          have X3_c2 := X3.out.at (i := 2) rfl; have X3_f2 := X3.out.frozen 2
          have X6_lt := X6.out.lt
          have X6_c0 := X6.out.at (i := 0) rfl; have X6_f0 := X6.out.frozen 0
          have X6_c1 := X6.out.at (i := 1) rfl; have X6_f1 := X6.out.frozen 1
          go_wp2_with (go_at_call 76; refine (isFloor_any _ _ _).mono ?_; rintro e w' ⟨rfl, rfl⟩)
          refine bodyPost_ret (by simp [results, Try.results75, go_sem, X6_c0, X6_c1]; rfl) rfl ?_
          rw [HT.out]
          exact ⟨rfl, (BW.out.setCell (by simp) _).setCell (by simp) _⟩
      · have hz0 : z = false := by
          cases z
          · rfl
          · exact absurd (by unfold hitB; rw [hzk]; rfl) hh
        subst hz0
        have hg : Hid (goB C d k = false) := by
          unfold hitB at hh; rw [hzk] at hh; simpa [Hid] using hh
        have hN2 : Hid (∀ (j : Nat) (y : Int), j < i + 1 → (path C.car.length f d)[j]? = some y → hitB C d y = false) := fun j y hj hy => by
          rcases Nat.lt_succ_iff_lt_or_eq.1 hj with h | rfl
          · exact hN.out j y h hy
          · rw [HP.out] at hy; injection hy with hy; subst hy; simpa using hh
        have hF2 := hide (step_to hF.out)
        have hms := hide (steps_less HD.out HR.out)
        clear hh
        have X3_lt := X3.out.lt
        have X3_c0 := X3.out.at (i := 0) rfl; have X3_f0 := X3.out.frozen 0
        have X3_c1 := X3.out.at (i := 1) rfl; have X3_f1 := X3.out.frozen 1
        have X3_c2 := X3.out.at (i := 2) rfl; have X3_f2 := X3.out.frozen 2
        go_wp2_with (go_at_call 76; refine (isFloor_any _ _ _).mono ?_; rintro e w' ⟨rfl, rfl⟩)
        refine (callToGo_any A0 A1 _ c0 c1 c2 C k d _ (H.out.below BW.out) k1 k2).mono ?_
        rw [hg.out]
        rintro e w2 ⟨rfl, b⟩
        clear X3_lt X3_c0 X3_f0 X3_c1 X3_f1 X3_c2 X3_f2
        replace X3 := hide (X3.out.below b)
        replace X6 := hide (X6.out.below b)
        replace X7 := hide (X7.out.below b)
        replace BW := hide (bthen BW.out b)
        clear b
        have X3_lt := X3.out.lt
        have X3_c0 := X3.out.at (i := 0) rfl; have X3_f0 := X3.out.frozen 0
        have X3_c1 := X3.out.at (i := 1) rfl; have X3_f1 := X3.out.frozen 1
        have X3_c2 := X3.out.at (i := 2) rfl; have X3_f2 := X3.out.frozen 2
        go_wp2_with fail
        refine (callToGo_any A0 A1 _ c0 c1 c2 C k (-d) _ (H.out.below BW.out) k1 k2).mono ?_
        rintro e w3 ⟨rfl, b⟩
        clear X3_lt X3_c0 X3_f0 X3_c1 X3_f1 X3_c2 X3_f2
        replace X3 := hide (X3.out.below b)
        replace X6 := hide (X6.out.below b)
        replace X7 := hide (X7.out.below b)
        replace BW := hide (bthen BW.out b)
        clear b
        cases hb : goB C (-d) k
        · have HB7 := hide (back_no HP.out hb)
          clear hb
          go_wp2_with fail
          go_roundw
          case rel => exact ⟨i + 1, (k : Int) + d, by go_num, by omega, hF2, hN2, X3, X6, by rw [HB7.out]; exact X7, BW⟩
          case measure => simpa [intOf] using hms.out
        · have HB7 := hide (back_yes HP.out hb)
          clear hb
          rw [stC_eq] at X7
          have X7' := hide ((X7.out.set 0 (.int .i64 (k : Int))).set 1 (.int .i64 (-d)))
          have X3' := hide ((X3.out.far (p := ⟨w1.heap.size, 0, none⟩) (by simp; omega) (.int .i64 (k : Int))).far (p := ⟨w1.heap.size, 1, none⟩) (by simp; omega) (.int .i64 (-d)))
          have X6' := hide ((X6.out.far (p := ⟨w1.heap.size, 0, none⟩) (by simp; omega) (.int .i64 (k : Int))).far (p := ⟨w1.heap.size, 1, none⟩) (by simp; omega) (.int .i64 (-d)))
          have BW' := hide ((BW.out.setCell (p := ⟨w1.heap.size, 0, none⟩) (by simp; omega) (.int .i64 (k : Int))).setCell (p := ⟨w1.heap.size, 1, none⟩) (by simp; omega) (.int .i64 (-d)))
          have X7_lt := X7.out.lt
          have X7_c0 := X7.out.at (i := 0) rfl; have X7_f0 := X7.out.frozen 0
          have X7_c1 := X7.out.at (i := 1) rfl; have X7_f1 := X7.out.frozen 1
          go_wp2_with fail
          go_roundw
          case rel => exact ⟨i + 1, (k : Int) + d, by go_num, by omega, hF2, hN2, X3', X6', by rw [HB7.out]; exact X7', BW'⟩
          case measure => simpa [intOf] using hms.out
    · have HT := hide (toward_end (path_over HF0.out HD.out hF.out hr) hN.out)
      have hin : inB F 0 ((C.up.length : Int) - 1) = false := inB_n (by have := HL.out; omega)
      have X3_lt := X3.out.lt
      have X3_c0 := X3.out.at (i := 0) rfl; have X3_f0 := X3.out.frozen 0
      have X3_c1 := X3.out.at (i := 1) rfl; have X3_f1 := X3.out.frozen 1
      have X3_c2 := X3.out.at (i := 2) rfl; have X3_f2 := X3.out.frozen 2
      have X6_lt := X6.out.lt
      have X6_c0 := X6.out.at (i := 0) rfl; have X6_f0 := X6.out.frozen 0
      have X6_c1 := X6.out.at (i := 1) rfl; have X6_f1 := X6.out.frozen 1
      rw [stC_eq] at X7
      have X7_lt := X7.out.lt
      have X7_c0 := X7.out.at (i := 0) rfl; have X7_f0 := X7.out.frozen 0
      have X7_c1 := X7.out.at (i := 1) rfl; have X7_f1 := X7.out.frozen 1
      go_wp2_with (go_at_call 76; refine (isFloor_any _ _ _).mono ?_; rintro e w' ⟨rfl, rfl⟩)
      refine bodyPost_ret (by simp [results, Try.results75, go_sem, X6_c0, X6_c1]; rfl) rfl ?_
      rw [HT.out, stC_eq]
      exact ⟨rfl, (BW.out.setCell (by simp) _).setCell (by simp) _⟩
end Go.Proofs.Ytbkjgiomamlajaa
