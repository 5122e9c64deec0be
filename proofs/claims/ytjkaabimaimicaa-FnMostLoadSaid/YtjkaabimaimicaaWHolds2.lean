import Derived.Test.YtjkaabimaimicaaFrame
import Derived.Test.YtjkaabimaimicaaMost
import Derived.Test.YtjkaabimaimicaaDraw
import Derived.Test.YtjkaabimaimicaaAlive
namespace Go.Proofs.Ytjkaabimaimicaa
open Go.RowKit

theorem holdsB_iff {a b c d : Int} : holdsB a b c d = true ↔ holdsV a b c d ∧ max a b * d ≤ c * min a b := by unfold holdsB; simp
theorem holdsB_comm (a b c d : Int) : holdsB b a c d = holdsB a b c d := by
  rw [Bool.eq_iff_iff, holdsB_iff, holdsB_iff, show max b a = max a b from by omega, show min b a = min a b from by omega]
  unfold holdsV; constructor <;> (rintro ⟨h, h2⟩; exact ⟨by omega, h2⟩)
theorem holdsB_same {a b c d : Int} (h : holdsB a b c d = true) : holdsB a a c d = true := by
  rw [holdsB_iff] at h ⊢
  obtain ⟨h1, h2⟩ := h
  unfold holdsV at h1 ⊢
  refine ⟨by omega, ?_⟩
  rw [show max a a = a from by omega, show min a a = a from by omega, Int.mul_comm a d]
  exact Int.mul_le_mul_of_nonneg_right (by omega) (by omega)
theorem holdsB_top {a b c d : Int} (h : holdsB a b c d = true) (hc : c ≠ 200) : holdsB a b (c + 1) d = true := by
  rw [holdsB_iff] at h ⊢
  obtain ⟨h1, h2⟩ := h
  unfold holdsV at h1 ⊢
  refine ⟨by omega, Int.le_trans h2 (Int.mul_le_mul_of_nonneg_right (by omega) (by omega))⟩
theorem holdsB_bottom {a b c d : Int} (h : holdsB a b c d = true) (hd : d ≠ 1) : holdsB a b c (d - 1) = true := by
  rw [holdsB_iff] at h ⊢
  obtain ⟨h1, h2⟩ := h
  unfold holdsV at h1 ⊢
  refine ⟨by omega, Int.le_trans (Int.mul_le_mul_of_nonneg_left (by omega) (by omega)) h2⟩

theorem wHolds (A : Option Addr) (c : Nat) (bs : List Int) (w : World) (h0 : InRow .u8 w A c bs) :
    Calls Try.prog 8 #[.slice A bs.length c] w fun e w' => e = .returned (.bool true) ∧ Below w.heap.size w w' := by
  have HB := hide h0.byte
  obtain ⟨h, hc, hc2, -⟩ := h0
  have H : Hid (Sl w A (bvs bs)) := h
  clear h
  by_cases hl : ¬ bs.length ≤ 1048576
  · go_enter Try.func8, Try.ntmps8
    go_wp2
    go_ret
    exact ⟨rfl, Below.refl _ _⟩
  have hl : bs.length ≤ 1048576 := by omega
  go_enter Try.func8, Try.ntmps8
  go_wp2_with fail
  refine (drawHolds_any A c bs _ H.out HB.out hl hc).mono ?_
  rintro e w1 ⟨one, two, top, bottom, rfl, ⟨a1, a2⟩, ⟨b1, b2⟩, ⟨c1, c2⟩, ⟨d1, d2⟩, b⟩
  have B := hide b
  clear b
  have hcomm := holdsB_comm one two top bottom
  cases hh : holdsB one two top bottom
  · go_wp2_with (first | (go_at_call 16; refine (implHolds _ _ _ _ _).mono ?_; rintro e w' ⟨rfl, rfl⟩) | (go_at_call 15; refine (specHolds _ _ _ _ _).mono ?_; rintro e w' ⟨rfl, rfl⟩))
    refine (alive_any _).mono ?_
    rintro e w2 ⟨rfl, b2⟩
    have B2 := hide b2
    clear b2
    go_wp2
    go_ret
    exact ⟨rfl, bthen B.out B2.out⟩
  · have hs := holdsB_same hh
    by_cases ht : top = 200
    · have ht1 : (top == 200) = true := by simpa using ht
      have HT := hide ht; clear ht
      by_cases hb : bottom = 1
      · have hb1 : (bottom == 1) = true := by simpa using hb
        clear hb
        go_wp2_with (first | (go_at_call 16; refine (implHolds _ _ _ _ _).mono ?_; rintro e w' ⟨rfl, rfl⟩) | (go_at_call 15; refine (specHolds _ _ _ _ _).mono ?_; rintro e w' ⟨rfl, rfl⟩))
        go_ret
        exact ⟨rfl, B.out⟩
      · have hb1 : (bottom == 1) = false := by simpa using hb
        have hb2 := holdsB_bottom hh hb
        clear hb
        go_wp2_with (first | (go_at_call 16; refine (implHolds _ _ _ _ _).mono ?_; rintro e w' ⟨rfl, rfl⟩) | (go_at_call 15; refine (specHolds _ _ _ _ _).mono ?_; rintro e w' ⟨rfl, rfl⟩))
        go_ret
        exact ⟨rfl, B.out⟩
    · have ht1 : (top == 200) = false := by simpa using ht
      have ht2 := holdsB_top hh ht
      clear ht
      by_cases hb : bottom = 1
      · have hb1 : (bottom == 1) = true := by simpa using hb
        clear hb
        go_wp2_with (first | (go_at_call 16; refine (implHolds _ _ _ _ _).mono ?_; rintro e w' ⟨rfl, rfl⟩) | (go_at_call 15; refine (specHolds _ _ _ _ _).mono ?_; rintro e w' ⟨rfl, rfl⟩))
        go_ret
        exact ⟨rfl, B.out⟩
      · have hb1 : (bottom == 1) = false := by simpa using hb
        have hb2 := holdsB_bottom hh hb
        clear hb
        go_wp2_with (first | (go_at_call 16; refine (implHolds _ _ _ _ _).mono ?_; rintro e w' ⟨rfl, rfl⟩) | (go_at_call 15; refine (specHolds _ _ _ _ _).mono ?_; rintro e w' ⟨rfl, rfl⟩))
        go_ret
        exact ⟨rfl, B.out⟩
theorem takeWhile_spec (p : Nat → Bool) (n : Nat) : ∃ k, k ≤ n ∧ (∀ j, j < k → p j = true) ∧ (k = n ∨ p k = false) := by
  induction n with
  | zero => exact ⟨0, by omega, fun j hj => by omega, .inl rfl⟩
  | succ n ih =>
    obtain ⟨k, h1, h2, h3⟩ := ih
    rcases h3 with rfl | h3
    · cases hp : p k
      · exact ⟨k, by omega, h2, .inr hp⟩
      · exact ⟨k + 1, by omega, fun j hj => by rcases Nat.lt_succ_iff_lt_or_eq.1 hj with h | rfl; exact h2 j h; exact hp, .inl rfl⟩
    · exact ⟨k, by omega, h2, .inr h3⟩
theorem mostB_spec {car top bottom : Int} (hc : 1 ≤ car ∧ car ≤ 160) : ∃ k : Nat, k ≤ 41 ∧ mostB car top bottom = (k : Int) - 1 ∧ (∀ j, j < k → loadP car top bottom j = true) ∧ (k = 41 ∨ loadP car top bottom k = false) := by
  obtain ⟨k, h1, h2, h3⟩ := takeWhile_spec (loadP car top bottom) 41
  exact ⟨k, h1, mostB_of hc h1 h2 h3, h2, h3⟩
theorem wMostLoad (A : Option Addr) (c : Nat) (bs : List Int) (w : World) (h0 : InRow .u8 w A c bs) :
    Calls Try.prog 11 #[.slice A bs.length c] w fun e w' => e = .returned (.bool true) ∧ Below w.heap.size w w' := by
  have HB := hide h0.byte
  obtain ⟨h, hc, hc2, -⟩ := h0
  have H : Hid (Sl w A (bvs bs)) := h
  clear h
  by_cases hl : ¬ bs.length ≤ 1048576
  · go_enter Try.func11, Try.ntmps11
    go_wp2
    go_ret
    exact ⟨rfl, Below.refl _ _⟩
  have hl : bs.length ≤ 1048576 := by omega
  clear hc2
  go_enter Try.func11, Try.ntmps11
  go_wp2_with fail
  refine (drawMostLoad_any A c bs _ H.out HB.out hl hc).mono ?_
  rintro e w1 ⟨car, top, bottom, rfl, ⟨a1, a2⟩, ⟨b1, b2⟩, ⟨c1, c2⟩, b⟩
  have B := hide b
  clear b
  by_cases hcar : 1 ≤ car ∧ car ≤ 160
  · obtain ⟨k, k1, k2, k3, k4⟩ := mostB_spec (top := top) (bottom := bottom) hcar
    obtain ⟨hc1, hc2⟩ := hcar
    have K2 := hide k2; have K3 := hide k3; have K4 := hide k4
    clear k2 k3 k4
    go_wp2_with fail
    refine (implMostLoad _ _ _ _).mono ?_
    rintro e w' ⟨rfl, rfl⟩
    rw [K2.out]
    go_wp2_with fail
    refine (specMostLoad _ _ _ _).mono ?_
    rintro e w' ⟨rfl, rfl⟩
    rw [K2.out]
    go_wp2_with fail
    go_loop [7] (fun i => ∃ j : Nat, j ≤ k ∧ i = .int .i64 (j : Int)) (fun i => (k - intOf i).toNat)
    case atStart => exact ⟨0, by omega, rfl⟩
    case round =>
      obtain ⟨j, hj, rfl⟩ := hrel
      by_cases hlt : j < k
      · have hh : holdsB (car + (j : Int)) (car + 20) top bottom = true := K3.out j hlt
        go_wp2_with (go_at_call 16; refine (implHolds _ _ _ _ _).mono ?_; rintro e w' ⟨rfl, rfl⟩)
        go_round
        case rel => exact ⟨j + 1, by omega, by go_num⟩
        case measure => simp [intOf]; omega
      · by_cases h41 : k = 41
        · have h41' : ((k : Int) - 1 == 40) = true := by simp; omega
          clear h41
          go_wp2_with (go_at_call 16; refine (implHolds _ _ _ _ _).mono ?_; rintro e w' ⟨rfl, rfl⟩)
          go_ret
          exact ⟨rfl, B.out⟩
        · have h41' : ((k : Int) - 1 == 40) = false := by simp; omega
          have hh : holdsB (car + ((k : Int) - 1) + 1) (car + 20) top bottom = false := by
            rw [show car + ((k : Int) - 1) + 1 = car + k from by omega]
            exact K4.out.resolve_left h41
          clear h41
          go_wp2_with (go_at_call 16; refine (implHolds _ _ _ _ _).mono ?_; rintro e w' ⟨rfl, rfl⟩)
          go_ret
          exact ⟨rfl, B.out⟩
  · have hm := mostB_no (top := top) (bottom := bottom) hcar
    have HM := hide hm
    clear hm
    go_wp2_with fail
    refine (implMostLoad _ _ _ _).mono ?_
    rintro e w' ⟨rfl, rfl⟩
    rw [HM.out]
    go_wp2_with fail
    refine (specMostLoad _ _ _ _).mono ?_
    rintro e w' ⟨rfl, rfl⟩
    rw [HM.out]
    go_wp2_with fail
    refine (alive_any _).mono ?_
    rintro e w9 ⟨rfl, b9⟩
    have B9 := hide b9
    clear b9
    go_wp2
    go_ret
    exact ⟨rfl, bthen B.out B9.out⟩
end Go.Proofs.Ytjkaabimaimicaa
