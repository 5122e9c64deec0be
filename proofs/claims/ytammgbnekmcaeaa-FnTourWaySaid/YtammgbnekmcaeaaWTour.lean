import Derived.Test.YtammgbnekmcaeaaFrame
import Derived.Test.YtammgbnekmcaeaaDrawTour
import Derived.Test.YtammgbnekmcaeaaAlive
import Derived.Test.YtammgbnekmcaeaaWays
namespace Go.Proofs.Ytammgbnekmcaeaa
open Go.RowKit

theorem implTourWayN (A A' : Option Addr) (c c' : Nat) (fs xs : List Int) (a : Int) (w : World) (n : Nat) (hn : n = xs.length) (h : Ints w A fs) (h' : Ints w A' xs) (hl : xs.length ≤ 140737488351232) :
    Calls Try.prog 14 #[.slice A fs.length c, .int .i64 a, .slice A' n c'] w fun e w' => e = .returned (.int .i64 (tourB fs a xs)) ∧ Dr w w' := by
  rw [hn]; exact implTourWay A A' c c' fs xs a w h h' hl
set_option maxHeartbeats 1000000 in
theorem wTourWay (A : Option Addr) (c : Nat) (bs : List Int) (w : World) (h0 : InRow .u8 w A c bs) :
    Calls Try.prog 10 #[.slice A bs.length c] w fun e w' => e = .returned (.bool true) ∧ Below w.heap.size w w' := by
  have HB := hide h0.byte
  obtain ⟨h, hc, hc2, -⟩ := h0
  have H : Hid (Sl w A (bvs bs)) := h
  clear h
  by_cases hl : ¬ bs.length ≤ 1048576
  · go_enter Try.func10, Try.ntmps10
    go_wp2
    go_ret
    exact ⟨rfl, Below.refl _ _⟩
  have hl : bs.length ≤ 1048576 := by omega
  clear hc2
  go_enter Try.func10, Try.ntmps10
  go_wp2_with fail
  refine (drawTourWay_any A c bs _ H.out HB.out hl hc).mono ?_
  rintro e w1 ⟨A0, c0, fs, a, A1, c1, xs, rfl, l0, l1, lc, f0, f1, b⟩
  have F0 := hide f0.1; have F1 := hide f1.1; have B := hide b
  clear f0 f1 b
  go_wp2_with fail
  refine (implTourWay A0 A1 c0 c1 fs xs a _ F0.out F1.out (by omega)).mono ?_
  rintro e w2 ⟨rfl, D⟩
  replace F0 := hide (F0.out.dr D); replace F1 := hide (F1.out.dr D); replace B := hide (bthen B.out D.below); clear D
  go_wp2_with fail
  refine (specTourWay A0 A1 c0 c1 fs xs a _ F0.out F1.out (by omega) (by omega)).mono ?_
  rintro e w3 ⟨rfl, D⟩
  replace F0 := hide (F0.out.dr D); replace F1 := hide (F1.out.dr D); replace B := hide (bthen B.out D.below); clear D
  have hbd := tourB_bd fs a xs
  obtain ⟨X, hX⟩ : ∃ X, X = tourB fs a xs := ⟨_, rfl⟩
  rw [← hX] at hbd ⊢
  have e0 : (X != X) = false := by simp
  have HX := hide hX
  clear hX
  by_cases hx : X < 0
  · obtain rfl : X = -1 := by omega
    go_wp2_with fail
    refine (alive_any _).mono ?_
    rintro e w9 ⟨rfl, b9⟩
    have B9 := hide b9
    clear b9
    go_wp2
    go_ret
    exact ⟨rfl, bthen B.out B9.out⟩
  · by_cases hz : xs.length = 0
    · have hz' : ((xs.length : Int) == 0) = true := by simp [hz]
      have hX0 : X = 0 := by rw [hz] at hbd; simp at hbd; omega
      subst hX0
      clear hz
      go_wp2
      go_ret
      exact ⟨rfl, B.out⟩
    · have hz' : ((xs.length : Int) == 0) = false := by simp; intro e; exact hz (by simp [e])
      have hn : 1 ≤ xs.length := by omega
      clear hz
      obtain ⟨m, hm⟩ : ∃ m : Nat, m = xs.length / 2 := ⟨_, rfl⟩
      have hm1 : (xs.length : Int).tdiv 2 = (m : Int) := by rw [Int.tdiv_eq_ediv_of_nonneg (by omega)]; omega
      have hm2 : m < xs.length := by omega
      clear hm
      obtain ⟨bb, off, z, rfl, hzz, hcz⟩ := F1.out.at (k := xs.length - 1) (by omega)
      have hK1 := hide (F1.out.take m); have hK2 := hide (F1.out.drop m)
      have hcm : ¬ c1 = m := by omega
      have hXX : (X == X) = true := by simp
      have hp0 : 0 ≤ tourB fs a xs := by rw [← HX.out]; omega
      have hend := tourB_end hp0 hzz.out
      have hparts := tourB_parts hp0 m
      rw [← HX.out] at hend hparts
      have d1 : decide (wayB fs a z ≤ X) = true := by simpa using hend
      have hb1 := tourB_bd fs a (xs.take m)
      have hl1 : m = (xs.take m).length := by simp; omega
      have hl2 : xs.length - m = (xs.drop m).length := by simp
      have HL1 := hide hl1; have HL2 := hide hl2
      clear hl1 hl2 hend
      by_cases hm0 : 0 < m
      · obtain ⟨y, hy, hcy⟩ := F1.out.cell (k := m - 1) (by omega)
        have hly : lastOf a (xs.take m) = y := by
          have := lastOf_take (a := a) hy.out
          rwa [show m - 1 + 1 = m from by omega] at this
        rw [hly] at hparts
        have ew : IntKind.i64.wrap (tourB fs a (xs.take m) + tourB fs y (xs.drop m)) = X := by rw [hparts]; exact IntWalk.i64_in _ (by omega)
        clear hly hparts hb1
        go_wp2_with fail
        go_quiet (first | (go_at_call 39; exact quiet_dr (implFloorWay A0 c0 fs a z _ (F0.out.dr ⟨_, rfl⟩)) ⟨_, rfl⟩) | (go_at_call 14; (with_reducible refine quiet_dr (implTourWayN A0 (some ⟨bb, off, none⟩) c0 c1 fs (xs.take m) a _ m HL1.out ?_ ?_ ?_) ?_); exact F0.out.dr ⟨_, rfl⟩; exact hK1.out.dr ⟨_, rfl⟩; (simp; omega); exact ⟨_, rfl⟩) | (go_at_call 14; (with_reducible refine quiet_dr (implTourWayN A0 (some ⟨bb, off + m, none⟩) c0 (c1 - m) fs (xs.drop m) y _ (xs.length - m) HL2.out ?_ ?_ ?_) ?_); exact F0.out.dr ⟨_, rfl⟩; exact hK2.out.dr ⟨_, rfl⟩; (simp; omega); exact ⟨_, rfl⟩))
        go_wp2_with fail
        go_ret
        exact ⟨rfl, bdrew B.out _⟩
      · have hly : lastOf a (xs.take m) = a := by
          rw [show m = 0 from by omega]; rfl
        rw [hly] at hparts
        have ew : IntKind.i64.wrap (tourB fs a (xs.take m) + tourB fs a (xs.drop m)) = X := by rw [hparts]; exact IntWalk.i64_in _ (by omega)
        clear hly hparts hb1
        go_wp2_with fail
        go_quiet (first | (go_at_call 39; exact quiet_dr (implFloorWay A0 c0 fs a z _ (F0.out.dr ⟨_, rfl⟩)) ⟨_, rfl⟩) | (go_at_call 14; (with_reducible refine quiet_dr (implTourWayN A0 (some ⟨bb, off, none⟩) c0 c1 fs (xs.take m) a _ m HL1.out ?_ ?_ ?_) ?_); exact F0.out.dr ⟨_, rfl⟩; exact hK1.out.dr ⟨_, rfl⟩; (simp; omega); exact ⟨_, rfl⟩) | (go_at_call 14; (with_reducible refine quiet_dr (implTourWayN A0 (some ⟨bb, off + m, none⟩) c0 (c1 - m) fs (xs.drop m) a _ (xs.length - m) HL2.out ?_ ?_ ?_) ?_); exact F0.out.dr ⟨_, rfl⟩; exact hK2.out.dr ⟨_, rfl⟩; (simp; omega); exact ⟨_, rfl⟩))
        go_wp2_with fail
        go_ret
        exact ⟨rfl, bdrew B.out _⟩
end Go.Proofs.Ytammgbnekmcaeaa
