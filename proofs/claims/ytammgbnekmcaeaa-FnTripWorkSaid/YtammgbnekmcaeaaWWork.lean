import Derived.Test.YtammgbnekmcaeaaFrame
import Derived.Test.YtammgbnekmcaeaaDrawTwo
import Derived.Test.YtammgbnekmcaeaaAlive
import Derived.Test.YtammgbnekmcaeaaWork
namespace Go.Proofs.Ytammgbnekmcaeaa
open Go.RowKit

theorem work_back {fs : List Int} {a b l : Int} (h : workOk fs a b l = true) : workOk fs b a l = true ∧ workV fs b a l = -workV fs a b l := by
  obtain ⟨h1, h2, h3, h4⟩ := workOk_iff.1 h
  have hb : workOk fs b a l = true := workOk_iff.2 ⟨h1, h3, h2, h4⟩
  refine ⟨hb, ?_⟩
  rw [workV_yes h, workV_yes hb, ← Int.mul_neg]; congr 1; omega
theorem work_half {fs : List Int} {a b l : Int} (h : workOk fs a b l = true) : workOk fs a b 20 = true ∧ workV fs a b 20 = 0 := by
  obtain ⟨h1, h2, h3, h4⟩ := workOk_iff.1 h
  have hb : workOk fs a b 20 = true := workOk_iff.2 ⟨h1, h2, h3, rfl⟩
  refine ⟨hb, ?_⟩
  rw [workV_yes hb]; simp
theorem work_other {fs : List Int} {a b l : Int} (h : workOk fs a b l = true) : workOk fs a b (40 - l) = true ∧ workV fs a b (40 - l) = -workV fs a b l := by
  obtain ⟨h1, h2, h3, h4⟩ := workOk_iff.1 h
  have hl := (inB_iff _ _ _).1 h4
  have hb : workOk fs a b (40 - l) = true := workOk_iff.2 ⟨h1, h2, h3, inB_t (by omega)⟩
  refine ⟨hb, ?_⟩
  rw [workV_yes h, workV_yes hb, ← Int.neg_mul]; congr 1; omega

theorem wTripWork (A : Option Addr) (c : Nat) (bs : List Int) (w : World) (h0 : InRow .u8 w A c bs) :
    Calls Try.prog 4 #[.slice A bs.length c] w fun e w' => e = .returned (.bool true) ∧ Below w.heap.size w w' := by
  have HB := hide h0.byte
  obtain ⟨h, hc, hc2, -⟩ := h0
  have H : Hid (Sl w A (bvs bs)) := h
  clear h
  by_cases hl : ¬ bs.length ≤ 1048576
  · go_enter Try.func4, Try.ntmps4
    go_wp2
    go_ret
    exact ⟨rfl, Below.refl _ _⟩
  have hl : bs.length ≤ 1048576 := by omega
  clear hc2
  go_enter Try.func4, Try.ntmps4
  go_wp2_with fail
  refine (drawTripWork_any A c bs _ H.out HB.out hl hc).mono ?_
  rintro e w1 ⟨A1, c1, xs, a, b, l, rfl, hc1, f, ⟨p1, p2, p3⟩, b⟩
  have F := hide f.1; have B := hide b
  clear f b
  go_wp2_with fail
  refine (implTripWork A1 c1 xs a b l _ F.out).mono ?_
  rintro e w2 ⟨rfl, D⟩
  replace F := hide (F.out.dr D); replace B := hide (bthen B.out D.below); clear D
  go_wp2_with fail
  refine (specTripWork A1 c1 xs a b l _ F.out (by omega)).mono ?_
  rintro e w3 ⟨rfl, D⟩
  replace F := hide (F.out.dr D); replace B := hide (bthen B.out D.below); clear D
  have hbd := workV_bd xs a b l
  cases hk : workOk xs a b l
  · have hv := workV_no hk
    rw [hv]
    clear hbd
    go_wp2_with fail
    refine (alive_any _).mono ?_
    rintro e w9 ⟨rfl, b9⟩
    have B9 := hide b9
    clear b9
    go_wp2
    go_ret
    exact ⟨rfl, bthen B.out B9.out⟩
  · have h1 := work_back hk
    have h2 := work_half hk
    have h3 := work_other hk
    have H1 := hide h1; have H2 := hide h2; have H3 := hide h3
    clear h1 h2 h3
    obtain ⟨X, hX⟩ : ∃ X, X = workV xs a b l := ⟨_, rfl⟩
    rw [← hX] at hbd ⊢
    have e0 : (X != X) = false := by simp
    have e1 : (-X == -X) = true := by simp
    go_wp2_with fail
    refine (implTripWork A1 c1 xs b a l _ F.out).mono ?_
    rintro e w4 ⟨rfl, D⟩
    replace F := hide (F.out.dr D); replace B := hide (bthen B.out D.below); clear D
    rw [H1.out.1, H1.out.2, ← hX]
    go_wp2_with fail
    refine (implTripWork A1 c1 xs a b 20 _ F.out).mono ?_
    rintro e w5 ⟨rfl, D⟩
    replace F := hide (F.out.dr D); replace B := hide (bthen B.out D.below); clear D
    rw [H2.out.1, H2.out.2]
    go_wp2_with fail
    refine (implTripWork A1 c1 xs a b (40 - l) _ F.out).mono ?_
    rintro e w6 ⟨rfl, D⟩
    replace F := hide (F.out.dr D); replace B := hide (bthen B.out D.below); clear D
    rw [H3.out.1, H3.out.2, ← hX]
    go_wp2
    go_ret
    exact ⟨rfl, B.out⟩
end Go.Proofs.Ytammgbnekmcaeaa
