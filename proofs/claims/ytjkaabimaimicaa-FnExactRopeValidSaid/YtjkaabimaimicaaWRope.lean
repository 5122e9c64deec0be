import Derived.Test.YtjkaabimaimicaaFrame
import Derived.Test.YtjkaabimaimicaaIntS
import Derived.Test.YtjkaabimaimicaaRope
namespace Go.Proofs.Ytjkaabimaimicaa
open Go.RowKit

theorem wExactRopeValid (A : Option Addr) (c : Nat) (xs : List Int) (w : World) (h0 : InRow .i64 w A xs) :
    Calls Try.prog 5 #[.slice A xs.length c] w fun e w' => e = .returned (.bool true) ∧ Below w.heap.size w w' := by
  obtain ⟨h, hl, -⟩ := h0
  have H : Hid (Ints w A xs) := h
  clear h
  by_cases hs : xs.length ≤ 1048576
  · go_enter Try.func5, Try.ntmps5
    go_wp2_with fail
    refine (toIntS_any A c xs _ H.out hs).mono ?_
    rintro e w1 ⟨A1, rfl, I1, -, B1⟩
    have I1 := hide I1; have B1 := hide B1
    go_wp2_with fail
    refine (specRopeValid A1 _ xs _ I1.out (by omega)).mono ?_
    rintro e w' ⟨rfl, rfl⟩
    go_wp2_with fail
    refine (toIntS_any A c xs _ (H.out.below B1.out) hs).mono ?_
    rintro e w2 ⟨A2, rfl, I2, -, B2⟩
    have I2 := hide I2; have B2 := hide B2
    go_wp2_with fail
    refine (implRopeValid A2 _ xs _ I2.out (by omega)).mono ?_
    rintro e w' ⟨rfl, rfl⟩
    go_wp2_with fail
    refine (toIntS_any A c xs _ ((H.out.below B1.out).below B2.out) hs).mono ?_
    rintro e w3 ⟨A3, rfl, I3, -, B3⟩
    have I3 := hide I3; have B3 := hide B3
    have hq := eqL_self xs
    go_wp2_with fail
    refine (eqIntS_any A2 A3 _ _ xs xs _ (I2.out.below B3.out) I3.out (by omega)).mono ?_
    rintro e w' ⟨rfl, n, rfl⟩
    go_wp2
    go_ret
    exact ⟨rfl, bdrew (bthen (bthen B1.out B2.out) B3.out) n⟩
  · go_enter Try.func5, Try.ntmps5
    go_wp2
    go_ret
    exact ⟨rfl, Below.refl _ _⟩
end Go.Proofs.Ytjkaabimaimicaa
