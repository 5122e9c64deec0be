import Derived.Test.YtammgbnekmcaeaaFrame
import Derived.Test.YtammgbnekmcaeaaDrawLoads
import Derived.Test.YtammgbnekmcaeaaAlive
import Derived.Test.YtammgbnekmcaeaaLoads
namespace Go.Proofs.Ytammgbnekmcaeaa
open Go.RowKit

theorem wLoadFirst (A : Option Addr) (c : Nat) (bs : List Int) (w : World) (h0 : InRow .u8 w A c bs) :
    Calls Try.prog 5 #[.slice A bs.length c] w fun e w' => e = .returned (.bool true) ∧ Below w.heap.size w w' := by
  have HB := hide h0.byte
  obtain ⟨h, hc, hc2, -⟩ := h0
  have H : Hid (Sl w A (bvs bs)) := h
  clear h
  by_cases hl : ¬ bs.length ≤ 1048576
  · go_enter Try.func5, Try.ntmps5
    go_wp2
    go_ret
    exact ⟨rfl, Below.refl _ _⟩
  have hl : bs.length ≤ 1048576 := by omega
  clear hc2
  go_enter Try.func5, Try.ntmps5
  go_wp2_with fail
  refine (drawLoadFirst_any A c bs _ H.out HB.out hl hc).mono ?_
  rintro e w1 ⟨A1, c1, xs, rfl, hc1, f, p1, b⟩
  have F := hide f.1; have B := hide b
  have p1 : xs.length ≤ 9 := p1
  clear f b
  go_wp2_with fail
  refine (implLoadFirst A1 c1 xs _ F.out).mono ?_
  rintro e w2 ⟨n, rfl, hn, rfl⟩
  go_wp2_with fail
  refine (specLoadFirst A1 c1 xs _ F.out (by omega) hc1).mono ?_
  rintro e w2 ⟨n', rfl, hn', rfl⟩
  obtain rfl := hn.uniq hn'
  clear hn'
  have e0 : (n != n) = false := by simp
  have HN := hide hn
  rcases hn with ⟨h0, rfl⟩ | ⟨h0, k, rfl, k1, -⟩
  · have hv := loadB_no h0
    go_wp2_with fail
    refine (implLoadSum A1 c1 xs _ F.out).mono ?_
    rintro e w2 ⟨rfl, rfl⟩
    rw [hv]
    go_wp2_with fail
    refine (alive_any _).mono ?_
    rintro e w9 ⟨rfl, b9⟩
    have B9 := hide b9
    clear b9
    go_wp2
    go_ret
    exact ⟨rfl, bthen B.out B9.out⟩
  · obtain ⟨-, l1, l2⟩ := first_law HN.out
    have L2 := hide l2
    clear l2 h0
    have K1 := hide (F.out.take k); have K2 := hide (F.out.take (k + 1))
    have hd1 : ¬ (40 < loadB (xs.take k)) := by omega
    have hd : decide (40 < loadB (xs.take k)) = false := by simpa using l1
    have HD := hide hd
    clear hd1 hd
    go_wp2_with fail
    refine (calls_len (implOverloaded _ _ (xs.take k) _ K1.out) (by simp; omega)).mono ?_
    rintro e w2 ⟨rfl, rfl⟩
    rw [HD.out]
    by_cases hkl : k = xs.length
    · have hkl' : ((k : Int) == xs.length) = true := by simp [hkl]
      go_wp2_with fail
      go_ret
      exact ⟨rfl, B.out⟩
    · have hkl' : ((k : Int) == xs.length) = false := by simp; omega
      have hd2 : decide (40 < loadB (xs.take (k + 1))) = true := by simpa using L2.out (by omega)
      have HD2 := hide hd2
      have hk2 : k < xs.length := by omega
      clear hd2
      go_wp2_with fail
      refine (calls_len (implOverloaded _ _ (xs.take (k + 1)) _ K2.out) (by simp; omega)).mono ?_
      rintro e w2 ⟨rfl, rfl⟩
      rw [HD2.out]
      go_wp2_with fail
      go_ret
      exact ⟨rfl, B.out⟩
end Go.Proofs.Ytammgbnekmcaeaa
