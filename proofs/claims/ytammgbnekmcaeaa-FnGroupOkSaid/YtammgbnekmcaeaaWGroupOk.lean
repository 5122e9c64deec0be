import Derived.Test.YtammgbnekmcaeaaFrame
import Derived.Test.YtammgbnekmcaeaaDrawGroup
import Derived.Test.YtammgbnekmcaeaaAlive
import Derived.Test.YtammgbnekmcaeaaGroup
namespace Go.Proofs.Ytammgbnekmcaeaa
open Go.RowKit

theorem groupB_nocalls {fs cars calls : List Int} (h : groupB fs cars calls = true) : groupB fs cars [] = true := by
  unfold groupB at h ⊢
  simp only [Bool.and_eq_true, decide_eq_true_eq] at h ⊢
  exact ⟨h.1, ⟨h.2.1.1, h.2.1.2.1, by simp⟩, h.2.2.1, by simp [withinB]⟩
theorem groupB_nocars (fs calls : List Int) : groupB fs [] calls = false := by unfold groupB; simp

def DrawG (w : World) (e : Ending) (w' : World) : Prop :=
  ∃ (A : Option Addr) (c : Nat) (xs : List Int) (A' : Option Addr) (c' : Nat) (ys : List Int) (A'' : Option Addr) (c'' : Nat) (zs : List Int), e = .returned (.tuple #[.slice A xs.length c, .slice A' ys.length c', .slice A'' zs.length c'']) ∧ xs.length ≤ 9 ∧ ys.length ≤ 9 ∧ zs.length ≤ 9 ∧ FrI w.heap.size w' A xs ∧ FrI w.heap.size w' A' ys ∧ FrI w.heap.size w' A'' zs ∧ Below w.heap.size w w'
theorem drawGroupOk_any (A : Option Addr) (c : Nat) (bs : List Int) (w : World) (h : Sl w A (bvs bs)) (hb : ∀ x ∈ bs, 0 ≤ x ∧ x ≤ 255) (hl : bs.length ≤ 1048576) (hc : bs.length ≤ c) :
    Calls Try.prog 31 #[.slice A bs.length c] w (DrawG w) := by
  have H := hide h; have HB := hide hb; clear h hb
  go_enter Try.func31, Try.ntmps31
  go_wp2_with fail
  refine (l20Open_any A c bs _ H.out HB.out hl hc).mono ?_
  rintro e w1 ⟨R, rfl, hR, r, b⟩
  replace r := hide r; have B := hide b; clear b
  go_wp2_with fail
  refine (l20Group_any R _ _ _ r.out (by omega) (by omega) (by omega)).mono ?_
  rintro e w2 ⟨A0, c0, xs, A1, c1, ys, A2, c2, zs, rfl, l0, l1, l2, f0, f1, f2, -, g⟩
  have hB := B.out.size
  replace f0 := hide (f0.mono hB); replace f1 := hide (f1.mono hB); replace f2 := hide (f2.mono hB); replace B := hide (B.out.grown g B.out.size (by simpa using hR))
  clear g r
  go_wp2_with fail
  go_ret3
  exact ⟨A0, c0, xs, A1, c1, ys, A2, c2, zs, rfl, l0, l1, l2, f0.out, f1.out, f2.out, B.out⟩
theorem wGroupOk (A : Option Addr) (c : Nat) (bs : List Int) (w : World) (h0 : InRow .u8 w A c bs) :
    Calls Try.prog 8 #[.slice A bs.length c] w fun e w' => e = .returned (.bool true) ∧ Below w.heap.size w w' := by
  have HB := hide h0.byte
  obtain ⟨h, hc, hc2, -⟩ := h0
  have H : Hid (Sl w A (bvs bs)) := h
  clear h
  by_cases hl : ¬ bs.length ≤ 1048576
  · go_enter Try.func8, Try.ntmps8
    go_wp2
    go_ret
    exact ⟨rfl, Below.refl _ _⟩
  have hl : bs.length ≤ 1048576 := by omega
  clear hc2
  go_enter Try.func8, Try.ntmps8
  go_wp2_with fail
  refine (drawGroupOk_any A c bs _ H.out HB.out hl hc).mono ?_
  rintro e w1 ⟨A0, c0, xs, A1, c1, ys, A2, c2, zs, rfl, l0, l1, l2, f0, f1, f2, b⟩
  have F0 := hide f0.1; have F1 := hide f1.1; have F2 := hide f2.1; have B := hide b
  clear f0 f1 f2 b
  go_wp2_with fail
  refine (implGroupOk A0 A1 A2 c0 c1 c2 xs ys zs _ F0.out F1.out F2.out (by omega) (by omega)).mono ?_
  rintro e w2 ⟨rfl, D⟩
  replace F0 := hide (F0.out.dr D); replace F1 := hide (F1.out.dr D); replace F2 := hide (F2.out.dr D); replace B := hide (bthen B.out D.below); clear D
  go_wp2_with fail
  refine (specGroupOk A0 A1 A2 c0 c1 c2 xs ys zs _ F0.out F1.out F2.out (by omega) (by omega) (by omega)).mono ?_
  rintro e w3 ⟨rfl, D⟩
  replace F0 := hide (F0.out.dr D); replace F1 := hide (F1.out.dr D); replace F2 := hide (F2.out.dr D); replace B := hide (bthen B.out D.below); clear D
  have hn := hide (groupB_nocars xs zs)
  cases hg : groupB xs ys zs
  · go_wp2_with fail
    refine (implGroupOk A0 none A2 c0 0 c2 xs [] zs _ F0.out (Ints.nil _ _) F2.out (by simp) (by omega)).mono ?_
    rintro e w4 ⟨rfl, D⟩
    replace B := hide (bthen B.out D.below); clear D
    rw [hn.out]
    go_wp2_with fail
    refine (alive_any _).mono ?_
    rintro e w9 ⟨rfl, b9⟩
    have B9 := hide b9
    clear b9
    go_wp2
    go_ret
    exact ⟨rfl, bthen B.out B9.out⟩
  · have hy := hide (groupB_nocalls hg)
    go_wp2_with fail
    refine (implGroupOk A0 A1 none c0 c1 0 xs ys [] _ F0.out F1.out (Ints.nil _ _) (by omega) (by simp)).mono ?_
    rintro e w4 ⟨rfl, D⟩
    replace F0 := hide (F0.out.dr D); replace F2 := hide (F2.out.dr D); replace B := hide (bthen B.out D.below); clear D
    rw [hy.out]
    go_wp2_with fail
    refine (implGroupOk A0 none A2 c0 0 c2 xs [] zs _ F0.out (Ints.nil _ _) F2.out (by simp) (by omega)).mono ?_
    rintro e w5 ⟨rfl, D⟩
    replace B := hide (bthen B.out D.below); clear D
    rw [hn.out]
    go_wp2_with fail
    refine (alive_any _).mono ?_
    rintro e w9 ⟨rfl, b9⟩
    have B9 := hide b9
    clear b9
    go_wp2
    go_ret
    exact ⟨rfl, bthen B.out B9.out⟩
end Go.Proofs.Ytammgbnekmcaeaa
