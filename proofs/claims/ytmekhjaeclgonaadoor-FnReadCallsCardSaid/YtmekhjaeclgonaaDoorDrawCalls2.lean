/- Drawn calls: the drawing functions of the laws. -/
import Derived.Test.YtmekhjaeclgonaaDoorDrawCalls
namespace Go.Proofs.YtmekhjaeclgonaaDoor
open Go.RowKit

/-- Calls drawn anew. -/
def DrewC (w : World) (e : Ending) (w' : World) : Prop := ∃ (A0 A1 A2 : Option Addr) (c0 c1 c2 : Nat) (C : Cl), e = .returned (.agg #[.slice A0 C.up.length c0, .slice A1 C.dn.length c1, .slice A2 C.car.length c2]) ∧ CW w.heap.size w'.heap.size w' A0 A1 A2 C ∧ (C.up.length ≤ 9 ∧ C.dn.length ≤ 9 ∧ C.car.length ≤ 9) ∧ Below w.heap.size w w'
theorem drawCallsText_any (A : Option Addr) (c : Nat) (bs : List Int) (w : World) (h : Sl w A (bvs bs)) (hb : ∀ x ∈ bs, 0 ≤ x ∧ x ≤ 255) (hl : bs.length ≤ 1048576) (hc : bs.length ≤ c) :
    Calls Tryd.prog 16 #[.slice A bs.length c] w (DrewC w) := by
  have H := hide h; have HB := hide hb; clear h hb
  go_enter Tryd.func16, Tryd.ntmps16
  go_wp2_with fail
  refine calls_name fun W hW => ?_
  have X1 := hide (Box.new' (g := w.heap.size) hW rfl)
  have BW : Hid (Below w.heap.size w W) := by rw [hW]; exact (Below.refl _ _).alloc (Nat.le_refl _) _
  have y1 := X1.out.lt
  clear hW
  refine (l20Open_any A c bs _ (H.out.below BW.out) HB.out hl hc).mono ?_
  rintro e w1 ⟨R, rfl, hR, r, b⟩
  replace X1 := hide (X1.out.below b)
  replace BW := hide (bthen BW.out b); replace r := hide r
  clear b
  go_wp2_with fail
  refine (pick_any R _ 8 _ r.out (by omega) (by omega)).mono ?_
  rintro e w2 ⟨x, rfl, xa, xb, r', g, z⟩
  replace X1 := hide (X1.out.grown g (by intro e; injection e; omega))
  replace BW := hide (BW.out.grown g BW.out.size (by intro k hk; injection hk; omega)); replace r := hide r'
  clear r' g z
  obtain ⟨fl, hfl⟩ : ∃ fl : Nat, (fl : Int) = 1 + x := ⟨(1 + x).toNat, by omega⟩
  have hf1 : 1 ≤ fl := by omega
  have hf2 : fl ≤ 8 := by omega
  go_wp2_with fail
  rw [← hfl]
  clear hfl
  refine (l20Calls_any R _ fl _ _ r.out (by omega) hf1 hf2 (by omega) (by omega)).mono ?_
  rintro e w3 ⟨P0, P1, P2, p0, p1, p2, C, rfl, P, len, r', g⟩
  have y2 := r.out.lt
  have y3 := g.size
  replace X1 := hide (X1.out.grown g (by intro e; injection e; omega))
  have BW2 := BW.out.size
  replace BW := hide (BW.out.grown g BW.out.size (by intro k hk; injection hk; omega)); replace P := hide P
  clear r' g r
  have X1_lt := X1.out.lt
  have X1_c0 := X1.out.at (i := 0) rfl; have X1_f0 := X1.out.frozen 0
  have X1_c1 := X1.out.at (i := 1) rfl; have X1_f1 := X1.out.frozen 1
  have X1_c2 := X1.out.at (i := 2) rfl; have X1_f2 := X1.out.frozen 2
  go_wp2_with fail
  refine bodyPost_ret (by simp [results, Tryd.results16, go_sem, X1_c0, X1_c1, X1_c2]; rfl) rfl ?_
  have o := only3' (g := w.heap.size) w3 (.slice P0 C.up.length p0) (.slice P1 C.dn.length p1) (.slice P2 C.car.length p2)
  exact ⟨P0, P1, P2, p0, p1, p2, C, rfl, (P.out.only o (.inr (by omega))).mono (by omega) o.size, len, Only.then BW.out o (Nat.le_refl _) (by omega)⟩
end Go.Proofs.YtmekhjaeclgonaaDoor
