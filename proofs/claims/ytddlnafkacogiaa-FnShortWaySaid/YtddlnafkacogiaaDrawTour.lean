import Derived.Test.YtddlnafkacogiaaDrawFloors
namespace Go.Proofs.Ytddlnafkacogiaa
open Go.RowKit

/-- A slice of int, a number, a slice of int. -/
def DrawISI (w : World) (e : Ending) (w' : World) : Prop :=
  ∃ (A : Option Addr) (c : Nat) (fs : List Int) (a : Int) (A' : Option Addr) (c' : Nat) (xs : List Int), e = .returned (.tuple #[.slice A fs.length c, .int .i64 a, .slice A' xs.length c']) ∧ fs.length ≤ 9 ∧ xs.length ≤ 9 ∧ xs.length ≤ c' ∧ FrI w.heap.size w' A fs ∧ FrI w.heap.size w' A' xs ∧ Below w.heap.size w w'

theorem drawTourWay_any (A : Option Addr) (c : Nat) (bs : List Int) (w : World) (h : Sl w A (bvs bs)) (hb : ∀ x ∈ bs, 0 ≤ x ∧ x ≤ 255) (hl : bs.length ≤ 1048576) (hc : bs.length ≤ c) :
    Calls Try.prog 22 #[.slice A bs.length c] w (DrawISI w) := by
  have H := hide h; have HB := hide hb; clear h hb
  go_enter Try.func22, Try.ntmps22
  go_wp2_with fail
  refine (l20Open_any A c bs _ H.out HB.out hl hc).mono ?_
  rintro e w1 ⟨R, rfl, hR, r, b⟩
  replace r := hide r; have B := hide b; clear b
  have hRw := r.out.lt
  go_wp2_with fail
  refine (l20Floors_any R _ _ _ r.out (by omega) (by omega) (by omega)).mono ?_
  rintro e W0 ⟨A', c', fs, rfl, hc', f, hp, r', g⟩
  replace f := hide f; have hp : fs.length ≤ 9 := hp; have hB := B.out.size; replace B := hide (B.out.grown g B.out.size (by simpa using hR))
  have hs0 := g.size
  have hs1 := B.out.size
  replace r := hide r'
  clear g r'
  have b0 : Below W0.heap.size W0 (W0.alloc (.cells #[] 3)) := (Below.refl _ _).alloc (Nat.le_refl _) _
  replace r := hide (r.out.below b0)
  have G : Hid (W0.grownBy (W0.alloc (.cells #[] 3)) (some R)) := grown_below (grown_refl W0 R) b0
  have O : Hid (OwnI W0.heap.size (W0.alloc (.cells #[] 3)) (.slice (some ⟨W0.heap.size, 0, none⟩) 0 0) []) := OwnI.lit [] #[] rfl (Nat.le_refl _) (by simp)
  clear b0
  go_wp2_with fail
  refine (pick_any R _ _ _ r.out (by omega) (by omega)).mono ?_
  rintro e w2 ⟨y, rfl, ya, yb, r', g, z⟩
  replace O := hide (O.out.grown g (by omega))
  replace r := hide r'; replace G := hide (grown_then G.out g); clear r' g z
  go_wp2_with fail
  go_loopw [7, 8] (fun v i wr => ∃ (k : Nat) (xs : List Int), i = .int .i64 (k : Int) ∧ xs.length + k ≤ 6 ∧ Hid (OwnI W0.heap.size wr v xs) ∧ Hid (Rd wr R (21 + 2 * xs.length)) ∧ Hid (W0.grownBy wr (some R))) (fun _ i _ => (intOf i).toNat)
  case atStart =>
    obtain ⟨k, rfl⟩ := Int.eq_ofNat_of_zero_le ya
    exact ⟨k, [], rfl, by simp; omega, O, r.out.mono (by simp), G⟩
  case round =>
    clear r G O
    obtain ⟨k, xs, rfl, hk, O, r, G⟩ := hrel
    have h1 : (fs.length : Int) < 1 ∨ ¬ ((fs.length : Int) < 1) := by omega
    by_cases h0 : 0 < k
    · rcases h1 with h1 | h1
      all_goals
        go_wp2_with fail
        refine (pick_any R _ _ _ r.out (by omega) (by omega)).mono ?_
        rintro e w2 ⟨p, rfl, pa, pb, r', g, z⟩
        replace O := hide (O.out.grown g (by omega))
        replace r := hide r'; replace G := hide (grown_then G.out g); clear r' g z
        go_wp2_with fail
        refine (pick_any R _ _ _ r.out (by omega) (by omega)).mono ?_
        rintro e w2 ⟨q, rfl, qa, qb, r', g, z⟩
        replace O := hide (O.out.grown g (by omega))
        replace r := hide r'; replace G := hide (grown_then G.out g); clear r' g z
        have hL : W0.heap.size ≤ w2.heap.size := G.out.size
        go_wp2_with (at_builtin; refine wp_app1 rfl (.tmp 20) (.tmp 31) rfl W0.heap.size _ _ xs _ rfl rfl O.out (by omega) hL ?_; intro v' w3 hown hb)
        have O3 := hide hown; have r3 := hide (r.out.belowAt hb (by omega)); have G3 := hide (grown_below G.out hb)
        clear hown hb O r G
        go_wp2_with fail
        go_roundw
        case rel => exact ⟨k - 1, xs ++ [_], by go_num, by simp; omega, O3, r3.out.mono (by simp; omega), G3⟩
        case measure => simp [intOf]; omega
    · rcases h1 with h1 | h1
      all_goals
        go_wp2_with fail
        refine (pick_any R _ _ _ r.out (by omega) (by omega)).mono ?_
        rintro e w2 ⟨p, rfl, pa, pb, r', g, z⟩
        replace O := hide (O.out.grown g (by omega))
        replace r := hide r'; replace G := hide (grown_then G.out g); clear r' g z
        go_wp2_with fail
        refine (pick_any R _ _ _ r.out (by omega) (by omega)).mono ?_
        rintro e w2 ⟨q, rfl, qa, qb, r', g, z⟩
        replace O := hide (O.out.grown g (by omega))
        replace r := hide r'; replace G := hide (grown_then G.out g); clear r' g z
        have hL : W0.heap.size ≤ w2.heap.size := G.out.size
        go_wp2_with fail
        go_ret3
        obtain ⟨A2, c2, rfl, hc2, f2⟩ := O.out.form
        exact ⟨A', c', fs, _, A2, c2, xs, rfl, hp, by omega, hc2, (f.out.grown G.out hRw).mono hB, f2.mono hs1, B.out.grown G.out hs1 (by simpa using hR)⟩
end Go.Proofs.Ytddlnafkacogiaa
