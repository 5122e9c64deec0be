import Derived.Test.YtmpcnpelgodciaaDrawFloors
namespace Go.Proofs.Ytmpcnpelgodciaa
open Go.RowKit

/-- Two slices of int in new blocks. -/
def DrawII (P : List Int → List Int → Prop) (w : World) (e : Ending) (w' : World) : Prop :=
  ∃ (A : Option Addr) (c : Nat) (xs : List Int) (A' : Option Addr) (c' : Nat) (ys : List Int), e = .returned (.tuple #[.slice A xs.length c, .slice A' ys.length c']) ∧ xs.length ≤ c ∧ ys.length ≤ c' ∧ FrI w.heap.size w' A xs ∧ FrI w.heap.size w' A' ys ∧ P xs ys ∧ Below w.heap.size w w'
/-- A slice and three numbers. -/
def DrawI3 (P : List Int → Int → Int → Int → Prop) (w : World) (e : Ending) (w' : World) : Prop :=
  ∃ (A : Option Addr) (c : Nat) (xs : List Int) (a b l : Int), e = .returned (.tuple #[.slice A xs.length c, .int .i64 a, .int .i64 b, .int .i64 l]) ∧ xs.length ≤ c ∧ FrI w.heap.size w' A xs ∧ P xs a b l ∧ Below w.heap.size w w'

theorem drawVisitsOk_any (A : Option Addr) (c : Nat) (bs : List Int) (w : World) (h : Sl w A (bvs bs)) (hb : ∀ x ∈ bs, 0 ≤ x ∧ x ≤ 255) (hl : bs.length ≤ 1048576) (hc : bs.length ≤ c) :
    Calls Try.prog 6 #[.slice A bs.length c] w (DrawII (fun xs ys => xs.length ≤ 9 ∧ ys.length ≤ 10) w) := by
  have H := hide h; have HB := hide hb; clear h hb
  go_enter Try.func6, Try.ntmps6
  go_wp2_with fail
  refine (l20Open_any A c bs _ H.out HB.out hl hc).mono ?_
  rintro e w1 ⟨R, rfl, hR, r, b⟩
  replace r := hide r; have B := hide b; clear b
  have hRw := r.out.lt
  go_wp2_with fail
  refine (l20Floors_any R _ _ _ r.out (by omega) (by omega) (by omega)).mono ?_
  rintro e w2 ⟨A', c', xs, rfl, hc', f, hp, r', g⟩
  replace f := hide f; have hp : xs.length ≤ 9 := hp; have hB := B.out.size; replace B := hide (B.out.grown g B.out.size (by simpa using hR))
  replace r := hide r'; have hg := g.size
  clear g r'
  go_wp2_with fail
  refine (l20Visits_any R _ A' c' xs.length _ _ r.out hp (by omega) (by omega) (by omega)).mono ?_
  rintro e w3 ⟨A2, c2, ys, rfl, hc2, f2, hp2, -, g⟩
  replace f := hide (f.out.grown g (by omega)); replace f2 := hide f2; have hB2 := B.out.size; replace B := hide (B.out.grown g B.out.size (by simpa using hR))
  clear g r
  go_wp2_with fail
  go_ret2
  exact ⟨A', c', xs, A2, c2, ys, rfl, hc', hc2, f.out.mono hB, f2.out.mono hB2, ⟨hp, hp2⟩, B.out⟩
end Go.Proofs.Ytmpcnpelgodciaa
