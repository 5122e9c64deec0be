/- What the drawing functions of the reference give: some values in a range. -/
import Derived.Test.YtjkaabimaimicaaRd
import Derived.Test.YtjkaabimaimicaaIntS
namespace Go.Proofs.Ytjkaabimaimicaa
open Go.RowKit

/-- A reader in a new block. -/
def Opened (w : World) (e : Ending) (w' : World) : Prop := ∃ R, e = .returned (.pointer (some ⟨R, 0, none⟩)) ∧ w.heap.size ≤ R ∧ Rd w' R 0 ∧ Below w.heap.size w w'
theorem opened_of {w : World} {A : Option Addr} {c : Nat} {bs : List Int} (h : Sl w A (bvs bs)) (hb : ∀ x ∈ bs, 0 ≤ x ∧ x ≤ 255) (hl : bs.length ≤ 2000) :
    Opened w (.returned (.pointer (some ⟨w.heap.size, 0, none⟩))) (w.alloc (.cells #[.slice A bs.length c, .int .i64 0] 51)) := by
  refine ⟨w.heap.size, rfl, Nat.le_refl _, ⟨A, bs, c, 0, heap_alloc_new w _, Nat.le_refl _, hl, ?_, hb⟩, (Below.refl _ _).alloc (Nat.le_refl _) _⟩
  rcases h with h | ⟨b, off, e, hlt, hc⟩
  · left; simpa [bvs] using h
  · right
    refine ⟨b, off, e, hlt, fun k u hu => ?_⟩
    rw [World.cell?_alloc_lt w _ _ hlt]
    exact hc k _ (by simp [bvs, hu])
theorem bvs_take (bs : List Int) (n : Nat) : bvs (bs.take n) = (bvs bs).take n := by simp [bvs, List.map_take]

theorem l20Open_any (A : Option Addr) (c : Nat) (bs : List Int) (w : World) (h : Sl w A (bvs bs)) (hb : ∀ x ∈ bs, 0 ≤ x ∧ x ≤ 255) (hl : bs.length ≤ 1048576) (hc : bs.length ≤ c) :
    Calls Try.prog 45 #[.slice A bs.length c] w (Opened w) := by
  have H := hide h; have HB := hide hb; clear h hb
  by_cases h2 : bs.length ≤ 2000
  · go_enter Try.func45, Try.ntmps45
    go_wp2
    go_ret
    exact opened_of H.out HB.out h2
  · go_enter Try.func45, Try.ntmps45
    go_wp2
    go_ret
    have e : (bs.take 2000).length = 2000 := by simp; omega
    have := opened_of (c := c) (bs := bs.take 2000) (by rw [bvs_take]; exact H.out.take _) (fun x hx => HB.out x (List.mem_of_mem_take hx)) (by omega)
    rw [e] at this
    exact this
/-- Four numbers, small. -/
def Four (w : World) (e : Ending) (w' : World) : Prop := ∃ a b c d : Int, e = .returned (.tuple #[.int .i64 a, .int .i64 b, .int .i64 c, .int .i64 d]) ∧ (1 ≤ a ∧ a ≤ 120) ∧ (-200 ≤ b ∧ b ≤ 200) ∧ (-200 ≤ c ∧ c ≤ 200) ∧ (1 ≤ d ∧ d ≤ 40) ∧ Below w.heap.size w w'
theorem drawHolds_any (A : Option Addr) (c : Nat) (bs : List Int) (w : World) (h : Sl w A (bvs bs)) (hb : ∀ x ∈ bs, 0 ≤ x ∧ x ≤ 255) (hl : bs.length ≤ 1048576) (hc : bs.length ≤ c) :
    Calls Try.prog 27 #[.slice A bs.length c] w (Four w) := by
  have H := hide h; have HB := hide hb; clear h hb
  go_enter Try.func27, Try.ntmps27
  go_wp2_with fail
  refine (l20Open_any A c bs _ H.out HB.out hl hc).mono ?_
  rintro e w1 ⟨R, rfl, hR, r, b⟩
  replace r := hide r; have B := hide b; clear b
  go_wp2_with fail
  refine (pick_any R _ _ _ r.out (by omega) (by omega)).mono ?_
  rintro e w2 ⟨x, rfl, xa, xb, r', g, z⟩
  replace r := hide r'; replace B := hide (B.out.grown g B.out.size (by simpa using hR)); clear r' g z
  go_wp2_with fail
  refine (pick_any R _ _ _ r.out (by omega) (by omega)).mono ?_
  rintro e w2 ⟨y, rfl, ya, yb, r', g, z⟩
  replace r := hide r'; replace B := hide (B.out.grown g B.out.size (by simpa using hR)); clear r' g z
  go_wp2_with fail
  refine (pick_any R _ _ _ r.out (by omega) (by omega)).mono ?_
  rintro e w2 ⟨z, rfl, za, zb, r', g, z⟩
  replace r := hide r'; replace B := hide (B.out.grown g B.out.size (by simpa using hR)); clear r' g z
  go_wp2_with fail
  refine (pick_any R _ _ _ r.out (by omega) (by omega)).mono ?_
  rintro e w2 ⟨u, rfl, ua, ub, r', g, z⟩
  replace r := hide r'; replace B := hide (B.out.grown g B.out.size (by simpa using hR)); clear r' g z
  go_wp2_with fail
  refine (pick_any R _ _ _ r.out (by omega) (by omega)).mono ?_
  rintro e w2 ⟨v, rfl, va, vb, r', g, z⟩
  replace r := hide r'; replace B := hide (B.out.grown g B.out.size (by simpa using hR)); clear r' g z
  go_wp2_with fail
  refine (pick_any R _ _ _ r.out (by omega) (by omega)).mono ?_
  rintro e w2 ⟨p, rfl, pa, pb, r', g, z⟩
  replace r := hide r'; replace B := hide (B.out.grown g B.out.size (by simpa using hR)); clear r' g z
  go_wp2
  refine bodyPost_ret (results_tmp4 rfl _ _ _) rfl ?_
  exact ⟨_, _, _, _, rfl, by omega, by omega, by omega, by omega, B.out⟩
/-- Three numbers, small. -/
def Three (w : World) (e : Ending) (w' : World) : Prop := ∃ a b c : Int, e = .returned (.tuple #[.int .i64 a, .int .i64 b, .int .i64 c]) ∧ (1 ≤ a ∧ a ≤ 300) ∧ (-200 ≤ b ∧ b ≤ 200) ∧ (-200 ≤ c ∧ c ≤ 200) ∧ Below w.heap.size w w'
theorem drawMostLoad_any (A : Option Addr) (c : Nat) (bs : List Int) (w : World) (h : Sl w A (bvs bs)) (hb : ∀ x ∈ bs, 0 ≤ x ∧ x ≤ 255) (hl : bs.length ≤ 1048576) (hc : bs.length ≤ c) :
    Calls Try.prog 33 #[.slice A bs.length c] w (Three w) := by
  have H := hide h; have HB := hide hb; clear h hb
  go_enter Try.func33, Try.ntmps33
  go_wp2_with fail
  refine (l20Open_any A c bs _ H.out HB.out hl hc).mono ?_
  rintro e w1 ⟨R, rfl, hR, r, b⟩
  replace r := hide r; have B := hide b; clear b
  go_wp2_with fail
  refine (pick_any R _ _ _ r.out (by omega) (by omega)).mono ?_
  rintro e w2 ⟨x, rfl, xa, xb, r', g, z⟩
  replace r := hide r'; replace B := hide (B.out.grown g B.out.size (by simpa using hR)); clear r' g z
  go_wp2_with fail
  refine (pick_any R _ _ _ r.out (by omega) (by omega)).mono ?_
  rintro e w2 ⟨y, rfl, ya, yb, r', g, z⟩
  replace r := hide r'; replace B := hide (B.out.grown g B.out.size (by simpa using hR)); clear r' g z
  go_wp2_with fail
  refine (pick_any R _ _ _ r.out (by omega) (by omega)).mono ?_
  rintro e w2 ⟨z, rfl, za, zb, r', g, z⟩
  replace r := hide r'; replace B := hide (B.out.grown g B.out.size (by simpa using hR)); clear r' g z
  go_wp2_with fail
  refine (pick_any R _ _ _ r.out (by omega) (by omega)).mono ?_
  rintro e w2 ⟨u, rfl, ua, ub, r', g, z⟩
  replace r := hide r'; replace B := hide (B.out.grown g B.out.size (by simpa using hR)); clear r' g z
  go_wp2
  go_ret3
  exact ⟨_, _, _, rfl, by omega, by omega, by omega, B.out⟩
end Go.Proofs.Ytjkaabimaimicaa
