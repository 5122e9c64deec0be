/- What the drawing functions of the reference give: some values in a range. -/
import Derived.Test.YtmekhjaeclgonaaDoorRd
import Derived.Test.YtmekhjaeclgonaaDoorIntS
namespace Go.Proofs.YtmekhjaeclgonaaDoor
open Go.RowKit

/-- A reader in a new block. -/
def Opened (w : World) (e : Ending) (w' : World) : Prop := ∃ R, e = .returned (.pointer (some ⟨R, 0, none⟩)) ∧ w.heap.size ≤ R ∧ Rd w' R 0 ∧ Below w.heap.size w w'
theorem opened_of {w : World} {A : Option Addr} {c : Nat} {bs : List Int} (h : Sl w A (bvs bs)) (hb : ∀ x ∈ bs, 0 ≤ x ∧ x ≤ 255) (hl : bs.length ≤ 2000) :
    Opened w (.returned (.pointer (some ⟨w.heap.size, 0, none⟩))) (w.alloc (.cells #[.slice A bs.length c, .int .i64 0] 52)) := by
  refine ⟨w.heap.size, rfl, Nat.le_refl _, ⟨A, bs, c, 0, heap_alloc_new w _, Nat.le_refl _, hl, ?_, hb⟩, (Below.refl _ _).alloc (Nat.le_refl _) _⟩
  rcases h with h | ⟨b, off, e, hlt, hc⟩
  · left; simpa [bvs] using h
  · right
    refine ⟨b, off, e, hlt, fun k u hu => ?_⟩
    rw [World.cell?_alloc_lt w _ _ hlt]
    exact hc k _ (by simp [bvs, hu])
theorem bvs_take (bs : List Int) (n : Nat) : bvs (bs.take n) = (bvs bs).take n := by simp [bvs, List.map_take]

theorem l20Open_any (A : Option Addr) (c : Nat) (bs : List Int) (w : World) (h : Sl w A (bvs bs)) (hb : ∀ x ∈ bs, 0 ≤ x ∧ x ≤ 255) (hl : bs.length ≤ 1048576) (hc : bs.length ≤ c) :
    Calls Tryd.prog 18 #[.slice A bs.length c] w (Opened w) := by
  have H := hide h; have HB := hide hb; clear h hb
  by_cases h2 : bs.length ≤ 2000
  · go_enter Tryd.func18, Tryd.ntmps18
    go_wp2
    go_ret
    exact opened_of H.out HB.out h2
  · go_enter Tryd.func18, Tryd.ntmps18
    go_wp2
    go_ret
    have e : (bs.take 2000).length = 2000 := by simp; omega
    have := opened_of (c := c) (bs := bs.take 2000) (by rw [bvs_take]; exact H.out.take _) (fun x hx => HB.out x (List.mem_of_mem_take hx)) (by omega)
    rw [e] at this
    exact this
end Go.Proofs.YtmekhjaeclgonaaDoor
