/- A block that is known whole, under a name for the world. -/
import Derived.Test.YtmhocmppafggaaaMem
namespace Go.Proofs.Ytmhocmppafggaaa
open Go.RowKit

/-- Block g is just the cells cs, none frozen. -/
def Box (w : World) (g : Nat) (cs : Array Value) : Prop := ∃ t, w.heap[g]? = some (.cells cs t (0, 0))
theorem Box.lt {w : World} {g : Nat} {cs : Array Value} (h : Box w g cs) : g < w.heap.size := by obtain ⟨t, h⟩ := h; exact (Array.getElem?_eq_some_iff.1 h).1
theorem Box.cell {w : World} {g : Nat} {cs : Array Value} (h : Box w g cs) (i : Nat) : w.cell? ⟨g, i, none⟩ = cs[i]? := by obtain ⟨t, h⟩ := h; exact cell_of_row w g i cs t (0, 0) h
theorem Box.at {w : World} {g i : Nat} {cs : Array Value} {v : Value} (h : Box w g cs) (e : cs[i]? = some v) : w.cell? ⟨g, i, none⟩ = some v := (h.cell i).trans e
theorem Box.frozen {w : World} {g : Nat} {cs : Array Value} (h : Box w g cs) (i : Nat) : w.frozen? ⟨g, i, none⟩ = false := by obtain ⟨t, h⟩ := h; simp [World.frozen?, h]
theorem Box.new {w : World} {g : Nat} {cs : Array Value} {t : TypeId} (e : g = w.heap.size) : Box (w.alloc (.cells cs t)) g cs := ⟨t, by subst e; exact heap_alloc_new w _⟩
theorem Box.alloc {w : World} {g : Nat} {cs : Array Value} (h : Box w g cs) (o : Obj) : Box (w.alloc o) g cs := by have hl := h.lt; obtain ⟨t, h⟩ := h; exact ⟨t, (Below.heap_alloc w o g hl).trans h⟩
theorem Box.drewN {w : World} {g : Nat} {cs : Array Value} (h : Box w g cs) (n : Nat) : Box (w.drewN n) g cs := h
theorem Box.drew {w : World} {g : Nat} {cs : Array Value} (h : Box w g cs) : Box w.drew g cs := h
theorem Box.dr {w w' : World} {g : Nat} {cs : Array Value} (h : Box w g cs) (d : Dr w w') : Box w' g cs := by obtain ⟨n, rfl⟩ := d; exact h
theorem Box.set {w : World} {g : Nat} {cs : Array Value} (h : Box w g cs) (i : Nat) (u : Value) : Box (w.setCell ⟨g, i, none⟩ u) g (cs.setIfInBounds i u) := by
  obtain ⟨t, h⟩ := h; exact ⟨t, by simp [World.setCell, Array.getElem?_modify, h]⟩
theorem Box.far {w : World} {g : Nat} {cs : Array Value} (h : Box w g cs) {p : Addr} (hp : g ≠ p.block) (u : Value) : Box (w.setCell p u) g cs := by
  obtain ⟨t, h⟩ := h; exact ⟨t, (Below.heap_setCell w p u g hp).trans h⟩
theorem Box.below {w w' : World} {g : Nat} {cs : Array Value} (h : Box w g cs) (b : Below w.heap.size w w') : Box w' g cs := by have hl := h.lt; obtain ⟨t, h⟩ := h; exact ⟨t, (b.block g hl).trans h⟩
theorem Box.belowAt {w w' : World} {g B : Nat} {cs : Array Value} (h : Box w g cs) (b : Below B w w') (hg : g < B) : Box w' g cs := by obtain ⟨t, h⟩ := h; exact ⟨t, (b.block g hg).trans h⟩
theorem Box.only {w w' : World} {g lo hi : Nat} {cs : Array Value} (h : Box w g cs) (b : Only lo hi w w') (hg : g < lo ∨ hi ≤ g) : Box w' g cs := by have hl := h.lt; obtain ⟨t, h⟩ := h; exact ⟨t, (b.block g hl hg).trans h⟩
theorem Box.grown {w w' : World} {g : Nat} {cs : Array Value} {r : Option Nat} (h : Box w g cs) (b : w.grownBy w' r) (hg : some g ≠ r) : Box w' g cs := by have hl := h.lt; obtain ⟨t, h⟩ := h; exact ⟨t, (b.block g hl hg).trans h⟩
section
variable {w W : World} {p : Addr} {u : Value} (hW : W = w.setCell p u)
include hW
theorem Box.far' {g : Nat} {cs : Array Value} (h : Box w g cs) (hp : g ≠ p.block) : Box W g cs := hW ▸ h.far hp u
theorem OS.far' {lo hi : Nat} {A : Option Addr} {n : Nat} {xs : List Value} (h : OS lo hi w A n xs) (hp : p.block < lo ∨ hi ≤ p.block) : OS lo hi W A n xs := by
  subst hW; exact h.only ((Only.refl p.block (p.block + 1) w).setCell (Nat.le_refl _) (Nat.lt_succ_self _) u) (by omega)
theorem BO.far' {lo hi : Nat} {A : Option Addr} {xs : List Bool} (h : BO lo hi w A xs) (hp : p.block < lo ∨ hi ≤ p.block) : BO lo hi W A xs := OS.far' hW h hp
theorem CO.far' {lo hi : Nat} {A0 A1 A2 : Option Addr} {C : Cl} (h : CO lo hi w A0 A1 A2 C) (hp : p.block < lo ∨ hi ≤ p.block) : CO lo hi W A0 A1 A2 C := ⟨BO.far' hW h.up hp, BO.far' hW h.dn hp, BO.far' hW h.car hp, h.ud, h.uc, h.dc⟩
theorem Sl.far' {A : Option Addr} {xs : List Value} {B : Nat} (h : Sl w A xs) (hb : ∀ b off, A = some ⟨b, off, none⟩ → xs ≠ [] → b < B) (hp : B ≤ p.block) : Sl W A xs := by
  subst hW
  by_cases hx : xs = []
  · exact .inl hx
  · exact h.keep (by simp [World.setCell]) fun b off e _ => Below.heap_setCell _ _ _ _ (by have := hb b off e hx; omega)
theorem below_set' {B : Nat} {a : World} (h : Below B a w) (hp : B ≤ p.block) : Below B a W := hW ▸ h.setCell hp u
theorem size_set' : W.heap.size = w.heap.size := by rw [hW]; simp [World.setCell]
end
theorem Box.set' {w W : World} {g i : Nat} {cs : Array Value} {u : Value} (hW : W = w.setCell ⟨g, i, none⟩ u) (h : Box w g cs) : Box W g (cs.setIfInBounds i u) := hW ▸ h.set i u
theorem Box.new' {w W : World} {g : Nat} {cs : Array Value} {t : TypeId} (hW : W = w.alloc (.cells cs t)) (e : g = w.heap.size) : Box W g cs := hW ▸ Box.new e
theorem onlyW2 {g : Nat} (w : World) (a b : Value) : Only g (g + 1) w ((w.setCell ⟨g, 0, none⟩ a).setCell ⟨g, 1, none⟩ b) := ((Only.refl g (g + 1) w).setCell (p := ⟨g, 0, none⟩) (Nat.le_refl g) (Nat.lt_succ_self g) a).setCell (p := ⟨g, 1, none⟩) (Nat.le_refl g) (Nat.lt_succ_self g) b
theorem onlyW3 {g : Nat} (w : World) (a b c : Value) : Only g (g + 1) w (((w.setCell ⟨g, 0, none⟩ a).setCell ⟨g, 1, none⟩ b).setCell ⟨g, 2, none⟩ c) := (onlyW2 w a b).setCell (p := ⟨g, 2, none⟩) (Nat.le_refl g) (Nat.lt_succ_self g) c
theorem Box.setW2 {w : World} {g : Nat} {x y : Value} (h : Box w g #[x, y]) (a b : Value) : Box ((w.setCell ⟨g, 0, none⟩ a).setCell ⟨g, 1, none⟩ b) g #[a, b] := (h.set 0 a).set 1 b
theorem Box.setW3 {w : World} {g : Nat} {x y z : Value} (h : Box w g #[x, y, z]) (a b c : Value) : Box (((w.setCell ⟨g, 0, none⟩ a).setCell ⟨g, 1, none⟩ b).setCell ⟨g, 2, none⟩ c) g #[a, b, c] := ((h.set 0 a).set 1 b).set 2 c
theorem Box.newLt {w w' : World} {cs : Array Value} {t : TypeId} (b : Below (w.alloc (.cells cs t)).heap.size (w.alloc (.cells cs t)) w') : Box w' w.heap.size cs ∧ w.heap.size < (w.alloc (.cells cs t)).heap.size := ⟨Box.below (Box.new rfl) b, Box.lt (Box.new (cs := cs) (t := t) rfl)⟩
/-- A name for the world at a call. -/
theorem calls_name {P : Program} {f : FuncId} {args : Array Value} {w : World} {Q : Ending → World → Prop} (h : ∀ W, W = w → Calls P f args W Q) : Calls P f args w Q := h w rfl
theorem Below.size_alloc {w : World} (o : Obj) : (w.alloc o).heap.size = w.heap.size + 1 := by show (w.heap.push o).size = _; simp
end Go.Proofs.Ytmhocmppafggaaa
