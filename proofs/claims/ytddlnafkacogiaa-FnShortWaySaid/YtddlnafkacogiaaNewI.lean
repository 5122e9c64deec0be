import Derived.Test.YtddlnafkacogiaaOwn
namespace Go.Proofs.Ytddlnafkacogiaa
open Go.RowKit

/-- A slice in new blocks that reads as xs. -/
def NewI (xs : List Int) (w : World) (e : Ending) (w' : World) : Prop := ∃ A c, e = .returned (.slice A xs.length c) ∧ FrI w.heap.size w' A xs ∧ Below w.heap.size w w'
theorem NewI.nil {w w' : World} (A : Option Addr) (c : Nat) (b : Below w.heap.size w w') : NewI [] w (.returned (.slice A 0 c)) w' := ⟨A, c, rfl, ⟨.inl rfl, .inl rfl⟩, b⟩
theorem NewI.own {w w' : World} {v : Value} {xs : List Int} (h : OwnI w.heap.size w' v xs) (b : Below w.heap.size w w') : NewI xs w (.returned v) w' := by
  obtain ⟨A, c, rfl, -, f⟩ := h.form; exact ⟨A, c, rfl, f, b⟩
/-- The same, and the capacity is told. -/
def NewC (xs : List Int) (w : World) (e : Ending) (w' : World) : Prop := ∃ A c, e = .returned (.slice A xs.length c) ∧ xs.length ≤ c ∧ FrI w.heap.size w' A xs ∧ Below w.heap.size w w'
theorem NewC.nil {w w' : World} (A : Option Addr) (c : Nat) (b : Below w.heap.size w w') : NewC [] w (.returned (.slice A 0 c)) w' := ⟨A, c, rfl, Nat.zero_le _, ⟨.inl rfl, .inl rfl⟩, b⟩
theorem NewC.own {w w' : World} {v : Value} {xs : List Int} (h : OwnI w.heap.size w' v xs) (b : Below w.heap.size w w') : NewC xs w (.returned v) w' := by
  obtain ⟨A, c, rfl, hc, f⟩ := h.form; exact ⟨A, c, rfl, hc, f, b⟩
theorem NewC.weak {xs : List Int} {w w' : World} {e : Ending} (h : NewC xs w e w') : NewI xs w e w' := by obtain ⟨A, c, h1, -, h2, h3⟩ := h; exact ⟨A, c, h1, h2, h3⟩
end Go.Proofs.Ytddlnafkacogiaa
