import Derived.Test.YtddlnafkacogiaaOwn
namespace Go.Proofs.Ytddlnafkacogiaa
open Go.RowKit

/-- A slice in new blocks that reads as xs. -/
def NewI (xs : List Int) (w : World) (e : Ending) (w' : World) : Prop := ∃ A c, e = .returned (.slice A xs.length c) ∧ FrI w.heap.size w' A xs ∧ Below w.heap.size w w'
theorem NewI.nil {w w' : World} (A : Option Addr) (c : Nat) (b : Below w.heap.size w w') : NewI [] w (.returned (.slice A 0 c)) w' := ⟨A, c, rfl, ⟨.inl rfl, .inl rfl⟩, b⟩
theorem NewI.own {w w' : World} {v : Value} {xs : List Int} (h : OwnI w.heap.size w' v xs) (b : Below w.heap.size w w') : NewI xs w (.returned v) w' := by
  obtain ⟨A, c, rfl, -, f⟩ := h.form; exact ⟨A, c, rfl, f, b⟩
end Go.Proofs.Ytddlnafkacogiaa
