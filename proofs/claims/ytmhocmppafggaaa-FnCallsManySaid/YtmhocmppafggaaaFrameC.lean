/- What the row's step hands to a walk of calls, of stops and of trips that came in (no program in sight). -/
import Derived.Test.YtmhocmppafggaaaFrame
import Derived.Test.YtmhocmppafggaaaMem
import Derived.Deep.Grids
import Derived.Lib.SmallJoins
namespace Go.Proofs.Ytmhocmppafggaaa
open Go.ChangeShapes Go.WideShapes Go.ChangeAt Go.RowKit

/-- Calls that came in. -/
def InC (w : World) (A0 A1 A2 : Option Addr) (_c0 _c1 _c2 : Nat) (C : Cl) : Prop := CR w A0 A1 A2 C ∧ (C.up.length : Int) ≤ 9223372036854775807 ∧ (C.dn.length : Int) ≤ 9223372036854775807 ∧ (C.car.length : Int) ≤ 9223372036854775807
section
variable {H : Type} {enc : TypeId × Value → H} {P : Program} {w : World} {held : Bool}
theorem int_of {t : TypeId} {k : IntKind} {fuel : Nat} {v : Value} {y : DataW H × List MemPlace} (ht : P.underlying t = some (.int k))
    (h : DataW.trod enc P w 0 (fun _ => true) held fuel t [v] = some y) : ∃ n, v = .int k n ∧ (Lit.int k n).wf = true := by
  obtain ⟨n', h1, -, hw⟩ := DataW.trod_int ht h
  exact ⟨n', by simpa using h1, hw⟩
theorem bools_of {t e : TypeId} {fuel : Nat} {v : Value} {y : DataW H × List MemPlace} (ht : P.underlying t = some (.slice e)) (he : P.underlying e = some .bool) (hc : P.cellsOf e = 1)
    (h : DataW.trod enc P w 0 (fun _ => true) held fuel t [v] = some y) : ∃ (A : Option Addr) (c : Nat) (xs : List Bool), v = .slice A xs.length c ∧ Bools w A xs ∧ (xs.length : Int) ≤ 9223372036854775807 := by
  rcases Go.Deep.open_bools ht he hc h with ⟨hcs, -⟩ | ⟨a, len, cap, B, hcs, -, hl, hm, -, hcell⟩
  · simp at hcs; subst hcs; exact ⟨none, 0, [], rfl, .inl rfl, by simp⟩
  · simp at hcs; subst hcs
    refine ⟨some a, cap, (List.range len).map B, by simp, ?_, by simp [maxLen] at hm ⊢; omega⟩
    by_cases h0 : len = 0
    · subst h0; exact .inl rfl
    · obtain ⟨b, off, spot⟩ := a
      have hc0 := hcell 0 (by omega)
      have hspot : spot = none := by simpa [Addr.add] using World.cell?_spot hc0
      subst hspot
      refine .inr ⟨b, off, rfl, World.block_lt_of_cell? w _ hc0, fun j u hu => ?_⟩
      have hj : j < len := by have := getElem?_lt hu; simpa [bls] using this
      simp [bls, hj] at hu
      have := hcell j (by omega)
      rw [show (Addr.add ⟨b, off, none⟩ j : Addr) = ⟨b, off + j, none⟩ from by unfold Addr.add; split <;> simp_all] at this
      rw [this, hu]
end
end Go.Proofs.Ytmhocmppafggaaa
