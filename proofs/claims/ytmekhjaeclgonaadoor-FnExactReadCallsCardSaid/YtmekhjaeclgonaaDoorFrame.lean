/-
  What the row's step hands to a walk of a slice of integers that came in (no program in sight).
-/
import Derived.Test.YtmekhjaeclgonaaDoorBase
import Derived.ProofKit
import Derived.OpenShut
import Derived.ShutString
import Derived.ChangeOld
namespace Go.Proofs.YtmekhjaeclgonaaDoor
open Go.ChangeShapes Go.WideShapes Go.ChangeAt Go.RowKit

/-- A slice that came in reads as zs, each fitting its kind. -/
def InRow (k : IntKind) (w : World) (A : Option Addr) (c : Nat) (zs : List Int) : Prop :=
  Sl w A (zs.map (Value.int k)) ∧ zs.length ≤ c ∧ c ≤ 9223372036854775807 ∧ ∀ n ∈ zs, (Lit.int k n).wf = true
theorem inRow_nil (k : IntKind) (w : World) (A : Option Addr) : InRow k w A 0 [] := ⟨.inl rfl, by simp, by simp, by simp⟩
theorem inRow_of {k : IntKind} {w : World} {x : Addr} {len cap : Nat} {zs : List Int} (hl : len ≤ cap) (hm : cap ≤ maxLen) (hz : zs.length = cap)
    (hcell : ∀ i, i < zs.length → w.cell? (x.add i) = some (.int k (zs.getD i 0))) (hwz : ∀ n ∈ zs, (Lit.int k n).wf = true) :
    ∃ ys : List Int, len = ys.length ∧ InRow k w (some x) cap ys := by
  refine ⟨zs.take len, by simp; omega, ?_, by simp; omega, by simpa [maxLen] using hm, fun n hn => hwz n (List.mem_of_mem_take hn)⟩
  by_cases h0 : len = 0
  · subst h0; exact .inl (by simp)
  · obtain ⟨b, off, spot⟩ := x
    have hc := hcell 0 (by omega)
    have hspot : spot = none := by simpa [Addr.add] using World.cell?_spot hc
    subst hspot
    refine .inr ⟨b, off, rfl, World.block_lt_of_cell? w _ hc, fun j u hu => ?_⟩
    rw [List.getElem?_map, List.getElem?_take] at hu
    split at hu
    · rename_i hj
      have hj' : j < zs.length := by omega
      rw [List.getElem?_eq_getElem hj'] at hu
      simp at hu
      subst hu
      have := hcell j hj'
      rw [show (Addr.add ⟨b, off, none⟩ j : Addr) = ⟨b, off + j, none⟩ from by unfold Addr.add; split <;> simp_all] at this
      rw [this]; simp [List.getElem?_eq_getElem hj']
    · simp at hu
theorem InRow.ints {w : World} {A : Option Addr} {c : Nat} {zs : List Int} (h : InRow .i64 w A c zs) : Ints w A zs := h.1
theorem InRow.byte {w : World} {A : Option Addr} {c : Nat} {zs : List Int} (h : InRow .u8 w A c zs) : ∀ x ∈ zs, 0 ≤ x ∧ x ≤ 255 := fun x hx => by
  have := h.2.2.2 x hx
  have := bounds_u8 this
  omega

end Go.Proofs.YtmekhjaeclgonaaDoor
