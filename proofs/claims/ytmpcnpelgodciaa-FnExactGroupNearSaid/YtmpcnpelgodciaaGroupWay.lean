import Derived.Test.YtmpcnpelgodciaaWays
import Derived.Test.YtmpcnpelgodciaaGroup
namespace Go.Proofs.Ytmpcnpelgodciaa
open Go.RowKit

/-- The longest way so far. -/
noncomputable def longK (fs cars calls give : List Int) : Nat → Int
  | 0 => 0
  | k + 1 => max (longK fs cars calls give k) (wayB fs (hgt cars (hgt give k)) (hgt calls k))
theorem longK_bd (fs cars calls give : List Int) (k : Nat) : 0 ≤ longK fs cars calls give k ∧ longK fs cars calls give k ≤ 60 := by
  induction k with
  | zero => unfold longK; omega
  | succ k ih => unfold longK; have := wayB_bd fs (hgt cars (hgt give k)) (hgt calls k); omega
noncomputable def givenB (fs cars calls give : List Int) : Bool := groupB fs cars calls && (decide (give.length = calls.length) && withinB give cars.length)
noncomputable def longB (fs cars calls give : List Int) : Int := if givenB fs cars calls give then longK fs cars calls give calls.length else -1
theorem groupB_parts {fs cars calls : List Int} (h : groupB fs cars calls = true) : floorsB fs = true ∧ 1 ≤ cars.length ∧ cars.length ≤ 4 ∧ calls.length ≤ 5 ∧ withinB cars fs.length = true ∧ withinB calls fs.length = true := by
  unfold groupB at h; simp only [Bool.and_eq_true, decide_eq_true_eq] at h
  exact ⟨h.1, h.2.1.1, h.2.1.2.1, h.2.1.2.2, h.2.2.1, h.2.2.2⟩
theorem within_at {vs : List Int} {m : Int} (h : withinB vs m = true) {k : Nat} {x : Int} (hx : vs[k]? = some x) : 0 ≤ x ∧ x < m := by
  have := (inB_iff _ _ _).1 (List.all_eq_true.1 h x (List.mem_of_getElem? hx)); omega

end Go.Proofs.Ytmpcnpelgodciaa
