import Derived.Test.YtmekhjaeclgonaaDoorSmall
namespace Go.Proofs.YtmekhjaeclgonaaDoor
open Go.RowKit

theorem info_int : (Tryd.prog.info? 3).map (fun i => (i.zero, i.size, i.bytes)) = some (some (.int .i64 0), 1, 8) := by kernel_rfl

/-- What toIntS has made after k rounds. -/
def tocells (xs : List Int) (k : Nat) : List Value := ivs (xs.take k) ++ List.replicate (xs.length - k) (.int .i64 0)
theorem tocells_zero (xs : List Int) : tocells xs 0 = List.replicate xs.length (.int .i64 0) := by simp [tocells, ivs]
theorem tocells_all (xs : List Int) : tocells xs xs.length = ivs xs := by simp [tocells]
theorem tocells_set {xs : List Int} {k : Nat} {x : Int} (hx : xs[k]? = some x) : (tocells xs k).set k (.int .i64 x) = tocells xs (k + 1) := by
  have hk := getElem?_lt hx
  unfold tocells
  rw [take_snoc' xs k x hx, List.set_append_right _ _ (by simp [ivs]; omega)]
  have e : xs.length - k = (xs.length - (k + 1)) + 1 := by omega
  have e2 : k - (ivs (xs.take k)).length = 0 := by simp [ivs]; omega
  rw [e2, e, List.replicate_succ]
  simp [ivs, iv]
theorem tocells_at {xs : List Int} {k : Nat} (hk : k < xs.length) : (tocells xs k)[k]? = some (.int .i64 0) := by
  unfold tocells
  rw [List.getElem?_append_right (by simp [ivs]; omega)]
  simp [ivs, List.getElem?_replicate]; omega

end Go.Proofs.YtmekhjaeclgonaaDoor
