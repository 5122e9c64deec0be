/- strings.Split's contract laid at this dump (the fields written by the kit's lay-shelf.mjs and lay-plain.mjs, for seat b5: numbers of that seat). -/
import Derived.Test.YtmekhjaeclgonaaDoorReadPlain
import Derived.Shelf.Strings.Split
namespace Go.Proofs.YtmekhjaeclgonaaDoor
open Go.Shelf
def lays146_ren : Go.Shelf.Ren := ⟨fun | 146 => 21 | 221 => 36 | 268 => 40 | 138 => 41 | 143 => 42 | 195 => 43 | 197 => 44 | 218 => 45 | 219 => 46 | 260 => 47 | 217 => 48 | 225 => 49 | 224 => 50 | 267 => 51 | 266 => 52 | 314 => 53 | n => n, fun | 9 => 9 | 31 => 41 | 3 => 3 | 4 => 4 | 0 => 0 | 105 => 63 | 21 => 21 | 5 => 5 | 46 => 66 | 119 => 67 | 139 => 70 | 138 => 69 | 146 => 72 | 51 => 71 | n => n, fun | 1 => 0 | 3 => 1 | 4 => 2 | n => n⟩
theorem lays146 : Go.Proofs.Lays.n146 Tryd.prog lays146_ren := {
  mixed := by kernel_rfl
  f138 := Tryd.func41.trans (congrArg some (by kernel_rfl))
  f143 := Tryd.func42.trans (congrArg some (by kernel_rfl))
  f146 := Tryd.func21.trans (congrArg some (by kernel_rfl))
  f195 := Tryd.func43.trans (congrArg some (by kernel_rfl))
  f197 := Tryd.func44.trans (congrArg some (by kernel_rfl))
  f217 := Tryd.func48.trans (congrArg some (by kernel_rfl))
  f218 := Tryd.func45.trans (congrArg some (by kernel_rfl))
  f219 := Tryd.func46.trans (congrArg some (by kernel_rfl))
  f221 := Tryd.func36.trans (congrArg some (by kernel_rfl))
  f224 := Tryd.func50.trans (congrArg some (by kernel_rfl))
  f225 := Tryd.func49.trans (congrArg some (by kernel_rfl))
  f260 := Tryd.func47.trans (congrArg some (by kernel_rfl))
  f266 := Tryd.func52.trans (congrArg some (by kernel_rfl))
  f267 := Tryd.func51.trans (congrArg some (by kernel_rfl))
  f268 := Tryd.func40.trans (congrArg some (by kernel_rfl))
  f314 := Tryd.func53.trans (congrArg some (by kernel_rfl))
  t0 := Tryd.underlying0
  a0 := Tryd.isAgg0
  z0 := Tryd.sizeOf0
  v0 := Tryd.zeroValue0
  t3 := Tryd.underlying3
  a3 := Tryd.isAgg3
  z3 := Tryd.sizeOf3
  v3 := Tryd.zeroValue3
  t4 := Tryd.underlying4
  a4 := Tryd.isAgg4
  z4 := Tryd.sizeOf4
  v4 := Tryd.zeroValue4
  t5 := Tryd.underlying5
  a5 := Tryd.isAgg5
  z5 := Tryd.sizeOf5
  v5 := Tryd.zeroValue5
  t9 := Tryd.underlying9
  a9 := Tryd.isAgg9
  z9 := Tryd.sizeOf9
  v9 := Tryd.zeroValue9
  t21 := Tryd.underlying21
  a21 := Tryd.isAgg21
  z21 := Tryd.sizeOf21
  v21 := Tryd.zeroValue21
  t31 := Tryd.underlying41
  a31 := Tryd.isAgg41
  z31 := Tryd.sizeOf41
  v31 := Tryd.zeroValue41
  t46 := Tryd.underlying66
  a46 := Tryd.isAgg66
  z46 := Tryd.sizeOf66
  v46 := Tryd.zeroValue66
  t51 := Tryd.underlying71
  a51 := Tryd.isAgg71
  z51 := Tryd.sizeOf71
  v51 := Tryd.zeroValue71
  t105 := Tryd.underlying63
  a105 := Tryd.isAgg63
  z105 := Tryd.sizeOf63
  v105 := Tryd.zeroValue63
  t119 := Tryd.underlying67
  a119 := Tryd.isAgg67
  z119 := Tryd.sizeOf67
  t138 := Tryd.underlying69
  a138 := Tryd.isAgg69
  z138 := Tryd.sizeOf69
  v138 := Tryd.zeroValue69
  t139 := Tryd.underlying70
  a139 := Tryd.isAgg70
  z139 := Tryd.sizeOf70
  v139 := Tryd.zeroValue70
  t146 := Tryd.underlying72
  a146 := Tryd.isAgg72
  z146 := Tryd.sizeOf72
  v146 := Tryd.zeroValue72
  g1 := by kernel_rfl
  g3 := by kernel_rfl
  g4 := by kernel_rfl }
/-- strings.Split at a slash, while internal/bytealg.MaxLen (block 0) holds some number m. -/
theorem split_any (l : List UInt8) (m : Int) (w : World) (hs : l.length < 4294967281) (hm : w.cell? ⟨0, 0, none⟩ = some (.int .i64 m)) :
    Calls Tryd.prog 21 #[.string (str l), .string ⟨#[47]⟩] w fun e w' => e = .returned (.slice (some ⟨w.heap.size, 0, none⟩) (cutL l).length (cutL l).length) ∧ w' = w.alloc (.cells ((cutL l).map fun x => Value.string (str x)).toArray 9) := by
  have h := Any.strings_Split lays146 (by kernel_rfl) (str l) ⟨#[47]⟩ m w hs hm (Nat.le_refl _)
  rw [count_cut, split_str, List.map_map] at h
  exact h
end Go.Proofs.YtmekhjaeclgonaaDoor
