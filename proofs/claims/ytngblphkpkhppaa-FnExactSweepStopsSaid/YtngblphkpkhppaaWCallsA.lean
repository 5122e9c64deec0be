/- The exact laws over calls: walks. -/
import Derived.Test.YtngblphkpkhppaaCallsD
import Derived.Test.YtngblphkpkhppaaFrameC
import Derived.Deep.RegionHeld3
import Derived.Deep.DrawnRows
namespace Go.Proofs.Ytngblphkpkhppaa
open Go.RowKit
attribute [local go_sem ↓] Go.wp_at_zero Go.wp_at_succ

theorem szC_neg {C : Cl} (h : ¬ (C.up.length + C.dn.length + C.car.length ≤ 1048576)) : szC 1048576 C = -1 := by
  unfold szC; split
  · rfl
  · split
    · rfl
    · split
      · rfl
      · omega
theorem szC_pos {C : Cl} (h : C.up.length + C.dn.length + C.car.length ≤ 1048576) : szC 1048576 C = 1048576 - C.up.length - C.dn.length - C.car.length := by
  unfold szC; rw [if_neg (by omega), if_neg (by omega), if_neg (by omega)]
end Go.Proofs.Ytngblphkpkhppaa
