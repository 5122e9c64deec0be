import Derived.Test.YtmekhjaeclgonaaDoorFrameC
import Derived.Test.YtmekhjaeclgonaaDoorDrawCalls2
import Derived.Test.YtmekhjaeclgonaaDoorSetPlain
import Derived.Test.YtmekhjaeclgonaaDoorAlive
import Derived.Deep.RegionHeld3
import Derived.Deep.Cut
import Derived.Deep.DrawnRows
namespace Go.Proofs.YtmekhjaeclgonaaDoor
open Go.RowKit
attribute [local go_sem ↓] Go.wp_at_zero Go.wp_at_succ

theorem manyB_bd {C : Cl} (h : callsB C = true) : 0 ≤ manyB C ∧ manyB C ≤ 24 := by
  rw [manyB_yes h]
  obtain ⟨h1, h2, h3, h4, -, -⟩ := callsB_iff.1 h
  unfold manyC
  have := cnt_bd C.up; have := cnt_bd C.dn; have := cnt_bd C.car
  omega
theorem sameCalls_at (A0 A1 A2 : Option Addr) (c0 c1 c2 : Nat) (B0 B1 B2 : Option Addr) (d0 d1 d2 : Nat) (C D : Cl) (w : World) (b : Bool) (hb : eqC C D = b) (h : CR w A0 A1 A2 C) (h' : CR w B0 B1 B2 D) (hl : C.up.length ≤ 140737488351232 ∧ C.dn.length ≤ 140737488351232 ∧ C.car.length ≤ 140737488351232) :
    Calls Tryd.prog 9 #[.agg #[.slice A0 C.up.length c0, .slice A1 C.dn.length c1, .slice A2 C.car.length c2], .agg #[.slice B0 D.up.length d0, .slice B1 D.dn.length d1, .slice B2 D.car.length d2]] w fun e w' => e = .returned (.bool b) ∧ Below w.heap.size w w' := by
  subst hb; exact sameCalls_any A0 A1 A2 c0 c1 c2 B0 B1 B2 d0 d1 d2 C D w h h' hl
end Go.Proofs.YtmekhjaeclgonaaDoor
