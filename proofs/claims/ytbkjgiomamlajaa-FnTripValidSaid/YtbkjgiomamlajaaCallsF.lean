/- Copies of calls. -/
import Derived.Test.YtbkjgiomamlajaaCallsD
import Derived.Deep.RegionHeld3
import Derived.Deep.DrawnRows
import Derived.Deep.RegionLawGrows
namespace Go.Proofs.Ytbkjgiomamlajaa
open Go.RowKit
attribute [local go_sem ↓] Go.wp_at_zero Go.wp_at_succ

theorem CR.alloc {w : World} {A0 A1 A2 : Option Addr} {C : Cl} (h : CR w A0 A1 A2 C) (o : Obj) : CR (w.alloc o) A0 A1 A2 C := h.below ((Below.refl _ _).alloc (Nat.le_refl _) o)
/-- append of a row onto an empty one, as a step of a region. -/
theorem step_copyB {ops : Array Oper} {o : Oper} {a : Act} {w : World} {K : Act → World → Prop} {Q : Exit → Act → World → Prop} {E : Prop} (hg : o.guard = none) (s x : Operand)
    (hop : o.op = Op.call { callee := Callee.builtin Builtin.append, args := #[s, x], argTypes := #[37, 37] }) (xs : List Bool) (h0 : 1 ≤ xs.length) (hl : xs.length ≤ 1000) {g c : Nat} {A : Option Addr}
    (hs : a.eval s = .slice (some ⟨g, 0, none⟩) 0 0) (hx : a.eval x = .slice A xs.length c) (hr : Bools w A xs)
    (hK : ∀ A' c' w', BO w.heap.size w'.heap.size w' A' xs → Below w.heap.size w w' → w'.ownsRow w.heap.size 4 1 (.slice A' xs.length c') xs.length (bls xs) → K (a.put o.dst (.slice A' xs.length c')) w') :
    if Region.wanted o (yielded ops a.tmps) = true then Oper.wp Try.prog o a w K Q else E := by
  obtain ⟨i0, hi, hz0, hz1, hz2⟩ := info_parts info_bool
  obtain ⟨b, off, v, rfl, -, -, -⟩ := hr.at (k := 0) (by omega)
  refine step_append_grows hg s x 37 hop 4 i0 (.bool false) 1 1 Try.underlying37 hi hz0 hz1 hz2 rfl (by omega) (some ⟨g, 0, none⟩) 0 0 [] hs (fun h => by cases h) rfl (fun _ _ j u hu => by simp at hu) ⟨b, off, none⟩ xs.length c (bls xs) hx (by simp [bls]) ?_ (bls_one xs) (by omega) (by unfold maxLen; omega) (by omega) ?_
  · intro j u hu
    rcases hr with hr | ⟨b', off', e, -, hc⟩
    · rw [hr] at hu; simp at hu
    · injection e with e; injection e with e1 e2; subst e1; subst e2
      rw [show (Addr.add ⟨b, off, none⟩ j : Addr) = ⟨b, off + j, none⟩ from by unfold Addr.add; split <;> simp_all]
      exact hc j u hu
  · intro v' w' hown hgr
    rw [Nat.zero_add, List.nil_append] at hown
    have hb : Below w.heap.size w w' := ⟨hgr.os, hgr.tape, hgr.output, hgr.size, fun k hk => hgr.block k hk (by simp)⟩
    rcases hown.2 with ⟨-, hn⟩ | ⟨g', cap, cur, rfl, -⟩
    · omega
    · exact hK _ _ w' (own_os hown) hb hown
theorem BO.alloc {lo hi : Nat} {w : World} {A : Option Addr} {xs : List Bool} (h : BO lo hi w A xs) (o : Obj) : BO lo hi (w.alloc o) A xs := h.below ((Below.refl _ _).alloc (Nat.le_refl _) o)
theorem GivesS.of {w w' : World} {A0 A1 A2 : Option Addr} {c0 c1 c2 l0 h0 l1 h1 l2 h2 : Nat} {C : Cl} (ow : w'.ownsRow l2 4 1 (.slice A2 C.car.length c2) C.car.length (bls C.car)) (b0 : BO l0 h0 w' A0 C.up) (b1 : BO l1 h1 w' A1 C.dn) (b2 : BO l2 h2 w' A2 C.car) (hl : w.heap.size ≤ l0 ∧ w.heap.size ≤ l1 ∧ w.heap.size ≤ l2) (hd : (h0 ≤ l1 ∨ h1 ≤ l0) ∧ (h0 ≤ l2 ∨ h2 ≤ l0) ∧ (h1 ≤ l2 ∨ h2 ≤ l1)) (hh : h0 ≤ w'.heap.size ∧ h1 ≤ w'.heap.size ∧ h2 ≤ w'.heap.size) (b : Below w.heap.size w w') :
    GivesS C w (.returned (.agg #[.slice A0 C.up.length c0, .slice A1 C.dn.length c1, .slice A2 C.car.length c2])) w' :=
  ⟨A0, A1, A2, c0, c1, c2, rfl, ⟨b0.mono hl.1 hh.1, b1.mono hl.2.1 hh.2.1, b2.mono hl.2.2 hh.2.2, Ap.of b0.rg b1.rg hd.1, Ap.of b0.rg b2.rg hd.2.1, Ap.of b1.rg b2.rg hd.2.2⟩, b, owns_mono ow hl.2.2⟩
/-- The two boxes of a copying function, and the calls, at a world W. -/
structure LB (w : World) (A0 A1 A2 : Option Addr) (c0 c1 c2 : Nat) (C : Cl) (W : World) : Prop where
  cr : CR W A0 A1 A2 C
  x1 : Box W w.heap.size #[.slice A0 C.up.length c0, .slice A1 C.dn.length c1, .slice A2 C.car.length c2]
  x2 : Box W (w.heap.size + 1) #[.slice none 0 0, .slice none 0 0, .slice none 0 0]
  bw : Below w.heap.size w W
theorem LB.below {w W W' : World} {A0 A1 A2 : Option Addr} {c0 c1 c2 : Nat} {C : Cl} (h : LB w A0 A1 A2 c0 c1 c2 C W) (b : Below W.heap.size W W') : LB w A0 A1 A2 c0 c1 c2 C W' := ⟨h.cr.below b, h.x1.below b, h.x2.below b, bthen h.bw b⟩
theorem LB.alloc {w W : World} {A0 A1 A2 : Option Addr} {c0 c1 c2 : Nat} {C : Cl} (h : LB w A0 A1 A2 c0 c1 c2 C W) (o : Obj) : LB w A0 A1 A2 c0 c1 c2 C (W.alloc o) := h.below ((Below.refl _ _).alloc (Nat.le_refl _) o)
theorem LB.drew {w W : World} {A0 A1 A2 : Option Addr} {c0 c1 c2 : Nat} {C : Cl} (h : LB w A0 A1 A2 c0 c1 c2 C W) : LB w A0 A1 A2 c0 c1 c2 C W.drew := h.below (below_drewN (Below.refl _ _) 1)
theorem size_setCells (w : World) (b : Nat) : ∀ (o : Nat) (vs : List Value), (w.setCells b o vs).heap.size = w.heap.size := by
  intro o vs
  induction vs generalizing w o with
  | nil => rfl
  | cons v r ih => show ((w.setCell ⟨b, o, none⟩ v).setCells b (o + 1) r).heap.size = _; rw [ih]; simp [World.setCell]
theorem below_setCells {B b : Nat} {a w : World} (h : Below B a w) (vs : List Value) (o : Nat) (hb : B ≤ b := by exact Nat.le_refl _) : Below B a (w.setCells b o vs) := by
  induction vs generalizing w o with
  | nil => exact h
  | cons v r ih => exact ih (h.setCell (p := ⟨b, o, none⟩) hb v) (o + 1)
end Go.Proofs.Ytbkjgiomamlajaa
