/- Copies of calls. -/
import Derived.Test.YtmekhjaeclgonaaDoorCallsD
import Derived.Deep.RegionHeld3
import Derived.Deep.DrawnRows
import Derived.Deep.RegionLawGrows
namespace Go.Proofs.YtmekhjaeclgonaaDoor
open Go.RowKit
attribute [local go_sem ↓] Go.wp_at_zero Go.wp_at_succ

theorem CR.alloc {w : World} {A0 A1 A2 : Option Addr} {C : Cl} (h : CR w A0 A1 A2 C) (o : Obj) : CR (w.alloc o) A0 A1 A2 C := h.below ((Below.refl _ _).alloc (Nat.le_refl _) o)
/-- append of a row onto an empty one, as a step of a region. -/
theorem step_copyB {ops : Array Oper} {o : Oper} {a : Act} {w : World} {K : Act → World → Prop} {Q : Exit → Act → World → Prop} {E : Prop} (hg : o.guard = none) (s x : Operand)
    (hop : o.op = Op.call { callee := Callee.builtin Builtin.append, args := #[s, x], argTypes := #[24, 24] }) (xs : List Bool) (h0 : 1 ≤ xs.length) (hl : xs.length ≤ 1000) {g c : Nat} {A : Option Addr}
    (hs : a.eval s = .slice (some ⟨g, 0, none⟩) 0 0) (hx : a.eval x = .slice A xs.length c) (hr : Bools w A xs)
    (hK : ∀ A' c' w', BO w.heap.size w'.heap.size w' A' xs → Below w.heap.size w w' → w'.ownsRow w.heap.size 4 1 (.slice A' xs.length c') xs.length (bls xs) → K (a.put o.dst (.slice A' xs.length c')) w') :
    if Region.wanted o (yielded ops a.tmps) = true then Oper.wp Tryd.prog o a w K Q else E := by
  obtain ⟨i0, hi, hz0, hz1, hz2⟩ := info_parts info_bool
  obtain ⟨b, off, v, rfl, -, -, -⟩ := hr.at (k := 0) (by omega)
  refine step_append_grows hg s x 24 hop 4 i0 (.bool false) 1 1 Tryd.underlying24 hi hz0 hz1 hz2 rfl (by omega) (some ⟨g, 0, none⟩) 0 0 [] hs (fun h => by cases h) rfl (fun _ _ j u hu => by simp at hu) ⟨b, off, none⟩ xs.length c (bls xs) hx (by simp [bls]) ?_ (bls_one xs) (by omega) (by unfold maxLen; omega) (by omega) ?_
  · intro j u hu
    rcases hr with hr | ⟨b', off', e, -, hc⟩
    · rw [hr] at hu; simp at hu
    · injection e with e; injection e with e1 e2; subst e1; subst e2
      rw [show (Addr.add ⟨b, off, none⟩ j : Addr) = ⟨b, off + j, none⟩ from by unfold Addr.add; split <;> simp_all]
      exact hc j u hu
  · intro v' w' hown hgr
    rw [Nat.zero_add, List.nil_append] at hown
    have hb : Below w.heap.size w w' := ⟨hgr.os, hgr.tape, hgr.output, hgr.size, fun k hk => hgr.block k hk (by simp)⟩
    rcases hown.2 with ⟨-, hn⟩ | ⟨g', cap, cur, rfl, -⟩
    · omega
    · exact hK _ _ w' (own_os hown) hb hown
theorem BO.alloc {lo hi : Nat} {w : World} {A : Option Addr} {xs : List Bool} (h : BO lo hi w A xs) (o : Obj) : BO lo hi (w.alloc o) A xs := h.below ((Below.refl _ _).alloc (Nat.le_refl _) o)
theorem GivesS.of {w w' : World} {A0 A1 A2 : Option Addr} {c0 c1 c2 l0 h0 l1 h1 l2 h2 : Nat} {C : Cl} (ow : w'.ownsRow l2 4 1 (.slice A2 C.car.length c2) C.car.length (bls C.car)) (b0 : BO l0 h0 w' A0 C.up) (b1 : BO l1 h1 w' A1 C.dn) (b2 : BO l2 h2 w' A2 C.car) (hl : w.heap.size ≤ l0 ∧ w.heap.size ≤ l1 ∧ w.heap.size ≤ l2) (hd : (h0 ≤ l1 ∨ h1 ≤ l0) ∧ (h0 ≤ l2 ∨ h2 ≤ l0) ∧ (h1 ≤ l2 ∨ h2 ≤ l1)) (hh : h0 ≤ w'.heap.size ∧ h1 ≤ w'.heap.size ∧ h2 ≤ w'.heap.size) (b : Below w.heap.size w w') :
    GivesS C w (.returned (.agg #[.slice A0 C.up.length c0, .slice A1 C.dn.length c1, .slice A2 C.car.length c2])) w' :=
  ⟨A0, A1, A2, c0, c1, c2, rfl, ⟨b0.mono hl.1 hh.1, b1.mono hl.2.1 hh.2.1, b2.mono hl.2.2 hh.2.2, Ap.of b0.rg b1.rg hd.1, Ap.of b0.rg b2.rg hd.2.1, Ap.of b1.rg b2.rg hd.2.2⟩, b, owns_mono ow hl.2.2⟩
/-- The two boxes of a copying function, and the calls, at a world W. -/
structure LB (w : World) (A0 A1 A2 : Option Addr) (c0 c1 c2 : Nat) (C : Cl) (W : World) : Prop where
  cr : CR W A0 A1 A2 C
  x1 : Box W w.heap.size #[.slice A0 C.up.length c0, .slice A1 C.dn.length c1, .slice A2 C.car.length c2]
  x2 : Box W (w.heap.size + 1) #[.slice none 0 0, .slice none 0 0, .slice none 0 0]
  bw : Below w.heap.size w W
theorem LB.below {w W W' : World} {A0 A1 A2 : Option Addr} {c0 c1 c2 : Nat} {C : Cl} (h : LB w A0 A1 A2 c0 c1 c2 C W) (b : Below W.heap.size W W') : LB w A0 A1 A2 c0 c1 c2 C W' := ⟨h.cr.below b, h.x1.below b, h.x2.below b, bthen h.bw b⟩
theorem LB.alloc {w W : World} {A0 A1 A2 : Option Addr} {c0 c1 c2 : Nat} {C : Cl} (h : LB w A0 A1 A2 c0 c1 c2 C W) (o : Obj) : LB w A0 A1 A2 c0 c1 c2 C (W.alloc o) := h.below ((Below.refl _ _).alloc (Nat.le_refl _) o)
theorem LB.drew {w W : World} {A0 A1 A2 : Option Addr} {c0 c1 c2 : Nat} {C : Cl} (h : LB w A0 A1 A2 c0 c1 c2 C W) : LB w A0 A1 A2 c0 c1 c2 C W.drew := h.below (below_drewN (Below.refl _ _) 1)
theorem size_setCells (w : World) (b : Nat) : ∀ (o : Nat) (vs : List Value), (w.setCells b o vs).heap.size = w.heap.size := by
  intro o vs
  induction vs generalizing w o with
  | nil => rfl
  | cons v r ih => show ((w.setCell ⟨b, o, none⟩ v).setCells b (o + 1) r).heap.size = _; rw [ih]; simp [World.setCell]
theorem below_setCells {B b : Nat} {a w : World} (h : Below B a w) (vs : List Value) (o : Nat) (hb : B ≤ b := by exact Nat.le_refl _) : Below B a (w.setCells b o vs) := by
  induction vs generalizing w o with
  | nil => exact h
  | cons v r ih => exact ih (h.setCell (p := ⟨b, o, none⟩) hb v) (o + 1)
set_option maxHeartbeats 4000000 in
theorem l8Copy_s (A0 A1 A2 : Option Addr) (c0 c1 c2 : Nat) (C : Cl) (w : World) (h : CR w A0 A1 A2 C) (hl : (1 ≤ C.up.length ∧ C.up.length ≤ 8) ∧ (1 ≤ C.dn.length ∧ C.dn.length ≤ 8) ∧ (1 ≤ C.car.length ∧ C.car.length ≤ 8)) :
    Calls Tryd.prog 39 #[.agg #[.slice A0 C.up.length c0, .slice A1 C.dn.length c1, .slice A2 C.car.length c2]] w (GivesS C w) := by
  have H := hide h; clear h
  obtain ⟨⟨l0, m0⟩, ⟨l1, m1⟩, ⟨l2, m2⟩⟩ := hl
  go_enter Tryd.func39, Tryd.ntmps39
  go_wp2_with fail
  refine code_name fun W hW => ?_
  have X1 : Hid (Box W w.heap.size #[.slice A0 C.up.length c0, .slice A1 C.dn.length c1, .slice A2 C.car.length c2]) := by rw [hW]; exact (Box.new rfl).alloc _
  have X2 : Hid (Box W (w.heap.size + 1) #[.slice none 0 0, .slice none 0 0, .slice none 0 0]) := by rw [hW]; exact Box.new (by simp)
  have BW : Hid (Below w.heap.size w W) := by rw [hW]; exact ((Below.refl _ _).alloc (Nat.le_refl _) _).alloc (by simp) _
  have z0 : w.heap.size + 1 < W.heap.size := by rw [hW]; simp
  clear hW
  have L : Hid (LB w A0 A1 A2 c0 c1 c2 C W.drew) := LB.drew ⟨H.out.below BW.out, X1.out, X2.out, BW.out⟩
  go_region_held3 (fun W => W.cell? ⟨w.heap.size, 0, none⟩ = some (.slice A0 C.up.length c0) ∧ W.cell? ⟨w.heap.size, 1, none⟩ = some (.slice A1 C.dn.length c1) ∧ W.cell? ⟨w.heap.size, 2, none⟩ = some (.slice A2 C.car.length c2)) (first | (go_keep; done) | (exact ⟨L3.out.x1.at rfl, L3.out.x1.at rfl, L3.out.x1.at rfl⟩) | (exact ⟨(L3.out.alloc _).x1.at rfl, (L3.out.alloc _).x1.at rfl, (L3.out.alloc _).x1.at rfl⟩) | (exact ⟨((L3.out.alloc _).alloc _).x1.at rfl, ((L3.out.alloc _).alloc _).x1.at rfl, ((L3.out.alloc _).alloc _).x1.at rfl⟩) | (exact ⟨(((L3.out.alloc _).alloc _).alloc _).x1.at rfl, (((L3.out.alloc _).alloc _).alloc _).x1.at rfl, (((L3.out.alloc _).alloc _).alloc _).x1.at rfl⟩) | (exact ⟨L2.out.x1.at rfl, L2.out.x1.at rfl, L2.out.x1.at rfl⟩) | (exact ⟨(L2.out.alloc _).x1.at rfl, (L2.out.alloc _).x1.at rfl, (L2.out.alloc _).x1.at rfl⟩) | (exact ⟨((L2.out.alloc _).alloc _).x1.at rfl, ((L2.out.alloc _).alloc _).x1.at rfl, ((L2.out.alloc _).alloc _).x1.at rfl⟩) | (exact ⟨(((L2.out.alloc _).alloc _).alloc _).x1.at rfl, (((L2.out.alloc _).alloc _).alloc _).x1.at rfl, (((L2.out.alloc _).alloc _).alloc _).x1.at rfl⟩) | (exact ⟨L1.out.x1.at rfl, L1.out.x1.at rfl, L1.out.x1.at rfl⟩) | (exact ⟨(L1.out.alloc _).x1.at rfl, (L1.out.alloc _).x1.at rfl, (L1.out.alloc _).x1.at rfl⟩) | (exact ⟨((L1.out.alloc _).alloc _).x1.at rfl, ((L1.out.alloc _).alloc _).x1.at rfl, ((L1.out.alloc _).alloc _).x1.at rfl⟩) | (exact ⟨(((L1.out.alloc _).alloc _).alloc _).x1.at rfl, (((L1.out.alloc _).alloc _).alloc _).x1.at rfl, (((L1.out.alloc _).alloc _).alloc _).x1.at rfl⟩) | (exact ⟨L.out.x1.at rfl, L.out.x1.at rfl, L.out.x1.at rfl⟩) | (exact ⟨(L.out.alloc _).x1.at rfl, (L.out.alloc _).x1.at rfl, (L.out.alloc _).x1.at rfl⟩) | (exact ⟨((L.out.alloc _).alloc _).x1.at rfl, ((L.out.alloc _).alloc _).x1.at rfl, ((L.out.alloc _).alloc _).x1.at rfl⟩) | (exact ⟨(((L.out.alloc _).alloc _).alloc _).x1.at rfl, (((L.out.alloc _).alloc _).alloc _).x1.at rfl, (((L.out.alloc _).alloc _).alloc _).x1.at rfl⟩)) (first | (refine step_copyB (by rfl) (.tmp 3) (.tmp 5) (by rfl) C.up l0 (by omega) (by rfl) (by rfl) (by first | exact L.out.cr.up | exact (L.out.alloc _).cr.up | exact ((L.out.alloc _).alloc _).cr.up | exact (((L.out.alloc _).alloc _).alloc _).cr.up) ?_; intro B0 d0 w1 O1 b _; have L1 : Hid (LB w A0 A1 A2 c0 c1 c2 C w1) := (by first | exact L.out.below b | exact (L.out.alloc _).below b | exact ((L.out.alloc _).alloc _).below b | exact (((L.out.alloc _).alloc _).alloc _).below b); have y1 : W.heap.size ≤ w1.heap.size := (by have := b.size; (try simp at this); omega); replace O1 := hide (O1.mono (lo' := W.heap.size) (by first | exact Nat.le_refl _ | (simp; done) | (simp; omega)) (Nat.le_refl _)); clear b) | (refine step_copyB (by rfl) (.tmp 7) (.tmp 9) (by rfl) C.dn l1 (by omega) (by rfl) (by rfl) (by first | exact L1.out.cr.dn | exact (L1.out.alloc _).cr.dn | exact ((L1.out.alloc _).alloc _).cr.dn | exact (((L1.out.alloc _).alloc _).alloc _).cr.dn) ?_; intro B1 d1 w2 O2 b _; have L2 : Hid (LB w A0 A1 A2 c0 c1 c2 C w2) := (by first | exact L1.out.below b | exact (L1.out.alloc _).below b | exact ((L1.out.alloc _).alloc _).below b | exact (((L1.out.alloc _).alloc _).alloc _).below b); have y2 : w1.heap.size ≤ w2.heap.size := (by have := b.size; (try simp at this); omega); replace O2 := hide (O2.mono (lo' := w1.heap.size) (by first | exact Nat.le_refl _ | (simp; done) | (simp; omega)) (Nat.le_refl _)); replace O1 := hide (by first | exact O1.out.below b | exact (O1.out.alloc _).below b | exact ((O1.out.alloc _).alloc _).below b | exact (((O1.out.alloc _).alloc _).alloc _).below b : BO _ _ w2 _ _); clear b) | (refine step_copyB (by rfl) (.tmp 11) (.tmp 13) (by rfl) C.car l2 (by omega) (by rfl) (by rfl) (by first | exact L2.out.cr.car | exact (L2.out.alloc _).cr.car | exact ((L2.out.alloc _).alloc _).cr.car | exact (((L2.out.alloc _).alloc _).alloc _).cr.car) ?_; intro B2 d2 w3 O3 b ow; have OW := hide (owns_mono (lo' := w2.heap.size) ow (by first | exact Nat.le_refl _ | (simp; done) | (simp; omega))); clear ow; have L3 : Hid (LB w A0 A1 A2 c0 c1 c2 C w3) := (by first | exact L2.out.below b | exact (L2.out.alloc _).below b | exact ((L2.out.alloc _).alloc _).below b | exact (((L2.out.alloc _).alloc _).alloc _).below b); have y3 : w2.heap.size ≤ w3.heap.size := (by have := b.size; (try simp at this); omega); replace O3 := hide (O3.mono (lo' := w2.heap.size) (by first | exact Nat.le_refl _ | (simp; done) | (simp; omega)) (Nat.le_refl _)); replace O1 := hide (by first | exact O1.out.below b | exact (O1.out.alloc _).below b | exact ((O1.out.alloc _).alloc _).below b | exact (((O1.out.alloc _).alloc _).alloc _).below b : BO _ _ w3 _ _); replace O2 := hide (by first | exact O2.out.below b | exact (O2.out.alloc _).below b | exact ((O2.out.alloc _).alloc _).below b | exact (((O2.out.alloc _).alloc _).alloc _).below b : BO _ _ w3 _ _); have k0 := L3.out.x1.at (i := 0) rfl; have k1 := L3.out.x1.at (i := 1) rfl; have k2 := L3.out.x1.at (i := 2) rfl; have r0 := L3.out.x2.at (i := 0) rfl; have rf0 := L3.out.x2.frozen 0; have r1 := L3.out.x2.at (i := 1) rfl; have rf1 := L3.out.x2.frozen 1; have r2 := L3.out.x2.at (i := 2) rfl; have rf2 := L3.out.x2.frozen 2; clear b))
  all_goals
    go_wp2
    refine bodyPost_ret (by simp [results, Tryd.results39, go_sem, r0, r1, r2]; rfl) rfl ?_
    have o := (((Only.refl w.heap.size W.heap.size w3).setCell (p := ⟨w.heap.size + 1, 0, none⟩) (by simp) (by simp; omega) (.slice B0 C.up.length d0)).setCell (p := ⟨w.heap.size + 1, 1, none⟩) (by simp) (by simp; omega) (.slice B1 C.dn.length d1)).setCell (p := ⟨w.heap.size + 1, 2, none⟩) (by simp) (by simp; omega) (.slice B2 C.car.length d2)
    exact GivesS.of (owns_only OW.out o (by omega)) (O1.out.only o (.inr (Nat.le_refl _))) (O2.out.only o (.inr (by omega))) (O3.out.only o (.inr (by omega))) (by omega) (by omega) (by simp; omega) (Only.then L3.out.bw o (Nat.le_refl _) (by omega))
theorem l8Copy_any (A0 A1 A2 : Option Addr) (c0 c1 c2 : Nat) (C : Cl) (w : World) (h : CR w A0 A1 A2 C) (hl : (1 ≤ C.up.length ∧ C.up.length ≤ 8) ∧ (1 ≤ C.dn.length ∧ C.dn.length ≤ 8) ∧ (1 ≤ C.car.length ∧ C.car.length ≤ 8)) :
    Calls Tryd.prog 39 #[.agg #[.slice A0 C.up.length c0, .slice A1 C.dn.length c1, .slice A2 C.car.length c2]] w (GivesC C w) := (l8Copy_s A0 A1 A2 c0 c1 c2 C w h hl).mono fun _ _ h => h.weak
end Go.Proofs.YtmekhjaeclgonaaDoor
