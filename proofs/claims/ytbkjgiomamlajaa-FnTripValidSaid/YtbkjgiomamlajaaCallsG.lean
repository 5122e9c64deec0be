/- CallSet. -/
import Derived.Test.YtbkjgiomamlajaaCallsF
namespace Go.Proofs.Ytbkjgiomamlajaa
open Go.RowKit

/-- A call put or taken. -/
def putC (C : Cl) (k : Int) (f : Nat) (t : Bool) : Cl := if k = 0 then ⟨C.up.set f t, C.dn, C.car⟩ else if k = 1 then ⟨C.up, C.dn.set f t, C.car⟩ else ⟨C.up, C.dn, C.car.set f t⟩
/-- CallSet. -/
noncomputable def setC (C : Cl) (k f : Int) (t : Bool) : Cl × Bool :=
  if callsB C then (if (0 ≤ k ∧ k ≤ 2) ∧ (0 ≤ f ∧ f < C.car.length) then (if callsB (putC C k f.toNat t) then (putC C k f.toNat t, true) else (C, false)) else (C, false)) else (⟨[], [], []⟩, false)
theorem setC_zero {C : Cl} {k f : Int} {t : Bool} (h : callsB C = false) : setC C k f t = (⟨[], [], []⟩, false) := by unfold setC; rw [h]; rfl
theorem setC_out {C : Cl} {k f : Int} {t : Bool} (h : callsB C = true) (ho : ¬ ((0 ≤ k ∧ k ≤ 2) ∧ (0 ≤ f ∧ f < C.car.length))) : setC C k f t = (C, false) := by unfold setC; rw [h, if_neg ho]; rfl
theorem setC_bad {C : Cl} {k f : Int} {t : Bool} (h : callsB C = true) (ho : (0 ≤ k ∧ k ≤ 2) ∧ (0 ≤ f ∧ f < C.car.length)) (hb : callsB (putC C k f.toNat t) = false) : setC C k f t = (C, false) := by unfold setC; rw [h, if_pos ho, hb]; rfl
theorem setC_good {C : Cl} {k f : Int} {t : Bool} (h : callsB C = true) (ho : (0 ≤ k ∧ k ≤ 2) ∧ (0 ≤ f ∧ f < C.car.length)) (hb : callsB (putC C k f.toNat t) = true) : setC C k f t = (putC C k f.toNat t, true) := by unfold setC; rw [h, if_pos ho, hb]; rfl
theorem setC_len (C : Cl) (k f : Int) (t : Bool) : (setC C k f t).1.up.length ≤ 8 ∧ (setC C k f t).1.dn.length ≤ 8 ∧ (setC C k f t).1.car.length ≤ 8 := by
  cases h : callsB C
  · rw [setC_zero h]; simp
  · have hv := callsB_iff.1 h
    have hv' := hv
    obtain ⟨h1, h2, h3, h4, -, -⟩ := hv
    unfold setC; rw [h]; simp only [if_true]
    split
    · split
      · unfold putC; split
        · simp; omega
        · split <;> simp <;> omega
      · show C.up.length ≤ 8 ∧ C.dn.length ≤ 8 ∧ C.car.length ≤ 8; omega
    · show C.up.length ≤ 8 ∧ C.dn.length ≤ 8 ∧ C.car.length ≤ 8; omega
theorem only3 {lo hi g : Nat} (w : World) (a b c : Value) (h1 : lo ≤ g) (h2 : g < hi) : Only lo hi w (((w.setCell ⟨g, 0, none⟩ a).setCell ⟨g, 1, none⟩ b).setCell ⟨g, 2, none⟩ c) :=
  (((Only.refl lo hi w).setCell (p := ⟨g, 0, none⟩) h1 h2 a).setCell (p := ⟨g, 1, none⟩) h1 h2 b).setCell (p := ⟨g, 2, none⟩) h1 h2 c
theorem GivesCB.of {w w1 w' : World} {A0 A1 A2 : Option Addr} {c0 c1 c2 lo hi : Nat} {D : Cl} {x : Bool} (O : CO lo hi w1 A0 A1 A2 D) (B : Below w.heap.size w w1) (o : Only (w.heap.size + 1) (w.heap.size + 1 + 1) w1 w') (hl : w.heap.size + 1 + 1 ≤ lo) (hh : hi ≤ w1.heap.size) :
    GivesCB D x w (.returned (.tuple #[.agg #[.slice A0 D.up.length c0, .slice A1 D.dn.length c1, .slice A2 D.car.length c2], .bool x])) w' :=
  ⟨A0, A1, A2, c0, c1, c2, rfl, (O.only o (.inr hl)).mono (by omega) (Nat.le_trans hh o.size), Only.then B o (by omega) B.size⟩
theorem GivesC.of1 {w w1 w' : World} {A0 A1 A2 : Option Addr} {c0 c1 c2 lo hi : Nat} {D : Cl} (O : CO lo hi w1 A0 A1 A2 D) (B : Below w.heap.size w w1) (o : Only (w.heap.size + 1) (w.heap.size + 1 + 1) w1 w') (hl : w.heap.size + 1 + 1 ≤ lo) (hh : hi ≤ w1.heap.size) :
    GivesC D w (.returned (.agg #[.slice A0 D.up.length c0, .slice A1 D.dn.length c1, .slice A2 D.car.length c2])) w' :=
  ⟨A0, A1, A2, c0, c1, c2, rfl, (O.only o (.inr hl)).mono (by omega) (Nat.le_trans hh o.size), Only.then B o (by omega) B.size⟩

theorem GivesCB.of' {w w1 w' : World} {A0 A1 A2 : Option Addr} {c0 c1 c2 n0 n1 n2 lo hi : Nat} {D : Cl} {x : Bool} (e0 : n0 = D.up.length) (e1 : n1 = D.dn.length) (e2 : n2 = D.car.length) (O : CO lo hi w1 A0 A1 A2 D) (B : Below w.heap.size w w1) (o : Only (w.heap.size + 1) (w.heap.size + 1 + 1) w1 w') (hl : w.heap.size + 1 + 1 ≤ lo) (hh : hi ≤ w1.heap.size) :
    GivesCB D x w (.returned (.tuple #[.agg #[.slice A0 n0 c0, .slice A1 n1 c1, .slice A2 n2 c2], .bool x])) w' := by
  subst e0; subst e1; subst e2; exact GivesCB.of O B o hl hh
theorem GivesSB.of {w w1 w' : World} {A0 A1 A2 : Option Addr} {c0 c1 c2 lo hi : Nat} {D : Cl} {x : Bool} (ow : w1.ownsRow lo 4 1 (.slice A2 D.car.length c2) D.car.length (bls D.car)) (O : CO lo hi w1 A0 A1 A2 D) (B : Below w.heap.size w w1) (o : Only (w.heap.size + 1) (w.heap.size + 1 + 1) w1 w') (hl : w.heap.size + 1 + 1 ≤ lo) (hh : hi ≤ w1.heap.size) :
    GivesSB D x w (.returned (.tuple #[.agg #[.slice A0 D.up.length c0, .slice A1 D.dn.length c1, .slice A2 D.car.length c2], .bool x])) w' :=
  ⟨A0, A1, A2, c0, c1, c2, rfl, (O.only o (.inr hl)).mono (by omega) (Nat.le_trans hh o.size), Only.then B o (by omega) B.size, owns_mono (owns_only ow o hl) (by omega)⟩
theorem GivesSB.of' {w w1 w' : World} {A0 A1 A2 : Option Addr} {c0 c1 c2 n0 n1 n2 lo hi : Nat} {D : Cl} {x : Bool} (e0 : n0 = D.up.length) (e1 : n1 = D.dn.length) (e2 : n2 = D.car.length) (ow : w1.ownsRow lo 4 1 (.slice A2 n2 c2) D.car.length (bls D.car)) (O : CO lo hi w1 A0 A1 A2 D) (B : Below w.heap.size w w1) (o : Only (w.heap.size + 1) (w.heap.size + 1 + 1) w1 w') (hl : w.heap.size + 1 + 1 ≤ lo) (hh : hi ≤ w1.heap.size) :
    GivesSB D x w (.returned (.tuple #[.agg #[.slice A0 n0 c0, .slice A1 n1 c1, .slice A2 n2 c2], .bool x])) w' := by
  subst e0; subst e1; subst e2; exact GivesSB.of ow O B o hl hh
theorem owns_far {w : World} {lo b off k m c : Nat} {A : Option Addr} {xs : List Bool} {u : Value} (h : w.ownsRow lo 4 1 (.slice A xs.length c) xs.length (bls xs)) (hp : Ap (some ⟨b, off, none⟩) m A xs.length) (hm : m ≠ 0) : (w.setCell ⟨b, off + k, none⟩ u).ownsRow lo 4 1 (.slice A xs.length c) xs.length (bls xs) := by
  refine ⟨h.1, ?_⟩
  rcases h.2 with h2 | ⟨g, cap, cur, hv, hb, hh, hnc, r⟩
  · exact .inl h2
  · by_cases hn : xs.length = 0
    · by_cases hg : g = b
      · subst hg
        refine .inr ⟨g, cap, cur.setIfInBounds (off + k) u, hv, hb, ?_, hnc, r.1, by simpa using r.2.1, ?_⟩
        · exact heap_setCell_same w g (off + k) cur _ u hh
        · rw [hn]; simp [List.eq_nil_of_length_eq_zero hn, bls]
      · exact .inr ⟨g, cap, cur, hv, hb, (Below.heap_setCell w _ u g hg).trans hh, hnc, r⟩
    · refine .inr ⟨g, cap, cur, hv, hb, (Below.heap_setCell w _ u g ?_).trans hh, hnc, r⟩
      injection hv with hv
      rcases hp with hp | hp | hp
      · exact absurd hp hm
      · exact absurd hp hn
      · exact (hp _ _ rfl hv).symm
theorem owns_set {w : World} {lo b off k c : Nat} {xs : List Bool} (h : w.ownsRow lo 4 1 (.slice (some ⟨b, off, none⟩) xs.length c) xs.length (bls xs)) (hk : k < xs.length) (x : Bool) : (w.setCell ⟨b, off + k, none⟩ (.bool x)).ownsRow lo 4 1 (.slice (some ⟨b, off, none⟩) xs.length c) (xs.set k x).length (bls (xs.set k x)) := by
  obtain ⟨g, cap, e, -, -⟩ := h.form (by omega)
  injection e with e e2 e3; injection e with e; injection e with e4 e5; subst e4; subst e5
  rw [Nat.zero_add, List.length_set, ← bls_set]
  exact (h.stored k (.bool x)).1
theorem put0 (C : Cl) (f : Nat) (t : Bool) : putC C 0 f t = ⟨C.up.set f t, C.dn, C.car⟩ := rfl
theorem put1 (C : Cl) (f : Nat) (t : Bool) : putC C 1 f t = ⟨C.up, C.dn.set f t, C.car⟩ := rfl
theorem put2 (C : Cl) (f : Nat) (t : Bool) : putC C 2 f t = ⟨C.up, C.dn, C.car.set f t⟩ := rfl
theorem put_up (C : Cl) (k : Int) (f : Nat) (t : Bool) : C.up.length = (putC C k f t).up.length := by unfold putC; split <;> (try split) <;> simp
theorem put_dn (C : Cl) (k : Int) (f : Nat) (t : Bool) : C.dn.length = (putC C k f t).dn.length := by unfold putC; split <;> (try split) <;> simp
theorem put_car (C : Cl) (k : Int) (f : Nat) (t : Bool) : C.car.length = (putC C k f t).car.length := by unfold putC; split <;> (try split) <;> simp
theorem implCallsValid_at (A0 A1 A2 : Option Addr) (c0 c1 c2 : Nat) {n0 n1 n2 : Nat} (D : Cl) (e0 : n0 = D.up.length) (e1 : n1 = D.dn.length) (e2 : n2 = D.car.length) (w : World) (h : CR w A0 A1 A2 D) :
    Calls Try.prog 36 #[.agg #[.slice A0 n0 c0, .slice A1 n1 c1, .slice A2 n2 c2]] w fun e w' => e = .returned (.bool (callsB D)) ∧ Below w.heap.size w w' := by
  subst e0; subst e1; subst e2; exact implCallsValid A0 A1 A2 c0 c1 c2 D w h
theorem specCallsValid_at (A0 A1 A2 : Option Addr) (c0 c1 c2 : Nat) {n0 n1 n2 : Nat} (D : Cl) (e0 : n0 = D.up.length) (e1 : n1 = D.dn.length) (e2 : n2 = D.car.length) (w : World) (h : CR w A0 A1 A2 D) :
    Calls Try.prog 83 #[.agg #[.slice A0 n0 c0, .slice A1 n1 c1, .slice A2 n2 c2]] w fun e w' => e = .returned (.bool (callsB D)) ∧ Below w.heap.size w w' := by
  subst e0; subst e1; subst e2; exact specCallsValid A0 A1 A2 c0 c1 c2 D w h
end Go.Proofs.Ytbkjgiomamlajaa
