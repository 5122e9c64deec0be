/- CallSet. -/
import Derived.Test.YtmekhjaeclgonaaDoorCallsF
namespace Go.Proofs.YtmekhjaeclgonaaDoor
open Go.RowKit

/-- A call put or taken. -/
def putC (C : Cl) (k : Int) (f : Nat) (t : Bool) : Cl := if k = 0 then ⟨C.up.set f t, C.dn, C.car⟩ else if k = 1 then ⟨C.up, C.dn.set f t, C.car⟩ else ⟨C.up, C.dn, C.car.set f t⟩
/-- CallSet. -/
noncomputable def setC (C : Cl) (k f : Int) (t : Bool) : Cl × Bool :=
  if callsB C then (if (0 ≤ k ∧ k ≤ 2) ∧ (0 ≤ f ∧ f < C.car.length) then (if callsB (putC C k f.toNat t) then (putC C k f.toNat t, true) else (C, false)) else (C, false)) else (⟨[], [], []⟩, false)
theorem setC_zero {C : Cl} {k f : Int} {t : Bool} (h : callsB C = false) : setC C k f t = (⟨[], [], []⟩, false) := by unfold setC; rw [h]; rfl
theorem setC_out {C : Cl} {k f : Int} {t : Bool} (h : callsB C = true) (ho : ¬ ((0 ≤ k ∧ k ≤ 2) ∧ (0 ≤ f ∧ f < C.car.length))) : setC C k f t = (C, false) := by unfold setC; rw [h, if_neg ho]; rfl
theorem setC_bad {C : Cl} {k f : Int} {t : Bool} (h : callsB C = true) (ho : (0 ≤ k ∧ k ≤ 2) ∧ (0 ≤ f ∧ f < C.car.length)) (hb : callsB (putC C k f.toNat t) = false) : setC C k f t = (C, false) := by unfold setC; rw [h, if_pos ho, hb]; rfl
theorem setC_good {C : Cl} {k f : Int} {t : Bool} (h : callsB C = true) (ho : (0 ≤ k ∧ k ≤ 2) ∧ (0 ≤ f ∧ f < C.car.length)) (hb : callsB (putC C k f.toNat t) = true) : setC C k f t = (putC C k f.toNat t, true) := by unfold setC; rw [h, if_pos ho, hb]; rfl
theorem setC_len (C : Cl) (k f : Int) (t : Bool) : (setC C k f t).1.up.length ≤ 8 ∧ (setC C k f t).1.dn.length ≤ 8 ∧ (setC C k f t).1.car.length ≤ 8 := by
  cases h : callsB C
  · rw [setC_zero h]; simp
  · have hv := callsB_iff.1 h
    have hv' := hv
    obtain ⟨h1, h2, h3, h4, -, -⟩ := hv
    unfold setC; rw [h]; simp only [if_true]
    split
    · split
      · unfold putC; split
        · simp; omega
        · split <;> simp <;> omega
      · show C.up.length ≤ 8 ∧ C.dn.length ≤ 8 ∧ C.car.length ≤ 8; omega
    · show C.up.length ≤ 8 ∧ C.dn.length ≤ 8 ∧ C.car.length ≤ 8; omega
theorem only3 {lo hi g : Nat} (w : World) (a b c : Value) (h1 : lo ≤ g) (h2 : g < hi) : Only lo hi w (((w.setCell ⟨g, 0, none⟩ a).setCell ⟨g, 1, none⟩ b).setCell ⟨g, 2, none⟩ c) :=
  (((Only.refl lo hi w).setCell (p := ⟨g, 0, none⟩) h1 h2 a).setCell (p := ⟨g, 1, none⟩) h1 h2 b).setCell (p := ⟨g, 2, none⟩) h1 h2 c
theorem GivesCB.of {w w1 w' : World} {A0 A1 A2 : Option Addr} {c0 c1 c2 lo hi : Nat} {D : Cl} {x : Bool} (O : CO lo hi w1 A0 A1 A2 D) (B : Below w.heap.size w w1) (o : Only (w.heap.size + 1) (w.heap.size + 1 + 1) w1 w') (hl : w.heap.size + 1 + 1 ≤ lo) (hh : hi ≤ w1.heap.size) :
    GivesCB D x w (.returned (.tuple #[.agg #[.slice A0 D.up.length c0, .slice A1 D.dn.length c1, .slice A2 D.car.length c2], .bool x])) w' :=
  ⟨A0, A1, A2, c0, c1, c2, rfl, (O.only o (.inr hl)).mono (by omega) (Nat.le_trans hh o.size), Only.then B o (by omega) B.size⟩
theorem GivesC.of1 {w w1 w' : World} {A0 A1 A2 : Option Addr} {c0 c1 c2 lo hi : Nat} {D : Cl} (O : CO lo hi w1 A0 A1 A2 D) (B : Below w.heap.size w w1) (o : Only (w.heap.size + 1) (w.heap.size + 1 + 1) w1 w') (hl : w.heap.size + 1 + 1 ≤ lo) (hh : hi ≤ w1.heap.size) :
    GivesC D w (.returned (.agg #[.slice A0 D.up.length c0, .slice A1 D.dn.length c1, .slice A2 D.car.length c2])) w' :=
  ⟨A0, A1, A2, c0, c1, c2, rfl, (O.only o (.inr hl)).mono (by omega) (Nat.le_trans hh o.size), Only.then B o (by omega) B.size⟩

theorem GivesCB.of' {w w1 w' : World} {A0 A1 A2 : Option Addr} {c0 c1 c2 n0 n1 n2 lo hi : Nat} {D : Cl} {x : Bool} (e0 : n0 = D.up.length) (e1 : n1 = D.dn.length) (e2 : n2 = D.car.length) (O : CO lo hi w1 A0 A1 A2 D) (B : Below w.heap.size w w1) (o : Only (w.heap.size + 1) (w.heap.size + 1 + 1) w1 w') (hl : w.heap.size + 1 + 1 ≤ lo) (hh : hi ≤ w1.heap.size) :
    GivesCB D x w (.returned (.tuple #[.agg #[.slice A0 n0 c0, .slice A1 n1 c1, .slice A2 n2 c2], .bool x])) w' := by
  subst e0; subst e1; subst e2; exact GivesCB.of O B o hl hh
theorem GivesSB.of {w w1 w' : World} {A0 A1 A2 : Option Addr} {c0 c1 c2 lo hi : Nat} {D : Cl} {x : Bool} (ow : w1.ownsRow lo 4 1 (.slice A2 D.car.length c2) D.car.length (bls D.car)) (O : CO lo hi w1 A0 A1 A2 D) (B : Below w.heap.size w w1) (o : Only (w.heap.size + 1) (w.heap.size + 1 + 1) w1 w') (hl : w.heap.size + 1 + 1 ≤ lo) (hh : hi ≤ w1.heap.size) :
    GivesSB D x w (.returned (.tuple #[.agg #[.slice A0 D.up.length c0, .slice A1 D.dn.length c1, .slice A2 D.car.length c2], .bool x])) w' :=
  ⟨A0, A1, A2, c0, c1, c2, rfl, (O.only o (.inr hl)).mono (by omega) (Nat.le_trans hh o.size), Only.then B o (by omega) B.size, owns_mono (owns_only ow o hl) (by omega)⟩
theorem GivesSB.of' {w w1 w' : World} {A0 A1 A2 : Option Addr} {c0 c1 c2 n0 n1 n2 lo hi : Nat} {D : Cl} {x : Bool} (e0 : n0 = D.up.length) (e1 : n1 = D.dn.length) (e2 : n2 = D.car.length) (ow : w1.ownsRow lo 4 1 (.slice A2 n2 c2) D.car.length (bls D.car)) (O : CO lo hi w1 A0 A1 A2 D) (B : Below w.heap.size w w1) (o : Only (w.heap.size + 1) (w.heap.size + 1 + 1) w1 w') (hl : w.heap.size + 1 + 1 ≤ lo) (hh : hi ≤ w1.heap.size) :
    GivesSB D x w (.returned (.tuple #[.agg #[.slice A0 n0 c0, .slice A1 n1 c1, .slice A2 n2 c2], .bool x])) w' := by
  subst e0; subst e1; subst e2; exact GivesSB.of ow O B o hl hh
theorem owns_far {w : World} {lo b off k m c : Nat} {A : Option Addr} {xs : List Bool} {u : Value} (h : w.ownsRow lo 4 1 (.slice A xs.length c) xs.length (bls xs)) (hp : Ap (some ⟨b, off, none⟩) m A xs.length) (hm : m ≠ 0) : (w.setCell ⟨b, off + k, none⟩ u).ownsRow lo 4 1 (.slice A xs.length c) xs.length (bls xs) := by
  refine ⟨h.1, ?_⟩
  rcases h.2 with h2 | ⟨g, cap, cur, hv, hb, hh, hnc, r⟩
  · exact .inl h2
  · by_cases hn : xs.length = 0
    · by_cases hg : g = b
      · subst hg
        refine .inr ⟨g, cap, cur.setIfInBounds (off + k) u, hv, hb, ?_, hnc, r.1, by simpa using r.2.1, ?_⟩
        · exact heap_setCell_same w g (off + k) cur _ u hh
        · rw [hn]; simp [List.eq_nil_of_length_eq_zero hn, bls]
      · exact .inr ⟨g, cap, cur, hv, hb, (Below.heap_setCell w _ u g hg).trans hh, hnc, r⟩
    · refine .inr ⟨g, cap, cur, hv, hb, (Below.heap_setCell w _ u g ?_).trans hh, hnc, r⟩
      injection hv with hv
      rcases hp with hp | hp | hp
      · exact absurd hp hm
      · exact absurd hp hn
      · exact (hp _ _ rfl hv).symm
theorem owns_set {w : World} {lo b off k c : Nat} {xs : List Bool} (h : w.ownsRow lo 4 1 (.slice (some ⟨b, off, none⟩) xs.length c) xs.length (bls xs)) (hk : k < xs.length) (x : Bool) : (w.setCell ⟨b, off + k, none⟩ (.bool x)).ownsRow lo 4 1 (.slice (some ⟨b, off, none⟩) xs.length c) (xs.set k x).length (bls (xs.set k x)) := by
  obtain ⟨g, cap, e, -, -⟩ := h.form (by omega)
  injection e with e e2 e3; injection e with e; injection e with e4 e5; subst e4; subst e5
  rw [Nat.zero_add, List.length_set, ← bls_set]
  exact (h.stored k (.bool x)).1
theorem put0 (C : Cl) (f : Nat) (t : Bool) : putC C 0 f t = ⟨C.up.set f t, C.dn, C.car⟩ := rfl
theorem put1 (C : Cl) (f : Nat) (t : Bool) : putC C 1 f t = ⟨C.up, C.dn.set f t, C.car⟩ := rfl
theorem put2 (C : Cl) (f : Nat) (t : Bool) : putC C 2 f t = ⟨C.up, C.dn, C.car.set f t⟩ := rfl
theorem put_up (C : Cl) (k : Int) (f : Nat) (t : Bool) : C.up.length = (putC C k f t).up.length := by unfold putC; split <;> (try split) <;> simp
theorem put_dn (C : Cl) (k : Int) (f : Nat) (t : Bool) : C.dn.length = (putC C k f t).dn.length := by unfold putC; split <;> (try split) <;> simp
theorem put_car (C : Cl) (k : Int) (f : Nat) (t : Bool) : C.car.length = (putC C k f t).car.length := by unfold putC; split <;> (try split) <;> simp
theorem implCallsValid_at (A0 A1 A2 : Option Addr) (c0 c1 c2 : Nat) {n0 n1 n2 : Nat} (D : Cl) (e0 : n0 = D.up.length) (e1 : n1 = D.dn.length) (e2 : n2 = D.car.length) (w : World) (h : CR w A0 A1 A2 D) :
    Calls Tryd.prog 11 #[.agg #[.slice A0 n0 c0, .slice A1 n1 c1, .slice A2 n2 c2]] w fun e w' => e = .returned (.bool (callsB D)) ∧ Below w.heap.size w w' := by
  subst e0; subst e1; subst e2; exact implCallsValid A0 A1 A2 c0 c1 c2 D w h
theorem specCallsValid_at (A0 A1 A2 : Option Addr) (c0 c1 c2 : Nat) {n0 n1 n2 : Nat} (D : Cl) (e0 : n0 = D.up.length) (e1 : n1 = D.dn.length) (e2 : n2 = D.car.length) (w : World) (h : CR w A0 A1 A2 D) :
    Calls Tryd.prog 25 #[.agg #[.slice A0 n0 c0, .slice A1 n1 c1, .slice A2 n2 c2]] w fun e w' => e = .returned (.bool (callsB D)) ∧ Below w.heap.size w w' := by
  subst e0; subst e1; subst e2; exact specCallsValid A0 A1 A2 c0 c1 c2 D w h
set_option maxHeartbeats 4000000 in
theorem specCallSetS (A0 A1 A2 : Option Addr) (c0 c1 c2 : Nat) (C : Cl) (kd fl : Int) (t : Bool) (w : World) (h : CR w A0 A1 A2 C) :
    Calls Tryd.prog 34 #[.agg #[.slice A0 C.up.length c0, .slice A1 C.dn.length c1, .slice A2 C.car.length c2], .int .i64 kd, .int .i64 fl, .bool t] w (GivesSB (setC C kd fl t).1 (setC C kd fl t).2 w) := by
  have H := hide h; clear h
  go_enter Tryd.func34, Tryd.ntmps34
  go_wp2_with fail
  refine calls_name fun W hW => ?_
  have X1 : Hid (Box W w.heap.size #[.slice A0 C.up.length c0, .slice A1 C.dn.length c1, .slice A2 C.car.length c2]) := by rw [hW]; exact (Box.new rfl).alloc _
  have X2 : Hid (Box W (w.heap.size + 1) #[.slice none 0 0, .slice none 0 0, .slice none 0 0]) := by rw [hW]; exact Box.new (by simp)
  have BW : Hid (Below w.heap.size w W) := by rw [hW]; exact ((Below.refl _ _).alloc (Nat.le_refl _) _).alloc (by simp) _
  have z0 : w.heap.size + 1 + 1 ≤ W.heap.size := by rw [hW]; simp
  clear hW
  refine (specCallsValid A0 A1 A2 c0 c1 c2 C _ (H.out.below BW.out)).mono ?_
  rintro e w1 ⟨rfl, b⟩
  have z1 := b.size
  replace X1 := hide (X1.out.below b)
  replace X2 := hide (X2.out.below b)
  replace BW := hide (bthen BW.out b)
  clear b
  cases hv : callsB C
  · have HE := hide (setC_zero (k := kd) (f := fl) (t := t) hv)
    have X2_lt := X2.out.lt
    have X2_c0 := X2.out.at (i := 0) rfl; have X2_f0 := X2.out.frozen 0
    have X2_c1 := X2.out.at (i := 1) rfl; have X2_f1 := X2.out.frozen 1
    have X2_c2 := X2.out.at (i := 2) rfl; have X2_f2 := X2.out.frozen 2
    go_wp2_with fail
    refine bodyPost_ret (by simp [results, Tryd.results34, go_sem, X2_c0, X2_c1, X2_c2]; rfl) rfl ?_
    rw [HE.out]
    exact GivesSB.of (World.ownsRow_nil _ (w.heap.size + 1 + 1) _ _) (CO.zero (w.heap.size + 1 + 1) w1.heap.size _ _ _ _) BW.out (only3 _ _ _ _ (Nat.le_refl _) (Nat.lt_succ_self _)) (Nat.le_refl _) (Nat.le_refl _)
  have HV := hide hv
  have hlen : (1 ≤ C.up.length ∧ C.up.length ≤ 8) ∧ (1 ≤ C.dn.length ∧ C.dn.length ≤ 8) ∧ (1 ≤ C.car.length ∧ C.car.length ≤ 8) ∧ C.up.length = C.car.length ∧ C.dn.length = C.car.length := by
    obtain ⟨h1, h2, h3, h4, -, -⟩ := callsB_iff.1 hv; omega
  have HL := hide hlen
  obtain ⟨⟨l0, m0⟩, ⟨l1, m1⟩, ⟨l2, m2⟩, -, -⟩ := hlen
  clear hv
  have X1_lt := X1.out.lt
  have X1_c0 := X1.out.at (i := 0) rfl; have X1_f0 := X1.out.frozen 0
  have X1_c1 := X1.out.at (i := 1) rfl; have X1_f1 := X1.out.frozen 1
  have X1_c2 := X1.out.at (i := 2) rfl; have X1_f2 := X1.out.frozen 2
  go_wp2_with fail
  clear X1_lt X1_c0 X1_f0 X1_c1 X1_f1 X1_c2 X1_f2
  refine (l8Copy_s A0 A1 A2 c0 c1 c2 C _ (H.out.below BW.out) (by have := HL.out; omega)).mono ?_
  rintro e w2 ⟨Q0, Q1, Q2, q0, q1, q2, rfl, Q, b, ow⟩
  have z2 := b.size
  replace X1 := hide (X1.out.below b)
  replace X2 := hide (X2.out.below b)
  replace BW := hide (bthen BW.out b); replace Q := hide Q; have OW := hide ow
  clear b ow
  by_cases ho : (0 ≤ kd ∧ kd ≤ 2) ∧ (0 ≤ fl ∧ fl < C.car.length)
  rotate_left
  · have HE := hide (setC_out (t := t) HV.out ho)
    have fin : ∀ w3 w4 : World, Hid (w3.ownsRow w1.heap.size 4 1 (.slice Q2 C.car.length q2) C.car.length (bls C.car)) → Hid (CO w1.heap.size w2.heap.size w3 Q0 Q1 Q2 C) → Hid (Below w.heap.size w w3) → w2.heap.size ≤ w3.heap.size → Only (w.heap.size + 1) (w.heap.size + 1 + 1) w3 w4 → GivesSB (setC C kd fl t).1 (setC C kd fl t).2 w (.returned (.tuple #[.agg #[.slice Q0 C.up.length q0, .slice Q1 C.dn.length q1, .slice Q2 C.car.length q2], .bool false])) w4 := fun w3 w4 ow q b s o => by
      rw [HE.out]; exact GivesSB.of ow.out q.out b.out o (by omega) s
    have FIN := hide fin
    clear fin
    have X1_lt := X1.out.lt
    have X1_c0 := X1.out.at (i := 0) rfl; have X1_f0 := X1.out.frozen 0
    have X1_c1 := X1.out.at (i := 1) rfl; have X1_f1 := X1.out.frozen 1
    have X1_c2 := X1.out.at (i := 2) rfl; have X1_f2 := X1.out.frozen 2
    have X2_lt := X2.out.lt
    have X2_c0 := X2.out.at (i := 0) rfl; have X2_f0 := X2.out.frozen 0
    have X2_c1 := X2.out.at (i := 1) rfl; have X2_f1 := X2.out.frozen 1
    have X2_c2 := X2.out.at (i := 2) rfl; have X2_f2 := X2.out.frozen 2
    by_cases hf : 0 ≤ fl ∧ fl < C.car.length
    · have hb : inB fl 0 ((C.car.length : Int) - 1) = true := inB_t (by omega)
      have k0 : (kd == 0) = false := by simp; omega
      have k1 : (kd == 1) = false := by simp; omega
      have k2 : (kd == 2) = false := by simp; omega
      go_wp2_with (go_at_call 37; refine (l1In_any _ _ _ _).mono ?_; rintro e w' ⟨rfl, rfl⟩)
      refine bodyPost_ret (by simp [results, Tryd.results34, go_sem, X2_c0, X2_c1, X2_c2, X2_lt]; rfl) rfl ?_
      exact FIN.out w2 _ OW Q BW (Nat.le_refl _) ((only3 w2 _ _ _ (Nat.le_refl _) (Nat.lt_succ_self _)).alloc _)
    · have hb : inB fl 0 ((C.car.length : Int) - 1) = false := inB_n (by omega)
      go_wp2_with (go_at_call 37; refine (l1In_any _ _ _ _).mono ?_; rintro e w' ⟨rfl, rfl⟩)
      refine bodyPost_ret (by simp [results, Tryd.results34, go_sem, X2_c0, X2_c1, X2_c2, X2_lt]; rfl) rfl ?_
      exact FIN.out w2 _ OW Q BW (Nat.le_refl _) ((only3 w2 _ _ _ (Nat.le_refl _) (Nat.lt_succ_self _)).alloc _)
  have HO := hide ho
  obtain ⟨⟨hk1, hk2⟩, hf1, hf2⟩ := ho
  obtain ⟨fk, rfl⟩ := Int.eq_ofNat_of_zero_le hf1
  have hb : inB (fk : Int) 0 ((C.car.length : Int) - 1) = true := inB_t (by omega)
  have hkd : kd = 0 ∨ kd = 1 ∨ kd = 2 := by omega
  rcases hkd with rfl | rfl | rfl
  · obtain ⟨b5, o5, x5, rfl, g5, hx5, c5, f5⟩ := Q.out.up.at (k := fk) (by have := HL.out; omega)
    have u5 : fk < C.up.length := by have := HL.out; omega
    obtain ⟨g51, g52, g53⟩ := g5
    have OW5 : Hid ((w2.setCell ⟨b5, o5 + fk, none⟩ (.bool t)).ownsRow w1.heap.size 4 1 (.slice Q2 C.car.length q2) (putC C 0 fk t).car.length (bls (putC C 0 fk t).car)) := owns_far OW.out (Q.out.uc) (by omega)
    have R5 : Hid (CO w1.heap.size w2.heap.size (w2.setCell ⟨b5, o5 + fk, none⟩ (.bool t)) (some ⟨b5, o5, none⟩) Q1 Q2 (putC C 0 fk t)) := Q.out.setUp u5 t
    have n5 : ¬ b5 = w2.heap.size := by omega
    clear Q OW
    have X1_lt := X1.out.lt
    have X1_c0 := X1.out.at (i := 0) rfl; have X1_f0 := X1.out.frozen 0
    have X1_c1 := X1.out.at (i := 1) rfl; have X1_f1 := X1.out.frozen 1
    have X1_c2 := X1.out.at (i := 2) rfl; have X1_f2 := X1.out.frozen 2
    go_wp2_with (go_at_call 37; refine (l1In_any _ _ _ _).mono ?_; rintro e w' ⟨rfl, rfl⟩)
    clear X1_lt X1_c0 X1_f0 X1_c1 X1_f1 X1_c2 X1_f2
    refine calls_name fun W5 hW => ?_
    have X5 := hide (Box.new' (g := w2.heap.size) hW (by simp [World.setCell]))
    have b : Below (w2.setCell ⟨b5, o5 + fk, none⟩ (.bool t)).heap.size (w2.setCell ⟨b5, o5 + fk, none⟩ (.bool t)) W5 := by rw [hW]; exact (Below.refl _ _).alloc (Nat.le_refl _) _
    have y5 := X5.out.lt
    replace X1 := hide ((X1.out.far (p := ⟨b5, o5 + fk, none⟩) (by simp; omega) (.bool t)).below b)
    replace X2 := hide ((X2.out.far (p := ⟨b5, o5 + fk, none⟩) (by simp; omega) (.bool t)).below b)
    replace R5 := hide (R5.out.below b)
    replace OW5 := hide (owns_below OW5.out b)
    replace BW := hide ((BW.out.setCell (p := ⟨b5, o5 + fk, none⟩) (by simp; omega) (.bool t)).trans (b.mono (by have := BW.out.size; simp [World.setCell]; omega)))
    clear b hW c5 f5 hx5
    refine (specCallsValid_at _ _ _ _ _ _ (putC C 0 fk t) (put_up C 0 fk t) (put_dn C 0 fk t) (put_car C 0 fk t) _ R5.out.cr).mono ?_
    rintro e w6 ⟨rfl, b⟩
    have z6 := b.size
    replace X1 := hide (X1.out.below b)
    replace X2 := hide (X2.out.below b)
    replace X5 := hide (X5.out.below b)
    replace R5 := hide (R5.out.below b)
    replace OW5 := hide (owns_below OW5.out b)
    replace BW := hide (bthen BW.out b)
    clear b
    cases hv : callsB (putC C 0 fk t)
    · have HE := hide (setC_bad HV.out HO.out hv)
      have X1_lt := X1.out.lt
      have X1_c0 := X1.out.at (i := 0) rfl; have X1_f0 := X1.out.frozen 0
      have X1_c1 := X1.out.at (i := 1) rfl; have X1_f1 := X1.out.frozen 1
      have X1_c2 := X1.out.at (i := 2) rfl; have X1_f2 := X1.out.frozen 2
      go_wp2_with fail
      clear X1_lt X1_c0 X1_f0 X1_c1 X1_f1 X1_c2 X1_f2
      refine (l8Copy_s A0 A1 A2 c0 c1 c2 C _ (H.out.below BW.out) (by have := HL.out; omega)).mono ?_
      rintro e w7 ⟨S0, S1, S2, s0, s1, s2, rfl, S, b, ow⟩
      have z7 := b.size
      replace X2 := hide (X2.out.below b)
      replace BW := hide (bthen BW.out b); replace S := hide S; have OS := hide ow
      clear b ow
      have X2_lt := X2.out.lt
      have X2_c0 := X2.out.at (i := 0) rfl; have X2_f0 := X2.out.frozen 0
      have X2_c1 := X2.out.at (i := 1) rfl; have X2_f1 := X2.out.frozen 1
      have X2_c2 := X2.out.at (i := 2) rfl; have X2_f2 := X2.out.frozen 2
      go_wp2_with fail
      refine bodyPost_ret (by simp [results, Tryd.results34, go_sem, X2_c0, X2_c1, X2_c2]; rfl) rfl ?_
      rw [HE.out]
      exact GivesSB.of OS.out S.out BW.out (only3 w7 _ _ _ (Nat.le_refl _) (Nat.lt_succ_self _)) (by omega) (by omega)
    · have HE := hide (setC_good HV.out HO.out hv)
      have X2_lt := X2.out.lt
      have X2_c0 := X2.out.at (i := 0) rfl; have X2_f0 := X2.out.frozen 0
      have X2_c1 := X2.out.at (i := 1) rfl; have X2_f1 := X2.out.frozen 1
      have X2_c2 := X2.out.at (i := 2) rfl; have X2_f2 := X2.out.frozen 2
      have X5_lt := X5.out.lt
      have X5_c0 := X5.out.at (i := 0) rfl; have X5_f0 := X5.out.frozen 0
      have X5_c1 := X5.out.at (i := 1) rfl; have X5_f1 := X5.out.frozen 1
      have X5_c2 := X5.out.at (i := 2) rfl; have X5_f2 := X5.out.frozen 2
      go_wp2_with fail
      refine bodyPost_ret (by simp [results, Tryd.results34, go_sem, X2_c0, X2_c1, X2_c2]; rfl) rfl ?_
      rw [HE.out]
      exact GivesSB.of' (put_up C 0 fk t) (put_dn C 0 fk t) (put_car C 0 fk t) OW5.out R5.out BW.out (only3 w6 _ _ _ (Nat.le_refl _) (Nat.lt_succ_self _)) (by omega) (by omega)
  · obtain ⟨b5, o5, x5, rfl, g5, hx5, c5, f5⟩ := Q.out.dn.at (k := fk) (by have := HL.out; omega)
    have u5 : fk < C.dn.length := by have := HL.out; omega
    obtain ⟨g51, g52, g53⟩ := g5
    have OW5 : Hid ((w2.setCell ⟨b5, o5 + fk, none⟩ (.bool t)).ownsRow w1.heap.size 4 1 (.slice Q2 C.car.length q2) (putC C 1 fk t).car.length (bls (putC C 1 fk t).car)) := owns_far OW.out (Q.out.dc) (by omega)
    have R5 : Hid (CO w1.heap.size w2.heap.size (w2.setCell ⟨b5, o5 + fk, none⟩ (.bool t)) Q0 (some ⟨b5, o5, none⟩) Q2 (putC C 1 fk t)) := Q.out.setDn u5 t
    have n5 : ¬ b5 = w2.heap.size := by omega
    clear Q OW
    have X1_lt := X1.out.lt
    have X1_c0 := X1.out.at (i := 0) rfl; have X1_f0 := X1.out.frozen 0
    have X1_c1 := X1.out.at (i := 1) rfl; have X1_f1 := X1.out.frozen 1
    have X1_c2 := X1.out.at (i := 2) rfl; have X1_f2 := X1.out.frozen 2
    go_wp2_with (go_at_call 37; refine (l1In_any _ _ _ _).mono ?_; rintro e w' ⟨rfl, rfl⟩)
    clear X1_lt X1_c0 X1_f0 X1_c1 X1_f1 X1_c2 X1_f2
    refine calls_name fun W5 hW => ?_
    have X5 := hide (Box.new' (g := w2.heap.size) hW (by simp [World.setCell]))
    have b : Below (w2.setCell ⟨b5, o5 + fk, none⟩ (.bool t)).heap.size (w2.setCell ⟨b5, o5 + fk, none⟩ (.bool t)) W5 := by rw [hW]; exact (Below.refl _ _).alloc (Nat.le_refl _) _
    have y5 := X5.out.lt
    replace X1 := hide ((X1.out.far (p := ⟨b5, o5 + fk, none⟩) (by simp; omega) (.bool t)).below b)
    replace X2 := hide ((X2.out.far (p := ⟨b5, o5 + fk, none⟩) (by simp; omega) (.bool t)).below b)
    replace R5 := hide (R5.out.below b)
    replace OW5 := hide (owns_below OW5.out b)
    replace BW := hide ((BW.out.setCell (p := ⟨b5, o5 + fk, none⟩) (by simp; omega) (.bool t)).trans (b.mono (by have := BW.out.size; simp [World.setCell]; omega)))
    clear b hW c5 f5 hx5
    refine (specCallsValid_at _ _ _ _ _ _ (putC C 1 fk t) (put_up C 1 fk t) (put_dn C 1 fk t) (put_car C 1 fk t) _ R5.out.cr).mono ?_
    rintro e w6 ⟨rfl, b⟩
    have z6 := b.size
    replace X1 := hide (X1.out.below b)
    replace X2 := hide (X2.out.below b)
    replace X5 := hide (X5.out.below b)
    replace R5 := hide (R5.out.below b)
    replace OW5 := hide (owns_below OW5.out b)
    replace BW := hide (bthen BW.out b)
    clear b
    cases hv : callsB (putC C 1 fk t)
    · have HE := hide (setC_bad HV.out HO.out hv)
      have X1_lt := X1.out.lt
      have X1_c0 := X1.out.at (i := 0) rfl; have X1_f0 := X1.out.frozen 0
      have X1_c1 := X1.out.at (i := 1) rfl; have X1_f1 := X1.out.frozen 1
      have X1_c2 := X1.out.at (i := 2) rfl; have X1_f2 := X1.out.frozen 2
      go_wp2_with fail
      clear X1_lt X1_c0 X1_f0 X1_c1 X1_f1 X1_c2 X1_f2
      refine (l8Copy_s A0 A1 A2 c0 c1 c2 C _ (H.out.below BW.out) (by have := HL.out; omega)).mono ?_
      rintro e w7 ⟨S0, S1, S2, s0, s1, s2, rfl, S, b, ow⟩
      have z7 := b.size
      replace X2 := hide (X2.out.below b)
      replace BW := hide (bthen BW.out b); replace S := hide S; have OS := hide ow
      clear b ow
      have X2_lt := X2.out.lt
      have X2_c0 := X2.out.at (i := 0) rfl; have X2_f0 := X2.out.frozen 0
      have X2_c1 := X2.out.at (i := 1) rfl; have X2_f1 := X2.out.frozen 1
      have X2_c2 := X2.out.at (i := 2) rfl; have X2_f2 := X2.out.frozen 2
      go_wp2_with fail
      refine bodyPost_ret (by simp [results, Tryd.results34, go_sem, X2_c0, X2_c1, X2_c2]; rfl) rfl ?_
      rw [HE.out]
      exact GivesSB.of OS.out S.out BW.out (only3 w7 _ _ _ (Nat.le_refl _) (Nat.lt_succ_self _)) (by omega) (by omega)
    · have HE := hide (setC_good HV.out HO.out hv)
      have X2_lt := X2.out.lt
      have X2_c0 := X2.out.at (i := 0) rfl; have X2_f0 := X2.out.frozen 0
      have X2_c1 := X2.out.at (i := 1) rfl; have X2_f1 := X2.out.frozen 1
      have X2_c2 := X2.out.at (i := 2) rfl; have X2_f2 := X2.out.frozen 2
      have X5_lt := X5.out.lt
      have X5_c0 := X5.out.at (i := 0) rfl; have X5_f0 := X5.out.frozen 0
      have X5_c1 := X5.out.at (i := 1) rfl; have X5_f1 := X5.out.frozen 1
      have X5_c2 := X5.out.at (i := 2) rfl; have X5_f2 := X5.out.frozen 2
      go_wp2_with fail
      refine bodyPost_ret (by simp [results, Tryd.results34, go_sem, X2_c0, X2_c1, X2_c2]; rfl) rfl ?_
      rw [HE.out]
      exact GivesSB.of' (put_up C 1 fk t) (put_dn C 1 fk t) (put_car C 1 fk t) OW5.out R5.out BW.out (only3 w6 _ _ _ (Nat.le_refl _) (Nat.lt_succ_self _)) (by omega) (by omega)
  · obtain ⟨b5, o5, x5, rfl, g5, hx5, c5, f5⟩ := Q.out.car.at (k := fk) (by have := HL.out; omega)
    have u5 : fk < C.car.length := by have := HL.out; omega
    obtain ⟨g51, g52, g53⟩ := g5
    have OW5 : Hid ((w2.setCell ⟨b5, o5 + fk, none⟩ (.bool t)).ownsRow w1.heap.size 4 1 (.slice (some ⟨b5, o5, none⟩) C.car.length q2) (putC C 2 fk t).car.length (bls (putC C 2 fk t).car)) := owns_set OW.out u5 t
    have R5 : Hid (CO w1.heap.size w2.heap.size (w2.setCell ⟨b5, o5 + fk, none⟩ (.bool t)) Q0 Q1 (some ⟨b5, o5, none⟩) (putC C 2 fk t)) := Q.out.setCar u5 t
    have n5 : ¬ b5 = w2.heap.size := by omega
    clear Q OW
    have X1_lt := X1.out.lt
    have X1_c0 := X1.out.at (i := 0) rfl; have X1_f0 := X1.out.frozen 0
    have X1_c1 := X1.out.at (i := 1) rfl; have X1_f1 := X1.out.frozen 1
    have X1_c2 := X1.out.at (i := 2) rfl; have X1_f2 := X1.out.frozen 2
    go_wp2_with (go_at_call 37; refine (l1In_any _ _ _ _).mono ?_; rintro e w' ⟨rfl, rfl⟩)
    clear X1_lt X1_c0 X1_f0 X1_c1 X1_f1 X1_c2 X1_f2
    refine calls_name fun W5 hW => ?_
    have X5 := hide (Box.new' (g := w2.heap.size) hW (by simp [World.setCell]))
    have b : Below (w2.setCell ⟨b5, o5 + fk, none⟩ (.bool t)).heap.size (w2.setCell ⟨b5, o5 + fk, none⟩ (.bool t)) W5 := by rw [hW]; exact (Below.refl _ _).alloc (Nat.le_refl _) _
    have y5 := X5.out.lt
    replace X1 := hide ((X1.out.far (p := ⟨b5, o5 + fk, none⟩) (by simp; omega) (.bool t)).below b)
    replace X2 := hide ((X2.out.far (p := ⟨b5, o5 + fk, none⟩) (by simp; omega) (.bool t)).below b)
    replace R5 := hide (R5.out.below b)
    replace OW5 := hide (owns_below OW5.out b)
    replace BW := hide ((BW.out.setCell (p := ⟨b5, o5 + fk, none⟩) (by simp; omega) (.bool t)).trans (b.mono (by have := BW.out.size; simp [World.setCell]; omega)))
    clear b hW c5 f5 hx5
    refine (specCallsValid_at _ _ _ _ _ _ (putC C 2 fk t) (put_up C 2 fk t) (put_dn C 2 fk t) (put_car C 2 fk t) _ R5.out.cr).mono ?_
    rintro e w6 ⟨rfl, b⟩
    have z6 := b.size
    replace X1 := hide (X1.out.below b)
    replace X2 := hide (X2.out.below b)
    replace X5 := hide (X5.out.below b)
    replace R5 := hide (R5.out.below b)
    replace OW5 := hide (owns_below OW5.out b)
    replace BW := hide (bthen BW.out b)
    clear b
    cases hv : callsB (putC C 2 fk t)
    · have HE := hide (setC_bad HV.out HO.out hv)
      have X1_lt := X1.out.lt
      have X1_c0 := X1.out.at (i := 0) rfl; have X1_f0 := X1.out.frozen 0
      have X1_c1 := X1.out.at (i := 1) rfl; have X1_f1 := X1.out.frozen 1
      have X1_c2 := X1.out.at (i := 2) rfl; have X1_f2 := X1.out.frozen 2
      go_wp2_with fail
      clear X1_lt X1_c0 X1_f0 X1_c1 X1_f1 X1_c2 X1_f2
      refine (l8Copy_s A0 A1 A2 c0 c1 c2 C _ (H.out.below BW.out) (by have := HL.out; omega)).mono ?_
      rintro e w7 ⟨S0, S1, S2, s0, s1, s2, rfl, S, b, ow⟩
      have z7 := b.size
      replace X2 := hide (X2.out.below b)
      replace BW := hide (bthen BW.out b); replace S := hide S; have OS := hide ow
      clear b ow
      have X2_lt := X2.out.lt
      have X2_c0 := X2.out.at (i := 0) rfl; have X2_f0 := X2.out.frozen 0
      have X2_c1 := X2.out.at (i := 1) rfl; have X2_f1 := X2.out.frozen 1
      have X2_c2 := X2.out.at (i := 2) rfl; have X2_f2 := X2.out.frozen 2
      go_wp2_with fail
      refine bodyPost_ret (by simp [results, Tryd.results34, go_sem, X2_c0, X2_c1, X2_c2]; rfl) rfl ?_
      rw [HE.out]
      exact GivesSB.of OS.out S.out BW.out (only3 w7 _ _ _ (Nat.le_refl _) (Nat.lt_succ_self _)) (by omega) (by omega)
    · have HE := hide (setC_good HV.out HO.out hv)
      have X2_lt := X2.out.lt
      have X2_c0 := X2.out.at (i := 0) rfl; have X2_f0 := X2.out.frozen 0
      have X2_c1 := X2.out.at (i := 1) rfl; have X2_f1 := X2.out.frozen 1
      have X2_c2 := X2.out.at (i := 2) rfl; have X2_f2 := X2.out.frozen 2
      have X5_lt := X5.out.lt
      have X5_c0 := X5.out.at (i := 0) rfl; have X5_f0 := X5.out.frozen 0
      have X5_c1 := X5.out.at (i := 1) rfl; have X5_f1 := X5.out.frozen 1
      have X5_c2 := X5.out.at (i := 2) rfl; have X5_f2 := X5.out.frozen 2
      go_wp2_with fail
      refine bodyPost_ret (by simp [results, Tryd.results34, go_sem, X2_c0, X2_c1, X2_c2]; rfl) rfl ?_
      rw [HE.out]
      exact GivesSB.of' (put_up C 2 fk t) (put_dn C 2 fk t) (put_car C 2 fk t) OW5.out R5.out BW.out (only3 w6 _ _ _ (Nat.le_refl _) (Nat.lt_succ_self _)) (by omega) (by omega)
theorem specCallSet (A0 A1 A2 : Option Addr) (c0 c1 c2 : Nat) (C : Cl) (kd fl : Int) (t : Bool) (w : World) (h : CR w A0 A1 A2 C) :
    Calls Tryd.prog 34 #[.agg #[.slice A0 C.up.length c0, .slice A1 C.dn.length c1, .slice A2 C.car.length c2], .int .i64 kd, .int .i64 fl, .bool t] w (GivesCB (setC C kd fl t).1 (setC C kd fl t).2 w) := (specCallSetS A0 A1 A2 c0 c1 c2 C kd fl t w h).mono fun _ _ h => h.weak
end Go.Proofs.YtmekhjaeclgonaaDoor
