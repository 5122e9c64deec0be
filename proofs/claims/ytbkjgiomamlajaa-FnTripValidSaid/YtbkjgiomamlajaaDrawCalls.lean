/- Drawn calls. -/
import Derived.Test.YtbkjgiomamlajaaCallsG
import Derived.Test.YtbkjgiomamlajaaDraw
import Derived.Test.YtbkjgiomamlajaaOwn
namespace Go.Proofs.Ytbkjgiomamlajaa
open Go.RowKit
attribute [local go_sem ↓] Go.wp_at_zero Go.wp_at_succ

def nil3 : Array Value := #[.slice none 0 0, .slice none 0 0, .slice none 0 0]
theorem grown_only1 {w w' : World} {R : Nat} (g : w.grownBy w' (some R)) : Only R (R + 1) w w' := ⟨g.os, g.tape, g.output, g.size, fun k hk ho => g.block k hk (by intro e; injection e; omega)⟩
/-- What is known in the round of l20Calls: the result's box, the box of c at g7, its rows in lo..hi-1, the reader. -/
structure LC (w : World) (R g7 lo hi : Nat) (P0 P1 P2 : Option Addr) (p0 p1 p2 : Nat) (C : Cl) (q : Nat) (W : World) : Prop where
  x6 : Box W w.heap.size #[.slice none 0 0, .slice none 0 0, .slice none 0 0]
  x7 : Box W g7 #[.slice P0 C.up.length p0, .slice P1 C.dn.length p1, .slice P2 C.car.length p2]
  co : CO lo hi W P0 P1 P2 C
  ow : W.ownsRow lo 4 1 (.slice P2 C.car.length p2) C.car.length (bls C.car)
  rd : Rd W R q
  gr : w.grownBy W (some R)
  va : callsP C
section
variable {w W W' : World} {R g7 lo hi : Nat} {P0 P1 P2 : Option Addr} {p0 p1 p2 : Nat} {C : Cl} {q : Nat}
theorem LC.below (h : LC w R g7 lo hi P0 P1 P2 p0 p1 p2 C q W) (b : Below W.heap.size W W') : LC w R g7 lo hi P0 P1 P2 p0 p1 p2 C q W' :=
  ⟨h.x6.below b, h.x7.below b, h.co.below b, owns_below h.ow b, h.rd.below b, ⟨b.os.trans h.gr.os, b.tape.trans h.gr.tape, b.output.trans h.gr.output, Nat.le_trans h.gr.size b.size, fun k hk hne => (b.block k (Nat.lt_of_lt_of_le hk h.gr.size)).trans (h.gr.block k hk hne)⟩, h.va⟩
theorem LC.alloc (h : LC w R g7 lo hi P0 P1 P2 p0 p1 p2 C q W) (o : Obj) : LC w R g7 lo hi P0 P1 P2 p0 p1 p2 C q (W.alloc o) := h.below ((Below.refl _ _).alloc (Nat.le_refl _) o)
theorem LC.drew (h : LC w R g7 lo hi P0 P1 P2 p0 p1 p2 C q W) : LC w R g7 lo hi P0 P1 P2 p0 p1 p2 C q W.drew := h.below (below_drewN (Below.refl _ _) 1)
theorem LC.pick {q' : Nat} (h : LC w R g7 lo hi P0 P1 P2 p0 p1 p2 C q W) (hR : R < w.heap.size) (h7 : R < g7) (hl : R < lo) (g : W.grownBy W' (some R)) (r : Rd W' R q') : LC w R g7 lo hi P0 P1 P2 p0 p1 p2 C q' W' :=
  ⟨h.x6.grown g (by intro e; injection e; omega), h.x7.grown g (by intro e; injection e; omega), h.co.only (grown_only1 g) (.inr (by omega)), owns_only h.ow (grown_only1 g) (by omega), r, grown_then h.gr g, h.va⟩
theorem LC.mono {q' : Nat} (h : LC w R g7 lo hi P0 P1 P2 p0 p1 p2 C q W) (hq : q ≤ q') : LC w R g7 lo hi P0 P1 P2 p0 p1 p2 C q' W := ⟨h.x6, h.x7, h.co, h.ow, h.rd.mono hq, h.gr, h.va⟩
/-- Other blocks than those of LC have changed. -/
theorem LC.far {a b : Nat} (h : LC w R g7 lo hi P0 P1 P2 p0 p1 p2 C q W) (o : Only a b W W') (h6 : w.heap.size < a) (hR : R < a) (h7 : g7 < a ∨ b ≤ g7) (hl : hi ≤ a ∨ b ≤ lo) : LC w R g7 lo hi P0 P1 P2 p0 p1 p2 C q W' := by
  refine ⟨h.x6.only o (.inl h6), h.x7.only o h7, h.co.only o hl, ?_, h.rd.keep fun k hk => o.block k (by have := h.rd.lt; omega) (.inl (by omega)), ?_, h.va⟩
  · refine ⟨h.ow.1, ?_⟩
    rcases h.ow.2 with h2 | ⟨g, cap, cur, hv, hb, hh, r⟩
    · exact .inl h2
    · refine .inr ⟨g, cap, cur, hv, hb, (o.block g (Array.getElem?_eq_some_iff.1 hh).1 ?_).trans hh, r⟩
      rcases h.co.car.rg with e | ⟨b', off', e, r1, r2⟩
      · have := h.va.1; omega
      · injection hv with hv; rw [e] at hv; injection hv with hv; injection hv with hv; omega
  · exact ⟨o.os.trans h.gr.os, o.tape.trans h.gr.tape, o.output.trans h.gr.output, Nat.le_trans h.gr.size o.size, fun k hk hne => (o.block k (Nat.lt_of_lt_of_le hk h.gr.size) (.inl (by omega))).trans (h.gr.block k hk hne)⟩
end
theorem only3' {g : Nat} (w : World) (a b c : Value) : Only g (g + 1) w (((w.setCell ⟨g, 0, none⟩ a).setCell ⟨g, 1, none⟩ b).setCell ⟨g, 2, none⟩ c) := only3 w a b c (Nat.le_refl _) (Nat.lt_succ_self _)
theorem LC.farB {w W : World} {R g7 lo hi gx : Nat} {S0 S1 S2 : Option Addr} {s0 s1 s2 : Nat} {D : Cl} {q : Nat} (h : LC w R g7 lo hi S0 S1 S2 s0 s1 s2 D q W) {a b c : Value} (h6 : w.heap.size < gx) (hR : R < gx) (h7 : g7 < gx) (hl : hi ≤ gx) :
    LC w R g7 lo hi S0 S1 S2 s0 s1 s2 D q (((W.setCell ⟨gx, 0, none⟩ a).setCell ⟨gx, 1, none⟩ b).setCell ⟨gx, 2, none⟩ c) := h.far (only3' _ _ _ _) h6 hR (.inl h7) (.inl hl)
theorem CO.farB {W : World} {lo hi gx : Nat} {S0 S1 S2 : Option Addr} {D : Cl} (h : CO lo hi W S0 S1 S2 D) {a b c : Value} (hl : gx < lo) : CO lo hi (((W.setCell ⟨gx, 0, none⟩ a).setCell ⟨gx, 1, none⟩ b).setCell ⟨gx, 2, none⟩ c) S0 S1 S2 D := h.only (only3' _ _ _ _) (.inr hl)
theorem owns_farB {W : World} {lo n s gx : Nat} {e : TypeId} {v : Value} {xs : List Value} (h : W.ownsRow lo e s v n xs) {a b c : Value} (hl : gx < lo) : (((W.setCell ⟨gx, 0, none⟩ a).setCell ⟨gx, 1, none⟩ b).setCell ⟨gx, 2, none⟩ c).ownsRow lo e s v n xs := owns_only h (only3' _ _ _ _) hl
theorem LC.swap {w W : World} {R g7 lo hi tl th : Nat} {S0 S1 S2 T0 T1 T2 : Option Addr} {s0 s1 s2 t0 t1 t2 : Nat} {D E : Cl} {q : Nat} (h : LC w R g7 lo hi S0 S1 S2 s0 s1 s2 D q W) (T : CO tl th W T0 T1 T2 E) (ow : W.ownsRow tl 4 1 (.slice T2 E.car.length t2) E.car.length (bls E.car)) (va : callsP E)
    (h6 : w.heap.size < g7) (hR : R < w.heap.size) (ht : g7 < tl) :
    LC w R g7 tl th T0 T1 T2 t0 t1 t2 E q (((W.setCell ⟨g7, 0, none⟩ (.slice T0 E.up.length t0)).setCell ⟨g7, 1, none⟩ (.slice T1 E.dn.length t1)).setCell ⟨g7, 2, none⟩ (.slice T2 E.car.length t2)) := by
  have o := only3' (g := g7) W (.slice T0 E.up.length t0) (.slice T1 E.dn.length t1) (.slice T2 E.car.length t2)
  exact ⟨h.x6.only o (.inl h6), ((h.x7.set 0 _).set 1 _).set 2 _, T.only o (.inr ht), owns_only ow o ht, h.rd.keep fun k hk => o.block k (by have := h.rd.lt; omega) (.inl (by omega)),
    ⟨o.os.trans h.gr.os, o.tape.trans h.gr.tape, o.output.trans h.gr.output, Nat.le_trans h.gr.size o.size, fun k hk hne => (o.block k (Nat.lt_of_lt_of_le hk h.gr.size) (.inl (by omega))).trans (h.gr.block k hk hne)⟩, va⟩
/-- Calls in a range of blocks. -/
structure CW (lo hi : Nat) (w : World) (A0 A1 A2 : Option Addr) (C : Cl) : Prop where
  up : BO lo hi w A0 C.up
  dn : BO lo hi w A1 C.dn
  car : BO lo hi w A2 C.car
theorem CO.cw {lo hi : Nat} {w : World} {A0 A1 A2 : Option Addr} {C : Cl} (h : CO lo hi w A0 A1 A2 C) : CW lo hi w A0 A1 A2 C := ⟨h.up, h.dn, h.car⟩
theorem CW.cr {lo hi : Nat} {w : World} {A0 A1 A2 : Option Addr} {C : Cl} (h : CW lo hi w A0 A1 A2 C) : CR w A0 A1 A2 C := ⟨h.up.bools, h.dn.bools, h.car.bools⟩
theorem CW.only {lo hi lo' hi' : Nat} {w w' : World} {A0 A1 A2 : Option Addr} {C : Cl} (h : CW lo' hi' w A0 A1 A2 C) (o : Only lo hi w w') (hd : hi' ≤ lo ∨ hi ≤ lo') : CW lo' hi' w' A0 A1 A2 C := ⟨h.up.only o hd, h.dn.only o hd, h.car.only o hd⟩
theorem CW.mono {lo hi lo' hi' : Nat} {w : World} {A0 A1 A2 : Option Addr} {C : Cl} (h : CW lo hi w A0 A1 A2 C) (h1 : lo' ≤ lo) (h2 : hi ≤ hi') : CW lo' hi' w A0 A1 A2 C := ⟨h.up.mono h1 h2, h.dn.mono h1 h2, h.car.mono h1 h2⟩
theorem CW.below {lo hi : Nat} {w w' : World} {A0 A1 A2 : Option Addr} {C : Cl} (h : CW lo hi w A0 A1 A2 C) (b : Below w.heap.size w w') : CW lo hi w' A0 A1 A2 C := ⟨h.up.below b, h.dn.below b, h.car.below b⟩
theorem CW.grown {lo hi R : Nat} {w w' : World} {A0 A1 A2 : Option Addr} {C : Cl} (h : CW lo hi w A0 A1 A2 C) (g : w.grownBy w' (some R)) (hR : R < lo) : CW lo hi w' A0 A1 A2 C := h.only (grown_only1 g) (.inr hR)
/-- Drawn calls: rows in new blocks, lists of at most nine; the reader has gone on. -/
def DrawnC (R q : Nat) (w : World) (e : Ending) (w' : World) : Prop := ∃ (A0 A1 A2 : Option Addr) (c0 c1 c2 : Nat) (C : Cl), e = .returned (.agg #[.slice A0 C.up.length c0, .slice A1 C.dn.length c1, .slice A2 C.car.length c2]) ∧ CW w.heap.size w'.heap.size w' A0 A1 A2 C ∧ (C.up.length ≤ 9 ∧ C.dn.length ≤ 9 ∧ C.car.length ≤ 9) ∧ Rd w' R q ∧ w.grownBy w' (some R)
/-- The end of l20Calls: calls at W are stored into the result's box. -/
theorem DrawnC.of {w W : World} {R q q' lo hi n0 n1 n2 : Nat} {S0 S1 S2 : Option Addr} {s0 s1 s2 : Nat} {D : Cl} (co : CW lo hi W S0 S1 S2 D) (hl : w.heap.size < lo) (hh : hi ≤ W.heap.size) (len : D.up.length ≤ 9 ∧ D.dn.length ≤ 9 ∧ D.car.length ≤ 9) (e0 : n0 = D.up.length) (e1 : n1 = D.dn.length) (e2 : n2 = D.car.length) (rd : Rd W R q) (hq : q ≤ q') (gr : w.grownBy W (some R)) (hR : R < w.heap.size) {a b c : Value} :
    DrawnC R q' w (.returned (.agg #[.slice S0 n0 s0, .slice S1 n1 s1, .slice S2 n2 s2])) (((W.setCell ⟨w.heap.size, 0, none⟩ a).setCell ⟨w.heap.size, 1, none⟩ b).setCell ⟨w.heap.size, 2, none⟩ c) := by
  subst e0; subst e1; subst e2
  have o := only3' (g := w.heap.size) W a b c
  exact ⟨S0, S1, S2, s0, s1, s2, D, rfl, (co.only o (.inr hl)).mono (by omega) (Nat.le_trans hh o.size), len, (rd.keep fun k hk => o.block k (by have := rd.lt; omega) (.inl (by omega))).mono hq,
    ⟨o.os.trans gr.os, o.tape.trans gr.tape, o.output.trans gr.output, Nat.le_trans gr.size o.size, fun k hk hne => (o.block k (Nat.lt_of_lt_of_le hk gr.size) (.inl (by omega))).trans (gr.block k hk hne)⟩⟩
theorem gr_set {w W : World} {R : Nat} (g : w.grownBy W (some R)) {p : Addr} (hp : w.heap.size ≤ p.block) (u : Value) : w.grownBy (W.setCell p u) (some R) :=
  ⟨g.os, g.tape, g.output, by simpa [World.setCell] using g.size, fun k hk hne => (Below.heap_setCell W p u k (by omega)).trans (g.block k hk hne)⟩
theorem rd_set {W : World} {R q : Nat} (r : Rd W R q) {p : Addr} (hp : R < p.block) (u : Value) : Rd (W.setCell p u) R q := r.keep fun k hk => Below.heap_setCell W p u k (by omega)
/-- append of one truth onto a row of the call's own. -/
theorem wp_appB {ops : Array Oper} {rest : List Oper} {o : Oper} {a : Act} {Q : Exit → Act → World → Prop} (hgd : Region.wanted o (yielded ops a.tmps) = true) (s x : Operand)
    (ho : o.op = .call { callee := .builtin .append, args := #[s, x], argTypes := #[37, 37] }) (lo : Nat) (w : World) (A B : Option Addr) (c m c2 : Nat) (xs ys : List Bool) (hm : m = ys.length)
    (hs : a.eval s = .slice A xs.length c) (hx : a.eval x = .slice B m c2) (hown : w.ownsRow lo 4 1 (.slice A xs.length c) xs.length (bls xs)) (hr : Bools w B ys) (hl : xs.length + ys.length ≤ 1000) (hL : lo ≤ w.heap.size)
    (h : ∀ A' c' w', w'.ownsRow lo 4 1 (.slice A' (xs ++ ys).length c') (xs ++ ys).length (bls (xs ++ ys)) → w.grownBy w' ((Value.slice A xs.length c).ownBlock) → wpList Try.prog ops Q rest (a.put o.dst (.slice A' (xs ++ ys).length c')) w') : wpList Try.prog ops Q (o :: rest) a w := by
  obtain ⟨i0, hi, hz0, hz1, hz2⟩ := info_parts info_bool
  subst hm
  refine wpList_step fun _ hK => ?_
  rw [if_pos hgd]
  obtain ⟨v', w', hrun, h2, h3⟩ := run_app_sl (P := Try.prog) w lo 37 o.type 4 i0 (.bool false) 1 1 Try.underlying37 hi hz0 hz1 hz2 rfl (by omega) (.slice A xs.length c) xs.length (bls xs) hown B ys.length c2 (bls ys) (by simp [bls]) hr (bls_one ys) (by unfold maxLen; omega) (by omega) hL
  unfold Oper.wp execOp
  simp only [ho, resolve, invoke, builtin, Sem.run_bind, Sem.run_pure, Result.andThen_ok, List.map_toArray, List.map_cons, List.map_nil, hs, hx, hrun]
  have e1 : bls xs ++ bls ys = bls (xs ++ ys) := by simp [bls]
  have e2 : xs.length + ys.length = (xs ++ ys).length := by simp
  rw [e1, e2] at h2
  rcases h2.2 with ⟨hv, hn⟩ | ⟨g, cap, cur, hv, r⟩
  · subst hv
    have h4 := h none 0 w' (by rw [hn] at h2 ⊢; exact h2) h3
    rw [hn] at h4
    exact hK _ _ h4
  · subst hv; exact hK _ _ (h _ _ w' h2 h3)
theorem own_ne_box {w : World} {lo n c g7 : Nat} {A : Option Addr} {xs : List Bool} {B : Option Addr} {m d : Nat} {y z : Value} (h : w.ownsRow lo 4 1 (.slice A n c) n (bls xs)) (hn : 0 < n) (x7 : Box w g7 #[.slice B m d, y, z]) : ∀ b off, A = some ⟨b, off, none⟩ → b ≠ g7 := by
  intro b off e hb
  subst hb; subst e
  obtain ⟨g, cap, e, -, -⟩ := h.form hn
  injection e with e e2 e3; injection e with e; injection e with e4 e5; subst e4; subst e5
  have h1 := h.cellAt 0 (by omega)
  have h2 := x7.at (i := 0) rfl
  rw [h2] at h1
  cases xs with
  | nil => simp [bls] at h1
  | cons x r => simp [bls] at h1
theorem noneC_yes {n : Nat} (h1 : 1 ≤ n) (h2 : n ≤ 8) : noneC n = noCalls n := by unfold noneC; rw [if_pos (by omega)]; rfl
theorem noCalls_valid {n : Nat} (h1 : 1 ≤ n) (h2 : n ≤ 8) : callsP (noCalls n) := ⟨by simpa [noCalls] using h1, by simpa [noCalls] using h2, by simp [noCalls], by simp [noCalls], by simp [noCalls, List.getElem?_replicate]; omega, by simp [noCalls, List.getElem?_replicate]; omega⟩
theorem setC_ok {C : Cl} {k f : Int} {t : Bool} (h : (setC C k f t).2 = true) : callsP (setC C k f t).1 := by
  cases h1 : callsB C
  · rw [setC_zero h1] at h; cases h
  · unfold setC at h ⊢
    rw [h1] at h ⊢
    simp only [if_true] at h ⊢
    split at h
    · split at h
      · rename_i h2 h3; rw [if_pos h2, if_pos h3]; exact callsB_iff.1 h3
      · cases h
    · cases h
end Go.Proofs.Ytbkjgiomamlajaa
