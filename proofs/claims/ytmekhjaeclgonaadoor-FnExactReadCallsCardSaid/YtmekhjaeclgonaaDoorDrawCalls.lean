/- Drawn calls. -/
import Derived.Test.YtmekhjaeclgonaaDoorCallsG
import Derived.Test.YtmekhjaeclgonaaDoorDraw
import Derived.Test.YtmekhjaeclgonaaDoorOwn
namespace Go.Proofs.YtmekhjaeclgonaaDoor
open Go.RowKit
attribute [local go_sem ↓] Go.wp_at_zero Go.wp_at_succ

def nil3 : Array Value := #[.slice none 0 0, .slice none 0 0, .slice none 0 0]
theorem grown_only1 {w w' : World} {R : Nat} (g : w.grownBy w' (some R)) : Only R (R + 1) w w' := ⟨g.os, g.tape, g.output, g.size, fun k hk ho => g.block k hk (by intro e; injection e; omega)⟩
/-- What is known in the round of l20Calls: the result's box, the box of c at g7, its rows in lo..hi-1, the reader. -/
structure LC (w : World) (R g7 lo hi : Nat) (P0 P1 P2 : Option Addr) (p0 p1 p2 : Nat) (C : Cl) (q : Nat) (W : World) : Prop where
  x6 : Box W w.heap.size #[.slice none 0 0, .slice none 0 0, .slice none 0 0]
  x7 : Box W g7 #[.slice P0 C.up.length p0, .slice P1 C.dn.length p1, .slice P2 C.car.length p2]
  co : CO lo hi W P0 P1 P2 C
  ow : W.ownsRow lo 4 1 (.slice P2 C.car.length p2) C.car.length (bls C.car)
  rd : Rd W R q
  gr : w.grownBy W (some R)
  va : callsP C
section
variable {w W W' : World} {R g7 lo hi : Nat} {P0 P1 P2 : Option Addr} {p0 p1 p2 : Nat} {C : Cl} {q : Nat}
theorem LC.below (h : LC w R g7 lo hi P0 P1 P2 p0 p1 p2 C q W) (b : Below W.heap.size W W') : LC w R g7 lo hi P0 P1 P2 p0 p1 p2 C q W' :=
  ⟨h.x6.below b, h.x7.below b, h.co.below b, owns_below h.ow b, h.rd.below b, ⟨b.os.trans h.gr.os, b.tape.trans h.gr.tape, b.output.trans h.gr.output, Nat.le_trans h.gr.size b.size, fun k hk hne => (b.block k (Nat.lt_of_lt_of_le hk h.gr.size)).trans (h.gr.block k hk hne)⟩, h.va⟩
theorem LC.alloc (h : LC w R g7 lo hi P0 P1 P2 p0 p1 p2 C q W) (o : Obj) : LC w R g7 lo hi P0 P1 P2 p0 p1 p2 C q (W.alloc o) := h.below ((Below.refl _ _).alloc (Nat.le_refl _) o)
theorem LC.drew (h : LC w R g7 lo hi P0 P1 P2 p0 p1 p2 C q W) : LC w R g7 lo hi P0 P1 P2 p0 p1 p2 C q W.drew := h.below (below_drewN (Below.refl _ _) 1)
theorem LC.pick {q' : Nat} (h : LC w R g7 lo hi P0 P1 P2 p0 p1 p2 C q W) (hR : R < w.heap.size) (h7 : R < g7) (hl : R < lo) (g : W.grownBy W' (some R)) (r : Rd W' R q') : LC w R g7 lo hi P0 P1 P2 p0 p1 p2 C q' W' :=
  ⟨h.x6.grown g (by intro e; injection e; omega), h.x7.grown g (by intro e; injection e; omega), h.co.only (grown_only1 g) (.inr (by omega)), owns_only h.ow (grown_only1 g) (by omega), r, grown_then h.gr g, h.va⟩
theorem LC.mono {q' : Nat} (h : LC w R g7 lo hi P0 P1 P2 p0 p1 p2 C q W) (hq : q ≤ q') : LC w R g7 lo hi P0 P1 P2 p0 p1 p2 C q' W := ⟨h.x6, h.x7, h.co, h.ow, h.rd.mono hq, h.gr, h.va⟩
/-- Other blocks than those of LC have changed. -/
theorem LC.far {a b : Nat} (h : LC w R g7 lo hi P0 P1 P2 p0 p1 p2 C q W) (o : Only a b W W') (h6 : w.heap.size < a) (hR : R < a) (h7 : g7 < a ∨ b ≤ g7) (hl : hi ≤ a ∨ b ≤ lo) : LC w R g7 lo hi P0 P1 P2 p0 p1 p2 C q W' := by
  refine ⟨h.x6.only o (.inl h6), h.x7.only o h7, h.co.only o hl, ?_, h.rd.keep fun k hk => o.block k (by have := h.rd.lt; omega) (.inl (by omega)), ?_, h.va⟩
  · refine ⟨h.ow.1, ?_⟩
    rcases h.ow.2 with h2 | ⟨g, cap, cur, hv, hb, hh, r⟩
    · exact .inl h2
    · refine .inr ⟨g, cap, cur, hv, hb, (o.block g (Array.getElem?_eq_some_iff.1 hh).1 ?_).trans hh, r⟩
      rcases h.co.car.rg with e | ⟨b', off', e, r1, r2⟩
      · have := h.va.1; omega
      · injection hv with hv; rw [e] at hv; injection hv with hv; injection hv with hv; omega
  · exact ⟨o.os.trans h.gr.os, o.tape.trans h.gr.tape, o.output.trans h.gr.output, Nat.le_trans h.gr.size o.size, fun k hk hne => (o.block k (Nat.lt_of_lt_of_le hk h.gr.size) (.inl (by omega))).trans (h.gr.block k hk hne)⟩
end
theorem only3' {g : Nat} (w : World) (a b c : Value) : Only g (g + 1) w (((w.setCell ⟨g, 0, none⟩ a).setCell ⟨g, 1, none⟩ b).setCell ⟨g, 2, none⟩ c) := only3 w a b c (Nat.le_refl _) (Nat.lt_succ_self _)
theorem LC.farB {w W : World} {R g7 lo hi gx : Nat} {S0 S1 S2 : Option Addr} {s0 s1 s2 : Nat} {D : Cl} {q : Nat} (h : LC w R g7 lo hi S0 S1 S2 s0 s1 s2 D q W) {a b c : Value} (h6 : w.heap.size < gx) (hR : R < gx) (h7 : g7 < gx) (hl : hi ≤ gx) :
    LC w R g7 lo hi S0 S1 S2 s0 s1 s2 D q (((W.setCell ⟨gx, 0, none⟩ a).setCell ⟨gx, 1, none⟩ b).setCell ⟨gx, 2, none⟩ c) := h.far (only3' _ _ _ _) h6 hR (.inl h7) (.inl hl)
theorem CO.farB {W : World} {lo hi gx : Nat} {S0 S1 S2 : Option Addr} {D : Cl} (h : CO lo hi W S0 S1 S2 D) {a b c : Value} (hl : gx < lo) : CO lo hi (((W.setCell ⟨gx, 0, none⟩ a).setCell ⟨gx, 1, none⟩ b).setCell ⟨gx, 2, none⟩ c) S0 S1 S2 D := h.only (only3' _ _ _ _) (.inr hl)
theorem owns_farB {W : World} {lo n s gx : Nat} {e : TypeId} {v : Value} {xs : List Value} (h : W.ownsRow lo e s v n xs) {a b c : Value} (hl : gx < lo) : (((W.setCell ⟨gx, 0, none⟩ a).setCell ⟨gx, 1, none⟩ b).setCell ⟨gx, 2, none⟩ c).ownsRow lo e s v n xs := owns_only h (only3' _ _ _ _) hl
theorem LC.swap {w W : World} {R g7 lo hi tl th : Nat} {S0 S1 S2 T0 T1 T2 : Option Addr} {s0 s1 s2 t0 t1 t2 : Nat} {D E : Cl} {q : Nat} (h : LC w R g7 lo hi S0 S1 S2 s0 s1 s2 D q W) (T : CO tl th W T0 T1 T2 E) (ow : W.ownsRow tl 4 1 (.slice T2 E.car.length t2) E.car.length (bls E.car)) (va : callsP E)
    (h6 : w.heap.size < g7) (hR : R < w.heap.size) (ht : g7 < tl) :
    LC w R g7 tl th T0 T1 T2 t0 t1 t2 E q (((W.setCell ⟨g7, 0, none⟩ (.slice T0 E.up.length t0)).setCell ⟨g7, 1, none⟩ (.slice T1 E.dn.length t1)).setCell ⟨g7, 2, none⟩ (.slice T2 E.car.length t2)) := by
  have o := only3' (g := g7) W (.slice T0 E.up.length t0) (.slice T1 E.dn.length t1) (.slice T2 E.car.length t2)
  exact ⟨h.x6.only o (.inl h6), ((h.x7.set 0 _).set 1 _).set 2 _, T.only o (.inr ht), owns_only ow o ht, h.rd.keep fun k hk => o.block k (by have := h.rd.lt; omega) (.inl (by omega)),
    ⟨o.os.trans h.gr.os, o.tape.trans h.gr.tape, o.output.trans h.gr.output, Nat.le_trans h.gr.size o.size, fun k hk hne => (o.block k (Nat.lt_of_lt_of_le hk h.gr.size) (.inl (by omega))).trans (h.gr.block k hk hne)⟩, va⟩
/-- Calls in a range of blocks. -/
structure CW (lo hi : Nat) (w : World) (A0 A1 A2 : Option Addr) (C : Cl) : Prop where
  up : BO lo hi w A0 C.up
  dn : BO lo hi w A1 C.dn
  car : BO lo hi w A2 C.car
theorem CO.cw {lo hi : Nat} {w : World} {A0 A1 A2 : Option Addr} {C : Cl} (h : CO lo hi w A0 A1 A2 C) : CW lo hi w A0 A1 A2 C := ⟨h.up, h.dn, h.car⟩
theorem CW.cr {lo hi : Nat} {w : World} {A0 A1 A2 : Option Addr} {C : Cl} (h : CW lo hi w A0 A1 A2 C) : CR w A0 A1 A2 C := ⟨h.up.bools, h.dn.bools, h.car.bools⟩
theorem CW.only {lo hi lo' hi' : Nat} {w w' : World} {A0 A1 A2 : Option Addr} {C : Cl} (h : CW lo' hi' w A0 A1 A2 C) (o : Only lo hi w w') (hd : hi' ≤ lo ∨ hi ≤ lo') : CW lo' hi' w' A0 A1 A2 C := ⟨h.up.only o hd, h.dn.only o hd, h.car.only o hd⟩
theorem CW.mono {lo hi lo' hi' : Nat} {w : World} {A0 A1 A2 : Option Addr} {C : Cl} (h : CW lo hi w A0 A1 A2 C) (h1 : lo' ≤ lo) (h2 : hi ≤ hi') : CW lo' hi' w A0 A1 A2 C := ⟨h.up.mono h1 h2, h.dn.mono h1 h2, h.car.mono h1 h2⟩
theorem CW.below {lo hi : Nat} {w w' : World} {A0 A1 A2 : Option Addr} {C : Cl} (h : CW lo hi w A0 A1 A2 C) (b : Below w.heap.size w w') : CW lo hi w' A0 A1 A2 C := ⟨h.up.below b, h.dn.below b, h.car.below b⟩
theorem CW.grown {lo hi R : Nat} {w w' : World} {A0 A1 A2 : Option Addr} {C : Cl} (h : CW lo hi w A0 A1 A2 C) (g : w.grownBy w' (some R)) (hR : R < lo) : CW lo hi w' A0 A1 A2 C := h.only (grown_only1 g) (.inr hR)
/-- Drawn calls: rows in new blocks, lists of at most nine; the reader has gone on. -/
def DrawnC (R q : Nat) (w : World) (e : Ending) (w' : World) : Prop := ∃ (A0 A1 A2 : Option Addr) (c0 c1 c2 : Nat) (C : Cl), e = .returned (.agg #[.slice A0 C.up.length c0, .slice A1 C.dn.length c1, .slice A2 C.car.length c2]) ∧ CW w.heap.size w'.heap.size w' A0 A1 A2 C ∧ (C.up.length ≤ 9 ∧ C.dn.length ≤ 9 ∧ C.car.length ≤ 9) ∧ Rd w' R q ∧ w.grownBy w' (some R)
/-- The end of l20Calls: calls at W are stored into the result's box. -/
theorem DrawnC.of {w W : World} {R q q' lo hi n0 n1 n2 : Nat} {S0 S1 S2 : Option Addr} {s0 s1 s2 : Nat} {D : Cl} (co : CW lo hi W S0 S1 S2 D) (hl : w.heap.size < lo) (hh : hi ≤ W.heap.size) (len : D.up.length ≤ 9 ∧ D.dn.length ≤ 9 ∧ D.car.length ≤ 9) (e0 : n0 = D.up.length) (e1 : n1 = D.dn.length) (e2 : n2 = D.car.length) (rd : Rd W R q) (hq : q ≤ q') (gr : w.grownBy W (some R)) (hR : R < w.heap.size) {a b c : Value} :
    DrawnC R q' w (.returned (.agg #[.slice S0 n0 s0, .slice S1 n1 s1, .slice S2 n2 s2])) (((W.setCell ⟨w.heap.size, 0, none⟩ a).setCell ⟨w.heap.size, 1, none⟩ b).setCell ⟨w.heap.size, 2, none⟩ c) := by
  subst e0; subst e1; subst e2
  have o := only3' (g := w.heap.size) W a b c
  exact ⟨S0, S1, S2, s0, s1, s2, D, rfl, (co.only o (.inr hl)).mono (by omega) (Nat.le_trans hh o.size), len, (rd.keep fun k hk => o.block k (by have := rd.lt; omega) (.inl (by omega))).mono hq,
    ⟨o.os.trans gr.os, o.tape.trans gr.tape, o.output.trans gr.output, Nat.le_trans gr.size o.size, fun k hk hne => (o.block k (Nat.lt_of_lt_of_le hk gr.size) (.inl (by omega))).trans (gr.block k hk hne)⟩⟩
theorem gr_set {w W : World} {R : Nat} (g : w.grownBy W (some R)) {p : Addr} (hp : w.heap.size ≤ p.block) (u : Value) : w.grownBy (W.setCell p u) (some R) :=
  ⟨g.os, g.tape, g.output, by simpa [World.setCell] using g.size, fun k hk hne => (Below.heap_setCell W p u k (by omega)).trans (g.block k hk hne)⟩
theorem rd_set {W : World} {R q : Nat} (r : Rd W R q) {p : Addr} (hp : R < p.block) (u : Value) : Rd (W.setCell p u) R q := r.keep fun k hk => Below.heap_setCell W p u k (by omega)
/-- append of one truth onto a row of the call's own. -/
theorem wp_appB {ops : Array Oper} {rest : List Oper} {o : Oper} {a : Act} {Q : Exit → Act → World → Prop} (hgd : Region.wanted o (yielded ops a.tmps) = true) (s x : Operand)
    (ho : o.op = .call { callee := .builtin .append, args := #[s, x], argTypes := #[24, 24] }) (lo : Nat) (w : World) (A B : Option Addr) (c m c2 : Nat) (xs ys : List Bool) (hm : m = ys.length)
    (hs : a.eval s = .slice A xs.length c) (hx : a.eval x = .slice B m c2) (hown : w.ownsRow lo 4 1 (.slice A xs.length c) xs.length (bls xs)) (hr : Bools w B ys) (hl : xs.length + ys.length ≤ 1000) (hL : lo ≤ w.heap.size)
    (h : ∀ A' c' w', w'.ownsRow lo 4 1 (.slice A' (xs ++ ys).length c') (xs ++ ys).length (bls (xs ++ ys)) → w.grownBy w' ((Value.slice A xs.length c).ownBlock) → wpList Tryd.prog ops Q rest (a.put o.dst (.slice A' (xs ++ ys).length c')) w') : wpList Tryd.prog ops Q (o :: rest) a w := by
  obtain ⟨i0, hi, hz0, hz1, hz2⟩ := info_parts info_bool
  subst hm
  refine wpList_step fun _ hK => ?_
  rw [if_pos hgd]
  obtain ⟨v', w', hrun, h2, h3⟩ := run_app_sl (P := Tryd.prog) w lo 24 o.type 4 i0 (.bool false) 1 1 Tryd.underlying24 hi hz0 hz1 hz2 rfl (by omega) (.slice A xs.length c) xs.length (bls xs) hown B ys.length c2 (bls ys) (by simp [bls]) hr (bls_one ys) (by unfold maxLen; omega) (by omega) hL
  unfold Oper.wp execOp
  simp only [ho, resolve, invoke, builtin, Sem.run_bind, Sem.run_pure, Result.andThen_ok, List.map_toArray, List.map_cons, List.map_nil, hs, hx, hrun]
  have e1 : bls xs ++ bls ys = bls (xs ++ ys) := by simp [bls]
  have e2 : xs.length + ys.length = (xs ++ ys).length := by simp
  rw [e1, e2] at h2
  rcases h2.2 with ⟨hv, hn⟩ | ⟨g, cap, cur, hv, r⟩
  · subst hv
    have h4 := h none 0 w' (by rw [hn] at h2 ⊢; exact h2) h3
    rw [hn] at h4
    exact hK _ _ h4
  · subst hv; exact hK _ _ (h _ _ w' h2 h3)
theorem own_ne_box {w : World} {lo n c g7 : Nat} {A : Option Addr} {xs : List Bool} {B : Option Addr} {m d : Nat} {y z : Value} (h : w.ownsRow lo 4 1 (.slice A n c) n (bls xs)) (hn : 0 < n) (x7 : Box w g7 #[.slice B m d, y, z]) : ∀ b off, A = some ⟨b, off, none⟩ → b ≠ g7 := by
  intro b off e hb
  subst hb; subst e
  obtain ⟨g, cap, e, -, -⟩ := h.form hn
  injection e with e e2 e3; injection e with e; injection e with e4 e5; subst e4; subst e5
  have h1 := h.cellAt 0 (by omega)
  have h2 := x7.at (i := 0) rfl
  rw [h2] at h1
  cases xs with
  | nil => simp [bls] at h1
  | cons x r => simp [bls] at h1
theorem noneC_yes {n : Nat} (h1 : 1 ≤ n) (h2 : n ≤ 8) : noneC n = noCalls n := by unfold noneC; rw [if_pos (by omega)]; rfl
theorem noCalls_valid {n : Nat} (h1 : 1 ≤ n) (h2 : n ≤ 8) : callsP (noCalls n) := ⟨by simpa [noCalls] using h1, by simpa [noCalls] using h2, by simp [noCalls], by simp [noCalls], by simp [noCalls, List.getElem?_replicate]; omega, by simp [noCalls, List.getElem?_replicate]; omega⟩
theorem setC_ok {C : Cl} {k f : Int} {t : Bool} (h : (setC C k f t).2 = true) : callsP (setC C k f t).1 := by
  cases h1 : callsB C
  · rw [setC_zero h1] at h; cases h
  · unfold setC at h ⊢
    rw [h1] at h ⊢
    simp only [if_true] at h ⊢
    split at h
    · split at h
      · rename_i h2 h3; rw [if_pos h2, if_pos h3]; exact callsB_iff.1 h3
      · cases h
    · cases h
set_option maxRecDepth 100000 in
set_option maxHeartbeats 4000000 in
theorem l20Calls_any (R q : Nat) (fl : Nat) (n : Int) (w : World) (h : Rd w R q) (hq : q ≤ 10000) (f1 : 1 ≤ fl) (f2 : fl ≤ 8) (hn : 0 ≤ n) (hn2 : n ≤ 1000) :
    Calls Tryd.prog 19 #[.pointer (some ⟨R, 0, none⟩), .int .i64 fl, .int .i64 n] w (DrawnC R (q + 100) w) := by
  have r := hide h
  have hRw := h.lt
  clear h
  go_enter Tryd.func19, Tryd.ntmps19
  go_wp2_with fail
  refine calls_name fun W hW => ?_
  have X6 := hide (Box.new' (g := w.heap.size) hW rfl)
  have b : Below w.heap.size w W := by rw [hW]; exact (Below.refl _ _).alloc (Nat.le_refl _) _
  replace r := hide (r.out.below b)
  have G : Hid (w.grownBy W (some R)) := grown_below (grown_refl w R) b
  have z0 := X6.out.lt
  clear b hW
  refine (specCallsNoneS fl _).mono ?_
  rw [noneC_yes f1 f2]
  rintro e w1 ⟨P0, P1, P2, p0, p1, p2, rfl, P, b, ow⟩
  have z1 := b.size
  replace X6 := hide (X6.out.below b)
  replace r := hide (r.out.below b)
  replace G := hide (grown_below G.out (b.mono G.out.size))
  replace P := hide P; have OW := hide ow; have VA := hide (noCalls_valid f1 f2)
  obtain ⟨C, hC⟩ : ∃ C, C = noCalls fl := ⟨_, rfl⟩
  rw [← hC] at P OW VA ⊢
  clear b ow hC
  go_wp2_with fail
  refine calls_name fun W2 hW => ?_
  have X7 := hide (Box.new' (g := w1.heap.size) hW rfl)
  have b : Below w1.heap.size w1 W2 := by rw [hW]; exact (Below.refl _ _).alloc (Nat.le_refl _) _
  replace X6 := hide (X6.out.below b)
  replace r := hide (r.out.below b)
  replace P := hide (P.out.below b)
  replace OW := hide (owns_below OW.out b)
  replace G := hide (grown_below G.out (b.mono G.out.size))
  clear b hW
  have L : Hid (LC w R w1.heap.size W.heap.size w1.heap.size P0 P1 P2 p0 p1 p2 C q W2) := ⟨X6.out, X7.out, P.out, OW.out, r.out, G.out, VA.out⟩
  clear X6 X7 P OW r G VA
  refine (pick_any R q _ _ L.out.rd (by omega) (by omega)).mono ?_
  rintro e w3 ⟨k0, rfl, k1, k2, r', g, z⟩
  replace L := hide (L.out.pick hRw (by omega) (by omega) g r')
  clear r' g z
  obtain ⟨kk, rfl⟩ := Int.eq_ofNat_of_zero_le k1
  go_wp2_with fail
  go_loopw [8] (fun i wr => ∃ (k lo hi : Nat) (P0 P1 P2 : Option Addr) (p0 p1 p2 : Nat) (C : Cl), i = .int .i64 (k : Int) ∧ k ≤ 7 ∧ (w.heap.size < lo ∧ hi ≤ wr.heap.size ∧ (hi ≤ w1.heap.size ∨ w1.heap.size < lo)) ∧ Hid (LC w R w1.heap.size lo hi P0 P1 P2 p0 p1 p2 C (q + 30 - 2 * k) wr)) (fun i _ => (intOf i).toNat)
  case atStart => exact ⟨kk, W.heap.size, w1.heap.size, P0, P1, P2, p0, p1, p2, C, rfl, by omega, ⟨by omega, Nat.le_of_lt L.out.x7.lt, .inl (Nat.le_refl _)⟩, L.out.mono (by omega)⟩
  case round =>
    clear L k1 k2
    obtain ⟨k, lo, hi, S0, S1, S2, s0, s1, s2, D, rfl, hk, ⟨hlo, hhi, hd⟩, L⟩ := hrel
    have g7 := L.out.x7.lt
    by_cases h0 : 0 < k
    · have hkq : q + 30 - 2 * k ≤ 100000 := by omega
      have mx : ¬ ((fl : Int) < 1) := by omega
      have hkq1 : q + 30 - 2 * k + 1 ≤ 100000 := by omega
      have LD := hide L.out.drew
      have Lc0 := L.out.x7.at (i := 0) rfl; have Lc1 := L.out.x7.at (i := 1) rfl; have Lc2 := L.out.x7.at (i := 2) rfl
      go_wp2_with fail
      go_region_held3 (fun W => W.cell? ⟨w1.heap.size, 0, none⟩ = some (.slice S0 D.up.length s0) ∧ W.cell? ⟨w1.heap.size, 1, none⟩ = some (.slice S1 D.dn.length s1) ∧ W.cell? ⟨w1.heap.size, 2, none⟩ = some (.slice S2 D.car.length s2)) (go_keep) (first | (go_at_call 20; (with_reducible refine (pick_any R _ 3 _ LD.out.rd hkq (by omega)).mono ?_); rintro e w4 ⟨a, rfl, aa, ab, r', g, z⟩; (try replace X9 := hide (X9.out.grown g (by intro e; injection e; omega))); have L1 := hide (LD.out.pick hRw (by omega) (by omega) g r'); have yL1 : wr.heap.size ≤ w4.heap.size := (by have z' := z; (try simp at z'); omega); clear r' g z; have L1c0 := L1.out.x7.at (i := 0) rfl; have L1c1 := L1.out.x7.at (i := 1) rfl; have L1c2 := L1.out.x7.at (i := 2) rfl; have L1lt := L1.out.x7.lt) | (go_at_call 20; (with_reducible refine (pick_any R _ 3 _ ((L.out.alloc _).drew).rd hkq (by omega)).mono ?_); rintro e w4 ⟨a, rfl, aa, ab, r', g, z⟩; have X9 := hide ((Box.new (g := wr.heap.size) rfl).drew.grown g (by intro e; injection e; omega)); have n9 : ¬ wr.heap.size = w1.heap.size := (by omega); have L1 := hide (((L.out.alloc _).drew).pick hRw (by omega) (by omega) g r'); have yL1 : wr.heap.size ≤ w4.heap.size := (by have z' := z; (try simp at z'); omega); clear r' g z; have L1c0 := L1.out.x7.at (i := 0) rfl; have L1c1 := L1.out.x7.at (i := 1) rfl; have L1c2 := L1.out.x7.at (i := 2) rfl; have L1lt := L1.out.x7.lt) | (go_at_call 20; (with_reducible refine (pick_any R _ (if (fl : Int) < 1 then 1 else (fl : Int)) _ L1.out.rd hkq1 (by split <;> omega)).mono ?_); rintro e w5 ⟨c, rfl, ca, cb, r', g, z⟩; (try replace X9 := hide (X9.out.grown g (by intro e; injection e; omega))); have L2 := hide (L1.out.pick hRw (by omega) (by omega) g r'); have yL2 : w4.heap.size ≤ w5.heap.size := (by have z' := z; (try simp at z'); omega); clear r' g z; have L2c0 := L2.out.x7.at (i := 0) rfl; have L2c1 := L2.out.x7.at (i := 1) rfl; have L2c2 := L2.out.x7.at (i := 2) rfl; have L2lt := L2.out.x7.lt) | (go_at_call 20; (with_reducible refine (pick_any R _ (if (fl : Int) < 1 then 1 else (fl : Int)) _ (L1.out.alloc _).rd hkq1 (by split <;> omega)).mono ?_); rintro e w5 ⟨c, rfl, ca, cb, r', g, z⟩; have X9 := hide ((Box.new (g := w4.heap.size) rfl).grown g (by intro e; injection e; omega)); have n9 : ¬ w4.heap.size = w1.heap.size := (by omega); have L2 := hide ((L1.out.alloc _).pick hRw (by omega) (by omega) g r'); have yL2 : w4.heap.size ≤ w5.heap.size := (by have z' := z; (try simp at z'); omega); clear r' g z; have L2c0 := L2.out.x7.at (i := 0) rfl; have L2c1 := L2.out.x7.at (i := 1) rfl; have L2c2 := L2.out.x7.at (i := 2) rfl; have L2lt := L2.out.x7.lt) | (go_at_call 20; (with_reducible refine (pick_any R _ (fl : Int) _ L1.out.rd hkq1 (by omega)).mono ?_); rintro e w5 ⟨c, rfl, ca, cb, r', g, z⟩; (try replace X9 := hide (X9.out.grown g (by intro e; injection e; omega))); have L2 := hide (L1.out.pick hRw (by omega) (by omega) g r'); have yL2 : w4.heap.size ≤ w5.heap.size := (by have z' := z; (try simp at z'); omega); clear r' g z; have L2c0 := L2.out.x7.at (i := 0) rfl; have L2c1 := L2.out.x7.at (i := 1) rfl; have L2c2 := L2.out.x7.at (i := 2) rfl; have L2lt := L2.out.x7.lt) | (go_at_call 20; (with_reducible refine (pick_any R _ (fl : Int) _ (L1.out.alloc _).rd hkq1 (by omega)).mono ?_); rintro e w5 ⟨c, rfl, ca, cb, r', g, z⟩; have X9 := hide ((Box.new (g := w4.heap.size) rfl).grown g (by intro e; injection e; omega)); have n9 : ¬ w4.heap.size = w1.heap.size := (by omega); have L2 := hide ((L1.out.alloc _).pick hRw (by omega) (by omega) g r'); have yL2 : w4.heap.size ≤ w5.heap.size := (by have z' := z; (try simp at z'); omega); clear r' g z; have L2c0 := L2.out.x7.at (i := 0) rfl; have L2c1 := L2.out.x7.at (i := 1) rfl; have L2c2 := L2.out.x7.at (i := 2) rfl; have L2lt := L2.out.x7.lt) | (go_at_call 34; (with_reducible refine (specCallSetS S0 S1 S2 s0 s1 s2 D a c true w5 L2.out.co.cr).mono ?_); rintro e w6 ⟨T0, T1, T2, t0, t1, t2, rfl, T, b, ow⟩; obtain ⟨tl, htl⟩ : ∃ tl, tl = w5.heap.size := ⟨_, rfl⟩; (try have y9 : _ < tl := htl ▸ X9.out.lt); (try replace X9 := hide (X9.out.below b)); have T' : CO tl w6.heap.size w6 T0 T1 T2 (setC D a c true).1 := T.mono (by rw [htl]; exact Nat.le_refl _) (Nat.le_refl _); have ow' := owns_mono (lo' := tl) ow (by rw [htl]; exact Nat.le_refl _); (try have v0 := X9.out.at (i := 0) rfl); (try have vf0 := X9.out.frozen 0); (try have v1 := X9.out.at (i := 1) rfl); (try have vf1 := X9.out.frozen 1); (try have v2 := X9.out.at (i := 2) rfl); (try have vf2 := X9.out.frozen 2); have L3 := hide (L2.out.below b); clear T; have T := hide T'; have OW := hide ow'; have y6 : tl ≤ w6.heap.size := (by have z' := b.size; (try simp at z'); omega); have ytl : w5.heap.size ≤ tl := (by omega); clear b ow T' ow' htl; have L3c0 := L3.out.x7.at (i := 0) rfl; have L3c1 := L3.out.x7.at (i := 1) rfl; have L3c2 := L3.out.x7.at (i := 2) rfl; have L3lt := L3.out.x7.lt) | (go_at_call 34; (with_reducible refine (specCallSetS S0 S1 S2 s0 s1 s2 D a c true _ (L2.out.alloc _).co.cr).mono ?_); rintro e w6 ⟨T0, T1, T2, t0, t1, t2, rfl, T, b, ow⟩; have X9 := hide ((Box.new (g := w5.heap.size) rfl).below b); have n9 : ¬ w5.heap.size = w1.heap.size := (by omega); obtain ⟨tl, htl⟩ : ∃ tl, tl = w5.heap.size + 1 := ⟨_, rfl⟩; have y9 : w5.heap.size < tl := (by omega); have T' : CO tl w6.heap.size w6 T0 T1 T2 (setC D a c true).1 := T.mono (by rw [htl]; simp) (Nat.le_refl _); have ow' := owns_mono (lo' := tl) ow (by rw [htl]; simp); (try have v0 := X9.out.at (i := 0) rfl); (try have vf0 := X9.out.frozen 0); (try have v1 := X9.out.at (i := 1) rfl); (try have vf1 := X9.out.frozen 1); (try have v2 := X9.out.at (i := 2) rfl); (try have vf2 := X9.out.frozen 2); have L3 := hide ((L2.out.alloc _).below b); clear T; have T := hide T'; have OW := hide ow'; have y6 : tl ≤ w6.heap.size := (by have z' := b.size; (try simp at z'); omega); have ytl : w5.heap.size ≤ tl := (by omega); clear b ow T' ow' htl; have L3c0 := L3.out.x7.at (i := 0) rfl; have L3c1 := L3.out.x7.at (i := 1) rfl; have L3c2 := L3.out.x7.at (i := 2) rfl; have L3lt := L3.out.x7.lt))
      all_goals
        have HV : Hid ((setC D a c true).2 = true → callsP (setC D a c true).1) := setC_ok
        obtain ⟨D', hD'⟩ : ∃ D', D' = (setC D a c true).1 := ⟨_, rfl⟩
        obtain ⟨x, hx⟩ : ∃ x, x = (setC D a c true).2 := ⟨_, rfl⟩
        rw [← hD'] at T OW
        rw [← hD', ← hx] at HV ⊢
        clear hD' hx
        cases x
        · go_wp2_with fail
          refine ⟨⟨k - 1, lo, hi, S0, S1, S2, s0, s1, s2, D, by go_num, by omega, ⟨hlo, ?_, hd⟩, ?_⟩, by simp [intOf]; omega⟩
          · simp [World.setCell]; omega
          · refine hide (LC.mono (q := q + 30 - 2 * k + 1 + 1) ?_ (by omega))
            first
            | with_reducible exact L3.out.alloc _
            | with_reducible exact L3.out.farB (by omega) (by omega) (by omega) (by omega)
        · have hva := hide (HV.out rfl)
          have L3f0 := L3.out.x7.frozen 0; have L3f1 := L3.out.x7.frozen 1; have L3f2 := L3.out.x7.frozen 2
          go_wp2_with fail
          refine ⟨⟨k - 1, tl, w6.heap.size, T0, T1, T2, t0, t1, t2, D', by go_num, by omega, ⟨by omega, ?_, .inr (by omega)⟩, ?_⟩, by simp [intOf]; omega⟩
          · simp [World.setCell]
          · refine hide (LC.mono (q := q + 30 - 2 * k + 1 + 1) ?_ (by omega))
            first
            | with_reducible exact (L3.out.swap T.out OW.out hva.out (by omega) hRw (by omega)).alloc _
            | with_reducible exact (L3.out.farB (by omega) (by omega) (by omega) (by omega)).swap (T.out.farB (by omega)) (owns_farB OW.out (by omega)) hva.out (by omega) hRw (by omega)
    · obtain rfl : k = 0 := by omega
      have hv := L.out.va
      obtain ⟨v1, v2, v3, v4, -, -⟩ := hv
      have w3' : D.up.length ≤ 8 := by omega
      have w4' : D.dn.length ≤ 8 := by omega
      have w5' : 1 ≤ D.up.length := by omega
      have w6' : 1 ≤ D.dn.length := by omega
      have HE := hide (And.intro v3 v4)
      clear v3 v4
      go_wp2_with fail
      refine (odd_any R _ n _ L.out.rd (by omega) hn hn2).mono ?_
      rintro e w4 ⟨ob, rfl, r', g, z⟩
      replace L := hide (L.out.pick hRw (by omega) (by omega) g r')
      have y4 := Nat.le_of_eq z.symm
      clear r' g z
      have Lc0 := L.out.x7.at (i := 0) rfl; have Lc1 := L.out.x7.at (i := 1) rfl; have Lc2 := L.out.x7.at (i := 2) rfl; have Llt := L.out.x7.lt
      have M0 := L.out.x6.at (i := 0) rfl; have M1 := L.out.x6.at (i := 1) rfl; have M2 := L.out.x6.at (i := 2) rfl; have Mlt := L.out.x6.lt
      have N0 := L.out.x6.frozen 0; have N1 := L.out.x6.frozen 1; have N2 := L.out.x6.frozen 2
      cases ob
      · go_wp2_with fail
        refine bodyPost_ret (by simp [results, Tryd.results19, go_sem, M0, M1, M2]; rfl) rfl ?_
        exact DrawnC.of L.out.co.cw hlo (by omega) (by omega) rfl rfl rfl L.out.rd (by omega) L.out.gr hRw
      · go_wp2_with fail
        clear Lc0 Lc1 Lc2 Llt M0 M1 M2 Mlt N0 N1 N2
        refine (pick_any R _ 4 _ L.out.rd (by omega) (by omega)).mono ?_
        rintro e w5 ⟨u, rfl, ua, ub, r', g, z⟩
        replace L := hide (L.out.pick hRw (by omega) (by omega) g r')
        have y5 := Nat.le_of_eq z.symm
        clear r' g z
        have Lc0 := L.out.x7.at (i := 0) rfl; have Lc1 := L.out.x7.at (i := 1) rfl; have Lc2 := L.out.x7.at (i := 2) rfl; have Llt := L.out.x7.lt
        have M0 := L.out.x6.at (i := 0) rfl; have M1 := L.out.x6.at (i := 1) rfl; have M2 := L.out.x6.at (i := 2) rfl; have Mlt := L.out.x6.lt
        have N0 := L.out.x6.frozen 0; have N1 := L.out.x6.frozen 1; have N2 := L.out.x6.frozen 2
        have hu : u = 0 ∨ u = 1 ∨ u = 2 ∨ u = 3 := by omega
        rcases hu with rfl | rfl | rfl | rfl
        · obtain ⟨b5, o5, x5, rfl, g5, hx5, c5, f5⟩ := L.out.co.up.at (k := D.up.length - 1) (by omega)
          obtain ⟨g51, g52, g53⟩ := g5
          have R5 := hide (L.out.co.setUp (k := D.up.length - 1) (by omega) true)
          have n5 : ¬ b5 = w1.heap.size := by omega
          have n6 : ¬ b5 = w.heap.size := by omega
          go_wp2_with fail
          refine bodyPost_ret (by simp [results, Tryd.results19, go_sem, M0, M1, M2]; rfl) rfl ?_
          exact DrawnC.of R5.out.cw hlo (by simp [World.setCell]; omega) (by simp; omega) (by simp) rfl rfl (rd_set L.out.rd (by simp; omega) _) (by omega) (gr_set L.out.gr (by simp; omega) _) hRw
        · obtain ⟨b5, o5, x5, rfl, g5, hx5, c5, f5⟩ := L.out.co.dn.at (k := 0) (by omega)
          obtain ⟨g51, g52, g53⟩ := g5
          have R5 := hide (L.out.co.setDn (k := 0) (by omega) true)
          simp only [Nat.add_zero] at c5 f5 R5
          have n5 : ¬ b5 = w1.heap.size := by omega
          have n6 : ¬ b5 = w.heap.size := by omega
          go_wp2_with fail
          refine bodyPost_ret (by simp [results, Tryd.results19, go_sem, M0, M1, M2]; rfl) rfl ?_
          exact DrawnC.of R5.out.cw hlo (by simp [World.setCell]; omega) (by simp; omega) rfl (by simp) rfl (rd_set L.out.rd (by simp; omega) _) (by omega) (gr_set L.out.gr (by simp; omega) _) hRw
        · obtain ⟨b5, o5, x5, rfl, g5, -, -, -⟩ := L.out.co.car.at (k := 0) (by omega)
          obtain ⟨g51, g52, g53⟩ := g5
          have LA := hide (L.out.alloc (.cells #[.bool false] 4))
          have bf : Bools (w5.alloc (.cells #[.bool false] 4)) (some ⟨w5.heap.size, 0, none⟩) [false] := .inr ⟨w5.heap.size, 0, rfl, by simp, fun k u hu => by rw [Nat.zero_add, cell_of_row _ w5.heap.size k _ _ (0, 0) (heap_alloc_new w5 _)]; rw [← hu]; simp [bls]⟩
          have BF := hide bf
          clear bf Lc0 Lc1 Lc2 Llt M0 M1 M2 Mlt N0 N1 N2
          have Lc2 := L.out.x7.at (i := 2) rfl
          go_wp2_with (at_builtin; refine wp_appB rfl (.tmp 61) (.tmp 62) rfl lo _ (some ⟨b5, o5, none⟩) (some ⟨w5.heap.size, 0, none⟩) s2 1 1 D.car [false] rfl rfl rfl LA.out.ow BF.out (by simp; omega) (by simp; omega) ?_; intro A' c' w6 own gr; have OW := hide own; have GR := hide gr; have X7 := hide (LA.out.x7.grown gr (by simp [Value.ownBlock]; omega)); have X6 := hide (LA.out.x6.grown gr (by simp [Value.ownBlock]; omega)); clear own gr Lc2; have j0 := X7.out.at (i := 0) rfl; have j1 := X7.out.at (i := 1) rfl; have j2 := X7.out.at (i := 2) rfl; have jf := X7.out.frozen 2; have M0 := X6.out.at (i := 0) rfl; have M1 := X6.out.at (i := 1) rfl; have M2 := X6.out.at (i := 2) rfl; have N0 := X6.out.frozen 0; have N1 := X6.out.frozen 1; have N2 := X6.out.frozen 2)
          have gr' : (w5.alloc (.cells #[.bool false] 4)).grownBy w6 (rowOf (some ⟨b5, o5, none⟩) D.car.length) := by
            have := GR.out; unfold rowOf; rw [if_neg (by omega)]; exact this
          have U6 : BO lo hi w6 S0 D.up := OS.row LA.out.co.up gr' L.out.co.uc.symm
          have V6 : BO lo hi w6 S1 D.dn := OS.row LA.out.co.dn gr' L.out.co.dc.symm
          have C6 : BO lo w6.heap.size w6 A' (D.car ++ [false]) := own_os OW.out
          have z6 : w5.heap.size ≤ w6.heap.size := by have := gr'.size; simp at this; omega
          have neb := own_ne_box OW.out (by simp) X7.out
          have o7 := (Only.refl w1.heap.size (w1.heap.size + 1) w6).setCell (p := ⟨w1.heap.size, 2, none⟩) (Nat.le_refl _) (Nat.lt_succ_self _) (.slice A' (D.car.length + 1) c')
          have cw : CW lo w6.heap.size (w6.setCell ⟨w1.heap.size, 2, none⟩ (.slice A' (D.car.length + 1) c')) S0 S1 A' ⟨D.up, D.dn, D.car ++ [false]⟩ := ⟨(U6.only o7 (by omega)).mono (Nat.le_refl _) (by omega), (V6.only o7 (by omega)).mono (Nat.le_refl _) (by omega), OS.far C6 (fun b off e _ => neb b off e) _⟩
          have rd6 : Rd w6 R (q + 30 - 2 * 0 + 1 + 1) := LA.out.rd.grown (g := b5) GR.out (by omega)
          have gg6 : w.grownBy w6 (some R) := ⟨GR.out.os.trans LA.out.gr.os, GR.out.tape.trans LA.out.gr.tape, GR.out.output.trans LA.out.gr.output, Nat.le_trans LA.out.gr.size GR.out.size, fun k hk hne => (GR.out.block k (Nat.lt_of_lt_of_le hk LA.out.gr.size) (by simp [Value.ownBlock]; omega)).trans (LA.out.gr.block k hk hne)⟩
          refine bodyPost_ret (by simp [results, Tryd.results19, go_sem, M0, M1, M2]; rfl) rfl ?_
          exact DrawnC.of (q := q + 30 - 2 * 0 + 1 + 1) (q' := q + 100) cw hlo (by rw [World.size_setCell]; exact Nat.le_refl _) (by simp; omega) rfl rfl (by simp) (rd_set rd6 (by simp; omega) _) (by omega) (gr_set gg6 (by simp; omega) _) hRw
        · go_wp2_with fail
          refine bodyPost_ret (by simp [results, Tryd.results19, go_sem, M0, M1, M2]; rfl) rfl ?_
          exact DrawnC.of (CO.zero lo hi _ _ _ _).cw hlo (by omega) (by simp) rfl rfl rfl L.out.rd (by omega) L.out.gr hRw
end Go.Proofs.YtmekhjaeclgonaaDoor
