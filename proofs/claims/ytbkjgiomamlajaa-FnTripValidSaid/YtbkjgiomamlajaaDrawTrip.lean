/- Drawn trips. -/
import Derived.Test.YtbkjgiomamlajaaDrawStops
import Derived.Test.YtbkjgiomamlajaaRidS
import Derived.Test.YtbkjgiomamlajaaHeldBy
namespace Go.Proofs.Ytbkjgiomamlajaa
open Go.RowKit
attribute [local go_sem ↓] Go.wp_at_zero Go.wp_at_succ

/-- What is known while l20Trip draws: the result's box, the box of t at g5, its riders behind it, the reader. -/
structure LT (w : World) (R g5 : Nat) (A : Option Addr) (c : Nat) (t : Tp) (q : Nat) (W : World) : Prop where
  x4 : Box W w.heap.size #[.int .i64 0, .int .i64 0, .int .i64 0, .int .i64 0, .slice none 0 0]
  x5 : Box W g5 #[.int .i64 t.n, .int .i64 t.room, .int .i64 t.f, .int .i64 t.d, .slice A t.rs.length c]
  ow : OwnR (g5 + 1) W (.slice A t.rs.length c) t.rs
  rd : Rd W R q
  gr : w.grownBy W (some R)
section
variable {w W W' : World} {R g5 : Nat} {A : Option Addr} {c : Nat} {t : Tp} {q : Nat}
theorem LT.below (h : LT w R g5 A c t q W) (b : Below W.heap.size W W') : LT w R g5 A c t q W' :=
  ⟨h.x4.below b, h.x5.below b, h.ow.below b, h.rd.below b, grown_below h.gr (b.mono h.gr.size)⟩
theorem LT.alloc (h : LT w R g5 A c t q W) (o : Obj) : LT w R g5 A c t q (W.alloc o) := h.below ((Below.refl _ _).alloc (Nat.le_refl _) o)
theorem LT.drew (h : LT w R g5 A c t q W) : LT w R g5 A c t q W.drew := h.below (below_drewN (Below.refl _ _) 1)
theorem LT.mono {q' : Nat} (h : LT w R g5 A c t q W) (hq : q ≤ q') : LT w R g5 A c t q' W := ⟨h.x4, h.x5, h.ow, h.rd.mono hq, h.gr⟩
theorem LT.pick {q' : Nat} (h : LT w R g5 A c t q W) (hR : R < w.heap.size) (h5 : w.heap.size < g5) (g : W.grownBy W' (some R)) (r : Rd W' R q') : LT w R g5 A c t q' W' :=
  ⟨h.x4.pick g hR, h.x5.pick g (by omega), own_grown h.ow g (by omega), r, grown_then h.gr g⟩
theorem LT.rds (h : LT w R g5 A c t q W) : Rds W A t.rs := (own_rw h.ow).rds
/-- t has been written anew. -/
theorem LT.upd {A' : Option Addr} {c' : Nat} {t' : Tp} (h : LT w R g5 A c t q W) (hR : R < w.heap.size) (h5 : w.heap.size < g5) (o : Only g5 (g5 + 1) W W')
    (x : Box W' g5 #[.int .i64 t'.n, .int .i64 t'.room, .int .i64 t'.f, .int .i64 t'.d, .slice A' t'.rs.length c']) (ow : OwnR (g5 + 1) W (.slice A' t'.rs.length c') t'.rs) : LT w R g5 A' c' t' q W' :=
  ⟨h.x4.only o (.inl h5), x, ow.only o (Nat.le_refl _), h.rd.keep fun k hk => o.block k (by have := h.rd.lt; omega) (.inl (by omega)),
    ⟨o.os.trans h.gr.os, o.tape.trans h.gr.tape, o.output.trans h.gr.output, Nat.le_trans h.gr.size o.size, fun k hk hne => (o.block k (Nat.lt_of_lt_of_le hk h.gr.size) (.inl (by omega))).trans (h.gr.block k hk hne)⟩⟩
/-- A rider has been appended, not stored yet. -/
theorem LT.app {A' : Option Addr} {c' : Nat} {t' : Tp} (h : LT w R g5 A c t q W) (hR : R < w.heap.size) (h5 : w.heap.size < g5) (b : Below (g5 + 1) W W') (ow : OwnR (g5 + 1) W' (.slice A' t'.rs.length c') t'.rs)
    (e1 : t'.n = t.n) (e2 : t'.room = t.room) (e3 : t'.f = t.f) (e4 : t'.d = t.d) : LT w R g5 A' c' t' q (W'.setCell ⟨g5, 4, none⟩ (.slice A' t'.rs.length c')) := by
  have o : Only g5 (g5 + 1) W' (W'.setCell ⟨g5, 4, none⟩ (.slice A' t'.rs.length c')) := (Only.refl _ _ W').setCell (p := ⟨g5, 4, none⟩) (Nat.le_refl _) (Nat.lt_succ_self _) _
  have x5 := (h.x5.belowAt b (Nat.lt_succ_self _)).set 4 (.slice A' t'.rs.length c')
  refine ⟨(h.x4.belowAt b (by omega)).only o (.inl h5), ?_, ow.only o (Nat.le_refl _), (h.rd.keep fun k hk => b.block k (by omega)).keep fun k hk => Below.heap_setCell _ _ _ _ (by show k ≠ g5; omega), ?_⟩
  · rw [e1, e2, e3, e4]; exact x5
  · refine gr_set ⟨b.os.trans h.gr.os, b.tape.trans h.gr.tape, b.output.trans h.gr.output, Nat.le_trans h.gr.size b.size, fun k hk hne => (b.block k (by omega)).trans (h.gr.block k hk hne)⟩ (p := ⟨g5, 4, none⟩) (Nat.le_of_lt h5) _
end
/-- A drawn trip: riders in new blocks, nine at most; the reader has gone on. -/
def DrawnT (R q : Nat) (w : World) (e : Ending) (w' : World) : Prop := ∃ (A : Option Addr) (c : Nat) (t : Tp), e = .returned (.agg #[.int .i64 t.n, .int .i64 t.room, .int .i64 t.f, .int .i64 t.d, .slice A t.rs.length c]) ∧ RW w.heap.size w'.heap.size w' A t.rs ∧ t.rs.length ≤ 9 ∧ Rd w' R q ∧ w.grownBy w' (some R)
theorem DrawnT.of {w W : World} {R q q' lo hi : Nat} {A : Option Addr} {c : Nat} {t : Tp} (x : RW lo hi W A t.rs) (hl : w.heap.size < lo) (hh : hi ≤ W.heap.size) (len : t.rs.length ≤ 9) (rd : Rd W R q) (hq : q ≤ q') (gr : w.grownBy W (some R)) (hR : R < w.heap.size) {a b c' d y : Value} :
    DrawnT R q' w (.returned (.agg #[.int .i64 t.n, .int .i64 t.room, .int .i64 t.f, .int .i64 t.d, .slice A t.rs.length c])) (((((W.setCell ⟨w.heap.size, 0, none⟩ a).setCell ⟨w.heap.size, 1, none⟩ b).setCell ⟨w.heap.size, 2, none⟩ c').setCell ⟨w.heap.size, 3, none⟩ d).setCell ⟨w.heap.size, 4, none⟩ y) := by
  have o := onlyW5 (g := w.heap.size) W a b c' d y
  exact ⟨A, c, t, rfl, (x.only o (.inr hl)).mono (by omega) (Nat.le_trans hh o.size), len, (rd.keep fun k hk => o.block k (by have := rd.lt; omega) (.inl (by omega))).mono hq,
    ⟨o.os.trans gr.os, o.tape.trans gr.tape, o.output.trans gr.output, Nat.le_trans gr.size o.size, fun k hk hne => (o.block k (Nat.lt_of_lt_of_le hk gr.size) (.inl (by omega))).trans (gr.block k hk hne)⟩⟩
theorem DrawnT.upd {w W W' : World} {R g5 q q' : Nat} {A : Option Addr} {c : Nat} {t t' : Tp} (L : LT w R g5 A c t q W) (hR : R < w.heap.size) (h5 : w.heap.size < g5) (o : Only g5 (g5 + 1) W W') (hrs : t'.rs = t.rs) (len : t.rs.length ≤ 9) (hq : q ≤ q') {a b c' d y : Value} :
    DrawnT R q' w (.returned (.agg #[.int .i64 t'.n, .int .i64 t'.room, .int .i64 t'.f, .int .i64 t'.d, .slice A t'.rs.length c])) (((((W'.setCell ⟨w.heap.size, 0, none⟩ a).setCell ⟨w.heap.size, 1, none⟩ b).setCell ⟨w.heap.size, 2, none⟩ c').setCell ⟨w.heap.size, 3, none⟩ d).setCell ⟨w.heap.size, 4, none⟩ y) := by
  have hx := (own_rw L.ow).only o (.inr (Nat.le_refl _))
  rw [← hrs] at hx len
  exact DrawnT.of hx (by omega) o.size len (L.rd.keep fun k hk => o.block k (by have := L.rd.lt; omega) (.inl (by omega))) hq
    ⟨o.os.trans L.gr.os, o.tape.trans L.gr.tape, o.output.trans L.gr.output, Nat.le_trans L.gr.size o.size, fun k hk hne => (o.block k (Nat.lt_of_lt_of_le hk L.gr.size) (.inl (by omega))).trans (L.gr.block k hk hne)⟩ hR
theorem Box.setW5' {w : World} {g : Nat} {a b c d x : Value} (h : Box w g #[a, b, c, d, x]) (a' b' c' d' x' : Value) : Box (((((w.setCell ⟨g, 0, none⟩ a').setCell ⟨g, 1, none⟩ b').setCell ⟨g, 2, none⟩ c').setCell ⟨g, 3, none⟩ d').setCell ⟨g, 4, none⟩ x') g #[a', b', c', d', x'] := ((((h.set 0 a').set 1 b').set 2 c').set 3 d').set 4 x'
theorem lit_rider {w : World} (a b c : Int) : Rds (w.alloc (.cells #[.int .i64 a, .int .i64 b, .int .i64 c] 50)) (some ⟨w.heap.size, 0, none⟩) [(a, b, c)] :=
  .inr ⟨w.heap.size, 0, rfl, by simp, fun k u hu => by rw [Nat.zero_add, cell_of_row _ w.heap.size k _ _ (0, 0) (heap_alloc_new w _)]; rw [← hu]; simp [rcs, cellsOf, encR]⟩
/-- append of riders, as a step of a region. -/
theorem step_appR {ops : Array Oper} {o : Oper} {a : Act} {K : Act → World → Prop} {Q : Exit → Act → World → Prop} {E : Prop} (hgd : Region.wanted o (yielded ops a.tmps) = true) (s x : Operand)
    (ho : o.op = .call { callee := .builtin .append, args := #[s, x], argTypes := #[25, 25] }) (LO : Nat) (w : World) (v : Value) (xs : List Rr) (A : Option Addr) (m c : Nat) (ys : List Rr) (hm : m = ys.length)
    (hs : a.eval s = v) (hx : a.eval x = .slice A m c) (hown : OwnR LO w v xs) (hr : Rds w A ys) (hl : xs.length + ys.length ≤ 1048584) (hLO : LO ≤ w.heap.size)
    (h : ∀ v' w', OwnR LO w' v' (xs ++ ys) → Below LO w w' → K (a.put o.dst v') w') : if Region.wanted o (yielded ops a.tmps) = true then Oper.wp Try.prog o a w K Q else E := by
  obtain ⟨i0, hi, hz0, hz1, hz2⟩ := info_parts info_rider
  subst hm
  refine step_app_g w hgd s x 25 ho LO 50 i0 (.agg #[.int .i64 0, .int .i64 0, .int .i64 0]) 3 24 Try.underlying25 hi hz0 hz1 hz2 rfl (by omega) v xs.length (rcs xs) hs hown A ys.length c (rcs ys) hx (rcs_len ys) hr (rcs_one ys) (by unfold maxLen; omega) (by omega) hLO ?_
  intro v' w' h1 h2 h3
  refine h v' w' ?_ ⟨h2.os, h2.tape, h2.output, h2.size, fun k hk => h2.block k (by omega) fun e => ?_⟩
  · unfold OwnR; rw [List.length_append, rcs_append]; exact h1
  · have := OwnR.block hown k e.symm; omega
theorem cell0_kept {w : World} {g : Nat} {u v : Value} (h : w.cell? ⟨g, 0, none⟩ = some u) : (w.setCell ⟨g, 4, none⟩ v).cell? ⟨g, 0, none⟩ = some u := (World.cell?_setCell_other w _ _ v (by simp)).trans h
set_option maxRecDepth 100000 in
set_option maxHeartbeats 4000000 in
theorem l20Trip_any (R q : Nat) (n : Int) (w : World) (h : Rd w R q) (hq : q ≤ 1000) (hn : 0 ≤ n) (hn2 : n ≤ 1000) :
    Calls Try.prog 42 #[.pointer (some ⟨R, 0, none⟩), .int .i64 n] w (DrawnT R (q + 200) w) := by
  have r := hide h
  have hRw := h.lt
  clear h
  go_enter Try.func42, Try.ntmps42
  go_wp2_with fail
  refine calls_name fun W hW => ?_
  have X4 := hide (Box.new' (g := w.heap.size) hW rfl)
  have b : Below w.heap.size w W := by rw [hW]; exact (Below.refl _ _).alloc (Nat.le_refl _) _
  replace r := hide (r.out.below b)
  have G : Hid (w.grownBy W (some R)) := grown_below (grown_refl w R) b
  have z0 := X4.out.lt
  clear b hW
  refine (pick_any R _ _ _ r.out (by omega) (by omega)).mono ?_
  rintro e w1 ⟨x, rfl, xa, xb, r', g, z⟩
  replace X4 := hide (X4.out.pick g hRw); replace r := hide r'; replace G := hide (grown_then G.out g)
  have z1 := Nat.le_of_eq z.symm
  clear r' g z
  obtain ⟨fl, hfl⟩ : ∃ fl : Nat, (fl : Int) = 2 + x := ⟨(2 + x).toNat, by omega⟩
  have hf1 : 2 ≤ fl := by omega
  have hf2 : fl ≤ 8 := by omega
  go_wp2_with fail
  refine (pick_any R _ _ _ r.out (by omega) (by omega)).mono ?_
  rintro e w2 ⟨y, rfl, ya, yb, r', g, z⟩
  replace X4 := hide (X4.out.pick g hRw); replace r := hide r'; replace G := hide (grown_then G.out g)
  have z2 := Nat.le_of_eq z.symm
  clear r' g z
  go_wp2_with fail
  rw [← hfl]
  clear hfl
  refine calls_name fun W3 hW => ?_
  have X5 := hide (Box.new' (g := w2.heap.size) hW rfl)
  have b : Below w2.heap.size w2 W3 := by rw [hW]; exact (Below.refl _ _).alloc (Nat.le_refl _) _
  replace X4 := hide (X4.out.below b); replace r := hide (r.out.below b); replace G := hide (grown_below G.out (b.mono G.out.size))
  have z3 := X5.out.lt
  clear b hW
  refine (l20Stop_any R _ fl 0 _ r.out (by omega) (by omega) (by omega) (by omega) (by omega)).mono ?_
  rintro e w4 ⟨f, d, rfl, hf, hd, r', g⟩
  replace X4 := hide (X4.out.pick g hRw); replace X5 := hide (X5.out.pick g (by omega)); replace r := hide r'; replace G := hide (grown_then G.out g)
  have z4 := g.size
  clear r' g
  have g5 : w.heap.size < w2.heap.size := by omega
  have X5_lt := X5.out.lt
  have X5_c0 := X5.out.at (i := 0) rfl; have X5_f0 := X5.out.frozen 0
  have X5_c1 := X5.out.at (i := 1) rfl; have X5_f1 := X5.out.frozen 1
  have X5_c2 := X5.out.at (i := 2) rfl; have X5_f2 := X5.out.frozen 2
  have X5_c3 := X5.out.at (i := 3) rfl; have X5_f3 := X5.out.frozen 3
  have X5_c4 := X5.out.at (i := 4) rfl; have X5_f4 := X5.out.frozen 4
  go_wp2_with fail
  clear X5_lt X5_c0 X5_f0 X5_c1 X5_f1 X5_c2 X5_f2 X5_c3 X5_f3 X5_c4 X5_f4
  refine calls_name fun W5 hW => ?_
  have o : Only w2.heap.size (w2.heap.size + 1) w4 W5 := by rw [hW]; exact ((Only.refl _ _ w4).setCell (p := ⟨w2.heap.size, 2, none⟩) (Nat.le_refl _) (Nat.lt_succ_self _) _).setCell (p := ⟨w2.heap.size, 3, none⟩) (Nat.le_refl _) (Nat.lt_succ_self _) _
  have L : Hid (LT w R w2.heap.size none 0 ⟨fl, 1 + y, f, d, []⟩ (q + 20) W5) := by
    refine LT.upd (t := ⟨fl, 1 + y, 0, 0, []⟩) (A := none) (c := 0) ⟨X4.out, X5.out, OwnR.nil _ _, r.out.mono (by omega), G.out⟩ hRw g5 o ?_ (OwnR.nil _ _)
    rw [hW]; exact (X5.out.set 2 (.int .i64 f)).set 3 (.int .i64 d)
  clear X4 X5 r G o hW
  refine (pick_any R _ _ _ L.out.rd (by omega) (by omega)).mono ?_
  rintro e w6 ⟨k0, rfl, k1, k2, r', g, z⟩
  replace L := hide (L.out.pick hRw g5 g r')
  clear r' g z
  obtain ⟨kk, rfl⟩ := Int.eq_ofNat_of_zero_le k1
  go_wp2_with fail
  go_loopw [6] (fun i wr => ∃ (k : Nat) (A : Option Addr) (c : Nat) (t : Tp), i = .int .i64 (k : Int) ∧ k ≤ 8 ∧ t.rs.length + k ≤ 8 ∧ (2 ≤ t.n ∧ t.n ≤ 8) ∧ Hid (LT w R w2.heap.size A c t (q + 60 - 4 * k) wr)) (fun i _ => (intOf i).toNat)
  case atStart => exact ⟨kk, none, 0, ⟨fl, 1 + y, f, d, []⟩, rfl, by omega, by simp; omega, ⟨by show (2 : Int) ≤ (fl : Int); omega, by show (fl : Int) ≤ 8; omega⟩, L.out.mono (by omega)⟩
  case round =>
    clear L k1 k2
    obtain ⟨k, A, c, t, rfl, hk, hkl, ⟨n1, n2⟩, L⟩ := hrel
    have g5l := L.out.x5.lt
    by_cases h0 : 0 < k
    · have hkq : q + 60 - 4 * k ≤ 100000 := by omega
      have hkq1 : q + 60 - 4 * k + 1 ≤ 100000 := by omega
      have hkq2 : q + 60 - 4 * k + 1 + 1 ≤ 100000 := by omega
      have X5 := hide L.out.x5
      have X5_lt := X5.out.lt
      have X5_c0 := X5.out.at (i := 0) rfl; have X5_f0 := X5.out.frozen 0
      have X5_c4 := X5.out.at (i := 4) rfl; have X5_f4 := X5.out.frozen 4
      go_wp2_with fail
      clear X5_lt X5_c0 X5_f0 X5_c4 X5_f4
      clear X5
      refine (pick_any R _ t.n _ L.out.rd hkq (by omega)).mono ?_
      rintro e w7 ⟨fr, rfl, fa, fb, r', g, z⟩
      replace L := hide (L.out.pick hRw g5 g r')
      have z7 := Nat.le_of_eq z.symm
      clear r' g z
      have LD := hide L.out.drew
      have X5 := hide LD.out.x5
      have X5c0 := L.out.x5.at (i := 0) rfl
      have X5c4 := L.out.x5.at (i := 4) rfl
      have ht0 : t.n ≠ 0 := by omega
      have e1 : IntKind.i64.wrap (t.n - 1) = t.n - 1 := IntWalk.i64_in _ (by omega)
      have e2 : IntKind.i64.wrap (fr + 1) = fr + 1 := IntWalk.i64_in _ (by omega)
      go_wp2_with fail
      refine wp_region_noPanic ?_
      refine wp_region_held_drew (S := (fun W => W.cell? ⟨w2.heap.size, 0, none⟩ = some (.int .i64 t.n))) (by kernel_rfl) ?_ (fun hHeld => ?_)
      · (first | (go_keep; done) | exact cell0_kept L3c0)
      (refine take_in (i := 0) (v := ?_) rfl (by rfl) (by kernel_rfl) (by kernel_rfl) (by kernel_rfl) (fun _ _ _ h => h) (by rfl) ?_ (by assumption) ?_; rotate_left; (focus ((intro w hSw; (try dsimp only at hSw); go_simp); (try with_reducible rfl); done)); (try simp only [List.setIfInBounds_toArray, List.set_cons_succ, List.set_cons_zero]))
      (refine take_in (i := 2) (v := ?_) rfl (by rfl) (by kernel_rfl) (by kernel_rfl) (by kernel_rfl) (fun _ _ _ h => h) (by rfl) ?_ (by assumption) ?_; rotate_left; (focus ((intro w hSw; (try dsimp only at hSw); go_simp); (try with_reducible rfl); done)); (try simp only [List.setIfInBounds_toArray, List.set_cons_succ, List.set_cons_zero]))
      (refine take_in (i := 3) (v := ?_) rfl (by rfl) (by kernel_rfl) (by kernel_rfl) (by kernel_rfl) (fun _ _ _ h => h) (by rfl) ?_ (by assumption) ?_; rotate_left; (focus ((intro w hSw; (try dsimp only at hSw); go_simp); (try with_reducible rfl); done)); (try simp only [List.setIfInBounds_toArray, List.set_cons_succ, List.set_cons_zero]))
      (refine take_in (i := 4) (v := ?_) rfl (by rfl) (by kernel_rfl) (by kernel_rfl) (by kernel_rfl) (fun _ _ _ h => h) (by rfl) ?_ (by assumption) ?_; rotate_left; (focus ((intro w hSw; (try dsimp only at hSw); go_simp); (try with_reducible rfl); done)); (try simp only [List.setIfInBounds_toArray, List.set_cons_succ, List.set_cons_zero]))
      (refine take_in (i := 5) (v := ?_) rfl (by rfl) (by kernel_rfl) (by kernel_rfl) (by kernel_rfl) (fun _ _ _ h => h) (by rfl) ?_ (by assumption) ?_; rotate_left; (focus ((intro w hSw; (try dsimp only at hSw); go_simp); (try with_reducible rfl); done)); (try simp only [List.setIfInBounds_toArray, List.set_cons_succ, List.set_cons_zero]))
      (refine take_in (i := 6) (v := ?_) rfl (by rfl) (by kernel_rfl) (by kernel_rfl) (by kernel_rfl) (fun _ _ _ h => h) (by rfl) ?_ (by assumption) ?_; rotate_left; (focus ((intro w hSw; (try dsimp only at hSw); go_simp); (try with_reducible rfl); done)); (try simp only [List.setIfInBounds_toArray, List.set_cons_succ, List.set_cons_zero]))
      (refine take_in (i := 7) (v := ?_) rfl (by rfl) (by kernel_rfl) (by kernel_rfl) (by kernel_rfl) (fun _ _ _ h => h) (by rfl) ?_ (by assumption) ?_; rotate_left; (focus ((intro w hSw; (try dsimp only at hSw); go_simp); (try with_reducible rfl); done)); (try simp only [List.setIfInBounds_toArray, List.set_cons_succ, List.set_cons_zero]))
      (refine take_in (i := 8) (v := ?_) rfl (by rfl) (by kernel_rfl) (by kernel_rfl) (by kernel_rfl) (fun _ _ _ h => h) (by rfl) ?_ (by assumption) ?_; rotate_left; (focus ((intro w hSw; (try dsimp only at hSw); go_simp); (try with_reducible rfl); done)); (try simp only [List.setIfInBounds_toArray, List.set_cons_succ, List.set_cons_zero]))
      (refine take_in (i := 11) (v := ?_) rfl (by rfl) (by kernel_rfl) (by kernel_rfl) (by kernel_rfl) (fun _ _ _ h => h) (by rfl) ?_ (by assumption) ?_; rotate_left; (focus ((intro w hSw; (try dsimp only at hSw); go_simp); (try with_reducible rfl); done)); (try simp only [List.setIfInBounds_toArray, List.set_cons_succ, List.set_cons_zero]))
      (refine take_in (i := 12) (v := ?_) rfl (by rfl) (by kernel_rfl) (by kernel_rfl) (by kernel_rfl) (fun _ _ _ h => h) (by rfl) ?_ (by assumption) ?_; rotate_left; (focus ((intro w hSw; (try dsimp only at hSw); go_simp); (try with_reducible rfl); done)); (try simp only [List.setIfInBounds_toArray, List.set_cons_succ, List.set_cons_zero]))
      (refine take_in (i := 14) (v := ?_) rfl (by rfl) (by kernel_rfl) (by kernel_rfl) (by kernel_rfl) (fun _ _ _ h => h) (by rfl) ?_ (by assumption) ?_; rotate_left; (focus ((intro w hSw; (try dsimp only at hSw); go_simp); (try with_reducible rfl); done)); (try simp only [List.setIfInBounds_toArray, List.set_cons_succ, List.set_cons_zero]))
      refine wpAnyH_ready (rs := [1, 9]) (by kernel_rfl) (by simp) ?_
      refine AllReadyH.cons rfl (fun K hK => ?_) ?_
      go_simp
      refine hK.out _ _ ?_ (fun hHeld => ?_)
      · (first | (go_keep; done) | exact cell0_kept L3c0)
      clear hK K
      (try simp only [Act.put, List.setIfInBounds_toArray, List.set_cons_zero, List.set_cons_succ])
      refine wpAnyH_ready (rs := [9]) (by kernel_rfl) (by simp) ?_
      refine AllReadyH.cons rfl (fun K hK => ?_) AllReadyH.nil
      (go_simp; go_at_call 70; (with_reducible refine (pick_any R _ (t.n - 1) _ LD.out.rd hkq1 (by omega)).mono ?_); rintro e w8 ⟨pa, rfl, pa1, pa2, r', g, z⟩; have L1 := hide (LD.out.pick hRw g5 g r'); have z8 := Nat.le_of_eq z.symm; clear r' g z; have L1c0 := L1.out.x5.at (i := 0) rfl; have L1c4 := L1.out.x5.at (i := 4) rfl; have L1lt := L1.out.x5.lt; go_wp2_with fail)
      refine hK.out _ _ ?_ (fun hHeld => ?_)
      · (first | (go_keep; done) | exact cell0_kept L3c0)
      clear hK K
      (try simp only [Act.put, List.setIfInBounds_toArray, List.set_cons_zero, List.set_cons_succ])
      (refine take_in (i := 10) (v := ?_) rfl (by rfl) (by kernel_rfl) (by kernel_rfl) (by kernel_rfl) (fun _ _ _ h => h) (by rfl) ?_ (by assumption) ?_; rotate_left; (focus ((intro w hSw; (try dsimp only at hSw); go_simp); (try with_reducible rfl); done)); (try simp only [List.setIfInBounds_toArray, List.set_cons_succ, List.set_cons_zero]))
      (refine take_in (i := 13) (v := ?_) rfl (by rfl) (by kernel_rfl) (by kernel_rfl) (by kernel_rfl) (fun _ _ _ h => h) (by rfl) ?_ (by assumption) ?_; rotate_left; (focus ((intro w hSw; (try dsimp only at hSw); go_simp); (try with_reducible rfl); done)); (try simp only [List.setIfInBounds_toArray, List.set_cons_succ, List.set_cons_zero]))
      refine wpAnyH_ready (rs := [15]) (by kernel_rfl) (by simp) ?_
      refine AllReadyH.cons rfl (fun K hK => ?_) AllReadyH.nil
      (go_simp; go_at_call 70; (with_reducible refine (pick_any R _ 9 _ L1.out.rd hkq2 (by omega)).mono ?_); rintro e w9 ⟨pb, rfl, pb1, pb2, r', g, z⟩; have L2 := hide (L1.out.pick hRw g5 g r'); have z9 := Nat.le_of_eq z.symm; clear r' g z; have L2c0 := L2.out.x5.at (i := 0) rfl; have L2c4 := L2.out.x5.at (i := 4) rfl; have L2lt := L2.out.x5.lt; go_wp2_with fail)
      refine hK.out _ _ ?_ (fun hHeld => ?_)
      · (first | (go_keep; done) | exact cell0_kept L3c0)
      clear hK K
      (try simp only [Act.put, List.setIfInBounds_toArray, List.set_cons_zero, List.set_cons_succ])
      (refine take_in (i := 16) (v := ?_) rfl (by rfl) (by kernel_rfl) (by kernel_rfl) (by kernel_rfl) (fun _ _ _ h => h) (by rfl) ?_ (by assumption) ?_; rotate_left; (focus ((intro w hSw; (try dsimp only at hSw); go_simp); (try with_reducible rfl); done)); (try simp only [List.setIfInBounds_toArray, List.set_cons_succ, List.set_cons_zero]))
      (refine take_in (i := 17) (v := ?_) rfl (by rfl) (by kernel_rfl) (by kernel_rfl) (by kernel_rfl) (fun _ _ _ h => h) (by rfl) ?_ (by assumption) ?_; rotate_left; (focus ((intro w hSw; (try dsimp only at hSw); go_simp); (try with_reducible rfl); done)); (try simp only [List.setIfInBounds_toArray, List.set_cons_succ, List.set_cons_zero]))
      (refine take_in (i := 18) (v := ?_) rfl (by rfl) (by kernel_rfl) (by kernel_rfl) (by kernel_rfl) (fun _ _ _ h => h) (by rfl) ?_ (by assumption) ?_; rotate_left; (focus ((intro w hSw; (try dsimp only at hSw); go_simp); (try with_reducible rfl); done)); (try simp only [List.setIfInBounds_toArray, List.set_cons_succ, List.set_cons_zero]))
      refine wpAnyH_ready (rs := [19]) (by kernel_rfl) (by simp) ?_
      refine AllReadyH.cons rfl (fun K hK => ?_) AllReadyH.nil
      go_simp
      refine hK.out _ _ ?_ (fun hHeld => ?_)
      · (first | (go_keep; done) | exact cell0_kept L3c0)
      clear hK K
      (try simp only [Act.put, List.setIfInBounds_toArray, List.set_cons_zero, List.set_cons_succ])
      refine wpAnyH_ready (rs := [20]) (by kernel_rfl) (by simp) ?_
      refine AllReadyH.cons rfl (fun K hK => ?_) AllReadyH.nil
      (refine step_appR (by rfl) (.tmp 35) (.tmp 53) (by rfl) (w2.heap.size + 1) _ (.slice A t.rs.length c) t.rs _ 1 1 [_] rfl (by rfl) (by rfl) (L2.out.alloc _).ow (lit_rider _ _ _) (by simp; omega) (by simp; omega) ?_; intro v' w10 own b10; obtain ⟨l', hl', own⟩ : ∃ l' : List Rr, l'.length = t.rs.length + 1 ∧ OwnR (w2.heap.size + 1) w10 v' l' := ⟨_, by simp, own⟩; obtain ⟨A', c', rfl, rw10⟩ := OwnR.form own; have HLN := hide hl'; clear hl'; have OW := hide own; have B10 := hide b10; clear own b10 rw10; have L3 := hide ((L2.out.alloc _).x5.belowAt B10.out (Nat.lt_succ_self _)); have L3c0 := L3.out.at (i := 0) rfl; have L3c4 := L3.out.at (i := 4) rfl; have L3f4 := L3.out.frozen 4)
      refine hK.out _ _ ?_ (fun hHeld => ?_)
      · (first | (go_keep; done) | exact cell0_kept L3c0)
      clear hK K
      (try simp only [Act.put, List.setIfInBounds_toArray])
      (refine take_in (i := 21) (v := ?_) rfl (by rfl) (by kernel_rfl) (by kernel_rfl) (by kernel_rfl) (fun _ _ _ h => h) (by rfl) ?_ (by assumption) ?_; rotate_left; (focus ((intro w hSw; (try dsimp only at hSw); go_simp); (try with_reducible rfl); done)); (try simp only [List.setIfInBounds_toArray, List.set_cons_succ, List.set_cons_zero]))
      refine wpAnyH_ready (rs := [22]) (by kernel_rfl) (by simp) ?_
      refine AllReadyH.cons rfl (fun K hK => ?_) AllReadyH.nil
      go_simp
      refine hK.out _ _ ?_ (fun hHeld => ?_)
      · (first | (go_keep; done) | exact cell0_kept L3c0)
      clear hK K
      (try simp only [Act.put])
      refine wpAnyH_done (by kernel_rfl) ?_ _
      refine NoPanic.normal ?_
      rotate_left
      refine AllReadyH.cons rfl (fun K hK => ?_) AllReadyH.nil
      (go_simp; go_at_call 70; (with_reducible refine (pick_any R _ (t.n - 1) _ LD.out.rd hkq1 (by omega)).mono ?_); rintro e w8 ⟨pa, rfl, pa1, pa2, r', g, z⟩; have L1 := hide (LD.out.pick hRw g5 g r'); have z8 := Nat.le_of_eq z.symm; clear r' g z; have L1c0 := L1.out.x5.at (i := 0) rfl; have L1c4 := L1.out.x5.at (i := 4) rfl; have L1lt := L1.out.x5.lt; go_wp2_with fail)
      refine hK.out _ _ ?_ (fun hHeld => ?_)
      · (first | (go_keep; done) | exact cell0_kept L3c0)
      clear hK K
      (try simp only [Act.put, List.setIfInBounds_toArray, List.set_cons_zero, List.set_cons_succ])
      (refine take_in (i := 10) (v := ?_) rfl (by rfl) (by kernel_rfl) (by kernel_rfl) (by kernel_rfl) (fun _ _ _ h => h) (by rfl) ?_ (by assumption) ?_; rotate_left; (focus ((intro w hSw; (try dsimp only at hSw); go_simp); (try with_reducible rfl); done)); (try simp only [List.setIfInBounds_toArray, List.set_cons_succ, List.set_cons_zero]))
      (refine take_in (i := 13) (v := ?_) rfl (by rfl) (by kernel_rfl) (by kernel_rfl) (by kernel_rfl) (fun _ _ _ h => h) (by rfl) ?_ (by assumption) ?_; rotate_left; (focus ((intro w hSw; (try dsimp only at hSw); go_simp); (try with_reducible rfl); done)); (try simp only [List.setIfInBounds_toArray, List.set_cons_succ, List.set_cons_zero]))
      refine wpAnyH_ready (rs := [1, 15]) (by kernel_rfl) (by simp) ?_
      refine AllReadyH.cons rfl (fun K hK => ?_) ?_
      go_simp
      refine hK.out _ _ ?_ (fun hHeld => ?_)
      · (first | (go_keep; done) | exact cell0_kept L3c0)
      clear hK K
      (try simp only [Act.put, List.setIfInBounds_toArray, List.set_cons_zero, List.set_cons_succ])
      refine wpAnyH_ready (rs := [15]) (by kernel_rfl) (by simp) ?_
      refine AllReadyH.cons rfl (fun K hK => ?_) AllReadyH.nil
      (go_simp; go_at_call 70; (with_reducible refine (pick_any R _ 9 _ L1.out.rd hkq2 (by omega)).mono ?_); rintro e w9 ⟨pb, rfl, pb1, pb2, r', g, z⟩; have L2 := hide (L1.out.pick hRw g5 g r'); have z9 := Nat.le_of_eq z.symm; clear r' g z; have L2c0 := L2.out.x5.at (i := 0) rfl; have L2c4 := L2.out.x5.at (i := 4) rfl; have L2lt := L2.out.x5.lt; go_wp2_with fail)
      refine hK.out _ _ ?_ (fun hHeld => ?_)
      · (first | (go_keep; done) | exact cell0_kept L3c0)
      clear hK K
      (try simp only [Act.put, List.setIfInBounds_toArray, List.set_cons_zero, List.set_cons_succ])
      (refine take_in (i := 16) (v := ?_) rfl (by rfl) (by kernel_rfl) (by kernel_rfl) (by kernel_rfl) (fun _ _ _ h => h) (by rfl) ?_ (by assumption) ?_; rotate_left; (focus ((intro w hSw; (try dsimp only at hSw); go_simp); (try with_reducible rfl); done)); (try simp only [List.setIfInBounds_toArray, List.set_cons_succ, List.set_cons_zero]))
      (refine take_in (i := 17) (v := ?_) rfl (by rfl) (by kernel_rfl) (by kernel_rfl) (by kernel_rfl) (fun _ _ _ h => h) (by rfl) ?_ (by assumption) ?_; rotate_left; (focus ((intro w hSw; (try dsimp only at hSw); go_simp); (try with_reducible rfl); done)); (try simp only [List.setIfInBounds_toArray, List.set_cons_succ, List.set_cons_zero]))
      (refine take_in (i := 18) (v := ?_) rfl (by rfl) (by kernel_rfl) (by kernel_rfl) (by kernel_rfl) (fun _ _ _ h => h) (by rfl) ?_ (by assumption) ?_; rotate_left; (focus ((intro w hSw; (try dsimp only at hSw); go_simp); (try with_reducible rfl); done)); (try simp only [List.setIfInBounds_toArray, List.set_cons_succ, List.set_cons_zero]))
      refine wpAnyH_ready (rs := [19]) (by kernel_rfl) (by simp) ?_
      refine AllReadyH.cons rfl (fun K hK => ?_) AllReadyH.nil
      go_simp
      refine hK.out _ _ ?_ (fun hHeld => ?_)
      · (first | (go_keep; done) | exact cell0_kept L3c0)
      clear hK K
      (try simp only [Act.put, List.setIfInBounds_toArray, List.set_cons_zero, List.set_cons_succ])
      refine wpAnyH_ready (rs := [20]) (by kernel_rfl) (by simp) ?_
      refine AllReadyH.cons rfl (fun K hK => ?_) AllReadyH.nil
      (refine step_appR (by rfl) (.tmp 35) (.tmp 53) (by rfl) (w2.heap.size + 1) _ (.slice A t.rs.length c) t.rs _ 1 1 [_] rfl (by rfl) (by rfl) (L2.out.alloc _).ow (lit_rider _ _ _) (by simp; omega) (by simp; omega) ?_; intro v' w10 own b10; obtain ⟨l', hl', own⟩ : ∃ l' : List Rr, l'.length = t.rs.length + 1 ∧ OwnR (w2.heap.size + 1) w10 v' l' := ⟨_, by simp, own⟩; obtain ⟨A', c', rfl, rw10⟩ := OwnR.form own; have HLN := hide hl'; clear hl'; have OW := hide own; have B10 := hide b10; clear own b10 rw10; have L3 := hide ((L2.out.alloc _).x5.belowAt B10.out (Nat.lt_succ_self _)); have L3c0 := L3.out.at (i := 0) rfl; have L3c4 := L3.out.at (i := 4) rfl; have L3f4 := L3.out.frozen 4)
      refine hK.out _ _ ?_ (fun hHeld => ?_)
      · (first | (go_keep; done) | exact cell0_kept L3c0)
      clear hK K
      (try simp only [Act.put, List.setIfInBounds_toArray])
      (refine take_in (i := 21) (v := ?_) rfl (by rfl) (by kernel_rfl) (by kernel_rfl) (by kernel_rfl) (fun _ _ _ h => h) (by rfl) ?_ (by assumption) ?_; rotate_left; (focus ((intro w hSw; (try dsimp only at hSw); go_simp); (try with_reducible rfl); done)); (try simp only [List.setIfInBounds_toArray, List.set_cons_succ, List.set_cons_zero]))
      refine wpAnyH_ready (rs := [22]) (by kernel_rfl) (by simp) ?_
      refine AllReadyH.cons rfl (fun K hK => ?_) AllReadyH.nil
      go_simp
      refine hK.out _ _ ?_ (fun hHeld => ?_)
      · (first | (go_keep; done) | exact cell0_kept L3c0)
      clear hK K
      (try simp only [Act.put])
      refine wpAnyH_done (by kernel_rfl) ?_ _
      refine NoPanic.normal ?_
      rotate_left
      refine AllReadyH.cons rfl (fun K hK => ?_) AllReadyH.nil
      (go_simp; go_at_call 70; (with_reducible refine (pick_any R _ 9 _ L1.out.rd hkq2 (by omega)).mono ?_); rintro e w9 ⟨pb, rfl, pb1, pb2, r', g, z⟩; have L2 := hide (L1.out.pick hRw g5 g r'); have z9 := Nat.le_of_eq z.symm; clear r' g z; have L2c0 := L2.out.x5.at (i := 0) rfl; have L2c4 := L2.out.x5.at (i := 4) rfl; have L2lt := L2.out.x5.lt; go_wp2_with fail)
      refine hK.out _ _ ?_ (fun hHeld => ?_)
      · (first | (go_keep; done) | exact cell0_kept L3c0)
      clear hK K
      (try simp only [Act.put, List.setIfInBounds_toArray, List.set_cons_zero, List.set_cons_succ])
      (refine take_in (i := 16) (v := ?_) rfl (by rfl) (by kernel_rfl) (by kernel_rfl) (by kernel_rfl) (fun _ _ _ h => h) (by rfl) ?_ (by assumption) ?_; rotate_left; (focus ((intro w hSw; (try dsimp only at hSw); go_simp); (try with_reducible rfl); done)); (try simp only [List.setIfInBounds_toArray, List.set_cons_succ, List.set_cons_zero]))
      (refine take_in (i := 17) (v := ?_) rfl (by rfl) (by kernel_rfl) (by kernel_rfl) (by kernel_rfl) (fun _ _ _ h => h) (by rfl) ?_ (by assumption) ?_; rotate_left; (focus ((intro w hSw; (try dsimp only at hSw); go_simp); (try with_reducible rfl); done)); (try simp only [List.setIfInBounds_toArray, List.set_cons_succ, List.set_cons_zero]))
      (refine take_in (i := 18) (v := ?_) rfl (by rfl) (by kernel_rfl) (by kernel_rfl) (by kernel_rfl) (fun _ _ _ h => h) (by rfl) ?_ (by assumption) ?_; rotate_left; (focus ((intro w hSw; (try dsimp only at hSw); go_simp); (try with_reducible rfl); done)); (try simp only [List.setIfInBounds_toArray, List.set_cons_succ, List.set_cons_zero]))
      refine wpAnyH_ready (rs := [1, 19]) (by kernel_rfl) (by simp) ?_
      refine AllReadyH.cons rfl (fun K hK => ?_) ?_
      go_simp
      refine hK.out _ _ ?_ (fun hHeld => ?_)
      · (first | (go_keep; done) | exact cell0_kept L3c0)
      clear hK K
      (try simp only [Act.put, List.setIfInBounds_toArray, List.set_cons_zero, List.set_cons_succ])
      refine wpAnyH_ready (rs := [19]) (by kernel_rfl) (by simp) ?_
      refine AllReadyH.cons rfl (fun K hK => ?_) AllReadyH.nil
      go_simp
      refine hK.out _ _ ?_ (fun hHeld => ?_)
      · (first | (go_keep; done) | exact cell0_kept L3c0)
      clear hK K
      (try simp only [Act.put, List.setIfInBounds_toArray, List.set_cons_zero, List.set_cons_succ])
      refine wpAnyH_ready (rs := [20]) (by kernel_rfl) (by simp) ?_
      refine AllReadyH.cons rfl (fun K hK => ?_) AllReadyH.nil
      (refine step_appR (by rfl) (.tmp 35) (.tmp 53) (by rfl) (w2.heap.size + 1) _ (.slice A t.rs.length c) t.rs _ 1 1 [_] rfl (by rfl) (by rfl) (L2.out.alloc _).ow (lit_rider _ _ _) (by simp; omega) (by simp; omega) ?_; intro v' w10 own b10; obtain ⟨l', hl', own⟩ : ∃ l' : List Rr, l'.length = t.rs.length + 1 ∧ OwnR (w2.heap.size + 1) w10 v' l' := ⟨_, by simp, own⟩; obtain ⟨A', c', rfl, rw10⟩ := OwnR.form own; have HLN := hide hl'; clear hl'; have OW := hide own; have B10 := hide b10; clear own b10 rw10; have L3 := hide ((L2.out.alloc _).x5.belowAt B10.out (Nat.lt_succ_self _)); have L3c0 := L3.out.at (i := 0) rfl; have L3c4 := L3.out.at (i := 4) rfl; have L3f4 := L3.out.frozen 4)
      refine hK.out _ _ ?_ (fun hHeld => ?_)
      · (first | (go_keep; done) | exact cell0_kept L3c0)
      clear hK K
      (try simp only [Act.put, List.setIfInBounds_toArray])
      (refine take_in (i := 21) (v := ?_) rfl (by rfl) (by kernel_rfl) (by kernel_rfl) (by kernel_rfl) (fun _ _ _ h => h) (by rfl) ?_ (by assumption) ?_; rotate_left; (focus ((intro w hSw; (try dsimp only at hSw); go_simp); (try with_reducible rfl); done)); (try simp only [List.setIfInBounds_toArray, List.set_cons_succ, List.set_cons_zero]))
      refine wpAnyH_ready (rs := [22]) (by kernel_rfl) (by simp) ?_
      refine AllReadyH.cons rfl (fun K hK => ?_) AllReadyH.nil
      go_simp
      refine hK.out _ _ ?_ (fun hHeld => ?_)
      · (first | (go_keep; done) | exact cell0_kept L3c0)
      clear hK K
      (try simp only [Act.put])
      refine wpAnyH_done (by kernel_rfl) ?_ _
      refine NoPanic.normal ?_
      rotate_left
      refine AllReadyH.cons rfl (fun K hK => ?_) AllReadyH.nil
      go_simp
      refine hK.out _ _ ?_ (fun hHeld => ?_)
      · (first | (go_keep; done) | exact cell0_kept L3c0)
      clear hK K
      (try simp only [Act.put, List.setIfInBounds_toArray, List.set_cons_zero, List.set_cons_succ])
      refine wpAnyH_ready (rs := [1]) (by kernel_rfl) (by simp) ?_
      refine AllReadyH.cons rfl (fun K hK => ?_) AllReadyH.nil
      go_simp
      refine hK.out _ _ ?_ (fun hHeld => ?_)
      · (first | (go_keep; done) | exact cell0_kept L3c0)
      clear hK K
      (try simp only [Act.put, List.setIfInBounds_toArray, List.set_cons_zero, List.set_cons_succ])
      refine wpAnyH_ready (rs := [20]) (by kernel_rfl) (by simp) ?_
      refine AllReadyH.cons rfl (fun K hK => ?_) AllReadyH.nil
      (refine step_appR (by rfl) (.tmp 35) (.tmp 53) (by rfl) (w2.heap.size + 1) _ (.slice A t.rs.length c) t.rs _ 1 1 [_] rfl (by rfl) (by rfl) (L2.out.alloc _).ow (lit_rider _ _ _) (by simp; omega) (by simp; omega) ?_; intro v' w10 own b10; obtain ⟨l', hl', own⟩ : ∃ l' : List Rr, l'.length = t.rs.length + 1 ∧ OwnR (w2.heap.size + 1) w10 v' l' := ⟨_, by simp, own⟩; obtain ⟨A', c', rfl, rw10⟩ := OwnR.form own; have HLN := hide hl'; clear hl'; have OW := hide own; have B10 := hide b10; clear own b10 rw10; have L3 := hide ((L2.out.alloc _).x5.belowAt B10.out (Nat.lt_succ_self _)); have L3c0 := L3.out.at (i := 0) rfl; have L3c4 := L3.out.at (i := 4) rfl; have L3f4 := L3.out.frozen 4)
      refine hK.out _ _ ?_ (fun hHeld => ?_)
      · (first | (go_keep; done) | exact cell0_kept L3c0)
      clear hK K
      (try simp only [Act.put, List.setIfInBounds_toArray])
      (refine take_in (i := 21) (v := ?_) rfl (by rfl) (by kernel_rfl) (by kernel_rfl) (by kernel_rfl) (fun _ _ _ h => h) (by rfl) ?_ (by assumption) ?_; rotate_left; (focus ((intro w hSw; (try dsimp only at hSw); go_simp); (try with_reducible rfl); done)); (try simp only [List.setIfInBounds_toArray, List.set_cons_succ, List.set_cons_zero]))
      refine wpAnyH_ready (rs := [22]) (by kernel_rfl) (by simp) ?_
      refine AllReadyH.cons rfl (fun K hK => ?_) AllReadyH.nil
      go_simp
      refine hK.out _ _ ?_ (fun hHeld => ?_)
      · (first | (go_keep; done) | exact cell0_kept L3c0)
      clear hK K
      (try simp only [Act.put])
      refine wpAnyH_done (by kernel_rfl) ?_ _
      refine NoPanic.normal ?_
      rotate_left
      all_goals
        go_wp2_with fail
        have hl' := HLN.out
        refine ⟨⟨k - 1, A', c', ⟨t.n, t.room, t.f, t.d, l'⟩, by go_num, by omega, by show l'.length + (k - 1) ≤ 8; omega, ⟨n1, n2⟩, ?_⟩, by simp [intOf]; omega⟩
        exact hide (LT.mono (LT.app (t' := ⟨t.n, t.room, t.f, t.d, l'⟩) (L2.out.alloc _) hRw g5 B10.out OW.out rfl rfl rfl rfl) (by omega))
    · obtain rfl : k = 0 := by omega
      have h8 : t.rs.length ≤ 8 := by omega
      replace L := hide (L.out.mono (q' := q + 60) (by omega))
      clear hkl n1 n2 hk h0
      go_wp2_with fail
      refine (pick_any R _ _ _ L.out.rd (by omega) (by omega)).mono ?_
      rintro e w7 ⟨j0, rfl, j1, j2, r', g, z⟩
      replace L := hide (L.out.pick hRw g5 g r')
      clear r' g z
      obtain ⟨jj, rfl⟩ := Int.eq_ofNat_of_zero_le j1
      go_wp2_with fail
      go_loopw [8] (fun i wr => ∃ (k : Nat) (A : Option Addr) (c : Nat) (t : Tp), i = .int .i64 (k : Int) ∧ k ≤ 5 ∧ t.rs.length ≤ 8 ∧ Hid (LT w R w2.heap.size A c t (q + 61) wr)) (fun i _ => (intOf i).toNat)
      case atStart => exact ⟨jj, A, c, t, rfl, by omega, h8, L⟩
      case round =>
        clear L j1 j2 h8
        obtain ⟨k, A, c, t, rfl, hk, h8, L⟩ := hrel
        have X5 := hide L.out.x5
        have g5l := L.out.x5.lt
        by_cases h0 : 0 < k
        · have X5_lt := X5.out.lt
          have X5_c0 := X5.out.at (i := 0) rfl; have X5_f0 := X5.out.frozen 0
          have X5_c1 := X5.out.at (i := 1) rfl; have X5_f1 := X5.out.frozen 1
          have X5_c2 := X5.out.at (i := 2) rfl; have X5_f2 := X5.out.frozen 2
          have X5_c3 := X5.out.at (i := 3) rfl; have X5_f3 := X5.out.frozen 3
          have X5_c4 := X5.out.at (i := 4) rfl; have X5_f4 := X5.out.frozen 4
          go_wp2_with fail
          clear X5_lt X5_c0 X5_f0 X5_c1 X5_f1 X5_c2 X5_f2 X5_c3 X5_f3 X5_c4 X5_f4
          refine (specTripStepO A c t _ L.out.rds (by omega)).mono ?_
          rintro e w8 ⟨A', c', rfl, P, b, ow⟩
          have hlen := stepB_len t
          obtain ⟨D, hD⟩ : ∃ D, D = stepB t := ⟨_, rfl⟩
          rw [← hD] at P ow hlen ⊢
          clear hD
          obtain ⟨D, x⟩ := D
          have z8 := b.size
          have OW : Hid (x = true → OwnR (w2.heap.size + 1) w8 (.slice A' D.rs.length c') D.rs) := fun hx => OwnR.mono (ow hx) (by omega)
          replace L := hide (L.out.below b)
          clear b P ow X5
          have X5 := hide L.out.x5
          cases x
          · go_wp2_with fail
            exact ⟨⟨k - 1, A, c, t, by go_num, by omega, h8, hide (L.out.alloc _)⟩, by simp [intOf]; omega⟩
          · have OW2 := hide (OW.out (by simp))
            have X5_lt := X5.out.lt
            have X5_c0 := X5.out.at (i := 0) rfl; have X5_f0 := X5.out.frozen 0
            have X5_c1 := X5.out.at (i := 1) rfl; have X5_f1 := X5.out.frozen 1
            have X5_c2 := X5.out.at (i := 2) rfl; have X5_f2 := X5.out.frozen 2
            have X5_c3 := X5.out.at (i := 3) rfl; have X5_f3 := X5.out.frozen 3
            have X5_c4 := X5.out.at (i := 4) rfl; have X5_f4 := X5.out.frozen 4
            go_wp2_with fail
            refine ⟨⟨k - 1, A', c', D, by go_num, by omega, by have hl8 : (D.rs.length : Int) ≤ 8 := hlen; omega, ?_⟩, by simp [intOf]; omega⟩
            exact hide (LT.alloc (LT.upd L.out hRw g5 (onlyW5 _ _ _ _ _ _) (Box.setW5' L.out.x5 _ _ _ _ _) OW2.out) _)
        · obtain rfl : k = 0 := by omega
          clear h0 hk
          go_wp2_with fail
          refine (odd_any R _ n _ L.out.rd (by omega) hn hn2).mono ?_
          rintro e w8 ⟨ob, rfl, r', g, z⟩
          replace L := hide (L.out.pick hRw g5 g r')
          clear r' g z X5
          cases ob
          · have X4 := hide L.out.x4
            have X5 := hide L.out.x5
            have X4_lt := X4.out.lt
            have X4_c0 := X4.out.at (i := 0) rfl; have X4_f0 := X4.out.frozen 0
            have X4_c1 := X4.out.at (i := 1) rfl; have X4_f1 := X4.out.frozen 1
            have X4_c2 := X4.out.at (i := 2) rfl; have X4_f2 := X4.out.frozen 2
            have X4_c3 := X4.out.at (i := 3) rfl; have X4_f3 := X4.out.frozen 3
            have X4_c4 := X4.out.at (i := 4) rfl; have X4_f4 := X4.out.frozen 4
            have X5_lt := X5.out.lt
            have X5_c0 := X5.out.at (i := 0) rfl; have X5_f0 := X5.out.frozen 0
            have X5_c1 := X5.out.at (i := 1) rfl; have X5_f1 := X5.out.frozen 1
            have X5_c2 := X5.out.at (i := 2) rfl; have X5_f2 := X5.out.frozen 2
            have X5_c3 := X5.out.at (i := 3) rfl; have X5_f3 := X5.out.frozen 3
            have X5_c4 := X5.out.at (i := 4) rfl; have X5_f4 := X5.out.frozen 4
            go_wp2_with fail
            refine bodyPost_ret (by simp [results, Try.results42, go_sem, X4_c0, X4_c1, X4_c2, X4_c3, X4_c4]; rfl) rfl ?_
            exact DrawnT.of (own_rw L.out.ow) (by omega) (Nat.le_refl _) (by omega) L.out.rd (by omega) L.out.gr hRw
          · go_wp2_with fail
            refine (pick_any R _ 4 _ L.out.rd (by omega) (by omega)).mono ?_
            rintro e w9 ⟨u, rfl, ua, ub, r', g, z⟩
            replace L := hide (L.out.pick hRw g5 g r')
            clear r' g z
            have X4 := hide L.out.x4
            have X5 := hide L.out.x5
            have z9 := L.out.x5.lt
            have hu : u = 0 ∨ u = 1 ∨ u = 2 ∨ u = 3 := by omega
            clear ua ub
            rcases hu with rfl | rfl | rfl | rfl
            · go_wp2_with fail
              refine calls_name fun W10 hW => ?_
              have XL := hide (Box.new' (g := w9.heap.size) hW rfl)
              have b : Below w9.heap.size w9 W10 := by rw [hW]; exact (Below.refl _ _).alloc (Nat.le_refl _) _
              replace L := hide (L.out.below b)
              clear b hW X4 X5
              refine (pick_any R _ 2 _ L.out.rd (by omega) (by omega)).mono ?_
              rintro e w11 ⟨v, rfl, va, vb, r', g, z⟩
              replace L := hide (L.out.pick hRw g5 g r'); replace XL := hide (XL.out.pick g (by omega))
              clear r' g z
              have X4 := hide L.out.x4
              have X5 := hide L.out.x5
              have hv : v = 0 ∨ v = 1 := by omega
              clear va vb
              rcases hv with rfl | rfl
              all_goals
                have X4_lt := X4.out.lt
                have X4_c0 := X4.out.at (i := 0) rfl; have X4_f0 := X4.out.frozen 0
                have X4_c1 := X4.out.at (i := 1) rfl; have X4_f1 := X4.out.frozen 1
                have X4_c2 := X4.out.at (i := 2) rfl; have X4_f2 := X4.out.frozen 2
                have X4_c3 := X4.out.at (i := 3) rfl; have X4_f3 := X4.out.frozen 3
                have X4_c4 := X4.out.at (i := 4) rfl; have X4_f4 := X4.out.frozen 4
                have X5_lt := X5.out.lt
                have X5_c0 := X5.out.at (i := 0) rfl; have X5_f0 := X5.out.frozen 0
                have X5_c1 := X5.out.at (i := 1) rfl; have X5_f1 := X5.out.frozen 1
                have X5_c2 := X5.out.at (i := 2) rfl; have X5_f2 := X5.out.frozen 2
                have X5_c3 := X5.out.at (i := 3) rfl; have X5_f3 := X5.out.frozen 3
                have X5_c4 := X5.out.at (i := 4) rfl; have X5_f4 := X5.out.frozen 4
                have XL_lt := XL.out.lt
                have XL_c0 := XL.out.at (i := 0) rfl; have XL_f0 := XL.out.frozen 0
                have XL_c1 := XL.out.at (i := 1) rfl; have XL_f1 := XL.out.frozen 1
                go_wp2_with fail
                refine bodyPost_ret (by simp [results, Try.results42, go_sem, X4_c0, X4_c1, X4_c2, X4_c3, X4_c4]; rfl) rfl ?_
                first | exact DrawnT.upd (q' := q + 200) (t' := ⟨t.n, 0, t.f, t.d, t.rs⟩) L.out hRw g5 ((Only.refl _ _ w11).setCell (p := ⟨w2.heap.size, 1, none⟩) (Nat.le_refl _) (Nat.lt_succ_self _) _) rfl (by omega) (by omega) | exact DrawnT.upd (q' := q + 200) (t' := ⟨t.n, 9, t.f, t.d, t.rs⟩) L.out hRw g5 ((Only.refl _ _ w11).setCell (p := ⟨w2.heap.size, 1, none⟩) (Nat.le_refl _) (Nat.lt_succ_self _) _) rfl (by omega) (by omega)
            · have X4_lt := X4.out.lt
              have X4_c0 := X4.out.at (i := 0) rfl; have X4_f0 := X4.out.frozen 0
              have X4_c1 := X4.out.at (i := 1) rfl; have X4_f1 := X4.out.frozen 1
              have X4_c2 := X4.out.at (i := 2) rfl; have X4_f2 := X4.out.frozen 2
              have X4_c3 := X4.out.at (i := 3) rfl; have X4_f3 := X4.out.frozen 3
              have X4_c4 := X4.out.at (i := 4) rfl; have X4_f4 := X4.out.frozen 4
              have X5_lt := X5.out.lt
              have X5_c0 := X5.out.at (i := 0) rfl; have X5_f0 := X5.out.frozen 0
              have X5_c1 := X5.out.at (i := 1) rfl; have X5_f1 := X5.out.frozen 1
              have X5_c2 := X5.out.at (i := 2) rfl; have X5_f2 := X5.out.frozen 2
              have X5_c3 := X5.out.at (i := 3) rfl; have X5_f3 := X5.out.frozen 3
              have X5_c4 := X5.out.at (i := 4) rfl; have X5_f4 := X5.out.frozen 4
              go_wp2_with fail
              refine bodyPost_ret (by simp [results, Try.results42, go_sem, X4_c0, X4_c1, X4_c2, X4_c3, X4_c4]; rfl) rfl ?_
              exact DrawnT.upd (t' := ⟨t.n, t.room, t.n, t.d, t.rs⟩) L.out hRw g5 ((Only.refl _ _ w9).setCell (p := ⟨w2.heap.size, 2, none⟩) (Nat.le_refl _) (Nat.lt_succ_self _) _) rfl (by omega) (by omega)
            · have X5_lt := X5.out.lt
              have X5_c4 := X5.out.at (i := 4) rfl; have X5_f4 := X5.out.frozen 4
              go_wp2_with (at_builtin; refine wp_appR rfl (.tmp 103) (.tmp 105) rfl (w2.heap.size + 1) _ (.slice A t.rs.length c) t.rs (some ⟨w9.heap.size, 0, none⟩) 1 1 [(1, 1, 0)] rfl rfl rfl (L.out.alloc _).ow (lit_rider _ _ _) (by simp; omega) (by simp; omega) ?_; intro v' w10 own b10; obtain ⟨l', hl', own⟩ : ∃ l' : List Rr, l'.length = t.rs.length + 1 ∧ OwnR (w2.heap.size + 1) w10 v' l' := ⟨_, by simp, own⟩; obtain ⟨A', c', rfl, rw10⟩ := OwnR.form own; have HLN := hide hl'; clear hl'; have OW := hide own; have B10 := hide b10; clear own b10 rw10 X5_c4 X5_f4; have X5 := hide ((L.out.alloc _).x5.belowAt B10.out (Nat.lt_succ_self _)); have X4 := hide ((L.out.alloc _).x4.belowAt B10.out (by omega)); have X5_c0 := X5.out.at (i := 0) rfl; have X5_c1 := X5.out.at (i := 1) rfl; have X5_c2 := X5.out.at (i := 2) rfl; have X5_c3 := X5.out.at (i := 3) rfl; have X5_c4 := X5.out.at (i := 4) rfl; have X5_f4 := X5.out.frozen 4; have X4_c0 := X4.out.at (i := 0) rfl; have X4_c1 := X4.out.at (i := 1) rfl; have X4_c2 := X4.out.at (i := 2) rfl; have X4_c3 := X4.out.at (i := 3) rfl; have X4_c4 := X4.out.at (i := 4) rfl; have X4_f0 := X4.out.frozen 0; have X4_f1 := X4.out.frozen 1; have X4_f2 := X4.out.frozen 2; have X4_f3 := X4.out.frozen 3; have X4_f4 := X4.out.frozen 4; have n4 : ¬ w.heap.size = w2.heap.size := (by omega))
              refine bodyPost_ret (by simp [results, Try.results42, go_sem, X4_c0, X4_c1, X4_c2, X4_c3, X4_c4]; rfl) rfl ?_
              have L' := LT.app (t' := ⟨t.n, t.room, t.f, t.d, l'⟩) (L.out.alloc _) hRw g5 B10.out OW.out rfl rfl rfl rfl
              exact DrawnT.of (t := ⟨t.n, t.room, t.f, t.d, l'⟩) (own_rw L'.ow) (by omega) (Nat.le_refl _) (by have := HLN.out; show l'.length ≤ 9; omega) L'.rd (by omega) L'.gr hRw
            · have RO := hide (own_rw L.out.ow)
              have r := hide L.out.rd
              have G := hide L.out.gr
              obtain ⟨rs, hrs⟩ : ∃ rs, rs = t.rs := ⟨_, rfl⟩
              rw [← hrs] at X5 RO h8
              clear hrs L
              go_wp2_with fail
              go_loopw [11] (fun i wr => ∃ (k : Nat) (rs : List Rr), i = .int .i64 (k : Int) ∧ k ≤ rs.length ∧ rs.length ≤ 8 ∧ Hid (RW (w2.heap.size + 1) w9.heap.size wr A rs) ∧ Hid (Box wr w.heap.size #[.int .i64 0, .int .i64 0, .int .i64 0, .int .i64 0, .slice none 0 0]) ∧ Hid (Box wr w2.heap.size #[.int .i64 t.n, .int .i64 t.room, .int .i64 t.f, .int .i64 t.d, .slice A rs.length c]) ∧ Hid (Rd wr R (q + 63)) ∧ Hid (w.grownBy wr (some R)) ∧ w9.heap.size ≤ wr.heap.size) (fun i _ => 8 - (intOf i).toNat)
              case atStart => exact ⟨0, rs, rfl, Nat.zero_le _, h8, RO, X4, X5, r, G, Nat.le_refl _⟩
              case round =>
                clear RO X4 X5 r G h8
                obtain ⟨k, rs, rfl, hk, h8, RO, X4, X5, r, G, zr⟩ := hrel
                by_cases hlt : k < rs.length
                · obtain ⟨b, off, rr, rfl, ⟨hb1, hb2, hb3⟩, hr, ⟨c0, c1, c2⟩, f0, f1, f2⟩ := RO.out.at hlt
                  have RO2 := hide (RO.out.set2 hr.out 1)
                  clear hr
                  have X5_lt := X5.out.lt
                  have X5_c4 := X5.out.at (i := 4) rfl; have X5_f4 := X5.out.frozen 4
                  go_wp2_with fail
                  go_roundw
                  case rel =>
                    exact ⟨k + 1, _, by go_num, by rw [List.length_set]; omega, by rw [List.length_set]; exact h8, RO2, X4.out.far (by show w.heap.size ≠ b; omega) _, by rw [List.length_set]; exact X5.out.far (by show w2.heap.size ≠ b; omega) _, rd_set r.out (by show R < b; omega) _, gr_set G.out (by show w.heap.size ≤ b; omega) _, by simp [World.setCell]; omega⟩
                  case measure => simp [intOf]; omega
                · have X4_lt := X4.out.lt
                  have X4_c0 := X4.out.at (i := 0) rfl; have X4_f0 := X4.out.frozen 0
                  have X4_c1 := X4.out.at (i := 1) rfl; have X4_f1 := X4.out.frozen 1
                  have X4_c2 := X4.out.at (i := 2) rfl; have X4_f2 := X4.out.frozen 2
                  have X4_c3 := X4.out.at (i := 3) rfl; have X4_f3 := X4.out.frozen 3
                  have X4_c4 := X4.out.at (i := 4) rfl; have X4_f4 := X4.out.frozen 4
                  have X5_lt := X5.out.lt
                  have X5_c0 := X5.out.at (i := 0) rfl; have X5_f0 := X5.out.frozen 0
                  have X5_c1 := X5.out.at (i := 1) rfl; have X5_f1 := X5.out.frozen 1
                  have X5_c2 := X5.out.at (i := 2) rfl; have X5_f2 := X5.out.frozen 2
                  have X5_c3 := X5.out.at (i := 3) rfl; have X5_f3 := X5.out.frozen 3
                  have X5_c4 := X5.out.at (i := 4) rfl; have X5_f4 := X5.out.frozen 4
                  go_wp2_with fail
                  refine bodyPost_ret (by simp [results, Try.results42, go_sem, X4_c0, X4_c1, X4_c2, X4_c3, X4_c4]; rfl) rfl ?_
                  exact DrawnT.of (t := ⟨t.n, t.room, t.f, t.d, rs⟩) RO.out (by omega) zr (by show rs.length ≤ 9; omega) r.out (by omega) G.out hRw
/-- A trip, drawn anew. -/
def DrewT (w : World) (e : Ending) (w' : World) : Prop := ∃ (A : Option Addr) (c : Nat) (t : Tp), e = .returned (.agg #[.int .i64 t.n, .int .i64 t.room, .int .i64 t.f, .int .i64 t.d, .slice A t.rs.length c]) ∧ RW w.heap.size w'.heap.size w' A t.rs ∧ t.rs.length ≤ 9 ∧ Below w.heap.size w w'
set_option maxHeartbeats 1000000 in
theorem drawTripValid_any (A : Option Addr) (c : Nat) (bs : List Int) (w : World) (h : Sl w A (bvs bs)) (hb : ∀ x ∈ bs, 0 ≤ x ∧ x ≤ 255) (hl : bs.length ≤ 1048576) (hc : bs.length ≤ c) :
    Calls Try.prog 29 #[.slice A bs.length c] w (DrewT w) := by
  have H := hide h; have HB := hide hb; clear h hb
  go_enter Try.func29, Try.ntmps29
  go_wp2_with fail
  refine calls_name fun W hW => ?_
  have X2 := hide (Box.new' (g := w.heap.size) hW rfl)
  have BW : Hid (Below w.heap.size w W) := by rw [hW]; exact (Below.refl _ _).alloc (Nat.le_refl _) _
  have z0 := X2.out.lt
  clear hW
  refine (l20Open_any A c bs _ (H.out.below BW.out) HB.out hl hc).mono ?_
  rintro e w1 ⟨R, rfl, hR, r, b⟩
  have r := hide r
  replace X2 := hide (X2.out.below b)
  replace BW := hide (bthen BW.out b)
  clear b
  go_wp2_with fail
  refine (l20Trip_any R 0 _ _ r.out (by omega) (by omega) (by omega)).mono ?_
  rintro e w2 ⟨P, p, t, rfl, P', hlen, r', g⟩
  have yR := r.out.lt
  have z2 := g.size
  replace X2 := hide (X2.out.grown g (by intro e; injection e; omega))
  have zB := BW.out.size
  replace BW := hide (BW.out.grown g BW.out.size (by intro k hk; injection hk; omega)); replace P' := hide P'
  clear r' g r
  have X2_lt := X2.out.lt
  have X2_c0 := X2.out.at (i := 0) rfl; have X2_f0 := X2.out.frozen 0
  have X2_c1 := X2.out.at (i := 1) rfl; have X2_f1 := X2.out.frozen 1
  have X2_c2 := X2.out.at (i := 2) rfl; have X2_f2 := X2.out.frozen 2
  have X2_c3 := X2.out.at (i := 3) rfl; have X2_f3 := X2.out.frozen 3
  have X2_c4 := X2.out.at (i := 4) rfl; have X2_f4 := X2.out.frozen 4
  go_wp2_with fail
  refine bodyPost_ret (by simp [results, Try.results29, go_sem, X2_c0, X2_c1, X2_c2, X2_c3, X2_c4]; rfl) rfl ?_
  have o := onlyW5 (g := w.heap.size) w2 (.int .i64 t.n) (.int .i64 t.room) (.int .i64 t.f) (.int .i64 t.d) (.slice P t.rs.length p)
  exact ⟨P, p, t, rfl, (P'.out.only o (.inr (by omega))).mono (by omega) o.size, hlen, Only.then BW.out o (Nat.le_refl _) (by omega)⟩
set_option maxHeartbeats 1000000 in
theorem drawTripCalls_any (A : Option Addr) (c : Nat) (bs : List Int) (w : World) (h : Sl w A (bvs bs)) (hb : ∀ x ∈ bs, 0 ≤ x ∧ x ≤ 255) (hl : bs.length ≤ 1048576) (hc : bs.length ≤ c) :
    Calls Try.prog 34 #[.slice A bs.length c] w (DrewT w) := by
  have H := hide h; have HB := hide hb; clear h hb
  go_enter Try.func34, Try.ntmps34
  go_wp2_with fail
  refine calls_name fun W hW => ?_
  have X2 := hide (Box.new' (g := w.heap.size) hW rfl)
  have BW : Hid (Below w.heap.size w W) := by rw [hW]; exact (Below.refl _ _).alloc (Nat.le_refl _) _
  have z0 := X2.out.lt
  clear hW
  refine (l20Open_any A c bs _ (H.out.below BW.out) HB.out hl hc).mono ?_
  rintro e w1 ⟨R, rfl, hR, r, b⟩
  have r := hide r
  replace X2 := hide (X2.out.below b)
  replace BW := hide (bthen BW.out b)
  clear b
  go_wp2_with fail
  refine (l20Trip_any R 0 _ _ r.out (by omega) (by omega) (by omega)).mono ?_
  rintro e w2 ⟨P, p, t, rfl, P', hlen, r', g⟩
  have yR := r.out.lt
  have z2 := g.size
  replace X2 := hide (X2.out.grown g (by intro e; injection e; omega))
  have zB := BW.out.size
  replace BW := hide (BW.out.grown g BW.out.size (by intro k hk; injection hk; omega)); replace P' := hide P'
  clear r' g r
  have X2_lt := X2.out.lt
  have X2_c0 := X2.out.at (i := 0) rfl; have X2_f0 := X2.out.frozen 0
  have X2_c1 := X2.out.at (i := 1) rfl; have X2_f1 := X2.out.frozen 1
  have X2_c2 := X2.out.at (i := 2) rfl; have X2_f2 := X2.out.frozen 2
  have X2_c3 := X2.out.at (i := 3) rfl; have X2_f3 := X2.out.frozen 3
  have X2_c4 := X2.out.at (i := 4) rfl; have X2_f4 := X2.out.frozen 4
  go_wp2_with fail
  refine bodyPost_ret (by simp [results, Try.results34, go_sem, X2_c0, X2_c1, X2_c2, X2_c3, X2_c4]; rfl) rfl ?_
  have o := onlyW5 (g := w.heap.size) w2 (.int .i64 t.n) (.int .i64 t.room) (.int .i64 t.f) (.int .i64 t.d) (.slice P t.rs.length p)
  exact ⟨P, p, t, rfl, (P'.out.only o (.inr (by omega))).mono (by omega) o.size, hlen, Only.then BW.out o (Nat.le_refl _) (by omega)⟩
set_option maxHeartbeats 1000000 in
theorem drawTripStep_any (A : Option Addr) (c : Nat) (bs : List Int) (w : World) (h : Sl w A (bvs bs)) (hb : ∀ x ∈ bs, 0 ≤ x ∧ x ≤ 255) (hl : bs.length ≤ 1048576) (hc : bs.length ≤ c) :
    Calls Try.prog 37 #[.slice A bs.length c] w (DrewT w) := by
  have H := hide h; have HB := hide hb; clear h hb
  go_enter Try.func37, Try.ntmps37
  go_wp2_with fail
  refine calls_name fun W hW => ?_
  have X2 := hide (Box.new' (g := w.heap.size) hW rfl)
  have BW : Hid (Below w.heap.size w W) := by rw [hW]; exact (Below.refl _ _).alloc (Nat.le_refl _) _
  have z0 := X2.out.lt
  clear hW
  refine (l20Open_any A c bs _ (H.out.below BW.out) HB.out hl hc).mono ?_
  rintro e w1 ⟨R, rfl, hR, r, b⟩
  have r := hide r
  replace X2 := hide (X2.out.below b)
  replace BW := hide (bthen BW.out b)
  clear b
  go_wp2_with fail
  refine (l20Trip_any R 0 _ _ r.out (by omega) (by omega) (by omega)).mono ?_
  rintro e w2 ⟨P, p, t, rfl, P', hlen, r', g⟩
  have yR := r.out.lt
  have z2 := g.size
  replace X2 := hide (X2.out.grown g (by intro e; injection e; omega))
  have zB := BW.out.size
  replace BW := hide (BW.out.grown g BW.out.size (by intro k hk; injection hk; omega)); replace P' := hide P'
  clear r' g r
  have X2_lt := X2.out.lt
  have X2_c0 := X2.out.at (i := 0) rfl; have X2_f0 := X2.out.frozen 0
  have X2_c1 := X2.out.at (i := 1) rfl; have X2_f1 := X2.out.frozen 1
  have X2_c2 := X2.out.at (i := 2) rfl; have X2_f2 := X2.out.frozen 2
  have X2_c3 := X2.out.at (i := 3) rfl; have X2_f3 := X2.out.frozen 3
  have X2_c4 := X2.out.at (i := 4) rfl; have X2_f4 := X2.out.frozen 4
  go_wp2_with fail
  refine bodyPost_ret (by simp [results, Try.results37, go_sem, X2_c0, X2_c1, X2_c2, X2_c3, X2_c4]; rfl) rfl ?_
  have o := onlyW5 (g := w.heap.size) w2 (.int .i64 t.n) (.int .i64 t.room) (.int .i64 t.f) (.int .i64 t.d) (.slice P t.rs.length p)
  exact ⟨P, p, t, rfl, (P'.out.only o (.inr (by omega))).mono (by omega) o.size, hlen, Only.then BW.out o (Nat.le_refl _) (by omega)⟩
set_option maxHeartbeats 1000000 in
theorem drawTripStops_any (A : Option Addr) (c : Nat) (bs : List Int) (w : World) (h : Sl w A (bvs bs)) (hb : ∀ x ∈ bs, 0 ≤ x ∧ x ≤ 255) (hl : bs.length ≤ 1048576) (hc : bs.length ≤ c) :
    Calls Try.prog 41 #[.slice A bs.length c] w (DrewT w) := by
  have H := hide h; have HB := hide hb; clear h hb
  go_enter Try.func41, Try.ntmps41
  go_wp2_with fail
  refine calls_name fun W hW => ?_
  have X2 := hide (Box.new' (g := w.heap.size) hW rfl)
  have BW : Hid (Below w.heap.size w W) := by rw [hW]; exact (Below.refl _ _).alloc (Nat.le_refl _) _
  have z0 := X2.out.lt
  clear hW
  refine (l20Open_any A c bs _ (H.out.below BW.out) HB.out hl hc).mono ?_
  rintro e w1 ⟨R, rfl, hR, r, b⟩
  have r := hide r
  replace X2 := hide (X2.out.below b)
  replace BW := hide (bthen BW.out b)
  clear b
  go_wp2_with fail
  refine (l20Trip_any R 0 _ _ r.out (by omega) (by omega) (by omega)).mono ?_
  rintro e w2 ⟨P, p, t, rfl, P', hlen, r', g⟩
  have yR := r.out.lt
  have z2 := g.size
  replace X2 := hide (X2.out.grown g (by intro e; injection e; omega))
  have zB := BW.out.size
  replace BW := hide (BW.out.grown g BW.out.size (by intro k hk; injection hk; omega)); replace P' := hide P'
  clear r' g r
  have X2_lt := X2.out.lt
  have X2_c0 := X2.out.at (i := 0) rfl; have X2_f0 := X2.out.frozen 0
  have X2_c1 := X2.out.at (i := 1) rfl; have X2_f1 := X2.out.frozen 1
  have X2_c2 := X2.out.at (i := 2) rfl; have X2_f2 := X2.out.frozen 2
  have X2_c3 := X2.out.at (i := 3) rfl; have X2_f3 := X2.out.frozen 3
  have X2_c4 := X2.out.at (i := 4) rfl; have X2_f4 := X2.out.frozen 4
  go_wp2_with fail
  refine bodyPost_ret (by simp [results, Try.results41, go_sem, X2_c0, X2_c1, X2_c2, X2_c3, X2_c4]; rfl) rfl ?_
  have o := onlyW5 (g := w.heap.size) w2 (.int .i64 t.n) (.int .i64 t.room) (.int .i64 t.f) (.int .i64 t.d) (.slice P t.rs.length p)
  exact ⟨P, p, t, rfl, (P'.out.only o (.inr (by omega))).mono (by omega) o.size, hlen, Only.then BW.out o (Nat.le_refl _) (by omega)⟩
set_option maxHeartbeats 1000000 in
theorem drawTripEnd_any (A : Option Addr) (c : Nat) (bs : List Int) (w : World) (h : Sl w A (bvs bs)) (hb : ∀ x ∈ bs, 0 ≤ x ∧ x ≤ 255) (hl : bs.length ≤ 1048576) (hc : bs.length ≤ c) :
    Calls Try.prog 13 #[.slice A bs.length c] w (DrewT w) := by
  have H := hide h; have HB := hide hb; clear h hb
  go_enter Try.func13, Try.ntmps13
  go_wp2_with fail
  refine calls_name fun W hW => ?_
  have X2 := hide (Box.new' (g := w.heap.size) hW rfl)
  have BW : Hid (Below w.heap.size w W) := by rw [hW]; exact (Below.refl _ _).alloc (Nat.le_refl _) _
  have z0 := X2.out.lt
  clear hW
  refine (l20Open_any A c bs _ (H.out.below BW.out) HB.out hl hc).mono ?_
  rintro e w1 ⟨R, rfl, hR, r, b⟩
  have r := hide r
  replace X2 := hide (X2.out.below b)
  replace BW := hide (bthen BW.out b)
  clear b
  go_wp2_with fail
  refine (l20Trip_any R 0 _ _ r.out (by omega) (by omega) (by omega)).mono ?_
  rintro e w2 ⟨P, p, t, rfl, P', hlen, r', g⟩
  have yR := r.out.lt
  have z2 := g.size
  replace X2 := hide (X2.out.grown g (by intro e; injection e; omega))
  have zB := BW.out.size
  replace BW := hide (BW.out.grown g BW.out.size (by intro k hk; injection hk; omega)); replace P' := hide P'
  clear r' g r
  have X2_lt := X2.out.lt
  have X2_c0 := X2.out.at (i := 0) rfl; have X2_f0 := X2.out.frozen 0
  have X2_c1 := X2.out.at (i := 1) rfl; have X2_f1 := X2.out.frozen 1
  have X2_c2 := X2.out.at (i := 2) rfl; have X2_f2 := X2.out.frozen 2
  have X2_c3 := X2.out.at (i := 3) rfl; have X2_f3 := X2.out.frozen 3
  have X2_c4 := X2.out.at (i := 4) rfl; have X2_f4 := X2.out.frozen 4
  go_wp2_with fail
  refine bodyPost_ret (by simp [results, Try.results13, go_sem, X2_c0, X2_c1, X2_c2, X2_c3, X2_c4]; rfl) rfl ?_
  have o := onlyW5 (g := w.heap.size) w2 (.int .i64 t.n) (.int .i64 t.room) (.int .i64 t.f) (.int .i64 t.d) (.slice P t.rs.length p)
  exact ⟨P, p, t, rfl, (P'.out.only o (.inr (by omega))).mono (by omega) o.size, hlen, Only.then BW.out o (Nat.le_refl _) (by omega)⟩
end Go.Proofs.Ytbkjgiomamlajaa
