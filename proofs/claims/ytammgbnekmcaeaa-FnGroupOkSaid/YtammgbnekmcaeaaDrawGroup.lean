import Derived.Test.YtammgbnekmcaeaaDrawFloors
namespace Go.Proofs.Ytammgbnekmcaeaa
open Go.RowKit

theorem FrI.grownO {lo : Nat} {r : Option Nat} {w w' : World} {A : Option Addr} {xs : List Int} (h : FrI lo w A xs) (g : w.grownBy w' r) (hr : ∀ k, r = some k → k < lo) : FrI lo w' A xs := by
  rcases r with _ | R
  · exact h.below ⟨g.os, g.tape, g.output, g.size, fun k hk => g.block k hk (by simp)⟩
  · exact h.grown g (hr R rfl)
/-- append of one number, which lies in a new block; what stays is said by the row's own block. -/
theorem wp_app1g {ops : Array Oper} {rest : List Oper} {o : Oper} {a : Act} {Q : Exit → Act → World → Prop} (hgd : Region.wanted o (yielded ops a.tmps) = true) (s x : Operand)
    (ho : o.op = .call { callee := .builtin .append, args := #[s, x], argTypes := #[22, 22] }) (LO : Nat) (w : World) (v : Value) (xs : List Int) (y : Int)
    (hs : a.eval s = v) (hx : a.eval x = .slice (some ⟨w.heap.size, 0, none⟩) 1 1) (hown : OwnI LO w v xs) (hl : xs.length ≤ 1000000) (hLO : LO ≤ w.heap.size)
    (h : ∀ v' w', OwnI LO w' v' (xs ++ [y]) → w.grownBy w' v.ownBlock → wpList Try.prog ops Q rest (a.put o.dst v') w') : wpList Try.prog ops Q (o :: rest) a (w.alloc (.cells #[.int .i64 y] 3)) := by
  have hb : Below w.heap.size w (w.alloc (.cells #[.int .i64 y] 3)) := (Below.refl _ _).alloc (Nat.le_refl _) _
  have hr : Ints (w.alloc (.cells #[.int .i64 y] 3)) (some ⟨w.heap.size, 0, none⟩) [y] := (OwnI.lit (LO := LO) [y] #[.int .i64 y] rfl hLO (by simp)).form.elim fun A hA => by
    obtain ⟨c, e, -, f⟩ := hA
    injection e with e1 e2 e3; rw [e1]; exact f.1
  obtain ⟨i0, hi, hz0, hz1, hz2⟩ := info_parts info_int
  refine wpList_step fun _ hK => ?_
  rw [if_pos hgd]
  obtain ⟨v', w', hrun, h2, h3⟩ := run_app_sl (P := Try.prog) (w.alloc (.cells #[.int .i64 y] 3)) LO 22 o.type 3 i0 (.int .i64 0) 1 8 Try.underlying22 hi hz0 hz1 hz2 rfl (by omega) v xs.length (ivs xs) (hown.below hb) (some ⟨w.heap.size, 0, none⟩) 1 1 (ivs [y]) (by simp [ivs]) hr (ivs_one [y]) (by unfold maxLen; omega) (by omega) (Nat.le_trans hLO hb.size)
  unfold Oper.wp execOp
  simp only [ho, resolve, invoke, builtin, Sem.run_bind, Sem.run_pure, Result.andThen_ok, List.map_toArray, List.map_cons, List.map_nil, hs, hx, hrun]
  refine hK _ _ (h v' w' ?_ ?_)
  · unfold OwnI; rw [List.length_append]; unfold ivs at h2 ⊢; rw [List.map_append]; exact h2
  · exact ⟨h3.os.trans hb.os, h3.tape.trans hb.tape, h3.output.trans hb.output, Nat.le_trans hb.size h3.size, fun k hk hne => (h3.block k (Nat.lt_of_lt_of_le hk hb.size) hne).trans (hb.block k hk)⟩
theorem OwnI.block {LO : Nat} {w : World} {v : Value} {xs : List Int} (h : OwnI LO w v xs) : ∀ k, v.ownBlock = some k → LO ≤ k ∧ k < w.heap.size := fun k hk => World.ownsRow.lt h k hk
theorem grown_own {a b c : World} {R : Nat} {r : Option Nat} (g : a.grownBy b (some R)) (h : b.grownBy c r) (hr : ∀ k, r = some k → a.heap.size ≤ k) : a.grownBy c (some R) :=
  ⟨h.os.trans g.os, h.tape.trans g.tape, h.output.trans g.output, Nat.le_trans g.size h.size, fun k hk hne => (h.block k (Nat.lt_of_lt_of_le hk g.size) (by intro e; have := hr k e.symm; omega)).trans (g.block k hk hne)⟩
theorem Rd.grownO {w w' : World} {R q : Nat} {r : Option Nat} (h : Rd w R q) (g : w.grownBy w' r) (hr : ∀ k, r = some k → R < k) : Rd w' R q :=
  h.keep fun k hk => g.block k (by have := h.lt; omega) (by intro e; have := hr k e.symm; omega)
/-- Three slices of int in new blocks; the reader has gone on. -/
def DrawnG (R q : Nat) (w : World) (e : Ending) (w' : World) : Prop :=
  ∃ (A : Option Addr) (c : Nat) (xs : List Int) (A' : Option Addr) (c' : Nat) (ys : List Int) (A'' : Option Addr) (c'' : Nat) (zs : List Int), e = .returned (.tuple #[.slice A xs.length c, .slice A' ys.length c', .slice A'' zs.length c'']) ∧ xs.length ≤ 9 ∧ ys.length ≤ 9 ∧ zs.length ≤ 9 ∧ FrI w.heap.size w' A xs ∧ FrI w.heap.size w' A' ys ∧ FrI w.heap.size w' A'' zs ∧ Rd w' R q ∧ w.grownBy w' (some R)

theorem DrawnG.mk {w W : World} {R q c L1 L2 : Nat} {A : Option Addr} {fs xs ys : List Int} {v1 v2 : Value} (f : FrI w.heap.size W A fs) (O1 : OwnI L1 W v1 xs) (h1 : w.heap.size ≤ L1) (O2 : OwnI L2 W v2 ys) (h2 : w.heap.size ≤ L2) (l0 : fs.length ≤ 9) (l1 : xs.length ≤ 9) (l2 : ys.length ≤ 9) (r : Rd W R q) (g : w.grownBy W (some R)) :
    DrawnG R q w (.returned (.tuple #[.slice A fs.length c, v1, v2])) W := by
  obtain ⟨A1, c1, rfl, -, f1⟩ := O1.form
  obtain ⟨A2, c2, rfl, -, f2⟩ := O2.form
  exact ⟨A, c, fs, A1, c1, xs, A2, c2, ys, rfl, l0, l1, l2, f, f1.mono h1, f2.mono h2, r, g⟩
set_option maxHeartbeats 2000000 in
theorem l20Group_any (R q : Nat) (n : Int) (w : World) (h : Rd w R q) (hq : q ≤ 10000) (hn : 0 ≤ n) (hn2 : n ≤ 100) :
    Calls Try.prog 56 #[.pointer (some ⟨R, 0, none⟩), .int .i64 n] w (DrawnG R (q + 60) w) := by
  have r := hide h
  have hRw := h.lt
  clear h
  go_enter Try.func56, Try.ntmps56
  go_wp2_with fail
  refine (l20Floors_any R _ _ _ r.out (by omega) (by omega) (by omega)).mono ?_
  rintro e W0 ⟨A, c, fs, rfl, -, f, hp, r', g⟩
  replace f := hide f; have hp : fs.length ≤ 9 := hp; have G := hide g
  have hs0 := g.size
  replace r := hide r'
  clear g r'
  have b0 : Below W0.heap.size W0 (W0.alloc (.cells #[] 3)) := (Below.refl _ _).alloc (Nat.le_refl _) _
  replace r := hide (r.out.below b0)
  replace G : Hid (W0.grownBy (W0.alloc (.cells #[] 3)) (some R)) ∧ Hid (w.grownBy W0 (some R)) := ⟨grown_below (grown_refl W0 R) b0, G⟩
  obtain ⟨G, GW⟩ := G
  have O : Hid (OwnI W0.heap.size (W0.alloc (.cells #[] 3)) (.slice (some ⟨W0.heap.size, 0, none⟩) 0 0) []) := OwnI.lit [] #[] rfl (Nat.le_refl _) (by simp)
  clear b0
  go_wp2_with fail
  refine (pick_any R _ _ _ r.out (by omega) (by omega)).mono ?_
  rintro e w2 ⟨y, rfl, ya, yb, r', g, z⟩
  replace O := hide (O.out.grown g (by omega))
  replace r := hide r'; replace G := hide (grown_then G.out g); clear r' g z
  go_wp2_with fail
  go_loopw [8, 9] (fun v i wr => ∃ (k : Nat) (xs : List Int), i = .int .i64 (k : Int) ∧ xs.length + k ≤ 3 ∧ Hid (OwnI W0.heap.size wr v xs) ∧ Hid (Rd wr R (q + 21 + xs.length)) ∧ Hid (W0.grownBy wr (some R))) (fun _ i _ => (intOf i).toNat)
  case atStart =>
    obtain ⟨k, rfl⟩ := Int.eq_ofNat_of_zero_le ya
    exact ⟨1 + k, [], by go_num, by simp; omega, O, r.out.mono (by simp), G⟩
  case round =>
    clear r G O
    obtain ⟨k, xs, rfl, hk, O, r, G⟩ := hrel
    by_cases h0 : 0 < k
    · have h1 : (fs.length : Int) < 1 ∨ ¬ ((fs.length : Int) < 1) := by omega
      rcases h1 with h1 | h1
      all_goals
        go_wp2_with fail
        refine (pick_any R _ _ _ r.out (by omega) (by omega)).mono ?_
        rintro e w2 ⟨p, rfl, pa, pb, r', g, z⟩
        replace O := hide (O.out.grown g (by omega))
        replace r := hide r'; replace G := hide (grown_then G.out g); clear r' g z
        have hL : W0.heap.size ≤ w2.heap.size := G.out.size
        go_wp2_with (at_builtin; refine wp_app1 rfl (.tmp 24) (.tmp 30) rfl W0.heap.size _ _ xs p rfl rfl O.out (by omega) hL ?_; intro v' w3 hown hb)
        have O3 := hide hown; have r3 := hide (r.out.belowAt hb (by omega)); have G3 := hide (grown_below G.out hb)
        clear hown hb O r G
        go_wp2_with fail
        go_roundw
        case rel => exact ⟨k - 1, xs ++ [p], by go_num, by simp; omega, O3, r3.out.mono (by simp; omega), G3⟩
        case measure => simp [intOf]; omega
    · have hz1 := G.out.size
      obtain ⟨A1, c1, rfl, -, -⟩ := O.out.form
      have HO := hide O.out.block
      have b0 : Below wr.heap.size wr (wr.alloc (.cells #[] 3)) := (Below.refl _ _).alloc (Nat.le_refl _) _
      replace r := hide (r.out.below b0)
      have G0 := G
      clear G
      have G : Hid (wr.grownBy (wr.alloc (.cells #[] 3)) (some R)) := grown_below (grown_refl wr R) b0
      have O2 : Hid (OwnI wr.heap.size (wr.alloc (.cells #[] 3)) (.slice (some ⟨wr.heap.size, 0, none⟩) 0 0) []) := OwnI.lit [] #[] rfl (Nat.le_refl _) (by simp)
      clear b0
      have hR0 : R < W0.heap.size := by omega
      go_wp2_with fail
      refine (pick_any R _ _ _ r.out (by omega) (by omega)).mono ?_
      rintro e w2 ⟨z, rfl, za, zb, r', g, z⟩
      replace O2 := hide (O2.out.grown g (by omega))
      replace r := hide r'; replace G := hide (grown_then G.out g); clear r' g z
      go_wp2_with fail
      go_loopw [10, 11] (fun v i W => ∃ (j : Nat) (ys : List Int), i = .int .i64 (j : Int) ∧ ys.length + j ≤ 4 ∧ Hid (OwnI wr.heap.size W v ys) ∧ Hid (Rd W R (q + 30 + ys.length)) ∧ Hid (wr.grownBy W (some R))) (fun _ i _ => (intOf i).toNat)
      case atStart =>
        obtain ⟨j, rfl⟩ := Int.eq_ofNat_of_zero_le za
        exact ⟨j, [], rfl, by simp; omega, O2, r.out.mono (by simp; omega), G⟩
      case round =>
        clear r G O2
        obtain ⟨j, ys, rfl, hj, O2, r, G⟩ := hrel
        by_cases h0 : 0 < j
        · have h1 : (fs.length : Int) < 1 ∨ ¬ ((fs.length : Int) < 1) := by omega
          rcases h1 with h1 | h1
          all_goals
            go_wp2_with fail
            refine (pick_any R _ _ _ r.out (by omega) (by omega)).mono ?_
            rintro e w2 ⟨p, rfl, pa, pb, r', g, z⟩
            replace O2 := hide (O2.out.grown g (by omega))
            replace r := hide r'; replace G := hide (grown_then G.out g); clear r' g z
            have hL := G.out.size
            go_wp2_with (at_builtin; refine wp_app1 rfl (.tmp 39) (.tmp 45) rfl _ _ _ ys p rfl rfl O2.out (by omega) hL ?_; intro v' w3 hown hb)
            have O3 := hide hown; have r3 := hide (r.out.belowAt hb (by omega)); have G3 := hide (grown_below G.out hb)
            clear hown hb O2 r G
            go_wp2_with fail
            go_roundw
            case rel => exact ⟨j - 1, ys ++ [p], by go_num, by simp; omega, O3, r3.out.mono (by simp; omega), G3⟩
            case measure => simp [intOf]; omega
        · go_wp2_with fail
          refine (odd_any R _ _ _ r.out (by omega) (by omega) (by omega)).mono ?_
          rintro e w2 ⟨b, rfl, r', g, z⟩
          replace O2 := hide (O2.out.grown g (by omega))
          replace r := hide r'; replace G := hide (grown_then G.out g); clear r' g z
          have hL := G.out.size
          cases b
          · go_wp2_with fail
            go_ret3
            exact DrawnG.mk (f.out.grown (grown_then G0.out G.out) hRw) (O.out.grown G.out hR0) hs0 O2.out (by omega) (by omega) (by omega) (by omega) (r.out.mono (by omega)) (grown_then GW.out (grown_then G0.out G.out))
          · go_wp2_with fail
            refine (pick_any R _ _ _ r.out (by omega) (by omega)).mono ?_
            rintro e w2 ⟨t, rfl, ta, tb, r', g, z⟩
            replace O2 := hide (O2.out.grown g (by omega))
            replace r := hide r'; replace G := hide (grown_then G.out g); clear r' g z
            have ht : t = 0 ∨ t = 1 ∨ t = 2 := by omega
            have hL2 := G.out.size
            rcases ht with rfl | rfl | rfl
            · go_wp2_with fail
              go_ret3
              have b1 : Below w2.heap.size w2 (w2.alloc (.cells #[] 3)) := (Below.refl _ _).alloc (Nat.le_refl _) _
              have G1 := grown_below G.out (b1.mono hL2)
              exact DrawnG.mk (f.out.grown (grown_then G0.out G1) hRw) (xs := []) (OwnI.lit (LO := W0.heap.size) [] #[] rfl (by omega) (by simp)) hs0 (O2.out.below b1) (by omega) (by omega) (by simp) (by omega) ((r.out.below b1).mono (by omega)) (grown_then GW.out (grown_then G0.out G1))
            · go_wp2_with (at_builtin; refine wp_app1 rfl (.tmp 61) (.tmp 64) rfl _ _ _ ys fs.length rfl rfl O2.out (by omega) hL2 ?_; intro v' w3 hown hb)
              have O3 := hide hown; have r3 := hide (r.out.belowAt hb (by omega)); have G3 := hide (grown_below G.out hb)
              clear hown hb
              go_wp2_with fail
              go_ret3
              exact DrawnG.mk (f.out.grown (grown_then G0.out G3.out) hRw) (O.out.grown G3.out hR0) hs0 O3.out (by omega) (by omega) (by omega) (by simp; omega) (r3.out.mono (by omega)) (grown_then GW.out (grown_then G0.out G3.out))
            · have OC := hide (O.out.grown G.out hR0)
              go_wp2_with (at_builtin; refine wp_app1g rfl (.tmp 53) (.tmp 54) rfl W0.heap.size _ _ xs (-1) rfl rfl OC.out (by omega) (by omega) ?_; intro v' w3 hown hb)
              have O3 := hide hown
              have r3 := hide (r.out.grownO hb (fun k e => by have := HO.out k e; omega))
              have GX := hide (grown_own (grown_then G0.out G.out) hb (fun k e => (HO.out k e).1))
              obtain ⟨A2, c2, rfl, -, f2⟩ := O2.out.form
              have F2 := hide (f2.grownO hb (fun k e => (HO.out k e).2))
              clear hown hb f2
              go_wp2_with fail
              go_ret3
              obtain ⟨A3, c3, rfl, -, f3⟩ := O3.out.form
              exact ⟨_, _, fs, A3, c3, _, A2, c2, ys, rfl, by omega, by simp; omega, by omega, f.out.grown GX.out hRw, f3.mono hs0, F2.out.mono (by omega), r3.out.mono (by omega), grown_then GW.out GX.out⟩
end Go.Proofs.Ytammgbnekmcaeaa
