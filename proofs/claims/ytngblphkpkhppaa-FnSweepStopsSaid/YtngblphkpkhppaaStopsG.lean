/- Stops: SweepStops, the program's and the reference's. -/
import Derived.Test.YtngblphkpkhppaaStopsF
import Derived.Test.YtngblphkpkhppaaStopsS
import Derived.Test.YtngblphkpkhppaaAppG
namespace Go.Proofs.Ytngblphkpkhppaa
open Go.RowKit

/-- v owns the stops l, in blocks from LO on. -/
def OwnS (LO : Nat) (w : World) (v : Value) (l : List (Int × Int)) : Prop := w.ownsRow LO 28 2 v l.length (scs l)
theorem info_stop : (Try.prog.info? 28).map (fun i => (i.zero, i.size, i.bytes)) = some (some (.agg #[.int .i64 0, .int .i64 0]), 2, 16) := by kernel_rfl
theorem OwnS.nil (LO : Nat) (w : World) : OwnS LO w (.slice none 0 0) [] := World.ownsRow_nil _ _ _ _
theorem OwnS.below {LO : Nat} {w w' : World} {v : Value} {l : List (Int × Int)} (h : OwnS LO w v l) (b : Below w.heap.size w w') : OwnS LO w' v l := own_after h b
theorem OwnS.only {LO lo hi : Nat} {w w' : World} {v : Value} {l : List (Int × Int)} (h : OwnS LO w v l) (o : Only lo hi w w') (hd : hi ≤ LO) : OwnS LO w' v l := owns_only h o hd
theorem OwnS.form {LO : Nat} {w : World} {v : Value} {l : List (Int × Int)} (h : OwnS LO w v l) : ∃ A c, v = .slice A l.length c ∧ SW LO w.heap.size w A l := by
  have h' := h
  rcases h'.2 with ⟨rfl, hn⟩ | ⟨g, cap, cur, rfl, _, _, hc, _⟩
  · have : l = [] := List.eq_nil_of_length_eq_zero hn
    subst this
    exact ⟨none, 0, rfl, SW.empty _ _ _ _⟩
  · exact ⟨_, cap, rfl, own_os h⟩
theorem OwnS.lit0 {LO : Nat} {w : World} (h : LO ≤ w.heap.size) : OwnS LO (w.alloc (.cells #[] 28)) (.slice (some ⟨w.heap.size, 0, none⟩) 0 0) [] := by
  have := World.ownsRow_lit (base := LO) (e := 28) (size := 2) w #[] 0 h (by unfold maxLen; omega) (by simp)
  exact this
theorem OwnS.block {LO : Nat} {w : World} {v : Value} {l : List (Int × Int)} (h : OwnS LO w v l) : ∀ k, v.ownBlock = some k → LO ≤ k ∧ k < w.heap.size := fun k hk => World.ownsRow.lt h k hk
/-- append of one stop, which lies in a new block. -/
theorem wp_appS1 {ops : Array Oper} {rest : List Oper} {o : Oper} {a : Act} {Q : Exit → Act → World → Prop} (hgd : Region.wanted o (yielded ops a.tmps) = true) (s x : Operand)
    (ho : o.op = .call { callee := .builtin .append, args := #[s, x], argTypes := #[46, 46] }) (LO : Nat) (w : World) (v : Value) (l : List (Int × Int)) (f d : Int)
    (hs : a.eval s = v) (hx : a.eval x = .slice (some ⟨w.heap.size, 0, none⟩) 1 1) (hown : OwnS LO w v l) (hl : l.length ≤ 1000000) (hLO : LO ≤ w.heap.size)
    (h : ∀ v' w', OwnS LO w' v' (l ++ [(f, d)]) → w.grownBy w' v.ownBlock → (v'.ownBlock = v.ownBlock ∨ v'.ownBlock = some (w.heap.size + 1)) → wpList Try.prog ops Q rest (a.put o.dst v') w') : wpList Try.prog ops Q (o :: rest) a (w.alloc (.cells #[.int .i64 f, .int .i64 d] 28)) := by
  obtain ⟨i0, hi, hz0, hz1, hz2⟩ := info_parts info_stop
  have hb : Below w.heap.size w (w.alloc (.cells #[.int .i64 f, .int .i64 d] 28)) := (Below.refl _ _).alloc (Nat.le_refl _) _
  have hr : Sl (w.alloc (.cells #[.int .i64 f, .int .i64 d] 28)) (some ⟨w.heap.size, 0, none⟩) (scs [(f, d)]) := by
    refine .inr ⟨w.heap.size, 0, rfl, by simp, fun j v hv => ?_⟩
    have hB : Box (w.alloc (.cells #[.int .i64 f, .int .i64 d] 28)) w.heap.size #[.int .i64 f, .int .i64 d] := Box.new rfl
    rw [Nat.zero_add]
    refine hB.at ?_
    rw [← hv]; simp [scs, cellsOf, encS]
  refine wpList_app_g _ hgd s x 46 ho LO 28 i0 (.agg #[.int .i64 0, .int .i64 0]) 2 16 Try.underlying46 hi hz0 hz1 hz2 rfl (by omega) v l.length (scs l) hs (own_after hown hb) _ 1 1 (scs [(f, d)]) hx (by rw [scs_len]; simp) hr (scs_one _) (by unfold maxLen; omega) (by omega) (by simp; omega) ?_
  intro v' w' h1 h3 h4
  refine h v' w' ?_ ⟨h3.os.trans hb.os, h3.tape.trans hb.tape, h3.output.trans hb.output, Nat.le_trans hb.size h3.size, fun k hk hne => (h3.block k (Nat.lt_of_lt_of_le hk hb.size) hne).trans (hb.block k hk)⟩ (by simpa using h4)
  unfold OwnS; rw [List.length_append, scs_append]; exact h1
/-- Gives a new list of stops. -/
def NewS (l : List (Int × Int)) (w : World) (e : Ending) (w' : World) : Prop := ∃ A c, e = .returned (.slice A l.length c) ∧ SW w.heap.size w'.heap.size w' A l ∧ Below w.heap.size w w'
theorem NewS.own {w w' : World} {v : Value} {l : List (Int × Int)} {LO : Nat} (h : OwnS LO w' v l) (hL : w.heap.size ≤ LO) (b : Below w.heap.size w w') : NewS l w (.returned v) w' := by
  obtain ⟨A, c, rfl, s⟩ := h.form
  exact ⟨A, c, rfl, s.mono hL (Nat.le_refl _), b⟩
/-- SweepStops, for all arguments. -/
noncomputable def sweepB (C : Cl) (f d : Int) : List (Int × Int) := if callsB C && stopOkB C.car.length f d then sweepL C f d else []
theorem sweepB_noc {C : Cl} {f d : Int} (h : callsB C = false) : sweepB C f d = [] := by unfold sweepB; rw [h]; rfl
theorem sweepB_nos {C : Cl} {f d : Int} (h : stopOkB C.car.length f d = false) : sweepB C f d = [] := by unfold sweepB; rw [h, Bool.and_false]; rfl
theorem sweepB_no {C : Cl} {f d : Int} (h : (callsB C && stopOkB C.car.length f d) = false) : sweepB C f d = [] := by unfold sweepB; rw [h]; rfl
theorem sweepB_yes {C : Cl} {f d : Int} (h : callsB C = true) (h2 : stopOkB C.car.length f d = true) : sweepB C f d = sweepL C f d := by unfold sweepB; rw [h, h2]; rfl
theorem many_bd {C : Cl} (h : callsP C) : manyC C ≤ 24 := by
  obtain ⟨h1, h2, h3, h4, -, -⟩ := h
  unfold manyC
  have := cnt_bd C.up; have := cnt_bd C.dn; have := cnt_bd C.car
  omega
theorem sweepB_len (C : Cl) (f d : Int) : (sweepB C f d).length ≤ 24 := by
  unfold sweepB
  split
  · rename_i h
    rw [Bool.and_eq_true] at h
    obtain ⟨hf, hd⟩ := stopOkB_iff.1 h.2
    have := sweep_short C f d (callsB_iff.1 h.1) hf hd
    have := many_bd (callsB_iff.1 h.1)
    omega
  · exact Nat.zero_le _
/-- How the sweep stands: from C f d on to now C' f' d', with out behind. -/
def Swp (C : Cl) (f d : Int) (C' : Cl) (f' d' : Int) (out : List (Int × Int)) : Prop :=
  callsP C' ∧ C'.car.length = C.car.length ∧ (0 ≤ f' ∧ f' < C.car.length) ∧ (d' = 1 ∨ d' = -1) ∧ out ++ sweepL C' f' d' = sweepL C f d ∧ out.length + (manyC C').toNat ≤ 24
theorem Swp.start {C : Cl} {f d : Int} (h : callsP C) (hf : 0 ≤ f ∧ f < C.car.length) (hd : d = 1 ∨ d = -1) : Swp C f d C f d [] := ⟨h, rfl, hf, hd, rfl, by have := many_bd h; simp; omega⟩
theorem Swp.next {C C' : Cl} {f d f' d' : Int} {out : List (Int × Int)} (h : Swp C f d C' f' d' out) : nextB C' f' d' = nextO C' f' d' :=
  nextB_yes (callsB_iff.2 h.1) (stopOkB_iff.2 ⟨by rw [h.2.1]; exact h.2.2.1, h.2.2.2.1⟩)
theorem Swp.done {C C' : Cl} {f d f' d' : Int} {out : List (Int × Int)} (h : Swp C f d C' f' d' out) (hn : nextO C' f' d' = none) : out = sweepL C f d := by
  have := h.2.2.2.2.1; rw [sweep_none hn, List.append_nil] at this; exact this
theorem Swp.step {C C' : Cl} {f d f' d' g e : Int} {out : List (Int × Int)} (h : Swp C f d C' f' d' out) (hn : nextO C' f' d' = some (g, e)) :
    Swp C f d (serveC C' g e) g e (out ++ [(g, e)]) ∧ serveB C' g e = serveC C' g e ∧ 0 ≤ g ∧ (manyC (serveC C' g e)).toNat < (manyC C').toNat := by
  obtain ⟨h1, h2, h3, h4, h5, h6⟩ := h
  have hf : 0 ≤ f' ∧ f' < C'.car.length := by omega
  obtain ⟨g1, g2, g3⟩ := next_good hf h4 hn
  have hl := serve_less h1 g1 g2 g3
  have h0 := manyC_nonneg (serveC C' g e)
  refine ⟨⟨serve_valid h1 g e, by rw [serve_len]; exact h2, by omega, g2, ?_, ?_⟩, serveB_yes (callsB_iff.2 h1) (stopOkB_iff.2 ⟨g1, g2⟩), g1.1, by omega⟩
  · rw [← h5, sweep_some h1 hf h4 hn]; simp
  · simp; omega
theorem Box.grownO {w w' : World} {g : Nat} {cs : Array Value} {r : Option Nat} (h : Box w g cs) (b : w.grownBy w' r) (hr : ∀ k, r = some k → k ≠ g) : Box w' g cs := h.grown b fun e => hr g e.symm rfl
theorem below_grown {B : Nat} {a w w' : World} {r : Option Nat} (h : Below B a w) (g : w.grownBy w' r) (hr : ∀ k, r = some k → B ≤ k) (hB : B ≤ w.heap.size) : Below B a w' :=
  ⟨g.os.trans h.os, g.tape.trans h.tape, g.output.trans h.output, Nat.le_trans h.size g.size, fun k hk => (g.block k (by omega) (fun e => by have := hr k e.symm; omega)).trans (h.block k hk)⟩
set_option maxHeartbeats 4000000 in
theorem implSweepStops (A0 A1 A2 : Option Addr) (c0 c1 c2 : Nat) (C : Cl) (f d : Int) (w : World) (h : CR w A0 A1 A2 C) :
    Calls Try.prog 28 #[.agg #[.slice A0 C.up.length c0, .slice A1 C.dn.length c1, .slice A2 C.car.length c2], .agg #[.int .i64 f, .int .i64 d]] w (NewS (sweepB C f d) w) := by
  have H := hide h; clear h
  go_enter Try.func28, Try.ntmps28
  go_wp2_with fail
  refine calls_name fun W hW => ?_
  have X2 : Hid (Box W w.heap.size #[.slice A0 C.up.length c0, .slice A1 C.dn.length c1, .slice A2 C.car.length c2]) := by rw [hW]; exact (Box.new rfl).alloc _
  have X3 : Hid (Box W (w.heap.size + 1) #[.int .i64 f, .int .i64 d]) := by rw [hW]; exact Box.new (by simp)
  have BW : Hid (Below w.heap.size w W) := by rw [hW]; exact ((Below.refl _ _).alloc (Nat.le_refl _) _).alloc (by simp) _
  have z0 : w.heap.size + 1 < W.heap.size := by rw [hW]; simp
  clear hW
  refine (implCallsValid A0 A1 A2 c0 c1 c2 C _ (H.out.below BW.out)).mono ?_
  rintro e w1 ⟨rfl, b⟩
  have z1 := b.size
  replace X2 := hide (X2.out.below b)
  replace X3 := hide (X3.out.below b)
  replace BW := hide (bthen BW.out b)
  clear b
  cases hv : callsB C
  · have HE := hide (sweepB_noc (f := f) (d := d) hv)
    go_wp2_with fail
    go_ret
    rw [HE.out]
    exact NewS.own (OwnS.nil w.heap.size _) (Nat.le_refl _) BW.out
  have hup : Hid ((C.up.length : Int) = (C.car.length : Int)) := by have := (callsB_iff.1 hv).2.2.1; unfold Hid; omega
  have HV := hide hv
  have X2_lt := X2.out.lt
  have X2_c0 := X2.out.at (i := 0) rfl; have X2_f0 := X2.out.frozen 0
  have X2_c1 := X2.out.at (i := 1) rfl; have X2_f1 := X2.out.frozen 1
  have X2_c2 := X2.out.at (i := 2) rfl; have X2_f2 := X2.out.frozen 2
  have X3_lt := X3.out.lt
  have X3_c0 := X3.out.at (i := 0) rfl; have X3_f0 := X3.out.frozen 0
  have X3_c1 := X3.out.at (i := 1) rfl; have X3_f1 := X3.out.frozen 1
  go_wp2_with fail
  clear X2_lt X2_c0 X2_f0 X2_c1 X2_f1 X2_c2 X2_f2
  clear X3_lt X3_c0 X3_f0 X3_c1 X3_f1
  refine (stopValid_at f d C.car.length _ _ hup.out).mono ?_
  rintro e w2 ⟨rfl, b⟩
  have z2 := b.size
  replace X2 := hide (X2.out.below b)
  replace X3 := hide (X3.out.below b)
  replace BW := hide (bthen BW.out b)
  clear b
  cases hs : stopOkB C.car.length f d
  · have HE := hide (sweepB_nos hs)
    go_wp2_with fail
    go_ret
    rw [HE.out]
    exact NewS.own (OwnS.nil w.heap.size _) (Nat.le_refl _) BW.out
  have HE := hide (sweepB_yes hv hs)
  obtain ⟨hf, hd⟩ := stopOkB_iff.1 hs
  have HS := hide (Swp.start (callsB_iff.1 hv) hf hd)
  have HR : Hid (CRI (fun k => k < w.heap.size ∨ w2.heap.size ≤ k) w2 A0 A1 A2 C) := (CR.locate (ok := fun k => k < w.heap.size ∨ w2.heap.size ≤ k) H.out fun k hk => .inl hk).keep BW.out.size fun k _ hk => BW.out.block k hk
  clear hf hd hv hs
  go_wp2_with fail
  go_loopg [5] (manyC C).toNat (fun n v wr => ∃ (P0 P1 P2 : Option Addr) (p0 p1 p2 : Nat) (C' : Cl) (f' d' : Int) (out : List (Int × Int)) (m : Nat), n = (manyC C').toNat ∧ Hid (Swp C f d C' f' d' out) ∧ Hid (OwnS w2.heap.size wr v out) ∧ Hid (∀ k, v.ownBlock = some k → k < m) ∧ Hid (CRI (fun k => k < w.heap.size ∨ m ≤ k) wr P0 P1 P2 C') ∧ Hid (Box wr w.heap.size #[.slice P0 C'.up.length p0, .slice P1 C'.dn.length p1, .slice P2 C'.car.length p2]) ∧ Hid (Box wr (w.heap.size + 1) #[.int .i64 f', .int .i64 d']) ∧ Hid (Below w.heap.size w wr) ∧ w2.heap.size ≤ wr.heap.size ∧ w2.heap.size ≤ m)
  case atStart => exact ⟨_, _, _, _, _, _, C, f, d, [], _, rfl, HS, OwnS.nil _ _, (fun k hk => by cases hk), HR, X2, X3, BW, Nat.le_refl _, Nat.le_refl _⟩
  case round =>
    clear X2 X3 BW HS HR
    obtain ⟨P0, P1, P2, p0, p1, p2, C', f', d', out, m, rfl, HS, O, OM, R, X2, X3, BW, zr, zm⟩ := hrel
    have hlen : out.length ≤ 24 := by have := HS.out.2.2.2.2.2; omega
    obtain ⟨A5, c5, rfl, -⟩ := O.out.form
    have X2_lt := X2.out.lt
    have X2_c0 := X2.out.at (i := 0) rfl; have X2_f0 := X2.out.frozen 0
    have X2_c1 := X2.out.at (i := 1) rfl; have X2_f1 := X2.out.frozen 1
    have X2_c2 := X2.out.at (i := 2) rfl; have X2_f2 := X2.out.frozen 2
    have X3_lt := X3.out.lt
    have X3_c0 := X3.out.at (i := 0) rfl; have X3_f0 := X3.out.frozen 0
    have X3_c1 := X3.out.at (i := 1) rfl; have X3_f1 := X3.out.frozen 1
    go_wp2_with fail
    clear X2_lt X2_c0 X2_f0 X2_c1 X2_f1 X2_c2 X2_f2
    clear X3_lt X3_c0 X3_f0 X3_c1 X3_f1
    refine (implNextStop P0 P1 P2 p0 p1 p2 C' f' d' _ R.out.cr).mono ?_
    rintro e w3 ⟨rfl, b⟩
    rw [HS.out.next, stC_eq]
    have z3 := b.size
    replace X2 := hide (X2.out.below b)
    replace X3 := hide (X3.out.below b)
    replace R := hide (R.out.below b)
    replace O := hide (O.out.below b)
    replace BW := hide (bthen BW.out b)
    clear b
    cases hn : nextO C' f' d' with
    | none =>
      have HD := hide (HS.out.done hn)
      clear hn
      rw [show stF none = -1 from rfl, show stD none = 0 from rfl]
      have X3_lt := X3.out.lt
      have X3_c0 := X3.out.at (i := 0) rfl; have X3_f0 := X3.out.frozen 0
      have X3_c1 := X3.out.at (i := 1) rfl; have X3_f1 := X3.out.frozen 1
      go_wp2_with fail
      go_ret
      rw [HE.out, ← HD.out]
      have o := onlyW2 (g := w.heap.size + 1) w3 (.int .i64 (-1)) (.int .i64 0)
      exact NewS.own (O.out.only o (by omega)) (by omega) (Only.then BW.out o (by omega) (by omega))
    | some r =>
      obtain ⟨g, dd⟩ := r
      obtain ⟨HS2, he, g0, hms⟩ := HS.out.step hn
      replace HS := hide HS2
      have HE2 := hide he
      clear hn HS2 he
      rw [show stF (some (g, dd)) = g from rfl, show stD (some (g, dd)) = dd from rfl]
      have X3_lt := X3.out.lt
      have X3_c0 := X3.out.at (i := 0) rfl; have X3_f0 := X3.out.frozen 0
      have X3_c1 := X3.out.at (i := 1) rfl; have X3_f1 := X3.out.frozen 1
      go_upto_region 5 with fail
      clear X3_lt X3_c0 X3_f0 X3_c1 X3_f1
      refine code_name fun W4 hW => ?_
      have o : Only (w.heap.size + 1) (w.heap.size + 1 + 1) w3 W4 := by rw [hW]; exact onlyW2 _ _ _
      have X3' : Hid (Box W4 (w.heap.size + 1) #[.int .i64 g, .int .i64 dd]) := by rw [hW]; exact X3.out.setW2 _ _
      replace X3 := X3'
      replace X2 := hide (X2.out.only o (by omega))
      replace O := hide (O.out.only o (by omega))
      replace R := hide (R.out.only o (fun k hk => by omega))
      replace BW := hide (Only.then BW.out o (by omega) (by omega))
      have z4 := o.size
      clear o hW X3'
      have hob := hide O.out.block
      have X3_lt := X3.out.lt
      have X3_c0 := X3.out.at (i := 0) rfl; have X3_f0 := X3.out.frozen 0
      have X3_c1 := X3.out.at (i := 1) rfl; have X3_f1 := X3.out.frozen 1
      go_upto_region 8 with (at_builtin; refine wp_appS1 rfl (.tmp 24) (.tmp 26) rfl w2.heap.size _ _ out g dd rfl rfl O.out (by omega) (by omega) ?_; intro v5 w5 own5 g5 n5)
      clear X3_lt X3_c0 X3_f0 X3_c1 X3_f1
      have z5 := g5.size
      replace X2 := hide (X2.out.grownO g5 (fun k hk => by have := hob.out k hk; omega))
      replace X3 := hide (X3.out.grownO g5 (fun k hk => by have := hob.out k hk; omega))
      replace R := hide (R.out.grown g5 (fun k hk e => by have := hob.out k e.symm; have := OM.out k e.symm; omega))
      replace BW := hide (below_grown BW.out g5 (fun k hk => by have := hob.out k hk; omega) (by omega))
      replace O := hide own5
      clear g5 own5 hob OM n5
      have X2_lt := X2.out.lt
      have X2_c0 := X2.out.at (i := 0) rfl; have X2_f0 := X2.out.frozen 0
      have X2_c1 := X2.out.at (i := 1) rfl; have X2_f1 := X2.out.frozen 1
      have X2_c2 := X2.out.at (i := 2) rfl; have X2_f2 := X2.out.frozen 2
      have X3_lt := X3.out.lt
      have X3_c0 := X3.out.at (i := 0) rfl; have X3_f0 := X3.out.frozen 0
      have X3_c1 := X3.out.at (i := 1) rfl; have X3_f1 := X3.out.frozen 1
      go_wp2_with fail
      clear X2_lt X2_c0 X2_f0 X2_c1 X2_f1 X2_c2 X2_f2
      clear X3_lt X3_c0 X3_f0 X3_c1 X3_f1
      refine (implServeStop_at P0 P1 P2 p0 p1 p2 C' g dd (serveC C' g dd) HE2.out.symm _ R.out.cr).mono ?_
      have hob2 := hide O.out.block
      rintro e w6 ⟨Q0, Q1, Q2, q0, q1, q2, rfl, Q, b⟩
      have z6 := b.size
      have R2 : Hid (CRI (fun k => k < w.heap.size ∨ w5.heap.size ≤ k) w6 Q0 Q1 Q2 (serveC C' g dd)) := CO.locate Q fun k hk _ => .inr hk
      clear R Q
      replace X2 := hide (X2.out.below b)
      replace X3 := hide (X3.out.below b)
      replace O := hide (O.out.below b)
      replace BW := hide (bthen BW.out b)
      clear b
      have X2_lt := X2.out.lt
      have X2_c0 := X2.out.at (i := 0) rfl; have X2_f0 := X2.out.frozen 0
      have X2_c1 := X2.out.at (i := 1) rfl; have X2_f1 := X2.out.frozen 1
      have X2_c2 := X2.out.at (i := 2) rfl; have X2_f2 := X2.out.frozen 2
      go_wp2_with fail
      go_roundg (manyC (serveC C' g dd)).toNat
      case measure => exact hms
      case rel =>
        have o := onlyW3 (g := w.heap.size) w6 (.slice Q0 (serveC C' g dd).up.length q0) (.slice Q1 (serveC C' g dd).dn.length q1) (.slice Q2 (serveC C' g dd).car.length q2)
        exact ⟨_, _, _, _, _, _, _, g, dd, _, w5.heap.size, rfl, HS, O.out.only o (by omega), (fun k hk => (hob2.out k hk).2), R2.out.only o (fun k hk => by omega), X2.out.setW3 _ _ _, X3.out.only o (by omega), Only.then BW.out o (by omega) (by omega), by simp; omega, by omega⟩
/-- The reference's loop: the next stop is known. -/
def Nxt (C : Cl) (f d : Int) (C' : Cl) (nx : Option (Int × Int)) (out : List (Int × Int)) : Prop :=
  out.length ≤ 24 ∧ match nx with
  | none => out = sweepB C f d
  | some r => sweepB C f d = sweepL C f d ∧ ∃ f' d', Swp C f d C' f' d' out ∧ nextO C' f' d' = some r
theorem Nxt.done {C C' : Cl} {f d : Int} {out : List (Int × Int)} (h : Nxt C f d C' none out) : out = sweepB C f d := h.2
theorem Nxt.of {C C' : Cl} {f d f' d' : Int} {out : List (Int × Int)} (hB : sweepB C f d = sweepL C f d) (h : Swp C f d C' f' d' out) : Nxt C f d C' (nextB C' f' d') out := by
  rw [h.next]
  refine ⟨by have := h.2.2.2.2.2; omega, ?_⟩
  cases hn : nextO C' f' d' with
  | none => rw [hB]; exact h.done hn
  | some r => exact ⟨hB, f', d', h, hn⟩
theorem Nxt.start (C : Cl) (f d : Int) : Nxt C f d C (nextB C f d) [] := by
  cases hv : callsB C && stopOkB C.car.length f d
  · have : nextB C f d = none := by unfold nextB; rw [hv]; rfl
    rw [this]; exact ⟨Nat.zero_le _, (sweepB_no hv).symm⟩
  · rw [Bool.and_eq_true] at hv
    obtain ⟨hf, hd⟩ := stopOkB_iff.1 hv.2
    exact Nxt.of (sweepB_yes hv.1 hv.2) (Swp.start (callsB_iff.1 hv.1) hf hd)
theorem Nxt.step {C C' : Cl} {f d g e : Int} {out : List (Int × Int)} (h : Nxt C f d C' (some (g, e)) out) :
    Nxt C f d (serveC C' g e) (nextB (serveC C' g e) g e) (out ++ [(g, e)]) ∧ serveB C' g e = serveC C' g e ∧ 0 ≤ g ∧ (manyC (serveC C' g e)).toNat < (manyC C').toNat := by
  obtain ⟨-, hB, f', d', hs, hn⟩ := h
  obtain ⟨s1, s2, s3, s4⟩ := hs.step hn
  exact ⟨Nxt.of hB s1, s2, s3, s4⟩
theorem OwnS.off {LO g : Nat} {w w' : World} {v : Value} {l : List (Int × Int)} (h : OwnS LO w v l) (o : Only g (g + 1) w w') (hg : ∀ k, v.ownBlock = some k → k ≠ g) : OwnS LO w' v l := by
  refine ⟨h.1, ?_⟩
  rcases h.2 with h2 | ⟨b, cap, cur, rfl, hb, hh, r⟩
  · exact .inl h2
  · have := hg b rfl
    exact .inr ⟨b, cap, cur, rfl, hb, (o.block b (Array.getElem?_eq_some_iff.1 hh).1 (by omega)).trans hh, r⟩
set_option maxHeartbeats 4000000 in
theorem specSweepStops (A0 A1 A2 : Option Addr) (c0 c1 c2 : Nat) (C : Cl) (f d : Int) (w : World) (h : CR w A0 A1 A2 C) :
    Calls Try.prog 27 #[.agg #[.slice A0 C.up.length c0, .slice A1 C.dn.length c1, .slice A2 C.car.length c2], .agg #[.int .i64 f, .int .i64 d]] w (NewS (sweepB C f d) w) := by
  have H := hide h; clear h
  go_enter Try.func27, Try.ntmps27
  go_wp2_with fail
  refine calls_name fun W hW => ?_
  have X2 : Hid (Box W w.heap.size #[.slice A0 C.up.length c0, .slice A1 C.dn.length c1, .slice A2 C.car.length c2]) := by rw [hW]; exact ((Box.new rfl).alloc _).alloc _
  have X3 : Hid (Box W (w.heap.size + 1) #[.int .i64 f, .int .i64 d]) := by rw [hW]; exact (Box.new (by simp)).alloc _
  have BW : Hid (Below w.heap.size w W) := by rw [hW]; exact (((Below.refl _ _).alloc (Nat.le_refl _) _).alloc (by simp) _).alloc (by simp; omega) _
  have O : Hid (OwnS (w.heap.size + 1 + 1) W (.slice (some ⟨w.heap.size + 1 + 1, 0, none⟩) 0 0) []) := by
    have := OwnS.lit0 (LO := w.heap.size + 1 + 1) (w := (w.alloc (.cells #[.slice A0 C.up.length c0, .slice A1 C.dn.length c1, .slice A2 C.car.length c2] 30)).alloc (.cells #[.int .i64 f, .int .i64 d] 28)) (by simp)
    rw [hW]; unfold Hid; simpa using this
  have z0 : w.heap.size + 1 + 1 < W.heap.size := by rw [hW]; simp
  clear hW
  refine (specNextStop A0 A1 A2 c0 c1 c2 C f d _ (H.out.below BW.out)).mono ?_
  rintro e w1 ⟨rfl, b⟩
  have z1 := b.size
  replace X2 := hide (X2.out.below b)
  replace X3 := hide (X3.out.below b)
  replace O := hide (O.out.below b)
  replace BW := hide (bthen BW.out b)
  clear b
  have HS := hide (Nxt.start C f d)
  obtain ⟨nx, hnx⟩ : ∃ nx, nx = nextB C f d := ⟨_, rfl⟩
  rw [← hnx] at HS
  rw [← hnx, stC_eq]
  clear hnx
  go_wp2_with fail
  refine code_name fun W2 hW => ?_
  have X6 : Hid (Box W2 w1.heap.size #[.int .i64 (stF nx), .int .i64 (stD nx)]) := by rw [hW]; exact Box.new rfl
  have b : Below w1.heap.size w1 W2 := by rw [hW]; exact (Below.refl _ _).alloc (Nat.le_refl _) _
  have z2 := X6.out.lt
  replace X2 := hide (X2.out.below b)
  replace O := hide (O.out.below b)
  replace BW := hide (bthen BW.out b)
  clear b
  clear hW X3
  have HR : Hid (CRI (fun k => k < w.heap.size ∨ W2.heap.size ≤ k) W2 A0 A1 A2 C) := (CR.locate (ok := fun k => k < w.heap.size ∨ W2.heap.size ≤ k) H.out fun k hk => .inl hk).keep BW.out.size fun k _ hk => BW.out.block k hk
  have OB : Hid (∀ k, (Value.slice (some ⟨w.heap.size + 1 + 1, 0, none⟩) 0 0).ownBlock = some k → k < W2.heap.size ∧ k ≠ w1.heap.size) := fun k hk => by
    simp only [Value.ownBlock, Option.some.injEq] at hk; omega
  go_loopg [5] (manyC C).toNat (fun n v wr => ∃ (P0 P1 P2 : Option Addr) (p0 p1 p2 : Nat) (C' : Cl) (nx : Option (Int × Int)) (out : List (Int × Int)) (m : Nat), n = (manyC C').toNat ∧ Hid (Nxt C f d C' nx out) ∧ Hid (OwnS (w.heap.size + 1 + 1) wr v out) ∧ Hid (∀ k, v.ownBlock = some k → k < m ∧ k ≠ w1.heap.size) ∧ Hid (CRI (fun k => k < w.heap.size ∨ m ≤ k) wr P0 P1 P2 C') ∧ Hid (Box wr w.heap.size #[.slice P0 C'.up.length p0, .slice P1 C'.dn.length p1, .slice P2 C'.car.length p2]) ∧ Hid (Box wr w1.heap.size #[.int .i64 (stF nx), .int .i64 (stD nx)]) ∧ Hid (Below w.heap.size w wr) ∧ W2.heap.size ≤ wr.heap.size ∧ W2.heap.size ≤ m)
  case atStart => exact ⟨_, _, _, _, _, _, C, nx, [], _, rfl, HS, O, OB, HR, X2, X6, BW, Nat.le_refl _, Nat.le_refl _⟩
  case round =>
    clear X2 X6 BW HS HR O OB
    obtain ⟨P0, P1, P2, p0, p1, p2, C', nx', out, m, rfl, HS, O, OM, R, X2, X6, BW, zr, zm⟩ := hrel
    have hlen : out.length ≤ 24 := HS.out.1
    obtain ⟨A5, c5, rfl, -⟩ := O.out.form
    cases nx' with
    | none =>
      have HD := hide HS.out.done
      rw [show stF none = -1 from rfl, show stD none = 0 from rfl] at X6
      have X6_lt := X6.out.lt
      have X6_c0 := X6.out.at (i := 0) rfl; have X6_f0 := X6.out.frozen 0
      have X6_c1 := X6.out.at (i := 1) rfl; have X6_f1 := X6.out.frozen 1
      go_wp2_with fail
      go_ret
      rw [← HD.out]
      exact NewS.own O.out (by omega) BW.out
    | some r =>
      obtain ⟨g, dd⟩ := r
      obtain ⟨HS2, he, g0, hms⟩ := HS.out.step
      replace HS := hide HS2
      have HE2 := hide he
      clear HS2 he
      rw [show stF (some (g, dd)) = g from rfl, show stD (some (g, dd)) = dd from rfl] at X6
      have hob := hide O.out.block
      have X6_lt := X6.out.lt
      have X6_c0 := X6.out.at (i := 0) rfl; have X6_f0 := X6.out.frozen 0
      have X6_c1 := X6.out.at (i := 1) rfl; have X6_f1 := X6.out.frozen 1
      go_upto_region 5 with (at_builtin; refine wp_appS1 rfl (.tmp 14) (.tmp 16) rfl (w.heap.size + 1 + 1) _ _ out g dd rfl rfl O.out (by omega) (by omega) ?_; intro v5 w5 own5 g5 n5)
      clear X6_lt X6_c0 X6_f0 X6_c1 X6_f1
      have z5 := g5.size
      replace X2 := hide (X2.out.grownO g5 (fun k hk => by have := hob.out k hk; omega))
      replace X6 := hide (X6.out.grownO g5 (fun k hk => (OM.out k hk).2))
      replace R := hide (R.out.grown g5 (fun k hk e => by have := hob.out k e.symm; have := (OM.out k e.symm).1; omega))
      replace BW := hide (below_grown BW.out g5 (fun k hk => by have := hob.out k hk; omega) (by omega))
      replace O := hide own5
      have N5 := hide n5
      have hob2 : Hid (∀ k, v5.ownBlock = some k → k < w5.heap.size ∧ k ≠ w1.heap.size) := fun k hk => ⟨(O.out.block k hk).2, by
        rcases N5.out with h | h
        · rw [h] at hk; exact (OM.out k hk).2
        · rw [h] at hk; injection hk with hk; omega⟩
      clear g5 own5 hob OM n5 N5
      have X2_lt := X2.out.lt
      have X2_c0 := X2.out.at (i := 0) rfl; have X2_f0 := X2.out.frozen 0
      have X2_c1 := X2.out.at (i := 1) rfl; have X2_f1 := X2.out.frozen 1
      have X2_c2 := X2.out.at (i := 2) rfl; have X2_f2 := X2.out.frozen 2
      have X6_lt := X6.out.lt
      have X6_c0 := X6.out.at (i := 0) rfl; have X6_f0 := X6.out.frozen 0
      have X6_c1 := X6.out.at (i := 1) rfl; have X6_f1 := X6.out.frozen 1
      go_wp2_with fail
      clear X2_lt X2_c0 X2_f0 X2_c1 X2_f1 X2_c2 X2_f2
      clear X6_lt X6_c0 X6_f0 X6_c1 X6_f1
      refine (specServeStop_at P0 P1 P2 p0 p1 p2 C' g dd (serveC C' g dd) HE2.out.symm _ R.out.cr).mono ?_
      rintro e w6 ⟨Q0, Q1, Q2, q0, q1, q2, rfl, Q, b⟩
      have z6 := b.size
      have R2 : Hid (CRI (fun k => k < w.heap.size ∨ w5.heap.size ≤ k) w6 Q0 Q1 Q2 (serveC C' g dd)) := CO.locate Q fun k hk _ => .inr hk
      clear R Q
      replace X2 := hide (X2.out.below b)
      replace X6 := hide (X6.out.below b)
      replace O := hide (O.out.below b)
      replace BW := hide (bthen BW.out b)
      clear b
      have X2_lt := X2.out.lt
      have X2_c0 := X2.out.at (i := 0) rfl; have X2_f0 := X2.out.frozen 0
      have X2_c1 := X2.out.at (i := 1) rfl; have X2_f1 := X2.out.frozen 1
      have X2_c2 := X2.out.at (i := 2) rfl; have X2_f2 := X2.out.frozen 2
      go_upto_region 6 with fail
      clear X2_lt X2_c0 X2_f0 X2_c1 X2_f1 X2_c2 X2_f2
      refine code_name fun W7 hW => ?_
      have o : Only w.heap.size (w.heap.size + 1) w6 W7 := by rw [hW]; exact onlyW3 _ _ _ _
      have X2' : Hid (Box W7 w.heap.size #[.slice Q0 (serveC C' g dd).up.length q0, .slice Q1 (serveC C' g dd).dn.length q1, .slice Q2 (serveC C' g dd).car.length q2]) := by rw [hW]; exact X2.out.setW3 _ _ _
      replace X2 := X2'
      have z7 := o.size
      replace X6 := hide (X6.out.only o (by omega))
      replace O := hide (O.out.only o (by omega))
      replace R2 := hide (R2.out.only o (fun k hk => by omega))
      replace BW := hide (Only.then BW.out o (by omega) (by omega))
      clear o hW X2'
      have X2_lt := X2.out.lt
      have X2_c0 := X2.out.at (i := 0) rfl; have X2_f0 := X2.out.frozen 0
      have X2_c1 := X2.out.at (i := 1) rfl; have X2_f1 := X2.out.frozen 1
      have X2_c2 := X2.out.at (i := 2) rfl; have X2_f2 := X2.out.frozen 2
      have X6_lt := X6.out.lt
      have X6_c0 := X6.out.at (i := 0) rfl; have X6_f0 := X6.out.frozen 0
      have X6_c1 := X6.out.at (i := 1) rfl; have X6_f1 := X6.out.frozen 1
      go_wp2_with fail
      clear X2_lt X2_c0 X2_f0 X2_c1 X2_f1 X2_c2 X2_f2
      clear X6_lt X6_c0 X6_f0 X6_c1 X6_f1
      refine (specNextStop Q0 Q1 Q2 q0 q1 q2 (serveC C' g dd) g dd _ R2.out.cr).mono ?_
      rintro e w8 ⟨rfl, b⟩
      have z8 := b.size
      replace X2 := hide (X2.out.below b)
      replace X6 := hide (X6.out.below b)
      replace O := hide (O.out.below b)
      replace R2 := hide (R2.out.below b)
      replace BW := hide (bthen BW.out b)
      clear b
      obtain ⟨nx2, hnx⟩ : ∃ nx, nx = nextB (serveC C' g dd) g dd := ⟨_, rfl⟩
      rw [← hnx] at HS
      rw [← hnx, stC_eq]
      clear hnx
      have X6_lt := X6.out.lt
      have X6_c0 := X6.out.at (i := 0) rfl; have X6_f0 := X6.out.frozen 0
      have X6_c1 := X6.out.at (i := 1) rfl; have X6_f1 := X6.out.frozen 1
      go_wp2_with fail
      go_roundg (manyC (serveC C' g dd)).toNat
      case measure => exact hms
      case rel =>
        have o := onlyW2 (g := w1.heap.size) w8 (.int .i64 (stF nx2)) (.int .i64 (stD nx2))
        exact ⟨_, _, _, _, _, _, _, nx2, _, w5.heap.size, rfl, HS, O.out.off o (fun k hk => (hob2.out k hk).2), hob2, R2.out.only o (fun k hk => by omega), X2.out.only o (by omega), X6.out.setW2 _ _, Only.then BW.out o (by omega) (by omega), by simp; omega, by omega⟩
theorem specSweepStops_at (A0 A1 A2 : Option Addr) (c0 c1 c2 : Nat) (C : Cl) (f d : Int) (D : List (Int × Int)) (hD : D = sweepB C f d) (w : World) (h : CR w A0 A1 A2 C) :
    Calls Try.prog 27 #[.agg #[.slice A0 C.up.length c0, .slice A1 C.dn.length c1, .slice A2 C.car.length c2], .agg #[.int .i64 f, .int .i64 d]] w (NewS D w) := by subst hD; exact specSweepStops A0 A1 A2 c0 c1 c2 C f d w h
theorem implSweepStops_at (A0 A1 A2 : Option Addr) (c0 c1 c2 : Nat) (C : Cl) (f d : Int) (D : List (Int × Int)) (hD : D = sweepB C f d) (w : World) (h : CR w A0 A1 A2 C) :
    Calls Try.prog 28 #[.agg #[.slice A0 C.up.length c0, .slice A1 C.dn.length c1, .slice A2 C.car.length c2], .agg #[.int .i64 f, .int .i64 d]] w (NewS D w) := by subst hD; exact implSweepStops A0 A1 A2 c0 c1 c2 C f d w h
end Go.Proofs.Ytngblphkpkhppaa
