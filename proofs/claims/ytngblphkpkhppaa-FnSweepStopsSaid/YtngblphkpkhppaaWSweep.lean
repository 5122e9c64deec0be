import Derived.Test.YtngblphkpkhppaaFrameC
import Derived.Test.YtngblphkpkhppaaDrawStops
import Derived.Test.YtngblphkpkhppaaStopsG
import Derived.Test.YtngblphkpkhppaaStopLaw
import Derived.Test.YtngblphkpkhppaaWCallSet
import Derived.Deep.RegionHeld3
import Derived.Deep.CutRange
namespace Go.Proofs.Ytngblphkpkhppaa
open Go.RowKit
attribute [local go_sem ↓] Go.wp_at_zero Go.wp_at_succ

theorem serveAll_snoc (l : List (Int × Int)) (r : Int × Int) : ∀ C, serveAll C (l ++ [r]) = serveC (serveAll C l) r.1 r.2 := by
  induction l with
  | nil => intro C; rfl
  | cons x xs ih => intro C; exact ih _
theorem turnsL_nn : ∀ (l : List (Int × Int)) (d : Int), 0 ≤ turnsL d l := by
  intro l
  induction l with
  | nil => intro d; exact Int.le_refl _
  | cons r rest ih => intro d; have := ih r.2; simp only [turnsL]; split <;> omega
/-- How the law's loop stands after k stops. -/
def SwK (C : Cl) (d : Int) (D : List (Int × Int)) (k : Nat) (C' : Cl) (t dir : Int) : Prop :=
  callsP C' ∧ C'.car.length = C.car.length ∧ C' = serveAll C (D.take k) ∧ 0 ≤ t ∧ t + turnsL dir (D.drop k) = turnsL d D
theorem SwK.start {C : Cl} {d : Int} (D : List (Int × Int)) (h : callsP C) : SwK C d D 0 C 0 d := ⟨h, rfl, rfl, Int.le_refl _, by simp⟩
theorem SwK.step {C C' : Cl} {d t dir : Int} {D : List (Int × Int)} {k : Nat} {r : Int × Int} (h : SwK C d D k C' t dir) (hr : D[k]? = some r) :
    SwK C d D (k + 1) (serveC C' r.1 r.2) (t + if r.2 = dir then 0 else 1) r.2 := by
  obtain ⟨h1, h2, h3, h4, h5⟩ := h
  have hk := getElem?_lt hr
  refine ⟨serve_valid h1 _ _, by rw [serve_len]; exact h2, ?_, by split <;> omega, ?_⟩
  · rw [take_snoc' D k r hr, serveAll_snoc, ← h3]
  · rw [List.drop_eq_getElem_cons hk] at h5
    have hg : D[k] = r := by rw [List.getElem?_eq_getElem hk] at hr; injection hr
    rw [hg] at h5
    simp only [turnsL] at h5
    omega
theorem SwK.turns {C C' : Cl} {f d t dir : Int} {k : Nat} (h : SwK C d (sweepL C f d) k C' t dir) (hC : callsP C) (hf : 0 ≤ f ∧ f < C.car.length) (hd : d = 1 ∨ d = -1) : t ≤ 2 := by
  have := turns2 C f d hC hf hd
  have := turnsL_nn ((sweepL C f d).drop k) dir
  have := h.2.2.2.2
  omega
theorem SwK.good {C C' : Cl} {f d t dir : Int} {k : Nat} {r : Int × Int} (h : SwK C d (sweepL C f d) k C' t dir) (hC : callsP C) (hf : 0 ≤ f ∧ f < C.car.length) (hd : d = 1 ∨ d = -1) (hr : (sweepL C f d)[k]? = some r) : serveB C' r.1 r.2 = serveC C' r.1 r.2 := by
  obtain ⟨g1, g2⟩ := sweep_good C f d hC hf hd r (List.mem_of_getElem? hr)
  exact serveB_yes (callsB_iff.2 h.1) (stopOkB_iff.2 ⟨by rw [h.2.1]; exact g1, g2⟩)
theorem SwK.done {C C' : Cl} {f d t dir : Int} {k : Nat} (h : SwK C d (sweepL C f d) k C' t dir) (hC : callsP C) (hf : 0 ≤ f ∧ f < C.car.length) (hd : d = 1 ∨ d = -1) (hk : (sweepL C f d).length ≤ k) : manyB C' = 0 := by
  rw [manyB_yes (callsB_iff.2 h.1), h.2.2.1, List.take_of_length_le hk]
  exact sweep_served C f d hC hf hd
set_option maxRecDepth 100000 in
set_option maxHeartbeats 3000000 in
theorem wSweepStops (A : Option Addr) (c : Nat) (bs : List Int) (w : World) (h0 : InRow .u8 w A c bs) :
    Calls Try.prog 8 #[.slice A bs.length c] w fun e w' => e = .returned (.bool true) ∧ Below w.heap.size w w' := by
  have HB := hide h0.byte
  obtain ⟨h, hc, hc2, -⟩ := h0
  have H : Hid (Sl w A (bvs bs)) := h
  clear h
  by_cases hl : ¬ bs.length ≤ 1048576
  · go_enter Try.func8, Try.ntmps8
    go_wp2
    go_ret
    exact ⟨rfl, Below.refl _ _⟩
  have hl : bs.length ≤ 1048576 := by omega
  clear hc2
  go_enter Try.func8, Try.ntmps8
  go_wp2_with fail
  refine (drawSweepStops_any A c bs _ H.out HB.out hl hc).mono ?_
  rintro e w1 ⟨P0, P1, P2, p0, p1, p2, C, f, d, rfl, P, ⟨l0, l1, l2⟩, ⟨fa, fb⟩, ⟨da, db⟩, b⟩
  have BW := hide b; replace P := hide P
  have zw1 := b.size
  clear b
  obtain ⟨D, hD⟩ : ∃ D, D = sweepB C f d := ⟨_, rfl⟩
  have d0 : D.length ≤ 24 := by rw [hD]; exact sweepB_len C f d
  have HD := hide hD; clear hD
  go_wp2_with fail
  refine calls_name fun W hW => ?_
  have X3 : Hid (Box W w1.heap.size #[.slice P0 C.up.length p0, .slice P1 C.dn.length p1, .slice P2 C.car.length p2]) := by rw [hW]; exact (Box.new rfl).alloc _
  have X4 : Hid (Box W (w1.heap.size + 1) #[.int .i64 f, .int .i64 d]) := by rw [hW]; exact Box.new (by simp)
  have b : Below w1.heap.size w1 W := by rw [hW]; exact ((Below.refl _ _).alloc (Nat.le_refl _) _).alloc (by simp) _
  have z0 : w1.heap.size + 1 < W.heap.size := by rw [hW]; simp
  clear hW
  replace P := hide (P.out.below b)
  replace BW := hide (bthen BW.out b)
  clear b
  refine (implSweepStops_at P0 P1 P2 p0 p1 p2 C f d D HD.out _ P.out.cr).mono ?_
  rintro e w2 ⟨S0, s0, rfl, S, b⟩
  have S := hide S
  have z2 := b.size
  replace P := hide (P.out.below b)
  replace X3 := hide (X3.out.below b)
  replace X4 := hide (X4.out.below b)
  replace BW := hide (bthen BW.out b)
  clear b
  have X3_lt := X3.out.lt
  have X3_c0 := X3.out.at (i := 0) rfl; have X3_f0 := X3.out.frozen 0
  have X3_c1 := X3.out.at (i := 1) rfl; have X3_f1 := X3.out.frozen 1
  have X3_c2 := X3.out.at (i := 2) rfl; have X3_f2 := X3.out.frozen 2
  have X4_lt := X4.out.lt
  have X4_c0 := X4.out.at (i := 0) rfl; have X4_f0 := X4.out.frozen 0
  have X4_c1 := X4.out.at (i := 1) rfl; have X4_f1 := X4.out.frozen 1
  go_wp2_with fail
  refine (specSweepStops_at P0 P1 P2 p0 p1 p2 C f d D HD.out _ P.out.cr).mono ?_
  rintro e w3 ⟨T0, t0, rfl, T, b⟩
  clear X3_lt X3_c0 X3_f0 X3_c1 X3_f1 X3_c2 X3_f2
  clear X4_lt X4_c0 X4_f0 X4_c1 X4_f1
  have T := hide T
  have z3 := b.size
  replace P := hide (P.out.below b)
  replace X3 := hide (X3.out.below b)
  replace X4 := hide (X4.out.below b)
  replace S := hide (S.out.below b)
  replace BW := hide (bthen BW.out b)
  clear b
  go_wp2_with fail
  refine (sameStops_self S0 T0 s0 t0 D _ S.out.stps T.out.stps (by omega)).mono ?_
  rintro e w4 ⟨rfl, dr⟩
  have b := dr.below
  have z4 := b.size
  replace P := hide (P.out.below b)
  replace X3 := hide (X3.out.below b)
  replace X4 := hide (X4.out.below b)
  replace S := hide (S.out.below b)
  replace BW := hide (bthen BW.out b)
  clear b
  clear dr T
  have X3_lt := X3.out.lt
  have X3_c0 := X3.out.at (i := 0) rfl; have X3_f0 := X3.out.frozen 0
  have X3_c1 := X3.out.at (i := 1) rfl; have X3_f1 := X3.out.frozen 1
  have X3_c2 := X3.out.at (i := 2) rfl; have X3_f2 := X3.out.frozen 2
  have X4_lt := X4.out.lt
  have X4_c0 := X4.out.at (i := 0) rfl; have X4_f0 := X4.out.frozen 0
  have X4_c1 := X4.out.at (i := 1) rfl; have X4_f1 := X4.out.frozen 1
  go_wp2_with fail
  clear X3_lt X3_c0 X3_f0 X3_c1 X3_f1 X3_c2 X3_f2
  clear X4_lt X4_c0 X4_f0 X4_c1 X4_f1
  refine (lawStopOk P0 P1 P2 p0 p1 p2 C f d _ P.out.cr).mono ?_
  rintro e w5 ⟨rfl, b⟩
  have z5 := b.size
  replace P := hide (P.out.below b)
  replace X3 := hide (X3.out.below b)
  replace X4 := hide (X4.out.below b)
  replace S := hide (S.out.below b)
  replace BW := hide (bthen BW.out b)
  clear b
  cases hv : callsB C && stopOkB C.car.length f d
  · have he : D = [] := HD.out.trans (sweepB_no hv)
    have hz4 : ((D.length : Int) == 0) = true := by rw [he]; rfl
    clear he hv
    go_wp2_with fail
    refine (alive_any _).mono ?_
    rintro e w9 ⟨rfl, b9⟩
    have B9 := hide b9
    clear b9
    go_wp2_with fail
    go_ret
    exact ⟨rfl, bthen BW.out B9.out⟩
  · rw [Bool.and_eq_true] at hv
    obtain ⟨hv, hs⟩ := hv
    have he : D = sweepL C f d := HD.out.trans (sweepB_yes hv hs)
    obtain ⟨hf, hd⟩ := stopOkB_iff.1 hs
    have hC := callsB_iff.1 hv
    have HC := hide hC; have HF := hide hf; have HDD := hide hd; have HE := hide he
    have HMB := hide (manyB_yes hv)
    have hmb := many_bd hC
    have hmn := manyC_nonneg C
    have hsh : (D.length : Int) ≤ manyC C := by rw [he]; exact sweep_short C f d hC hf hd
    obtain ⟨mc, hmc⟩ : ∃ mc, mc = manyC C := ⟨_, rfl⟩
    rw [← hmc] at HMB hmb hmn hsh
    have HST : Hid (SwK C d D 0 C 0 d) := SwK.start D hC
    clear hv hs he hf hd hC hmc
    have X3_lt := X3.out.lt
    have X3_c0 := X3.out.at (i := 0) rfl; have X3_f0 := X3.out.frozen 0
    have X3_c1 := X3.out.at (i := 1) rfl; have X3_f1 := X3.out.frozen 1
    have X3_c2 := X3.out.at (i := 2) rfl; have X3_f2 := X3.out.frozen 2
    have X4_lt := X4.out.lt
    have X4_c0 := X4.out.at (i := 0) rfl; have X4_f0 := X4.out.frozen 0
    have X4_c1 := X4.out.at (i := 1) rfl; have X4_f1 := X4.out.frozen 1
    go_wp2_with fail
    clear X3_lt X3_c0 X3_f0 X3_c1 X3_f1 X3_c2 X3_f2
    clear X4_lt X4_c0 X4_f0 X4_c1 X4_f1
    refine code_name fun W6 hW => ?_
    have X8 := hide (Box.new' (g := w5.heap.size) hW rfl)
    have b : Below w5.heap.size w5 W6 := by rw [hW]; exact (Below.refl _ _).alloc (Nat.le_refl _) _
    have z6 := X8.out.lt
    replace P := hide (P.out.below b)
    replace X3 := hide (X3.out.below b)
    replace S := hide (S.out.below b)
    replace BW := hide (bthen BW.out b)
    clear b
    clear hW
    have HR : Hid (CRI (fun k => k < w5.heap.size ∨ W6.heap.size ≤ k) W6 P0 P1 P2 C) := ⟨P.out.cr, OS.locate P.out.up (fun k _ hk => .inl (by omega)), OS.locate P.out.dn (fun k _ hk => .inl (by omega)), OS.locate P.out.car (fun k _ hk => .inl (by omega))⟩
    have hw5 : w.heap.size ≤ w5.heap.size ∧ w1.heap.size < w5.heap.size := by omega
    go_loopw [6, 7, 9] (fun tv dv i wr => ∃ (k : Nat) (C' : Cl) (t dir : Int) (Q0 Q1 Q2 : Option Addr) (q0 q1 q2 : Nat), i = .int .i64 (k : Int) ∧ tv = .int .i64 t ∧ dv = .int .i64 dir ∧ k ≤ D.length ∧ (0 ≤ t ∧ t ≤ 2) ∧ Hid (SwK C d D k C' t dir) ∧ Hid (CRI (fun k => k < w5.heap.size ∨ W6.heap.size ≤ k) wr Q0 Q1 Q2 C') ∧ Hid (Box wr w5.heap.size #[.slice Q0 C'.up.length q0, .slice Q1 C'.dn.length q1, .slice Q2 C'.car.length q2]) ∧ Hid (Box wr w1.heap.size #[.slice P0 C.up.length p0, .slice P1 C.dn.length p1, .slice P2 C.car.length p2]) ∧ Hid (CW w.heap.size w1.heap.size wr P0 P1 P2 C) ∧ Hid (SW W.heap.size w2.heap.size wr S0 D) ∧ Hid (Below w.heap.size w wr) ∧ W6.heap.size ≤ wr.heap.size) (fun _ _ i _ => D.length - (intOf i).toNat)
    case atStart => exact ⟨0, C, 0, d, P0, P1, P2, p0, p1, p2, rfl, rfl, rfl, Nat.zero_le _, by omega, HST, HR, X8, X3, P, S, BW, Nat.le_refl _⟩
    case round =>
      clear X8 X3 P S BW HR HST
      obtain ⟨k, C', t, dir, Q0, Q1, Q2, q0, q1, q2, rfl, rfl, rfl, hk, ⟨ta, tb⟩, HST, R, X8, X3, P, S, BW, zr⟩ := hrel
      by_cases hlt : k < D.length
      · obtain ⟨b, off, r, rfl, hb, hr, c0, c1⟩ := S.out.stps.at hlt
        obtain ⟨g, dd⟩ := r
        have hr' := hr.out
        have HS2 := hide (HST.out.step hr')
        have HG : Hid (serveB C' g dd = serveC C' g dd) := by
          have h1 := HST.out; rw [HE.out] at h1 hr'; exact h1.good HC.out HF.out HDD.out hr'
        obtain ⟨t2, ht2⟩ : ∃ t2, t2 = t + if dd = dir then 0 else 1 := ⟨_, rfl⟩
        have htb : 0 ≤ t2 ∧ t2 ≤ 2 := by
          have h1 := HS2.out; rw [HE.out] at h1
          have h2 := h1.turns HC.out HF.out HDD.out
          have h3 := h1.2.2.2.1
          rw [ht2]; exact ⟨h3, h2⟩
        have HS3 : Hid (SwK C d D (k + 1) (serveC C' g dd) t2 dd) := by rw [ht2]; exact HS2.out
        clear HS2
        have r0' : (0 : Int) ≤ (k : Int) := by omega
        have r1' : (k : Int) < (D.length : Int) := by omega
        clear hr hr'
        by_cases hdir : dd = dir
        · rw [if_pos hdir] at ht2
          have hd1 : (dd != dir) = false := by simpa using hdir
          have HT2 := hide ht2; have HDR := hide hdir
          clear ht2 hdir
          have X8_lt := X8.out.lt
          have X8_c0 := X8.out.at (i := 0) rfl; have X8_f0 := X8.out.frozen 0
          have X8_c1 := X8.out.at (i := 1) rfl; have X8_f1 := X8.out.frozen 1
          have X8_c2 := X8.out.at (i := 2) rfl; have X8_f2 := X8.out.frozen 2
          go_upto_region 18 with fail
          clear X8_lt X8_c0 X8_f0 X8_c1 X8_f1 X8_c2 X8_f2
          have KK : Hid (Below wr.heap.size wr wr.drew) := (Below.refl _ _).drew
          have X8c0 := X8.out.at (i := 0) rfl; have X8c1 := X8.out.at (i := 1) rfl; have X8c2 := X8.out.at (i := 2) rfl
          go_region_with ((go_at_call 17; (with_reducible refine (implServeStop_at Q0 Q1 Q2 q0 q1 q2 C' g dd (serveC C' g dd) HG.out.symm _ ?_).mono ?_); exact R.out.cr.below KK.out; rintro e v ⟨V0, V1, V2, v0, v1, v2, rfl, V, bb⟩; replace V := hide V; replace KK := hide (bthen KK.out bb); have zv := KK.out.size; have X8' := hide (X8.out.below KK.out); have k8f0 := X8'.out.frozen 0; have k8f1 := X8'.out.frozen 1; have k8f2 := X8'.out.frozen 2; have k8c0 := X8'.out.at (i := 0) rfl; have k8c1 := X8'.out.at (i := 1) rfl; have k8c2 := X8'.out.at (i := 2) rfl; clear bb))
          all_goals
            go_wp2_with fail
            go_roundw
            case rel =>
              have o := onlyW3 (g := w5.heap.size) v (.slice V0 (serveC C' g dd).up.length v0) (.slice V1 (serveC C' g dd).dn.length v1) (.slice V2 (serveC C' g dd).car.length v2)
              have VV : CRI (fun k => k < w5.heap.size ∨ W6.heap.size ≤ k) v V0 V1 V2 (serveC C' g dd) := CO.locate V.out fun k hk _ => .inr (Nat.le_trans zr hk)
              exact ⟨k + 1, serveC C' g dd, t2, dd, V0, V1, V2, v0, v1, v2, by go_num, by rw [HT2.out, Int.add_zero], rfl, by omega, htb, HS3, VV.only o (fun k hk => by omega), X8'.out.setW3 _ _ _, (X3.out.below KK.out).only o (by omega), (P.out.below KK.out).only o (by omega), (S.out.below KK.out).only o (by omega), Only.then (bthen BW.out KK.out) o hw5.1 (by omega), by simp; omega⟩
            case measure => simp [intOf]; omega
        · rw [if_neg hdir] at ht2
          have hd1 : (dd != dir) = true := by simpa using hdir
          have HT2 := hide ht2; have HDR := hide hdir
          clear ht2 hdir
          have X8_lt := X8.out.lt
          have X8_c0 := X8.out.at (i := 0) rfl; have X8_f0 := X8.out.frozen 0
          have X8_c1 := X8.out.at (i := 1) rfl; have X8_f1 := X8.out.frozen 1
          have X8_c2 := X8.out.at (i := 2) rfl; have X8_f2 := X8.out.frozen 2
          go_upto_region 18 with fail
          clear X8_lt X8_c0 X8_f0 X8_c1 X8_f1 X8_c2 X8_f2
          have KK : Hid (Below wr.heap.size wr wr.drew) := (Below.refl _ _).drew
          have X8c0 := X8.out.at (i := 0) rfl; have X8c1 := X8.out.at (i := 1) rfl; have X8c2 := X8.out.at (i := 2) rfl
          go_region_with ((go_at_call 17; (with_reducible refine (implServeStop_at Q0 Q1 Q2 q0 q1 q2 C' g dd (serveC C' g dd) HG.out.symm _ ?_).mono ?_); exact R.out.cr.below KK.out; rintro e v ⟨V0, V1, V2, v0, v1, v2, rfl, V, bb⟩; replace V := hide V; replace KK := hide (bthen KK.out bb); have zv := KK.out.size; have X8' := hide (X8.out.below KK.out); have k8f0 := X8'.out.frozen 0; have k8f1 := X8'.out.frozen 1; have k8f2 := X8'.out.frozen 2; have k8c0 := X8'.out.at (i := 0) rfl; have k8c1 := X8'.out.at (i := 1) rfl; have k8c2 := X8'.out.at (i := 2) rfl; clear bb))
          all_goals
            go_wp2_with fail
            go_roundw
            case rel =>
              have o := onlyW3 (g := w5.heap.size) v (.slice V0 (serveC C' g dd).up.length v0) (.slice V1 (serveC C' g dd).dn.length v1) (.slice V2 (serveC C' g dd).car.length v2)
              have VV : CRI (fun k => k < w5.heap.size ∨ W6.heap.size ≤ k) v V0 V1 V2 (serveC C' g dd) := CO.locate V.out fun k hk _ => .inr (Nat.le_trans zr hk)
              exact ⟨k + 1, serveC C' g dd, t2, dd, V0, V1, V2, v0, v1, v2, by go_num, by rw [HT2.out], rfl, by omega, htb, HS3, VV.only o (fun k hk => by omega), X8'.out.setW3 _ _ _, (X3.out.below KK.out).only o (by omega), (P.out.below KK.out).only o (by omega), (S.out.below KK.out).only o (by omega), Only.then (bthen BW.out KK.out) o hw5.1 (by omega), by simp; omega⟩
            case measure => simp [intOf]; omega
      · have hm0 : Hid (manyB C' = 0) := by
          have h1 := HST.out
          rw [HE.out] at h1
          exact h1.done HC.out HF.out HDD.out (by rw [← HE.out]; omega)
        have X8_lt := X8.out.lt
        have X8_c0 := X8.out.at (i := 0) rfl; have X8_f0 := X8.out.frozen 0
        have X8_c1 := X8.out.at (i := 1) rfl; have X8_f1 := X8.out.frozen 1
        have X8_c2 := X8.out.at (i := 2) rfl; have X8_f2 := X8.out.frozen 2
        go_wp2_with fail
        clear X8_lt X8_c0 X8_f0 X8_c1 X8_f1 X8_c2 X8_f2
        refine (implCallsMany Q0 Q1 Q2 q0 q1 q2 C' _ R.out.cr).mono ?_
        rw [hm0.out]
        rintro e v ⟨rfl, b⟩
        replace P := hide (P.out.below b)
        replace X3 := hide (X3.out.below b)
        replace BW := hide (bthen BW.out b)
        clear b
        have X3_lt := X3.out.lt
        have X3_c0 := X3.out.at (i := 0) rfl; have X3_f0 := X3.out.frozen 0
        have X3_c1 := X3.out.at (i := 1) rfl; have X3_f1 := X3.out.frozen 1
        have X3_c2 := X3.out.at (i := 2) rfl; have X3_f2 := X3.out.frozen 2
        go_wp2_with fail
        clear X3_lt X3_c0 X3_f0 X3_c1 X3_f1 X3_c2 X3_f2
        refine (implCallsMany P0 P1 P2 p0 p1 p2 C _ P.out.cr).mono ?_
        rw [HMB.out]
        rintro e v2 ⟨rfl, b⟩
        replace BW := hide (bthen BW.out b)
        clear b
        go_wp2_with fail
        go_ret
        exact ⟨rfl, BW.out⟩
end Go.Proofs.Ytngblphkpkhppaa
