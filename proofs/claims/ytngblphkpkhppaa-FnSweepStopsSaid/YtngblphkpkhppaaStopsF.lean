/- Stops: ServeStop, the program's and the reference's. -/
import Derived.Test.YtngblphkpkhppaaStopsE
import Derived.Test.YtngblphkpkhppaaCallsF
namespace Go.Proofs.Ytngblphkpkhppaa
open Go.RowKit

/-- ServeStop, for all arguments. -/
noncomputable def serveB (C : Cl) (f d : Int) : Cl := if callsB C && stopOkB C.car.length f d then serveC C f d else ⟨[], [], []⟩
theorem serveB_noc {C : Cl} {f d : Int} (h : callsB C = false) : serveB C f d = ⟨[], [], []⟩ := by unfold serveB; rw [h]; rfl
theorem serveB_nos {C : Cl} {f d : Int} (h : stopOkB C.car.length f d = false) : serveB C f d = ⟨[], [], []⟩ := by unfold serveB; rw [h, Bool.and_false]; rfl
theorem serveB_no {C : Cl} {f d : Int} (h : (callsB C && stopOkB C.car.length f d) = false) : serveB C f d = ⟨[], [], []⟩ := by unfold serveB; rw [h]; rfl
theorem serveB_yes {C : Cl} {f d : Int} (h : callsB C = true) (h2 : stopOkB C.car.length f d = true) : serveB C f d = serveC C f d := by unfold serveB; rw [h, h2]; rfl
theorem serveB_lens {C : Cl} {f d : Int} : (serveB C f d).up.length ≤ 8 ∧ (serveB C f d).dn.length ≤ 8 ∧ (serveB C f d).car.length ≤ 8 := by
  unfold serveB
  split
  · rename_i h
    rw [Bool.and_eq_true] at h
    obtain ⟨h1, h2, h3, h4, -, -⟩ := serve_valid (callsB_iff.1 h.1) f d
    omega
  · exact ⟨Nat.zero_le _, Nat.zero_le _, Nat.zero_le _⟩
theorem serve_up {C : Cl} {k : Nat} {d : Int} (h : 0 < d) : serveC C k d = ⟨C.up.set k false, C.dn, C.car.set k false⟩ := by unfold serveC; rw [if_pos h, if_pos h]; rfl
theorem serve_dn {C : Cl} {k : Nat} {d : Int} (h : ¬ 0 < d) : serveC C k d = ⟨C.up, C.dn.set k false, C.car.set k false⟩ := by unfold serveC; rw [if_neg h, if_neg h]; rfl
theorem GivesC.ofLen {w w' : World} {A0 A1 A2 : Option Addr} {c0 c1 c2 n0 n1 n2 lo hi : Nat} {D : Cl} (q : CO lo hi w' A0 A1 A2 D) (b : Below w.heap.size w w') (h0 : n0 = D.up.length) (h1 : n1 = D.dn.length) (h2 : n2 = D.car.length) (hl : w.heap.size ≤ lo) (hh : hi ≤ w'.heap.size) :
    GivesC D w (.returned (.agg #[.slice A0 n0 c0, .slice A1 n1 c1, .slice A2 n2 c2])) w' := by
  subst h0; subst h1; subst h2
  exact ⟨A0, A1, A2, c0, c1, c2, rfl, q.mono hl hh, b⟩
theorem only3s (w : World) (g : Nat) (a b c : Value) : Only g (g + 1) w (((w.setCell ⟨g, 0, none⟩ a).setCell ⟨g, 1, none⟩ b).setCell ⟨g, 2, none⟩ c) := onlyW3 w a b c
set_option maxHeartbeats 2000000 in
theorem implServeStop (A0 A1 A2 : Option Addr) (c0 c1 c2 : Nat) (C : Cl) (f d : Int) (w : World) (h : CR w A0 A1 A2 C) :
    Calls Try.prog 17 #[.agg #[.slice A0 C.up.length c0, .slice A1 C.dn.length c1, .slice A2 C.car.length c2], .agg #[.int .i64 f, .int .i64 d]] w (GivesC (serveB C f d) w) := by
  have H := hide h; clear h
  go_enter Try.func17, Try.ntmps17
  go_wp2_with fail
  refine calls_name fun W hW => ?_
  have X2 : Hid (Box W w.heap.size #[.slice A0 C.up.length c0, .slice A1 C.dn.length c1, .slice A2 C.car.length c2]) := by rw [hW]; exact ((Box.new rfl).alloc _).alloc _
  have X3 : Hid (Box W (w.heap.size + 1) #[.int .i64 f, .int .i64 d]) := by rw [hW]; exact (Box.new (by simp)).alloc _
  have X4 : Hid (Box W (w.heap.size + 1 + 1) #[.slice none 0 0, .slice none 0 0, .slice none 0 0]) := by rw [hW]; exact Box.new (by simp)
  have BW : Hid (Below w.heap.size w W) := by rw [hW]; exact (((Below.refl _ _).alloc (Nat.le_refl _) _).alloc (by simp) _).alloc (by simp; omega) _
  have z0 : w.heap.size + 1 + 1 < W.heap.size := by rw [hW]; simp
  clear hW
  refine (implCallsValid A0 A1 A2 c0 c1 c2 C _ (H.out.below BW.out)).mono ?_
  rintro e w1 ⟨rfl, b⟩
  have z1 := b.size
  replace X2 := hide (X2.out.below b)
  replace X3 := hide (X3.out.below b)
  replace X4 := hide (X4.out.below b)
  replace BW := hide (bthen BW.out b)
  clear b
  cases hv : callsB C
  · have HE := hide (serveB_noc (f := f) (d := d) hv)
    have X4_lt := X4.out.lt
    have X4_c0 := X4.out.at (i := 0) rfl; have X4_f0 := X4.out.frozen 0
    have X4_c1 := X4.out.at (i := 1) rfl; have X4_f1 := X4.out.frozen 1
    have X4_c2 := X4.out.at (i := 2) rfl; have X4_f2 := X4.out.frozen 2
    go_wp2_with fail
    refine bodyPost_ret (by simp [results, Try.results17, go_sem, X4_c0, X4_c1, X4_c2]; rfl) rfl ?_
    rw [HE.out]
    exact GivesC.zero (Only.then BW.out (only3s _ _ _ _ _) (by omega) (by omega))
  have hup : Hid ((C.up.length : Int) = (C.car.length : Int)) := by have := (callsB_iff.1 hv).2.2.1; unfold Hid; omega
  have HV := hide hv
  have X2_lt := X2.out.lt
  have X2_c0 := X2.out.at (i := 0) rfl; have X2_f0 := X2.out.frozen 0
  have X2_c1 := X2.out.at (i := 1) rfl; have X2_f1 := X2.out.frozen 1
  have X2_c2 := X2.out.at (i := 2) rfl; have X2_f2 := X2.out.frozen 2
  have X3_lt := X3.out.lt
  have X3_c0 := X3.out.at (i := 0) rfl; have X3_f0 := X3.out.frozen 0
  have X3_c1 := X3.out.at (i := 1) rfl; have X3_f1 := X3.out.frozen 1
  go_wp2_with fail
  clear X2_lt X2_c0 X2_f0 X2_c1 X2_f1 X2_c2 X2_f2
  clear X3_lt X3_c0 X3_f0 X3_c1 X3_f1
  refine (stopValid_at f d C.car.length _ _ hup.out).mono ?_
  rintro e w2 ⟨rfl, b⟩
  have z2 := b.size
  replace X2 := hide (X2.out.below b)
  replace X3 := hide (X3.out.below b)
  replace X4 := hide (X4.out.below b)
  replace BW := hide (bthen BW.out b)
  clear b
  cases hs : stopOkB C.car.length f d
  · have HE := hide (serveB_nos hs)
    have X4_lt := X4.out.lt
    have X4_c0 := X4.out.at (i := 0) rfl; have X4_f0 := X4.out.frozen 0
    have X4_c1 := X4.out.at (i := 1) rfl; have X4_f1 := X4.out.frozen 1
    have X4_c2 := X4.out.at (i := 2) rfl; have X4_f2 := X4.out.frozen 2
    go_wp2_with fail
    refine bodyPost_ret (by simp [results, Try.results17, go_sem, X4_c0, X4_c1, X4_c2]; rfl) rfl ?_
    rw [HE.out]
    exact GivesC.zero (Only.then BW.out (only3s _ _ _ _ _) (by omega) (by omega))
  have HCV := hide (callsB_iff.1 hv)
  have hlen : (1 ≤ C.up.length ∧ C.up.length ≤ 8) ∧ (1 ≤ C.dn.length ∧ C.dn.length ≤ 8) ∧ (1 ≤ C.car.length ∧ C.car.length ≤ 8) ∧ C.up.length = C.car.length ∧ C.dn.length = C.car.length := by
    obtain ⟨h1, h2, h3, h4, -, -⟩ := callsB_iff.1 hv; omega
  have HL := hide hlen
  have HE := hide (serveB_yes hv hs)
  obtain ⟨hf, hd⟩ := stopOkB_iff.1 hs
  obtain ⟨k, rfl⟩ : ∃ k : Nat, f = (k : Int) := ⟨f.toNat, by omega⟩
  have hk : k < C.car.length := by omega
  have HD := hide hd
  clear hf hd hlen hv hs
  have X2_lt := X2.out.lt
  have X2_c0 := X2.out.at (i := 0) rfl; have X2_f0 := X2.out.frozen 0
  have X2_c1 := X2.out.at (i := 1) rfl; have X2_f1 := X2.out.frozen 1
  have X2_c2 := X2.out.at (i := 2) rfl; have X2_f2 := X2.out.frozen 2
  go_wp2_with fail
  clear X2_lt X2_c0 X2_f0 X2_c1 X2_f1 X2_c2 X2_f2
  refine (copyCalls_any A0 A1 A2 c0 c1 c2 C _ (H.out.below BW.out) (by have := HL.out; omega)).mono ?_
  rintro e w3 ⟨Q0, Q1, Q2, q0, q1, q2, rfl, Q, b⟩
  replace Q := hide Q
  have z3 := b.size
  replace X2 := hide (X2.out.below b)
  replace X3 := hide (X3.out.below b)
  replace X4 := hide (X4.out.below b)
  replace BW := hide (bthen BW.out b)
  clear b
  go_upto_region 4 with fail
  refine code_name fun W4 hW => ?_
  have X5 := hide (Box.new' (g := w3.heap.size) hW rfl)
  have b : Below w3.heap.size w3 W4 := by rw [hW]; exact (Below.refl _ _).alloc (Nat.le_refl _) _
  have z4 := X5.out.lt
  replace X2 := hide (X2.out.below b)
  replace X3 := hide (X3.out.below b)
  replace X4 := hide (X4.out.below b)
  replace Q := hide (Q.out.below b)
  replace BW := hide (bthen BW.out b)
  clear b
  clear hW
  have k1 : k < C.up.length := by have := HL.out; omega
  have k2 : k < C.dn.length := by have := HL.out; omega
  obtain ⟨b2, o2, x2, rfl, g2, -, c2', f2⟩ := Q.out.car.at (k := k) hk
  have Q' := hide (Q.out.setCar hk false)
  have n2 : ¬ b2 = w3.heap.size := by omega
  clear Q
  have X5_lt := X5.out.lt
  have X5_c0 := X5.out.at (i := 0) rfl; have X5_f0 := X5.out.frozen 0
  have X5_c1 := X5.out.at (i := 1) rfl; have X5_f1 := X5.out.frozen 1
  have X5_c2 := X5.out.at (i := 2) rfl; have X5_f2 := X5.out.frozen 2
  have X3_lt := X3.out.lt
  have X3_c0 := X3.out.at (i := 0) rfl; have X3_f0 := X3.out.frozen 0
  have X3_c1 := X3.out.at (i := 1) rfl; have X3_f1 := X3.out.frozen 1
  go_upto_region 5 with fail
  clear X5_lt X5_c0 X5_f0 X5_c1 X5_f1 X5_c2 X5_f2
  clear X3_lt X3_c0 X3_f0 X3_c1 X3_f1
  refine code_name fun W5 hW => ?_
  replace X2 := hide (X2.out.far' hW (by simp; omega))
  replace X3 := hide (X3.out.far' hW (by simp; omega))
  replace X4 := hide (X4.out.far' hW (by simp; omega))
  replace X5 := hide (X5.out.far' hW (by simp; omega))
  replace BW := hide (below_set' hW BW.out (by simp; omega))
  have z5 : W5.heap.size = W4.heap.size := size_set' hW
  rw [← hW] at Q'
  have Z5 := hide z5
  have z5' : w3.heap.size < W5.heap.size := by omega
  clear hW c2' f2 z5
  by_cases h0 : 0 < d
  · skip
    obtain ⟨b0, o0, x0, rfl, g0, -, c0', f0⟩ := Q'.out.up.at (k := k) k1
    have Q2 := hide (Q'.out.setUp k1 false)
    have n0 : ¬ b0 = w3.heap.size := by omega
    clear Q'
    have X5_lt := X5.out.lt
    have X5_c0 := X5.out.at (i := 0) rfl; have X5_f0 := X5.out.frozen 0
    have X5_c1 := X5.out.at (i := 1) rfl; have X5_f1 := X5.out.frozen 1
    have X5_c2 := X5.out.at (i := 2) rfl; have X5_f2 := X5.out.frozen 2
    have X3_lt := X3.out.lt
    have X3_c0 := X3.out.at (i := 0) rfl; have X3_f0 := X3.out.frozen 0
    have X3_c1 := X3.out.at (i := 1) rfl; have X3_f1 := X3.out.frozen 1
    go_upto_region 8 with fail
    clear X5_lt X5_c0 X5_f0 X5_c1 X5_f1 X5_c2 X5_f2
    clear X3_lt X3_c0 X3_f0 X3_c1 X3_f1
    refine code_name fun W6 hW => ?_
    replace X4 := hide (X4.out.far' hW (by simp; omega))
    replace X5 := hide (X5.out.far' hW (by simp; omega))
    replace BW := hide (below_set' hW BW.out (by simp; omega))
    have z6 : W6.heap.size = W5.heap.size := size_set' hW
    rw [← hW] at Q2
    have hz : w3.heap.size < W6.heap.size ∧ w.heap.size + 1 + 1 < w3.heap.size := by omega
    clear hW c0' f0 z6 Z5
    have X4_lt := X4.out.lt
    have X4_c0 := X4.out.at (i := 0) rfl; have X4_f0 := X4.out.frozen 0
    have X4_c1 := X4.out.at (i := 1) rfl; have X4_f1 := X4.out.frozen 1
    have X4_c2 := X4.out.at (i := 2) rfl; have X4_f2 := X4.out.frozen 2
    have X5_lt := X5.out.lt
    have X5_c0 := X5.out.at (i := 0) rfl; have X5_f0 := X5.out.frozen 0
    have X5_c1 := X5.out.at (i := 1) rfl; have X5_f1 := X5.out.frozen 1
    have X5_c2 := X5.out.at (i := 2) rfl; have X5_f2 := X5.out.frozen 2
    go_wp2_with fail
    refine bodyPost_ret (by simp [results, Try.results17, go_sem, X4_c0, X4_c1, X4_c2]; rfl) rfl ?_
    rw [HE.out, serve_up h0]
    exact GivesC.ofLen (Q2.out.only (only3s W6 _ _ _ _) (.inr (by omega))) (Only.then BW.out (only3s W6 _ _ _ _) (by omega) (by omega)) (by simp) rfl (by simp) (by omega) (by simp; omega)
  · skip
    obtain ⟨b0, o0, x0, rfl, g0, -, c0', f0⟩ := Q'.out.dn.at (k := k) k2
    have Q2 := hide (Q'.out.setDn k2 false)
    have n0 : ¬ b0 = w3.heap.size := by omega
    clear Q'
    have X5_lt := X5.out.lt
    have X5_c0 := X5.out.at (i := 0) rfl; have X5_f0 := X5.out.frozen 0
    have X5_c1 := X5.out.at (i := 1) rfl; have X5_f1 := X5.out.frozen 1
    have X5_c2 := X5.out.at (i := 2) rfl; have X5_f2 := X5.out.frozen 2
    have X3_lt := X3.out.lt
    have X3_c0 := X3.out.at (i := 0) rfl; have X3_f0 := X3.out.frozen 0
    have X3_c1 := X3.out.at (i := 1) rfl; have X3_f1 := X3.out.frozen 1
    go_upto_region 8 with fail
    clear X5_lt X5_c0 X5_f0 X5_c1 X5_f1 X5_c2 X5_f2
    clear X3_lt X3_c0 X3_f0 X3_c1 X3_f1
    refine code_name fun W6 hW => ?_
    replace X4 := hide (X4.out.far' hW (by simp; omega))
    replace X5 := hide (X5.out.far' hW (by simp; omega))
    replace BW := hide (below_set' hW BW.out (by simp; omega))
    have z6 : W6.heap.size = W5.heap.size := size_set' hW
    rw [← hW] at Q2
    have hz : w3.heap.size < W6.heap.size ∧ w.heap.size + 1 + 1 < w3.heap.size := by omega
    clear hW c0' f0 z6 Z5
    have X4_lt := X4.out.lt
    have X4_c0 := X4.out.at (i := 0) rfl; have X4_f0 := X4.out.frozen 0
    have X4_c1 := X4.out.at (i := 1) rfl; have X4_f1 := X4.out.frozen 1
    have X4_c2 := X4.out.at (i := 2) rfl; have X4_f2 := X4.out.frozen 2
    have X5_lt := X5.out.lt
    have X5_c0 := X5.out.at (i := 0) rfl; have X5_f0 := X5.out.frozen 0
    have X5_c1 := X5.out.at (i := 1) rfl; have X5_f1 := X5.out.frozen 1
    have X5_c2 := X5.out.at (i := 2) rfl; have X5_f2 := X5.out.frozen 2
    go_wp2_with fail
    refine bodyPost_ret (by simp [results, Try.results17, go_sem, X4_c0, X4_c1, X4_c2]; rfl) rfl ?_
    rw [HE.out, serve_dn (Int.not_lt.2 h0)]
    exact GivesC.ofLen (Q2.out.only (only3s W6 _ _ _ _) (.inr (by omega))) (Only.then BW.out (only3s W6 _ _ _ _) (by omega) (by omega)) rfl (by simp) (by simp) (by omega) (by simp; omega)
set_option maxHeartbeats 2000000 in
theorem specServeStop (A0 A1 A2 : Option Addr) (c0 c1 c2 : Nat) (C : Cl) (f d : Int) (w : World) (h : CR w A0 A1 A2 C) :
    Calls Try.prog 16 #[.agg #[.slice A0 C.up.length c0, .slice A1 C.dn.length c1, .slice A2 C.car.length c2], .agg #[.int .i64 f, .int .i64 d]] w (GivesC (serveB C f d) w) := by
  have H := hide h; clear h
  go_enter Try.func16, Try.ntmps16
  go_wp2_with fail
  refine calls_name fun W hW => ?_
  have X2 : Hid (Box W w.heap.size #[.slice A0 C.up.length c0, .slice A1 C.dn.length c1, .slice A2 C.car.length c2]) := by rw [hW]; exact ((Box.new rfl).alloc _).alloc _
  have X3 : Hid (Box W (w.heap.size + 1) #[.int .i64 f, .int .i64 d]) := by rw [hW]; exact (Box.new (by simp)).alloc _
  have X4 : Hid (Box W (w.heap.size + 1 + 1) #[.slice none 0 0, .slice none 0 0, .slice none 0 0]) := by rw [hW]; exact Box.new (by simp)
  have BW : Hid (Below w.heap.size w W) := by rw [hW]; exact (((Below.refl _ _).alloc (Nat.le_refl _) _).alloc (by simp) _).alloc (by simp; omega) _
  have z0 : w.heap.size + 1 + 1 < W.heap.size := by rw [hW]; simp
  clear hW
  refine (l9Ok_any A0 A1 A2 c0 c1 c2 C f d _ (H.out.below BW.out)).mono ?_
  rintro e w1 ⟨rfl, b⟩
  have z1 := b.size
  replace X2 := hide (X2.out.below b)
  replace X3 := hide (X3.out.below b)
  replace X4 := hide (X4.out.below b)
  replace BW := hide (bthen BW.out b)
  clear b
  cases hvs : callsB C && stopOkB C.car.length f d
  · have HE := hide (serveB_no hvs)
    have X4_lt := X4.out.lt
    have X4_c0 := X4.out.at (i := 0) rfl; have X4_f0 := X4.out.frozen 0
    have X4_c1 := X4.out.at (i := 1) rfl; have X4_f1 := X4.out.frozen 1
    have X4_c2 := X4.out.at (i := 2) rfl; have X4_f2 := X4.out.frozen 2
    go_wp2_with fail
    refine bodyPost_ret (by simp [results, Try.results16, go_sem, X4_c0, X4_c1, X4_c2]; rfl) rfl ?_
    rw [HE.out]
    exact GivesC.zero (Only.then BW.out (only3s _ _ _ _ _) (by omega) (by omega))
  obtain ⟨hv, hs⟩ := (Bool.and_eq_true _ _ ▸ hvs : _ ∧ _)
  clear hvs
  have HCV := hide (callsB_iff.1 hv)
  have hlen : (1 ≤ C.up.length ∧ C.up.length ≤ 8) ∧ (1 ≤ C.dn.length ∧ C.dn.length ≤ 8) ∧ (1 ≤ C.car.length ∧ C.car.length ≤ 8) ∧ C.up.length = C.car.length ∧ C.dn.length = C.car.length := by
    obtain ⟨h1, h2, h3, h4, -, -⟩ := callsB_iff.1 hv; omega
  have HL := hide hlen
  have HE := hide (serveB_yes hv hs)
  obtain ⟨hf, hd⟩ := stopOkB_iff.1 hs
  obtain ⟨k, rfl⟩ : ∃ k : Nat, f = (k : Int) := ⟨f.toNat, by omega⟩
  have hk : k < C.car.length := by omega
  have HD := hide hd
  clear hf hd hlen hv hs
  have X2_lt := X2.out.lt
  have X2_c0 := X2.out.at (i := 0) rfl; have X2_f0 := X2.out.frozen 0
  have X2_c1 := X2.out.at (i := 1) rfl; have X2_f1 := X2.out.frozen 1
  have X2_c2 := X2.out.at (i := 2) rfl; have X2_f2 := X2.out.frozen 2
  go_wp2_with fail
  clear X2_lt X2_c0 X2_f0 X2_c1 X2_f1 X2_c2 X2_f2
  refine (l8Copy_any A0 A1 A2 c0 c1 c2 C _ (H.out.below BW.out) (by have := HL.out; omega)).mono ?_
  rintro e w3 ⟨Q0, Q1, Q2, q0, q1, q2, rfl, Q, b⟩
  replace Q := hide Q
  have z3 := b.size
  replace X2 := hide (X2.out.below b)
  replace X3 := hide (X3.out.below b)
  replace X4 := hide (X4.out.below b)
  replace BW := hide (bthen BW.out b)
  clear b
  go_upto_region 4 with fail
  refine code_name fun W4 hW => ?_
  have X5 := hide (Box.new' (g := w3.heap.size) hW rfl)
  have b : Below w3.heap.size w3 W4 := by rw [hW]; exact (Below.refl _ _).alloc (Nat.le_refl _) _
  have z4 := X5.out.lt
  replace X2 := hide (X2.out.below b)
  replace X3 := hide (X3.out.below b)
  replace X4 := hide (X4.out.below b)
  replace Q := hide (Q.out.below b)
  replace BW := hide (bthen BW.out b)
  clear b
  clear hW
  have k1 : k < C.up.length := by have := HL.out; omega
  have k2 : k < C.dn.length := by have := HL.out; omega
  obtain ⟨b2, o2, x2, rfl, g2, -, c2', f2⟩ := Q.out.car.at (k := k) hk
  have Q' := hide (Q.out.setCar hk false)
  have n2 : ¬ b2 = w3.heap.size := by omega
  clear Q
  have X5_lt := X5.out.lt
  have X5_c0 := X5.out.at (i := 0) rfl; have X5_f0 := X5.out.frozen 0
  have X5_c1 := X5.out.at (i := 1) rfl; have X5_f1 := X5.out.frozen 1
  have X5_c2 := X5.out.at (i := 2) rfl; have X5_f2 := X5.out.frozen 2
  have X3_lt := X3.out.lt
  have X3_c0 := X3.out.at (i := 0) rfl; have X3_f0 := X3.out.frozen 0
  have X3_c1 := X3.out.at (i := 1) rfl; have X3_f1 := X3.out.frozen 1
  go_upto_region 5 with fail
  clear X5_lt X5_c0 X5_f0 X5_c1 X5_f1 X5_c2 X5_f2
  clear X3_lt X3_c0 X3_f0 X3_c1 X3_f1
  refine code_name fun W5 hW => ?_
  replace X2 := hide (X2.out.far' hW (by simp; omega))
  replace X3 := hide (X3.out.far' hW (by simp; omega))
  replace X4 := hide (X4.out.far' hW (by simp; omega))
  replace X5 := hide (X5.out.far' hW (by simp; omega))
  replace BW := hide (below_set' hW BW.out (by simp; omega))
  have z5 : W5.heap.size = W4.heap.size := size_set' hW
  rw [← hW] at Q'
  have Z5 := hide z5
  have z5' : w3.heap.size < W5.heap.size := by omega
  clear hW c2' f2 z5
  by_cases h0 : 0 < d
  · have hd1 : (d == 1) = true := by have := HD.out; simp; omega
    obtain ⟨b0, o0, x0, rfl, g0, -, c0', f0⟩ := Q'.out.up.at (k := k) k1
    have Q2 := hide (Q'.out.setUp k1 false)
    have n0 : ¬ b0 = w3.heap.size := by omega
    clear Q'
    have X5_lt := X5.out.lt
    have X5_c0 := X5.out.at (i := 0) rfl; have X5_f0 := X5.out.frozen 0
    have X5_c1 := X5.out.at (i := 1) rfl; have X5_f1 := X5.out.frozen 1
    have X5_c2 := X5.out.at (i := 2) rfl; have X5_f2 := X5.out.frozen 2
    have X3_lt := X3.out.lt
    have X3_c0 := X3.out.at (i := 0) rfl; have X3_f0 := X3.out.frozen 0
    have X3_c1 := X3.out.at (i := 1) rfl; have X3_f1 := X3.out.frozen 1
    go_upto_region 8 with fail
    clear X5_lt X5_c0 X5_f0 X5_c1 X5_f1 X5_c2 X5_f2
    clear X3_lt X3_c0 X3_f0 X3_c1 X3_f1
    refine code_name fun W6 hW => ?_
    replace X4 := hide (X4.out.far' hW (by simp; omega))
    replace X5 := hide (X5.out.far' hW (by simp; omega))
    replace BW := hide (below_set' hW BW.out (by simp; omega))
    have z6 : W6.heap.size = W5.heap.size := size_set' hW
    rw [← hW] at Q2
    have hz : w3.heap.size < W6.heap.size ∧ w.heap.size + 1 + 1 < w3.heap.size := by omega
    clear hW c0' f0 z6 Z5
    have X4_lt := X4.out.lt
    have X4_c0 := X4.out.at (i := 0) rfl; have X4_f0 := X4.out.frozen 0
    have X4_c1 := X4.out.at (i := 1) rfl; have X4_f1 := X4.out.frozen 1
    have X4_c2 := X4.out.at (i := 2) rfl; have X4_f2 := X4.out.frozen 2
    have X5_lt := X5.out.lt
    have X5_c0 := X5.out.at (i := 0) rfl; have X5_f0 := X5.out.frozen 0
    have X5_c1 := X5.out.at (i := 1) rfl; have X5_f1 := X5.out.frozen 1
    have X5_c2 := X5.out.at (i := 2) rfl; have X5_f2 := X5.out.frozen 2
    go_wp2_with fail
    refine bodyPost_ret (by simp [results, Try.results16, go_sem, X4_c0, X4_c1, X4_c2]; rfl) rfl ?_
    rw [HE.out, serve_up h0]
    exact GivesC.ofLen (Q2.out.only (only3s W6 _ _ _ _) (.inr (by omega))) (Only.then BW.out (only3s W6 _ _ _ _) (by omega) (by omega)) (by simp) rfl (by simp) (by omega) (by simp; omega)
  · have hd1 : (d == 1) = false := by have := HD.out; simp; omega
    obtain ⟨b0, o0, x0, rfl, g0, -, c0', f0⟩ := Q'.out.dn.at (k := k) k2
    have Q2 := hide (Q'.out.setDn k2 false)
    have n0 : ¬ b0 = w3.heap.size := by omega
    clear Q'
    have X5_lt := X5.out.lt
    have X5_c0 := X5.out.at (i := 0) rfl; have X5_f0 := X5.out.frozen 0
    have X5_c1 := X5.out.at (i := 1) rfl; have X5_f1 := X5.out.frozen 1
    have X5_c2 := X5.out.at (i := 2) rfl; have X5_f2 := X5.out.frozen 2
    have X3_lt := X3.out.lt
    have X3_c0 := X3.out.at (i := 0) rfl; have X3_f0 := X3.out.frozen 0
    have X3_c1 := X3.out.at (i := 1) rfl; have X3_f1 := X3.out.frozen 1
    go_upto_region 8 with fail
    clear X5_lt X5_c0 X5_f0 X5_c1 X5_f1 X5_c2 X5_f2
    clear X3_lt X3_c0 X3_f0 X3_c1 X3_f1
    refine code_name fun W6 hW => ?_
    replace X4 := hide (X4.out.far' hW (by simp; omega))
    replace X5 := hide (X5.out.far' hW (by simp; omega))
    replace BW := hide (below_set' hW BW.out (by simp; omega))
    have z6 : W6.heap.size = W5.heap.size := size_set' hW
    rw [← hW] at Q2
    have hz : w3.heap.size < W6.heap.size ∧ w.heap.size + 1 + 1 < w3.heap.size := by omega
    clear hW c0' f0 z6 Z5
    have X4_lt := X4.out.lt
    have X4_c0 := X4.out.at (i := 0) rfl; have X4_f0 := X4.out.frozen 0
    have X4_c1 := X4.out.at (i := 1) rfl; have X4_f1 := X4.out.frozen 1
    have X4_c2 := X4.out.at (i := 2) rfl; have X4_f2 := X4.out.frozen 2
    have X5_lt := X5.out.lt
    have X5_c0 := X5.out.at (i := 0) rfl; have X5_f0 := X5.out.frozen 0
    have X5_c1 := X5.out.at (i := 1) rfl; have X5_f1 := X5.out.frozen 1
    have X5_c2 := X5.out.at (i := 2) rfl; have X5_f2 := X5.out.frozen 2
    go_wp2_with fail
    refine bodyPost_ret (by simp [results, Try.results16, go_sem, X4_c0, X4_c1, X4_c2]; rfl) rfl ?_
    rw [HE.out, serve_dn (Int.not_lt.2 h0)]
    exact GivesC.ofLen (Q2.out.only (only3s W6 _ _ _ _) (.inr (by omega))) (Only.then BW.out (only3s W6 _ _ _ _) (by omega) (by omega)) rfl (by simp) (by simp) (by omega) (by simp; omega)
theorem implServeStop_at (A0 A1 A2 : Option Addr) (c0 c1 c2 : Nat) (C : Cl) (f d : Int) (D : Cl) (hD : D = serveB C f d) (w : World) (h : CR w A0 A1 A2 C) :
    Calls Try.prog 17 #[.agg #[.slice A0 C.up.length c0, .slice A1 C.dn.length c1, .slice A2 C.car.length c2], .agg #[.int .i64 f, .int .i64 d]] w (GivesC D w) := by subst hD; exact implServeStop A0 A1 A2 c0 c1 c2 C f d w h
theorem specServeStop_at (A0 A1 A2 : Option Addr) (c0 c1 c2 : Nat) (C : Cl) (f d : Int) (D : Cl) (hD : D = serveB C f d) (w : World) (h : CR w A0 A1 A2 C) :
    Calls Try.prog 16 #[.agg #[.slice A0 C.up.length c0, .slice A1 C.dn.length c1, .slice A2 C.car.length c2], .agg #[.int .i64 f, .int .i64 d]] w (GivesC D w) := by subst hD; exact specServeStop A0 A1 A2 c0 c1 c2 C f d w h
end Go.Proofs.Ytngblphkpkhppaa
