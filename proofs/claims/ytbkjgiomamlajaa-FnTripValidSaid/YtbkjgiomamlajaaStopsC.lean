/- Stops: the program's NextStop. -/
import Derived.Test.YtbkjgiomamlajaaStopsB
namespace Go.Proofs.Ytbkjgiomamlajaa
open Go.RowKit

/-- NextStop, for all arguments. -/
noncomputable def nextB (C : Cl) (f d : Int) : Option (Int × Int) := if callsB C && stopOkB C.car.length f d then nextO C f d else none
theorem nextB_noc {C : Cl} {f d : Int} (h : callsB C = false) : nextB C f d = none := by unfold nextB; rw [h]; rfl
theorem nextB_nos {C : Cl} {f d : Int} (h : stopOkB C.car.length f d = false) : nextB C f d = none := by unfold nextB; rw [h, Bool.and_false]; rfl
theorem nextB_yes {C : Cl} {f d : Int} (h : callsB C = true) (h2 : stopOkB C.car.length f d = true) : nextB C f d = nextO C f d := by unfold nextB; rw [h, h2]; rfl
theorem next_first {C : Cl} {f d : Int} {r : Int × Int} (h : towardL C d (path C.car.length f d) = some r) : nextO C f d = some r := by unfold nextO; rw [h]
theorem next_second {C : Cl} {f d : Int} (h : towardL C d (path C.car.length f d) = none) : nextO C f d = towardL C (-d) (path C.car.length f (-d)) := by unfold nextO; rw [h]
theorem toward_nn {C : Cl} {n f d : Int} {r : Int × Int} (hf : 0 ≤ f ∧ f < n) (hd : d = 1 ∨ d = -1) (h : towardL C d (path n f d) = some r) : 0 ≤ r.1 := by
  unfold towardL at h
  rcases firstP_spec (hitB C d) (path n f d) with ⟨h1, -⟩ | ⟨k, y, h1, h2, -, -⟩
  · rw [h1] at h
    rcases lastP_spec (goB C (-d)) (path n f d) with ⟨h3, -⟩ | ⟨k, y, h3, h4, -⟩
    · rw [h3] at h; cases h
    · rw [h3] at h; injection h with h; subst h; exact (path_in hf hd h4).1
  · rw [h1] at h; injection h with h; subst h; exact (path_in hf hd h2).1
theorem stopValid_at (f d n m : Int) (w : World) (hm : m = n) :
    Calls Try.prog 52 #[.agg #[.int .i64 f, .int .i64 d], .int .i64 m] w fun e w' => e = .returned (.bool (stopOkB n f d)) ∧ Below w.heap.size w w' := by subst hm; exact stopValid_any f d m w
set_option maxHeartbeats 2000000 in
theorem implNextStop (A0 A1 A2 : Option Addr) (c0 c1 c2 : Nat) (C : Cl) (f d : Int) (w : World) (h : CR w A0 A1 A2 C) :
    Calls Try.prog 48 #[.agg #[.slice A0 C.up.length c0, .slice A1 C.dn.length c1, .slice A2 C.car.length c2], .agg #[.int .i64 f, .int .i64 d]] w fun e w' => e = .returned (.agg (stC (nextB C f d))) ∧ Below w.heap.size w w' := by
  have H := hide h; clear h
  go_enter Try.func48, Try.ntmps48
  go_wp2_with fail
  refine calls_name fun W hW => ?_
  have X2 : Hid (Box W w.heap.size #[.slice A0 C.up.length c0, .slice A1 C.dn.length c1, .slice A2 C.car.length c2]) := by rw [hW]; exact ((Box.new rfl).alloc _).alloc _
  have X3 : Hid (Box W (w.heap.size + 1) #[.int .i64 f, .int .i64 d]) := by rw [hW]; exact (Box.new (by simp)).alloc _
  have X4 : Hid (Box W (w.heap.size + 1 + 1) #[.int .i64 0, .int .i64 0]) := by rw [hW]; exact Box.new (by simp)
  have BW : Hid (Below w.heap.size w W) := by rw [hW]; exact (((Below.refl _ _).alloc (Nat.le_refl _) _).alloc (by simp) _).alloc (by simp; omega) _
  have z0 : w.heap.size + 1 + 1 < W.heap.size := by rw [hW]; simp
  clear hW
  refine (implCallsValid A0 A1 A2 c0 c1 c2 C _ (H.out.below BW.out)).mono ?_
  rintro e w1 ⟨rfl, b⟩
  have z1 := b.size
  replace X2 := hide (X2.out.below b)
  replace X3 := hide (X3.out.below b)
  replace X4 := hide (X4.out.below b)
  replace BW := hide (bthen BW.out b)
  clear b
  cases hv : callsB C
  · have HE := hide (nextB_noc (f := f) (d := d) hv)
    go_wp2_with fail
    refine (noStop_any _).mono ?_
    rintro e w2 ⟨rfl, b⟩
    replace X4 := hide (X4.out.below b)
    replace BW := hide (bthen BW.out b)
    clear b
    have X4_lt := X4.out.lt
    have X4_c0 := X4.out.at (i := 0) rfl; have X4_f0 := X4.out.frozen 0
    have X4_c1 := X4.out.at (i := 1) rfl; have X4_f1 := X4.out.frozen 1
    go_wp2_with fail
    refine bodyPost_ret (by simp [results, Try.results48, go_sem, X4_c0, X4_c1]; rfl) rfl ?_
    rw [HE.out]
    exact ⟨rfl, (BW.out.setCell (by simp; omega) _).setCell (by simp; omega) _⟩
  · have HV := hide hv
    have hup : Hid ((C.up.length : Int) = (C.car.length : Int)) := by have := (callsB_iff.1 hv).2.2.1; unfold Hid; omega
    have X2_lt := X2.out.lt
    have X2_c0 := X2.out.at (i := 0) rfl; have X2_f0 := X2.out.frozen 0
    have X2_c1 := X2.out.at (i := 1) rfl; have X2_f1 := X2.out.frozen 1
    have X2_c2 := X2.out.at (i := 2) rfl; have X2_f2 := X2.out.frozen 2
    have X3_lt := X3.out.lt
    have X3_c0 := X3.out.at (i := 0) rfl; have X3_f0 := X3.out.frozen 0
    have X3_c1 := X3.out.at (i := 1) rfl; have X3_f1 := X3.out.frozen 1
    go_wp2_with fail
    clear X2_lt X2_c0 X2_f0 X2_c1 X2_f1 X2_c2 X2_f2
    clear X3_lt X3_c0 X3_f0 X3_c1 X3_f1
    refine (stopValid_at f d C.car.length _ _ hup.out).mono ?_
    rintro e w2 ⟨rfl, b⟩
    have z2 := b.size
    replace X2 := hide (X2.out.below b)
    replace X3 := hide (X3.out.below b)
    replace X4 := hide (X4.out.below b)
    replace BW := hide (bthen BW.out b)
    clear b
    cases hs : stopOkB C.car.length f d
    · have HE := hide (nextB_nos hs)
      go_wp2_with fail
      refine (noStop_any _).mono ?_
      rintro e w3 ⟨rfl, b⟩
      replace X4 := hide (X4.out.below b)
      replace BW := hide (bthen BW.out b)
      clear b
      have X4_lt := X4.out.lt
      have X4_c0 := X4.out.at (i := 0) rfl; have X4_f0 := X4.out.frozen 0
      have X4_c1 := X4.out.at (i := 1) rfl; have X4_f1 := X4.out.frozen 1
      go_wp2_with fail
      refine bodyPost_ret (by simp [results, Try.results48, go_sem, X4_c0, X4_c1]; rfl) rfl ?_
      rw [HE.out]
      exact ⟨rfl, (BW.out.setCell (by simp; omega) _).setCell (by simp; omega) _⟩
    · have HE := hide (nextB_yes hv hs)
      obtain ⟨hf, hd⟩ := stopOkB_iff.1 hs
      have HC := hide (callsB_iff.1 hv); have HF := hide hf; have HD := hide hd
      have hdd : -1 ≤ d ∧ d ≤ 1 := by omega
      clear hd
      have X2_lt := X2.out.lt
      have X2_c0 := X2.out.at (i := 0) rfl; have X2_f0 := X2.out.frozen 0
      have X2_c1 := X2.out.at (i := 1) rfl; have X2_f1 := X2.out.frozen 1
      have X2_c2 := X2.out.at (i := 2) rfl; have X2_f2 := X2.out.frozen 2
      have X3_lt := X3.out.lt
      have X3_c0 := X3.out.at (i := 0) rfl; have X3_f0 := X3.out.frozen 0
      have X3_c1 := X3.out.at (i := 1) rfl; have X3_f1 := X3.out.frozen 1
      go_wp2_with fail
      clear X2_lt X2_c0 X2_f0 X2_c1 X2_f1 X2_c2 X2_f2
      clear X3_lt X3_c0 X3_f0 X3_c1 X3_f1
      refine (stopToward_any A0 A1 A2 c0 c1 c2 C f d _ (H.out.below BW.out) HC.out HF.out HD.out).mono ?_
      rintro e w3 ⟨rfl, b⟩
      have z3 := b.size
      replace X2 := hide (X2.out.below b)
      replace X3 := hide (X3.out.below b)
      replace X4 := hide (X4.out.below b)
      replace BW := hide (bthen BW.out b)
      clear b
      cases ho : towardL C d (path C.car.length f d) with
      | some r =>
        have HO := hide (next_first ho)
        have hr := toward_nn HF.out HD.out ho
        clear ho
        rw [stC_eq]
        have hr1 : 0 ≤ stF (some r) := hr
        have XE := hide ((X4.out.set 0 (.int .i64 (stF (some r)))).set 1 (.int .i64 (stD (some r))))
        have X4_lt := X4.out.lt
        have X4_c0 := X4.out.at (i := 0) rfl; have X4_f0 := X4.out.frozen 0
        have X4_c1 := X4.out.at (i := 1) rfl; have X4_f1 := X4.out.frozen 1
        go_wp2_with fail
        have ee0 := fun o => (XE.out.alloc o).at (i := 0) rfl
        have ee1 := fun o => (XE.out.alloc o).at (i := 1) rfl
        refine bodyPost_ret (by simp [results, Try.results48, go_sem, ee0, ee1]; rfl) rfl ?_
        rw [HE.out, HO.out, stC_eq]
        exact ⟨rfl, ((BW.out.setCell (by simp; omega) _).setCell (by simp; omega) _).alloc (by simp; omega) _⟩
      | none =>
        have HO := hide (next_second ho)
        clear ho
        rw [show stC none = #[.int .i64 (-1), .int .i64 0] from rfl]
        have X2_lt := X2.out.lt
        have X2_c0 := X2.out.at (i := 0) rfl; have X2_f0 := X2.out.frozen 0
        have X2_c1 := X2.out.at (i := 1) rfl; have X2_f1 := X2.out.frozen 1
        have X2_c2 := X2.out.at (i := 2) rfl; have X2_f2 := X2.out.frozen 2
        have X3_lt := X3.out.lt
        have X3_c0 := X3.out.at (i := 0) rfl; have X3_f0 := X3.out.frozen 0
        have X3_c1 := X3.out.at (i := 1) rfl; have X3_f1 := X3.out.frozen 1
        go_wp2_with fail
        clear X2_lt X2_c0 X2_f0 X2_c1 X2_f1 X2_c2 X2_f2
        clear X3_lt X3_c0 X3_f0 X3_c1 X3_f1
        refine calls_name fun W4 hW => ?_
        have X5 := hide (Box.new' (g := w3.heap.size) hW rfl)
        have b : Below w3.heap.size w3 W4 := by rw [hW]; exact (Below.refl _ _).alloc (Nat.le_refl _) _
        replace X2 := hide (X2.out.below b)
        replace X3 := hide (X3.out.below b)
        replace X4 := hide (X4.out.below b)
        replace BW := hide (bthen BW.out b)
        have zX5 := X5.out.lt
        clear b hW
        refine (stopToward_any A0 A1 A2 c0 c1 c2 C f (-d) _ (H.out.below BW.out) HC.out HF.out (by have := HD.out; omega)).mono ?_
        rintro e w5 ⟨rfl, b⟩
        replace X4 := hide (X4.out.below b)
        replace X5 := hide (X5.out.below b)
        replace BW := hide (bthen BW.out b)
        clear b
        rw [stC_eq]
        have X4_lt := X4.out.lt
        have X4_c0 := X4.out.at (i := 0) rfl; have X4_f0 := X4.out.frozen 0
        have X4_c1 := X4.out.at (i := 1) rfl; have X4_f1 := X4.out.frozen 1
        have X5_lt := X5.out.lt
        have X5_c0 := X5.out.at (i := 0) rfl; have X5_f0 := X5.out.frozen 0
        have X5_c1 := X5.out.at (i := 1) rfl; have X5_f1 := X5.out.frozen 1
        go_wp2_with fail
        refine bodyPost_ret (by simp [results, Try.results48, go_sem, X4_c0, X4_c1]; rfl) rfl ?_
        rw [HE.out, HO.out, stC_eq]
        exact ⟨rfl, (((BW.out.setCell (by simp; omega) _).setCell (by simp; omega) _).setCell (by simp; omega) _).setCell (by simp; omega) _⟩
end Go.Proofs.Ytbkjgiomamlajaa
