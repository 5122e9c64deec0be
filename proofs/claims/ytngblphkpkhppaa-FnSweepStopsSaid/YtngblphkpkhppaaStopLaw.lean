/- Stops: what the laws ask besides. -/
import Derived.Test.YtngblphkpkhppaaStopsC
namespace Go.Proofs.Ytngblphkpkhppaa
open Go.RowKit

/-- Between a car and its next stop there is no call from the car, and none to go in its direction. -/
theorem next_between {C : Cl} {f d g e : Int} (hf : 0 ≤ f ∧ f < C.car.length) (hd : d = 1 ∨ d = -1) (h : nextO C f d = some (g, e)) {u k : Int}
    (hu : (u = 1 ∧ (f < g ∨ (f = g ∧ e = 1))) ∨ (u = -1 ∧ ¬ (f < g ∨ (f = g ∧ e = 1)))) (hk : min f g ≤ k ∧ k ≤ max f g) (hne : k ≠ g) : hitB C u k = false := by
  have hn := next_is hf hd
  rw [h] at hn
  generalize hr : some (g, e) = r at hn
  cases hn with
  | ahead g' h1 h2 h3 h4 =>
    injection hr with hr; injection hr with e1 e2; subst e1; subst e2
    have hue : u = e := by rcases hd with rfl | rfl <;> omega
    subst hue
    exact h4 k (by rcases hd with rfl | rfl <;> omega) (by rcases hd with rfl | rfl <;> omega)
  | turn g' h1 h2 h3 h4 h5 =>
    injection hr with hr; injection hr with e1 e2; subst e1; subst e2
    have hue : u = d := by rcases hd with rfl | rfl <;> omega
    subst hue
    exact h4 k (by omega) (by omega) (by rcases hd with rfl | rfl <;> omega)
  | back g' h0 h1 h2 h3 h4 =>
    injection hr with hr; injection hr with e1 e2; subst e1; subst e2
    have hue : u = -d := by rcases hd with rfl | rfl <;> omega
    subst hue
    exact h4 k (by rcases hd with rfl | rfl <;> omega) (by rcases hd with rfl | rfl <;> omega)
  | again g' h0 h1 h2 h3 h4 h5 =>
    injection hr with hr; injection hr with e1 e2; subst e1; subst e2
    have hue : u = -e := by rcases hd with rfl | rfl <;> omega
    subst hue
    exact h4 k (by omega) (by omega) (by rcases hd with rfl | rfl <;> omega)
  | none h0 => cases hr
/-- The truths at a floor where no car that goes in a direction stops. -/
theorem hit_parts {C : Cl} {k : Nat} {x0 x1 x2 : Bool} {u : Int} (h : hitB C u k = false) (h0 : C.up[k]? = some x0) (h1 : C.dn[k]? = some x1) (h2 : C.car[k]? = some x2) : x2 = false ∧ (0 < u → x0 = false) ∧ (¬ 0 < u → x1 = false) := by
  unfold hitB goB at h
  rw [bat_at h0, bat_at h1, bat_at h2, Bool.or_eq_false_iff] at h
  refine ⟨h.1, fun hu => ?_, fun hu => ?_⟩
  · have := h.2; rw [if_pos hu] at this; exact this
  · have := h.2; rw [if_neg hu] at this; exact this
set_option maxHeartbeats 1000000 in
theorem lawStopOk (A0 A1 A2 : Option Addr) (c0 c1 c2 : Nat) (C : Cl) (f d : Int) (w : World) (h : CR w A0 A1 A2 C) :
    Calls Try.prog 25 #[.agg #[.slice A0 C.up.length c0, .slice A1 C.dn.length c1, .slice A2 C.car.length c2], .agg #[.int .i64 f, .int .i64 d]] w fun e w' => e = .returned (.bool (callsB C && stopOkB C.car.length f d)) ∧ Below w.heap.size w w' := by
  have H := hide h; clear h
  go_enter Try.func25, Try.ntmps25
  go_wp2_with fail
  refine calls_name fun W hW => ?_
  have X2 : Hid (Box W w.heap.size #[.slice A0 C.up.length c0, .slice A1 C.dn.length c1, .slice A2 C.car.length c2]) := by rw [hW]; exact (Box.new rfl).alloc _
  have X3 : Hid (Box W (w.heap.size + 1) #[.int .i64 f, .int .i64 d]) := by rw [hW]; exact Box.new (by simp)
  have BW : Hid (Below w.heap.size w W) := by rw [hW]; exact ((Below.refl _ _).alloc (Nat.le_refl _) _).alloc (by simp) _
  clear hW
  refine (implCallsValid A0 A1 A2 c0 c1 c2 C _ (H.out.below BW.out)).mono ?_
  rintro e w1 ⟨rfl, b⟩
  replace X2 := hide (X2.out.below b)
  replace X3 := hide (X3.out.below b)
  replace BW := hide (bthen BW.out b)
  clear b
  cases hv : callsB C
  · have HV := hide hv
    go_wp2_with fail
    go_ret
    exact ⟨ret_bool (by rw [HV.out]; rfl), BW.out⟩
  · have HV := hide hv
    have hl : C.car.length ≤ 8 := (callsB_iff.1 hv).2.1
    clear hv
    by_cases h0 : 0 ≤ f
    · by_cases h1 : f < C.car.length
      · by_cases h2 : d = 1
        · have HE := hide (stopOkB_iff.2 ⟨⟨h0, h1⟩, .inl h2⟩)
          subst h2
          have X2_lt := X2.out.lt
          have X2_c0 := X2.out.at (i := 0) rfl; have X2_f0 := X2.out.frozen 0
          have X2_c1 := X2.out.at (i := 1) rfl; have X2_f1 := X2.out.frozen 1
          have X2_c2 := X2.out.at (i := 2) rfl; have X2_f2 := X2.out.frozen 2
          have X3_lt := X3.out.lt
          have X3_c0 := X3.out.at (i := 0) rfl; have X3_f0 := X3.out.frozen 0
          have X3_c1 := X3.out.at (i := 1) rfl; have X3_f1 := X3.out.frozen 1
          go_wp2_with fail
          go_ret
          exact ⟨ret_bool (by rw [HV.out, HE.out]; rfl), BW.out⟩
        · have h2' : (d == 1) = false := by simpa using h2
          by_cases h3 : d = -1
          · have HE := hide (stopOkB_iff.2 ⟨⟨h0, h1⟩, .inr h3⟩)
            subst h3
            clear h2
            have X2_lt := X2.out.lt
            have X2_c0 := X2.out.at (i := 0) rfl; have X2_f0 := X2.out.frozen 0
            have X2_c1 := X2.out.at (i := 1) rfl; have X2_f1 := X2.out.frozen 1
            have X2_c2 := X2.out.at (i := 2) rfl; have X2_f2 := X2.out.frozen 2
            have X3_lt := X3.out.lt
            have X3_c0 := X3.out.at (i := 0) rfl; have X3_f0 := X3.out.frozen 0
            have X3_c1 := X3.out.at (i := 1) rfl; have X3_f1 := X3.out.frozen 1
            go_wp2_with fail
            go_ret
            exact ⟨ret_bool (by rw [HV.out, HE.out]; rfl), BW.out⟩
          · have h3' : (d == -1) = false := by simpa using h3
            have HE := hide (stopOk_dir (n := C.car.length) (f := f) h2 h3)
            clear h2 h3
            have X2_lt := X2.out.lt
            have X2_c0 := X2.out.at (i := 0) rfl; have X2_f0 := X2.out.frozen 0
            have X2_c1 := X2.out.at (i := 1) rfl; have X2_f1 := X2.out.frozen 1
            have X2_c2 := X2.out.at (i := 2) rfl; have X2_f2 := X2.out.frozen 2
            have X3_lt := X3.out.lt
            have X3_c0 := X3.out.at (i := 0) rfl; have X3_f0 := X3.out.frozen 0
            have X3_c1 := X3.out.at (i := 1) rfl; have X3_f1 := X3.out.frozen 1
            go_wp2_with fail
            go_ret
            exact ⟨ret_bool (by rw [HV.out, HE.out]; rfl), BW.out⟩
      · have HE : Hid (stopOkB C.car.length f d = false) := by unfold Hid stopOkB; simp only [decide_eq_false_iff_not]; omega
        have X2_lt := X2.out.lt
        have X2_c0 := X2.out.at (i := 0) rfl; have X2_f0 := X2.out.frozen 0
        have X2_c1 := X2.out.at (i := 1) rfl; have X2_f1 := X2.out.frozen 1
        have X2_c2 := X2.out.at (i := 2) rfl; have X2_f2 := X2.out.frozen 2
        have X3_lt := X3.out.lt
        have X3_c0 := X3.out.at (i := 0) rfl; have X3_f0 := X3.out.frozen 0
        have X3_c1 := X3.out.at (i := 1) rfl; have X3_f1 := X3.out.frozen 1
        go_wp2_with fail
        go_ret
        exact ⟨ret_bool (by rw [HV.out, HE.out]; rfl), BW.out⟩
    · have HE : Hid (stopOkB C.car.length f d = false) := by unfold Hid stopOkB; simp only [decide_eq_false_iff_not]; omega
      have X2_lt := X2.out.lt
      have X2_c0 := X2.out.at (i := 0) rfl; have X2_f0 := X2.out.frozen 0
      have X2_c1 := X2.out.at (i := 1) rfl; have X2_f1 := X2.out.frozen 1
      have X2_c2 := X2.out.at (i := 2) rfl; have X2_f2 := X2.out.frozen 2
      have X3_lt := X3.out.lt
      have X3_c0 := X3.out.at (i := 0) rfl; have X3_f0 := X3.out.frozen 0
      have X3_c1 := X3.out.at (i := 1) rfl; have X3_f1 := X3.out.frozen 1
      go_wp2_with fail
      go_ret
      exact ⟨ret_bool (by rw [HV.out, HE.out]; rfl), BW.out⟩
end Go.Proofs.Ytngblphkpkhppaa
