import Derived.Test.YtmekhjaeclgonaaDoorSmall
namespace Go.Proofs.YtmekhjaeclgonaaDoor
open Go.RowKit

/-- The first k ascend, place by place. -/
def AscTo (fs : List Int) (k : Nat) : Prop := ∀ i a b, i + 1 < k → fs[i]? = some a → fs[i + 1]? = some b → a < b
theorem AscTo.step {fs : List Int} {k : Nat} {a b : Int} (h : AscTo fs (k + 1)) (ha : fs[k]? = some a) (hb : fs[k + 1]? = some b) (hab : a < b) : AscTo fs (k + 2) := by
  intro i x y hi hx hy
  by_cases hik : i = k
  · subst hik; rw [ha] at hx; rw [hb] at hy; cases hx; cases hy; exact hab
  · exact h i x y (by omega) hx hy
theorem AscTo.one (fs : List Int) {k : Nat} (hk : k ≤ 1) : AscTo fs k := fun i _ _ h => by omega
theorem AscTo.mono {fs : List Int} {j k : Nat} (h : AscTo fs k) (hj : j ≤ k) : AscTo fs j := fun i a b hi => h i a b (by omega)
theorem AscTo.lt {fs : List Int} {k : Nat} (h : AscTo fs k) : ∀ {i j : Nat} {a b : Int}, i < j → j < k → fs[i]? = some a → fs[j]? = some b → a < b := by
  intro i j
  induction j with
  | zero => intro a b hij; omega
  | succ j ih =>
    intro a b hij hj ha hb
    have hjl : j < fs.length := by have := getElem?_lt hb; omega
    have hc : fs[j]? = some fs[j] := List.getElem?_eq_getElem hjl
    have h2 := h j _ b (by omega) hc hb
    by_cases e : i = j
    · subst e; rw [ha] at hc; cases hc; exact h2
    · have := ih (a := a) (b := fs[j]) (by omega) (by omega) ha hc; omega

/-- FloorsValid. -/
def floorsP (fs : List Int) : Prop := 1 ≤ fs.length ∧ fs.length ≤ 8 ∧ fs[0]? = some 0 ∧ AscTo fs fs.length ∧ ∀ (i : Nat) (x : Int), fs[i]? = some x → x ≤ 60
open Classical in
noncomputable def floorsB (fs : List Int) : Bool := decide (floorsP fs)
theorem floorsB_iff {fs : List Int} : floorsB fs = true ↔ floorsP fs := by unfold floorsB; simp
theorem floorsB_f {fs : List Int} : floorsB fs = false ↔ ¬ floorsP fs := by unfold floorsB; simp
theorem floorsP_range {fs : List Int} (h : floorsP fs) {i : Nat} {x : Int} (hx : fs[i]? = some x) : 0 ≤ x ∧ x ≤ 60 := by
  obtain ⟨h1, h2, h3, h4, h5⟩ := h
  refine ⟨?_, h5 i x hx⟩
  by_cases e : i = 0
  · subst e; rw [h3] at hx; cases hx; omega
  · have := h4.lt (i := 0) (j := i) (by omega) (getElem?_lt hx) h3 hx; omega
theorem floorsB_adj {fs : List Int} {i : Nat} {a b : Int} (ha : fs[i]? = some a) (hb : fs[i + 1]? = some b) (h : b ≤ a) : floorsB fs = false := by
  rw [floorsB_f]; rintro ⟨_, _, _, h4, _⟩
  have := h4 i a b (getElem?_lt hb) ha hb; omega
theorem floorsB_len {fs : List Int} (h : fs.length < 1 ∨ 8 < fs.length) : floorsB fs = false := by
  rw [floorsB_f]; rintro ⟨h1, h2, _⟩; omega
theorem floorsB_first {fs : List Int} {x : Int} (hx : fs[0]? = some x) (h : x ≠ 0) : floorsB fs = false := by
  rw [floorsB_f]; rintro ⟨_, _, h3, _⟩; rw [hx] at h3; cases h3; exact h rfl
theorem floorsB_out {fs : List Int} {k : Nat} {x : Int} (hx : fs[k]? = some x) (h : x < 0 ∨ 60 < x) : floorsB fs = false := by
  rw [floorsB_f]; intro hp; have := floorsP_range hp hx; omega
theorem floorsB_last {fs : List Int} {z : Int} (h1 : 1 ≤ fs.length) (h2 : fs.length ≤ 8) (h3 : fs[0]? = some 0) (h4 : AscTo fs fs.length) (hz : fs[fs.length - 1]? = some z) : floorsB fs = decide (z ≤ 60) := by
  rw [Bool.eq_iff_iff, floorsB_iff, decide_eq_true_eq]
  constructor
  · rintro ⟨_, _, _, _, h5⟩; exact h5 _ _ hz
  · intro hle
    refine ⟨h1, h2, h3, h4, fun i x hx => ?_⟩
    have hi := getElem?_lt hx
    by_cases e : i = fs.length - 1
    · subst e; rw [hz] at hx; cases hx; exact hle
    · have := h4.lt (i := i) (j := fs.length - 1) (by omega) (by omega) hx hz; omega
theorem floorsB_all {fs : List Int} {x : Int} (h1 : 1 ≤ fs.length) (h2 : fs.length ≤ 8) (h4 : AscTo fs fs.length) (h5 : (fs.take fs.length).all (fun x => inB x 0 60) = true) (hx : fs[0]? = some x) : floorsB fs = (x == 0) := by
  rw [List.take_length] at h5
  rw [Bool.eq_iff_iff, floorsB_iff, beq_iff_eq]
  constructor
  · rintro ⟨_, _, h3, _⟩; rw [hx] at h3; cases h3; rfl
  · rintro rfl
    refine ⟨h1, h2, hx, h4, fun i x hx => ?_⟩
    exact ((inB_iff _ _ _).1 (List.all_eq_true.1 h5 x (List.mem_of_getElem? hx))).2

theorem implFloorsValid (A : Option Addr) (c : Nat) (xs : List Int) (w : World) (h : Ints w A xs) :
    Calls Tryd.prog 38 #[.slice A xs.length c] w fun e w' => e = .returned (.bool (floorsB xs)) ∧ Dr w w' := by
  have H := hide h; clear h
  by_cases hl : xs.length < 1 ∨ 8 < xs.length
  · have hl' : ¬ (1 ≤ xs.length ∧ xs.length ≤ 8) := by omega
    go_enter Tryd.func38, Tryd.ntmps38
    go_wp2
    all_goals (go_ret; exact ⟨ret_bool (floorsB_len hl).symm, Dr.refl _⟩)
  · have h1 : 1 ≤ xs.length := by omega
    have h2 : xs.length ≤ 8 := by omega
    clear hl
    obtain ⟨b, off, x, rfl, hx, hc⟩ := H.out.at (k := 0) (by omega)
    simp only [Nat.add_zero] at hc
    by_cases h0 : x = 0
    · subst h0
      go_enter Tryd.func38, Tryd.ntmps38
      go_wp2
      go_loopw [3] (fun i wr => ∃ k : Nat, k + 1 ≤ xs.length ∧ i = .int .i64 ((k : Int) + 1) ∧ Hid (Dr w wr) ∧ Hid (AscTo xs (k + 1))) (fun i _ => xs.length - (intOf i).toNat)
      case atStart => exact ⟨0, by omega, rfl, Dr.refl _, AscTo.one _ (by omega)⟩
      case round =>
        obtain ⟨k, hk, rfl, hD, hA⟩ := hrel
        by_cases hlt : k + 1 < xs.length
        · obtain ⟨u, hu, hcu⟩ := (H.out.dr hD.out).cell (k := k) (by omega)
          obtain ⟨v, hv, hcv⟩ := (H.out.dr hD.out).cell (k := k + 1) hlt
          go_wp2
          go_quiet (fail)
          go_wp2
          case roundEnd =>
            go_roundw
            case rel => exact ⟨k + 1, by omega, by go_num, hD.out.more _, AscTo.step hA hu hv (by assumption)⟩
            case measure => simp [intOf]; omega
          go_ret
          exact ⟨ret_bool (floorsB_adj hu hv (by assumption)).symm, hD.out.more _⟩
        · obtain ⟨z, hz, hcz⟩ := (H.out.dr hD.out).cell (k := xs.length - 1) (by omega)
          go_wp2
          go_ret
          exact ⟨ret_bool (floorsB_last h1 h2 hx (AscTo.mono hA (by omega)) hz).symm, hD.out⟩
    · have h0' : (x != 0) = true := by simpa using h0
      go_enter Tryd.func38, Tryd.ntmps38
      go_wp2
      go_ret
      exact ⟨ret_bool (floorsB_first hx h0).symm, Dr.refl _⟩
end Go.Proofs.YtmekhjaeclgonaaDoor
