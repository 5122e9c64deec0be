/- What CallSet does, plain: set again, counted. -/
import Derived.Test.YtmekhjaeclgonaaDoorCallsG
import Derived.Test.YtmekhjaeclgonaaDoorCallsE
namespace Go.Proofs.YtmekhjaeclgonaaDoor

/-- The place that a call has. -/
def rowC (C : Cl) (k : Int) : List Bool := if k = 0 then C.up else if k = 1 then C.dn else C.car
theorem put_put (C : Cl) (k : Int) (f : Nat) (t u : Bool) : putC (putC C k f t) k f u = putC C k f u := by
  unfold putC
  by_cases h0 : k = 0
  · simp [h0, List.set_set]
  · by_cases h1 : k = 1
    · simp [h1, List.set_set]
    · simp [h0, h1, List.set_set]
theorem set_own {l : List Bool} {k : Nat} {b : Bool} (h : l[k]? = some b) : l.set k b = l := by
  obtain ⟨hk, rfl⟩ := List.getElem?_eq_some_iff.1 h
  exact List.set_getElem_self hk
theorem put_own {C : Cl} {k : Int} {f : Nat} {b : Bool} (h : (rowC C k)[f]? = some b) : putC C k f b = C := by
  unfold rowC at h; unfold putC
  by_cases h0 : k = 0
  · simp only [if_pos h0] at h ⊢; rw [set_own h]
  · by_cases h1 : k = 1
    · simp only [if_neg h0, if_pos h1] at h ⊢; rw [set_own h]
    · simp only [if_neg h0, if_neg h1] at h ⊢; rw [set_own h]
theorem row_some {C : Cl} (h : callsP C) (k : Int) {f : Nat} (hf : f < C.car.length) : ∃ b, (rowC C k)[f]? = some b := by
  obtain ⟨-, -, h3, h4, -, -⟩ := h
  have : f < (rowC C k).length := by
    unfold rowC; split
    · omega
    · split <;> omega
  exact ⟨_, List.getElem?_eq_getElem this⟩
theorem put_many {C : Cl} {k : Int} {f : Nat} {b : Bool} (h : (rowC C k)[f]? = some b) (t : Bool) : manyC (putC C k f t) = manyC C - (if b then 1 else 0) + if t then 1 else 0 := by
  unfold rowC at h; unfold putC manyC
  by_cases h0 : k = 0
  · simp only [if_pos h0] at h ⊢; rw [cnt_set h t]; omega
  · by_cases h1 : k = 1
    · simp only [if_neg h0, if_pos h1] at h ⊢; rw [cnt_set h t]; omega
    · simp only [if_neg h0, if_neg h1] at h ⊢; rw [cnt_set h t]; omega
theorem put_off {C : Cl} (h : callsP C) (k : Int) (f : Nat) : callsP (putC C k f false) := by
  obtain ⟨h1, h2, h3, h4, h5, h6⟩ := h
  unfold putC
  by_cases h0 : k = 0
  · rw [if_pos h0]; exact ⟨h1, h2, by simpa using h3, h4, set_last h5, h6⟩
  · by_cases hk : k = 1
    · rw [if_neg h0, if_pos hk]; exact ⟨h1, h2, h3, by simpa using h4, h5, set_last h6⟩
    · rw [if_neg h0, if_neg hk]
      refine ⟨by simpa using h1, by simpa using h2, by simpa using h3, by simpa using h4, by simpa using h5, h6⟩
theorem put_len (C : Cl) (k : Int) (f : Nat) (t : Bool) : (putC C k f t).car.length = C.car.length := (put_car C k f t).symm
theorem setC_parts {C : Cl} {k f : Int} {t : Bool} (h : (setC C k f t).2 = true) : callsB C = true ∧ ((0 ≤ k ∧ k ≤ 2) ∧ (0 ≤ f ∧ f < C.car.length)) ∧ callsB (putC C k f.toNat t) = true := by
  cases h1 : callsB C
  · rw [setC_zero h1] at h; cases h
  · by_cases h2 : (0 ≤ k ∧ k ≤ 2) ∧ (0 ≤ f ∧ f < C.car.length)
    · cases h3 : callsB (putC C k f.toNat t)
      · rw [setC_bad h1 h2 h3] at h; cases h
      · exact ⟨rfl, h2, rfl⟩
    · rw [setC_out h1 h2] at h; cases h
theorem setC_not {C : Cl} {k f : Int} {t : Bool} (h : (setC C k f t).2 = false) : (setC C k f t).1 = C ∨ (setC C k f t).1 = ⟨[], [], []⟩ := by
  cases h1 : callsB C
  · rw [setC_zero h1]; exact .inr rfl
  · by_cases h2 : (0 ≤ k ∧ k ≤ 2) ∧ (0 ≤ f ∧ f < C.car.length)
    · cases h3 : callsB (putC C k f.toNat t)
      · rw [setC_bad h1 h2 h3]; exact .inl rfl
      · rw [setC_good h1 h2 h3] at h; cases h
    · rw [setC_out h1 h2]; exact .inl rfl
/-- What is known of calls that were set, and of what is set of them. -/
theorem setC_facts {C : Cl} {k f : Int} {t : Bool} (h : (setC C k f t).2 = true) :
    callsB (setC C k f t).1 = true ∧ (setC (setC C k f t).1 k f false).2 = true ∧
    ((setC (setC C k f t).1 k f true).2 = true → eqC (setC (setC C k f t).1 k f true).1 C = true ∨ eqC (setC (setC C k f t).1 k f false).1 C = true) ∧
    (manyB (setC C k f t).1 - manyB C ≤ 1 ∧ -1 ≤ manyB (setC C k f t).1 - manyB C) ∧
    (t = true → (setC (setC C k f t).1 k f true).2 = true ∧ eqC (setC (setC C k f t).1 k f true).1 (setC C k f t).1 = true) ∧
    (t = false → eqC (setC (setC C k f t).1 k f false).1 (setC C k f t).1 = true) := by
  obtain ⟨h1, h2, h3⟩ := setC_parts h
  have e1 : (setC C k f t).1 = putC C k f.toNat t := by rw [setC_good h1 h2 h3]
  rw [e1]
  have hl := put_len C k f.toNat t
  have h2' : (0 ≤ k ∧ k ≤ 2) ∧ (0 ≤ f ∧ f < (putC C k f.toNat t).car.length) := by rw [hl]; exact h2
  have hoff : callsB (putC (putC C k f.toNat t) k f.toNat false) = true := callsB_iff.2 (put_off (callsB_iff.1 h3) k f.toNat)
  have g0 := setC_good h3 h2' hoff
  obtain ⟨b, hb⟩ := row_some (callsB_iff.1 h1) k (f := f.toNat) (by omega)
  refine ⟨h3, by rw [g0], fun hon => ?_, ?_, fun ht => ?_, fun ht => ?_⟩
  · obtain ⟨-, -, h6⟩ := setC_parts hon
    have g1 := setC_good h3 h2' h6
    rw [g0, g1]
    show eqC (putC (putC C k f.toNat t) k f.toNat true) C = true ∨ eqC (putC (putC C k f.toNat t) k f.toNat false) C = true
    rw [put_put, put_put]
    cases b
    · right; rw [put_own hb]; exact eqC_self C
    · left; rw [put_own hb]; exact eqC_self C
  · rw [manyB_yes h3, manyB_yes h1, put_many hb]
    cases b <;> cases t <;> simp <;> omega
  · subst ht
    have h6 : callsB (putC (putC C k f.toNat true) k f.toNat true) = true := by rw [put_put]; exact h3
    rw [setC_good h3 h2' h6]
    refine ⟨rfl, ?_⟩
    show eqC (putC (putC C k f.toNat true) k f.toNat true) (putC C k f.toNat true) = true
    rw [put_put]; exact eqC_self _
  · subst ht
    rw [g0]
    show eqC (putC (putC C k f.toNat false) k f.toNat false) (putC C k f.toNat false) = true
    rw [put_put]; exact eqC_self _
end Go.Proofs.YtmekhjaeclgonaaDoor
