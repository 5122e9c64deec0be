/- Calls, stops, the sweep: plain lists and numbers. -/
import Derived.Test.YtmekhjaeclgonaaDoorBase
namespace Go.Proofs.YtmekhjaeclgonaaDoor

structure Cl where
  up : List Bool
  dn : List Bool
  car : List Bool
/-- A truth of a list, by a floor's number. -/
def bat (l : List Bool) (k : Int) : Bool := (l[k.toNat]?).getD false
theorem bat_at {l : List Bool} {k : Nat} {b : Bool} (h : l[k]? = some b) : bat l k = b := by unfold bat; simp [h]
theorem bat_some {l : List Bool} {k : Int} (h0 : 0 ≤ k) (h1 : k < l.length) : l[k.toNat]? = some (bat l k) := by
  unfold bat; rw [List.getElem?_eq_getElem (by omega)]; rfl
/-- CallsValid. -/
def callsP (C : Cl) : Prop := 1 ≤ C.car.length ∧ C.car.length ≤ 8 ∧ C.up.length = C.car.length ∧ C.dn.length = C.car.length ∧ C.up[C.car.length - 1]? = some false ∧ C.dn[0]? = some false
open Classical in
noncomputable def callsB (C : Cl) : Bool := decide (callsP C)
theorem callsB_iff {C : Cl} : callsB C = true ↔ callsP C := by unfold callsB; simp
theorem callsB_f {C : Cl} : callsB C = false ↔ ¬ callsP C := by unfold callsB; simp
def cnt (l : List Bool) : Int := (l.count true : Nat)
theorem cnt_nil : cnt [] = 0 := rfl
theorem cnt_append (xs ys : List Bool) : cnt (xs ++ ys) = cnt xs + cnt ys := by unfold cnt; rw [List.count_append]; omega
theorem cnt_one (b : Bool) : cnt [b] = if b then 1 else 0 := by cases b <;> rfl
theorem cnt_bd (l : List Bool) : 0 ≤ cnt l ∧ cnt l ≤ l.length := by unfold cnt; have := List.count_le_length (a := true) (l := l); omega
theorem cnt_snoc {l : List Bool} {k : Nat} {b : Bool} (h : l[k]? = some b) : cnt (l.take (k + 1)) = cnt (l.take k) + if b then 1 else 0 := by rw [take_snoc' l k b h, cnt_append, cnt_one]
theorem cnt_set {l : List Bool} {k : Nat} {b : Bool} (h : l[k]? = some b) (c : Bool) : cnt (l.set k c) = cnt l - (if b then 1 else 0) + if c then 1 else 0 := by
  induction l generalizing k with
  | nil => simp at h
  | cons x r ih =>
    cases k with
    | zero => simp at h; subst h; simp only [List.set_cons_zero, cnt, List.count_cons]; cases x <;> cases c <;> simp
    | succ k =>
      simp at h
      have := ih h
      simp only [List.set_cons_succ, cnt, List.count_cons] at this ⊢
      cases x <;> simp at this ⊢ <;> omega
theorem cnt_zero {l : List Bool} : cnt l = 0 ↔ ∀ b ∈ l, b = false := by
  induction l with
  | nil => simp [cnt]
  | cons x r ih =>
    have := cnt_bd r
    rw [show x :: r = [x] ++ r from rfl, cnt_append, cnt_one]
    cases x
    · simp only [Bool.false_eq_true, if_false, Int.zero_add, ih]; simp
    · simp only [if_true]
      constructor
      · intro h; omega
      · intro h; have := h true (by simp); cases this
theorem cnt_rep (n : Nat) : cnt (List.replicate n false) = 0 := cnt_zero.2 fun _ hb => List.eq_of_mem_replicate hb
def noCalls (n : Nat) : Cl := ⟨List.replicate n false, List.replicate n false, List.replicate n false⟩
/-- CallsNone. -/
def noneC (n : Int) : Cl := if 1 ≤ n ∧ n ≤ 8 then noCalls n.toNat else ⟨[], [], []⟩
/-- How many calls. -/
def manyC (C : Cl) : Int := cnt C.up + cnt C.dn + cnt C.car
theorem manyC_nonneg (C : Cl) : 0 ≤ manyC C := by unfold manyC; have := cnt_bd C.up; have := cnt_bd C.dn; have := cnt_bd C.car; omega
noncomputable def manyB (C : Cl) : Int := if callsB C then manyC C else -1
theorem bat_mem {l : List Bool} (h : ∀ k : Int, 0 ≤ k → k < l.length → bat l k = false) : ∀ b ∈ l, b = false := by
  intro b hb
  obtain ⟨i, hi⟩ := List.mem_iff_getElem?.1 hb
  have := h i (by omega) (by have := getElem?_lt hi; omega)
  rw [bat_at hi] at this; exact this
theorem bat_set {l : List Bool} {i k : Int} (hi : 0 ≤ i) (hk : 0 ≤ k) (b : Bool) (hl : i < l.length) : bat (l.set i.toNat b) k = if k = i then b else bat l k := by
  unfold bat
  rw [List.getElem?_set]
  by_cases e : k = i
  · subst e; rw [if_pos rfl, if_pos rfl, if_pos (by omega)]; rfl
  · rw [if_neg (by omega), if_neg e]

/-- A call to go from a floor in a direction; a call for which a car that goes in a direction stops. -/
def goB (C : Cl) (d k : Int) : Bool := if 0 < d then bat C.up k else bat C.dn k
def hitB (C : Cl) (d k : Int) : Bool := bat C.car k || goB C d k
/-- The floors from one on, in a direction. -/
def steps (n k d : Int) : Nat := if d = 1 then (n - k).toNat else (k + 1).toNat
def path (n k d : Int) : List Int := (List.range (steps n k d)).map fun (i : Nat) => k + (i : Int) * d
theorem path_length (n k d : Int) : (path n k d).length = steps n k d := by simp [path]
theorem path_get {n k d : Int} {i : Nat} (h : i < steps n k d) : (path n k d)[i]? = some (k + (i : Int) * d) := by
  unfold path; rw [List.getElem?_map, List.getElem?_range h]; rfl
theorem path_get' {n k d x : Int} {i : Nat} (h : (path n k d)[i]? = some x) : i < steps n k d ∧ x = k + (i : Int) * d := by
  have h1 := getElem?_lt h; rw [path_length] at h1
  rw [path_get h1] at h; injection h with h; exact ⟨h1, h.symm⟩
def lastP (q : Int → Bool) (l : List Int) : Option Int := l.foldl (fun acc k => if q k then some k else acc) none
theorem lastP_nil (q : Int → Bool) : lastP q [] = none := rfl
theorem lastP_snoc (q : Int → Bool) (l : List Int) (x : Int) : lastP q (l ++ [x]) = if q x then some x else lastP q l := by unfold lastP; rw [List.foldl_append]; rfl
theorem lastP_spec (q : Int → Bool) (l : List Int) : (lastP q l = none ∧ ∀ (j : Nat) (y : Int), l[j]? = some y → q y = false) ∨
    ∃ (i : Nat) (x : Int), lastP q l = some x ∧ l[i]? = some x ∧ q x = true ∧ ∀ (j : Nat) (y : Int), i < j → l[j]? = some y → q y = false := by
  have main : ∀ k, k ≤ l.length → ((lastP q (l.take k) = none ∧ ∀ (j : Nat) (y : Int), j < k → l[j]? = some y → q y = false) ∨
      ∃ (i : Nat) (x : Int), i < k ∧ lastP q (l.take k) = some x ∧ l[i]? = some x ∧ q x = true ∧ ∀ (j : Nat) (y : Int), i < j → j < k → l[j]? = some y → q y = false) := by
    intro k
    induction k with
    | zero => intro _; exact .inl ⟨rfl, fun j y hj => by omega⟩
    | succ k ih =>
      intro hk
      have hx : l[k]? = some l[k] := List.getElem?_eq_getElem (by omega)
      rw [take_snoc' l k _ hx, lastP_snoc]
      cases hq : q l[k]
      · rw [if_neg (by simp)]
        rcases ih (by omega) with ⟨h1, h2⟩ | ⟨i, x, h0, h1, h2, h3, h4⟩
        · refine .inl ⟨h1, fun j y hj hy => ?_⟩
          by_cases e : j = k
          · subst e; rw [hx] at hy; injection hy with hy; rw [← hy]; exact hq
          · exact h2 j y (by omega) hy
        · refine .inr ⟨i, x, by omega, h1, h2, h3, fun j y hij hj hy => ?_⟩
          by_cases e : j = k
          · subst e; rw [hx] at hy; injection hy with hy; rw [← hy]; exact hq
          · exact h4 j y hij (by omega) hy
      · rw [if_pos (by simp)]
        exact .inr ⟨k, _, by omega, rfl, hx, hq, fun j y hij hj => by omega⟩
  have := main l.length (Nat.le_refl _)
  rw [List.take_length] at this
  rcases this with ⟨h1, h2⟩ | ⟨i, x, h0, h1, h2, h3, h4⟩
  · exact .inl ⟨h1, fun j y hy => h2 j y (getElem?_lt hy) hy⟩
  · exact .inr ⟨i, x, h1, h2, h3, fun j y hij hy => h4 j y hij (getElem?_lt hy) hy⟩
def firstP (q : Int → Bool) (l : List Int) : Option Int := l.find? q
theorem firstP_spec (q : Int → Bool) (l : List Int) : (firstP q l = none ∧ ∀ (j : Nat) (y : Int), l[j]? = some y → q y = false) ∨
    ∃ (i : Nat) (x : Int), firstP q l = some x ∧ l[i]? = some x ∧ q x = true ∧ ∀ (j : Nat) (y : Int), j < i → l[j]? = some y → q y = false := by
  unfold firstP
  induction l with
  | nil => exact .inl ⟨rfl, fun j y h => by simp at h⟩
  | cons a r ih =>
    cases ha : q a
    · rw [List.find?_cons_of_neg (by simp [ha])]
      rcases ih with ⟨h1, h2⟩ | ⟨i, x, h1, h2, h3, h4⟩
      · refine .inl ⟨h1, fun j y hy => ?_⟩
        cases j with
        | zero => simp at hy; rw [← hy]; exact ha
        | succ j => exact h2 j y (by simpa using hy)
      · refine .inr ⟨i + 1, x, h1, by simpa using h2, h3, fun j y hj hy => ?_⟩
        cases j with
        | zero => simp at hy; rw [← hy]; exact ha
        | succ j => exact h4 j y (by omega) (by simpa using hy)
    · exact .inr ⟨0, a, by rw [List.find?_cons_of_pos (by simp [ha])], rfl, ha, fun j y hj => by omega⟩
theorem firstP_none {q : Int → Bool} {l : List Int} (h : ∀ (j : Nat) (y : Int), l[j]? = some y → q y = false) : firstP q l = none := by
  rcases firstP_spec q l with ⟨h1, -⟩ | ⟨i, x, h1, h2, h3, -⟩
  · exact h1
  · rw [h i x h2] at h3; cases h3
theorem firstP_at {q : Int → Bool} {l : List Int} {i : Nat} {x : Int} (hx : l[i]? = some x) (hq : q x = true) (h : ∀ (j : Nat) (y : Int), j < i → l[j]? = some y → q y = false) : firstP q l = some x := by
  rcases firstP_spec q l with ⟨h1, h2⟩ | ⟨k, y, h1, h2, h3, h4⟩
  · rw [h2 i x hx] at hq; cases hq
  · have : k = i := by
      rcases Nat.lt_trichotomy k i with g | g | g
      · rw [h k y g h2] at h3; cases h3
      · exact g
      · rw [h4 i x g hx] at hq; cases hq
    subst this; rw [hx] at h2; rw [h1, h2]
/-- Where a car stops that looks along some floors in one direction. -/
def towardL (C : Cl) (d : Int) (ks : List Int) : Option (Int × Int) :=
  match firstP (hitB C d) ks with
  | some k => some (k, d)
  | none => (lastP (goB C (-d)) ks).map fun k => (k, -d)
def nextO (C : Cl) (f d : Int) : Option (Int × Int) :=
  match towardL C d (path C.car.length f d) with
  | some r => some r
  | none => towardL C (-d) (path C.car.length f (-d))
/-- A place of a car. -/
def stopOkB (n f d : Int) : Bool := decide ((0 ≤ f ∧ f < n) ∧ (d = 1 ∨ d = -1))
theorem stopOkB_iff {n f d : Int} : stopOkB n f d = true ↔ (0 ≤ f ∧ f < n) ∧ (d = 1 ∨ d = -1) := by unfold stopOkB; simp

/-- What is known of the next stop (all floors lie in 0..n-1). -/
inductive NextIs (C : Cl) (n f d : Int) : Option (Int × Int) → Prop
  | ahead (g : Int) (h1 : 0 ≤ (g - f) * d) (h2 : 0 ≤ g ∧ g < n) (h3 : hitB C d g = true) (h4 : ∀ y, 0 ≤ (y - f) * d → 0 < (g - y) * d → hitB C d y = false) : NextIs C n f d (some (g, d))
  | turn (g : Int) (h1 : 0 ≤ (g - f) * d) (h2 : 0 ≤ g ∧ g < n) (h3 : goB C (-d) g = true) (h4 : ∀ y, 0 ≤ y → y < n → 0 ≤ (y - f) * d → hitB C d y = false) (h5 : ∀ y, 0 ≤ y → y < n → 0 < (y - g) * d → goB C (-d) y = false) : NextIs C n f d (some (g, -d))
  | back (g : Int) (h0 : ∀ y, 0 ≤ y → y < n → 0 ≤ (y - f) * d → hitB C d y = false ∧ goB C (-d) y = false) (h1 : 0 ≤ (f - g) * d) (h2 : 0 ≤ g ∧ g < n) (h3 : hitB C (-d) g = true) (h4 : ∀ y, 0 ≤ (f - y) * d → 0 < (y - g) * d → hitB C (-d) y = false) : NextIs C n f d (some (g, -d))
  | again (g : Int) (h0 : ∀ y, 0 ≤ y → y < n → 0 ≤ (y - f) * d → hitB C d y = false ∧ goB C (-d) y = false) (h1 : 0 ≤ (f - g) * d) (h2 : 0 ≤ g ∧ g < n) (h3 : goB C d g = true) (h4 : ∀ y, 0 ≤ y → y < n → 0 ≤ (f - y) * d → hitB C (-d) y = false) (h5 : ∀ y, 0 ≤ y → y < n → 0 < (g - y) * d → goB C d y = false) : NextIs C n f d (some (g, d))
  | none (h0 : ∀ y, 0 ≤ y → y < n → hitB C d y = false ∧ goB C (-d) y = false) : NextIs C n f d none
theorem path_mem {n f d y : Int} (hf : 0 ≤ f ∧ f < n) (hd : d = 1 ∨ d = -1) (h0 : 0 ≤ y) (h1 : y < n) (h2 : 0 ≤ (y - f) * d) : ∃ j : Nat, (path n f d)[j]? = some y ∧ (j : Int) = (y - f) * d := by
  rcases hd with rfl | rfl
  · refine ⟨(y - f).toNat, ?_, by omega⟩
    rw [path_get (by unfold steps; simp; omega)]; congr 1; omega
  · refine ⟨(f - y).toNat, ?_, by omega⟩
    rw [path_get (by unfold steps; simp; omega)]; congr 1; omega
theorem path_in {n f d x : Int} {i : Nat} (hf : 0 ≤ f ∧ f < n) (hd : d = 1 ∨ d = -1) (h : (path n f d)[i]? = some x) : 0 ≤ x ∧ x < n ∧ (i : Int) = (x - f) * d := by
  obtain ⟨h1, rfl⟩ := path_get' h
  unfold steps at h1
  rcases hd with rfl | rfl
  · simp at h1; omega
  · simp at h1; omega
theorem toward_is {C : Cl} {n f d : Int} (hf : 0 ≤ f ∧ f < n) (hd : d = 1 ∨ d = -1) :
    (∃ g, towardL C d (path n f d) = some (g, d) ∧ 0 ≤ (g - f) * d ∧ (0 ≤ g ∧ g < n) ∧ hitB C d g = true ∧ ∀ y, 0 ≤ (y - f) * d → 0 < (g - y) * d → hitB C d y = false) ∨
    (∃ g, towardL C d (path n f d) = some (g, -d) ∧ 0 ≤ (g - f) * d ∧ (0 ≤ g ∧ g < n) ∧ goB C (-d) g = true ∧ (∀ y, 0 ≤ y → y < n → 0 ≤ (y - f) * d → hitB C d y = false) ∧ ∀ y, 0 ≤ y → y < n → 0 < (y - g) * d → goB C (-d) y = false) ∨
    (towardL C d (path n f d) = none ∧ ∀ y, 0 ≤ y → y < n → 0 ≤ (y - f) * d → hitB C d y = false ∧ goB C (-d) y = false) := by
  rcases firstP_spec (hitB C d) (path n f d) with ⟨a1, a2⟩ | ⟨i, g, a1, a2, a3, a4⟩
  · have noh : ∀ y, 0 ≤ y → y < n → 0 ≤ (y - f) * d → hitB C d y = false := fun y h0 h1 h2 => by
      obtain ⟨j, hj, -⟩ := path_mem hf hd h0 h1 h2; exact a2 j y hj
    rcases lastP_spec (goB C (-d)) (path n f d) with ⟨b1, b2⟩ | ⟨i, g, b1, b2, b3, b4⟩
    · refine .inr (.inr ⟨by simp [towardL, a1, b1], fun y h0 h1 h2 => ⟨noh y h0 h1 h2, ?_⟩⟩)
      obtain ⟨j, hj, -⟩ := path_mem hf hd h0 h1 h2; exact b2 j y hj
    · obtain ⟨g0, g1, gi⟩ := path_in hf hd b2
      refine .inr (.inl ⟨g, by simp [towardL, a1, b1], by omega, ⟨g0, g1⟩, b3, noh, fun y h0 h1 h2 => ?_⟩)
      have h3 : 0 ≤ (y - f) * d := by rcases hd with rfl | rfl <;> omega
      obtain ⟨j, hj, ej⟩ := path_mem hf hd h0 h1 h3
      exact b4 j y (by rcases hd with rfl | rfl <;> omega) hj
  · obtain ⟨g0, g1, gi⟩ := path_in hf hd a2
    refine .inl ⟨g, by simp [towardL, a1], by omega, ⟨g0, g1⟩, a3, fun y h1 h2 => ?_⟩
    obtain ⟨j, hj, ej⟩ := path_mem (y := y) hf hd (by rcases hd with rfl | rfl <;> omega) (by rcases hd with rfl | rfl <;> omega) h1
    exact a4 j y (by rcases hd with rfl | rfl <;> omega) hj
theorem next_is {C : Cl} {f d : Int} (hf : 0 ≤ f ∧ f < C.car.length) (hd : d = 1 ∨ d = -1) : NextIs C C.car.length f d (nextO C f d) := by
  have hd' : -d = 1 ∨ -d = -1 := by omega
  have neg : ∀ a : Int, a * -d = -a * d := fun a => by rw [Int.mul_neg, Int.neg_mul]
  unfold nextO
  rcases toward_is (C := C) hf hd with ⟨g, e, h1, h2, h3, h4⟩ | ⟨g, e, h1, h2, h3, h4, h5⟩ | ⟨e, h0⟩
  · rw [e]; exact .ahead g h1 h2 h3 h4
  · rw [e]; exact .turn g h1 h2 h3 h4 h5
  · rw [e]
    rcases toward_is (C := C) hf hd' with ⟨g, e', h1, h2, h3, h4⟩ | ⟨g, e', h1, h2, h3, h4, h5⟩ | ⟨e', h1⟩
    · simp only [e']
      exact .back g h0 (by rcases hd with rfl | rfl <;> omega) h2 h3 (fun y y1 y2 => h4 y (by rcases hd with rfl | rfl <;> omega) (by rcases hd with rfl | rfl <;> omega))
    · simp only [e', Int.neg_neg] at h3 h5 ⊢
      exact .again g h0 (by rcases hd with rfl | rfl <;> omega) h2 h3 (fun y y0 y1 y2 => h4 y y0 y1 (by rcases hd with rfl | rfl <;> omega)) (fun y y0 y1 y2 => h5 y y0 y1 (by rcases hd with rfl | rfl <;> omega))
    · simp only [e', Int.neg_neg] at h1 ⊢
      refine .none fun y y0 y1 => ?_
      by_cases hy : 0 ≤ (y - f) * d
      · exact h0 y y0 y1 hy
      · have h2 := h1 y y0 y1 (by rcases hd with rfl | rfl <;> omega)
        have c : hitB C d y = hitB C (-d) y ∨ True := .inr trivial
        unfold hitB at h2 ⊢
        simp only [Bool.or_eq_false_iff] at h2 ⊢
        exact ⟨⟨h2.1.1, h2.2⟩, h2.1.2⟩

/-- ServeStop on valid calls. -/
def serveC (C : Cl) (f d : Int) : Cl :=
  ⟨if 0 < d then C.up.set f.toNat false else C.up, if 0 < d then C.dn else C.dn.set f.toNat false, C.car.set f.toNat false⟩
theorem serve_car {C : Cl} {f d k : Int} (hf : 0 ≤ f ∧ f < C.car.length) (hk : 0 ≤ k) : bat (serveC C f d).car k = if k = f then false else bat C.car k := bat_set hf.1 hk false hf.2
theorem serve_go {C : Cl} {f d k e : Int} (hC : callsP C) (hf : 0 ≤ f ∧ f < C.car.length) (hk : 0 ≤ k) (hd : d = 1 ∨ d = -1) (he : e = 1 ∨ e = -1) : goB (serveC C f d) e k = if k = f ∧ e = d then false else goB C e k := by
  obtain ⟨-, -, h3, h4, -, -⟩ := hC
  unfold goB serveC
  rcases hd with rfl | rfl <;> rcases he with rfl | rfl
  · simp only [show (0 : Int) < 1 from by omega, if_true, and_true]; rw [bat_set hf.1 hk false (by omega)]
  · simp
  · simp
  · simp only [show ¬ (0 : Int) < -1 from by omega, if_false, and_true]; rw [bat_set hf.1 hk false (by omega)]
theorem serve_hit {C : Cl} {f d k e : Int} (hC : callsP C) (hf : 0 ≤ f ∧ f < C.car.length) (hk : 0 ≤ k) (hd : d = 1 ∨ d = -1) (he : e = 1 ∨ e = -1) (h : hitB C e k = false) : hitB (serveC C f d) e k = false := by
  unfold hitB at h ⊢
  rw [Bool.or_eq_false_iff] at h ⊢
  rw [serve_car hf hk, serve_go hC hf hk hd he]
  constructor
  · split
    · rfl
    · exact h.1
  · split
    · rfl
    · exact h.2
theorem serve_goN {C : Cl} {f d k e : Int} (hC : callsP C) (hf : 0 ≤ f ∧ f < C.car.length) (hk : 0 ≤ k) (hd : d = 1 ∨ d = -1) (he : e = 1 ∨ e = -1) (h : goB C e k = false) : goB (serveC C f d) e k = false := by
  rw [serve_go hC hf hk hd he]
  split
  · rfl
  · exact h
theorem serve_here {C : Cl} {f d : Int} (hC : callsP C) (hf : 0 ≤ f ∧ f < C.car.length) (hd : d = 1 ∨ d = -1) : hitB (serveC C f d) d f = false := by
  unfold hitB
  rw [serve_car hf hf.1, serve_go hC hf hf.1 hd hd]; simp
theorem serve_len (C : Cl) (f d : Int) : (serveC C f d).car.length = C.car.length := by simp [serveC]
theorem set_last {l : List Bool} {i k : Nat} (h : l[k]? = some false) : (l.set i false)[k]? = some false := by
  rw [List.getElem?_set]
  have := getElem?_lt h
  split
  · rw [if_pos (by omega)]
  · exact h
theorem serve_valid {C : Cl} (hC : callsP C) (f d : Int) : callsP (serveC C f d) := by
  obtain ⟨h1, h2, h3, h4, h5, h6⟩ := hC
  refine ⟨by rw [serve_len]; exact h1, by rw [serve_len]; exact h2, ?_, ?_, ?_, ?_⟩
  · rw [serve_len]; unfold serveC; split <;> simp [h3]
  · rw [serve_len]; unfold serveC; split <;> simp [h4]
  · rw [serve_len]; unfold serveC; split
    · exact set_last h5
    · exact h5
  · unfold serveC
    show (if 0 < d then C.dn else C.dn.set f.toNat false)[0]? = _
    split
    · exact h6
    · exact set_last h6
theorem serve_many {C : Cl} {f d : Int} (hC : callsP C) (hf : 0 ≤ f ∧ f < C.car.length) (hd : d = 1 ∨ d = -1) : manyC (serveC C f d) = manyC C - (if bat C.car f then 1 else 0) - (if goB C d f then 1 else 0) := by
  obtain ⟨h1, h2, h3, h4, h5, h6⟩ := hC
  have e1 := cnt_set (bat_some hf.1 hf.2) false
  rcases hd with rfl | rfl
  · have e2 := cnt_set (bat_some (l := C.up) hf.1 (by omega)) false
    unfold manyC serveC goB; simp at e1 e2 ⊢; omega
  · have e2 := cnt_set (bat_some (l := C.dn) hf.1 (by omega)) false
    unfold manyC serveC goB; simp at e1 e2 ⊢; omega
theorem serve_less {C : Cl} {f d : Int} (hC : callsP C) (hf : 0 ≤ f ∧ f < C.car.length) (hd : d = 1 ∨ d = -1) (h : hitB C d f = true) : manyC (serveC C f d) < manyC C := by
  rw [serve_many hC hf hd]
  unfold hitB at h
  rw [Bool.or_eq_true] at h
  rcases h with h | h
  · rw [h, if_pos rfl]; split <;> omega
  · rw [h, if_pos rfl]; split <;> omega
theorem none_many {C : Cl} {d : Int} (hC : callsP C) (hd : d = 1 ∨ d = -1) (h : ∀ y : Int, 0 ≤ y → y < C.car.length → hitB C d y = false ∧ goB C (-d) y = false) : manyC C = 0 := by
  obtain ⟨h1, h2, h3, h4, h5, h6⟩ := hC
  have hh : ∀ y : Int, 0 ≤ y → y < C.car.length → bat C.car y = false ∧ bat C.up y = false ∧ bat C.dn y = false := fun y y0 y1 => by
    obtain ⟨a, b⟩ := h y y0 y1
    unfold hitB at a; rw [Bool.or_eq_false_iff] at a
    unfold goB at a b
    rcases hd with rfl | rfl
    · simp at a b; exact ⟨a.1, a.2, b⟩
    · simp at a b; exact ⟨a.1, b, a.2⟩
  unfold manyC
  rw [cnt_zero.2 (bat_mem fun k k0 k1 => (hh k k0 (by omega)).2.1), cnt_zero.2 (bat_mem fun k k0 k1 => (hh k k0 (by omega)).2.2), cnt_zero.2 (bat_mem fun k k0 k1 => (hh k k0 k1).1)]
  rfl
/-- A next stop is in the building, has a direction, and serves a call. -/
theorem next_good {C : Cl} {f d g e : Int} (hf : 0 ≤ f ∧ f < C.car.length) (hd : d = 1 ∨ d = -1) (h : nextO C f d = some (g, e)) : (0 ≤ g ∧ g < C.car.length) ∧ (e = 1 ∨ e = -1) ∧ hitB C e g = true := by
  have hn := next_is hf hd
  rw [h] at hn
  generalize hr : some (g, e) = r at hn
  cases hn with
  | ahead g' h1 h2 h3 h4 => injection hr with hr; injection hr with e1 e2; subst e1; subst e2; exact ⟨h2, hd, h3⟩
  | turn g' h1 h2 h3 h4 h5 => injection hr with hr; injection hr with e1 e2; subst e1; subst e2; exact ⟨h2, by omega, by unfold hitB; simp [h3]⟩
  | back g' h0 h1 h2 h3 h4 => injection hr with hr; injection hr with e1 e2; subst e1; subst e2; exact ⟨h2, by omega, h3⟩
  | again g' h0 h1 h2 h3 h4 h5 => injection hr with hr; injection hr with e1 e2; subst e1; subst e2; exact ⟨h2, hd, by unfold hitB; simp [h3]⟩
  | none h0 => cases hr
theorem next_none {C : Cl} {f d : Int} (hC : callsP C) (hf : 0 ≤ f ∧ f < C.car.length) (hd : d = 1 ∨ d = -1) (h : nextO C f d = none) : manyC C = 0 := by
  have hn := next_is hf hd
  rw [h] at hn
  cases hn with
  | none h0 => exact none_many hC hd h0

/-- All stops, with fuel. -/
def sweepF : Nat → Cl → Int → Int → List (Int × Int)
  | 0, _, _, _ => []
  | n + 1, C, f, d => match nextO C f d with
    | none => []
    | some r => r :: sweepF n (serveC C r.1 r.2) r.1 r.2
def sweepL (C : Cl) (f d : Int) : List (Int × Int) := sweepF (manyC C).toNat C f d
theorem many_next {C : Cl} {f d : Int} (hC : callsP C) (hf : 0 ≤ f ∧ f < C.car.length) (hd : d = 1 ∨ d = -1) (h : manyC C ≤ 0) : nextO C f d = none := by
  cases hn : nextO C f d with
  | none => rfl
  | some r =>
    obtain ⟨g1, g2, g3⟩ := next_good hf hd (show nextO C f d = some (r.1, r.2) from hn)
    have := serve_less hC g1 g2 g3; have := manyC_nonneg (serveC C r.1 r.2); omega
theorem sweepF_eq : ∀ (n m : Nat) (C : Cl) (f d : Int), callsP C → (0 ≤ f ∧ f < C.car.length) → (d = 1 ∨ d = -1) → manyC C ≤ n → manyC C ≤ m → sweepF n C f d = sweepF m C f d := by
  intro n
  induction n with
  | zero =>
    intro m C f d hC hf hd h _
    cases m with
    | zero => rfl
    | succ m => simp [sweepF, many_next hC hf hd (by omega)]
  | succ n ih =>
    intro m C f d hC hf hd h h'
    cases m with
    | zero => simp [sweepF, many_next hC hf hd (by omega)]
    | succ m =>
      cases hn : nextO C f d with
      | none => simp [sweepF, hn]
      | some r =>
        obtain ⟨g1, g2, g3⟩ := next_good hf hd (show nextO C f d = some (r.1, r.2) from hn)
        have hl := serve_less hC g1 g2 g3
        have hlen := serve_len C r.1 r.2
        simp only [sweepF, hn]
        rw [ih m _ _ _ (serve_valid hC r.1 r.2) (by omega) g2 (by omega) (by omega)]
theorem sweep_none {C : Cl} {f d : Int} (h : nextO C f d = none) : sweepL C f d = [] := by
  unfold sweepL
  cases (manyC C).toNat with
  | zero => rfl
  | succ n => simp [sweepF, h]
theorem sweep_some {C : Cl} {f d g e : Int} (hC : callsP C) (hf : 0 ≤ f ∧ f < C.car.length) (hd : d = 1 ∨ d = -1) (h : nextO C f d = some (g, e)) : sweepL C f d = (g, e) :: sweepL (serveC C g e) g e := by
  obtain ⟨g1, g2, g3⟩ := next_good hf hd h
  have hl := serve_less hC g1 g2 g3
  have h0 := manyC_nonneg (serveC C g e)
  have hlen := serve_len C g e
  obtain ⟨m, hm⟩ : ∃ m, (manyC C).toNat = m + 1 := ⟨(manyC C).toNat - 1, by omega⟩
  unfold sweepL
  rw [hm]
  simp only [sweepF, h]
  rw [sweepF_eq m (manyC (serveC C g e)).toNat _ _ _ (serve_valid hC g e) (by omega) g2 (by omega) (by omega)]
/-- Induction along the sweep. -/
theorem sweep_ind {Q : Cl → Int → Int → Prop} (hnone : ∀ (C : Cl) (f d : Int), callsP C → (0 ≤ f ∧ f < C.car.length) → (d = 1 ∨ d = -1) → nextO C f d = none → Q C f d)
    (hsome : ∀ (C : Cl) (f d g e : Int), callsP C → (0 ≤ f ∧ f < C.car.length) → (d = 1 ∨ d = -1) → nextO C f d = some (g, e) → Q (serveC C g e) g e → Q C f d) :
    ∀ (C : Cl) (f d : Int), callsP C → (0 ≤ f ∧ f < C.car.length) → (d = 1 ∨ d = -1) → Q C f d := by
  have main : ∀ (n : Nat) (C : Cl) (f d : Int), manyC C ≤ n → callsP C → (0 ≤ f ∧ f < C.car.length) → (d = 1 ∨ d = -1) → Q C f d := by
    intro n
    induction n with
    | zero => intro C f d h hC hf hd; exact hnone C f d hC hf hd (many_next hC hf hd (by omega))
    | succ n ih =>
      intro C f d h hC hf hd
      cases hn : nextO C f d with
      | none => exact hnone C f d hC hf hd hn
      | some r =>
        obtain ⟨g, e⟩ := r
        obtain ⟨g1, g2, g3⟩ := next_good hf hd hn
        have hl := serve_less hC g1 g2 g3
        exact hsome C f d g e hC hf hd hn (ih _ _ _ (by omega) (serve_valid hC g e) (by rw [serve_len]; exact g1) g2)
  intro C f d
  exact main (manyC C).toNat C f d (by have := manyC_nonneg C; omega)
def serveAll : Cl → List (Int × Int) → Cl
  | C, [] => C
  | C, r :: rest => serveAll (serveC C r.1 r.2) rest
theorem sweep_served (C : Cl) (f d : Int) (hC : callsP C) (hf : 0 ≤ f ∧ f < C.car.length) (hd : d = 1 ∨ d = -1) : manyC (serveAll C (sweepL C f d)) = 0 := by
  refine sweep_ind (Q := fun C f d => manyC (serveAll C (sweepL C f d)) = 0) (fun C f d hC hf hd h => ?_) (fun C f d g e hC hf hd h ih => ?_) C f d hC hf hd
  · rw [sweep_none h]; exact next_none hC hf hd h
  · rw [sweep_some hC hf hd h]; exact ih
theorem sweep_short (C : Cl) (f d : Int) (hC : callsP C) (hf : 0 ≤ f ∧ f < C.car.length) (hd : d = 1 ∨ d = -1) : ((sweepL C f d).length : Int) ≤ manyC C := by
  refine sweep_ind (Q := fun C f d => ((sweepL C f d).length : Int) ≤ manyC C) (fun C f d hC hf hd h => ?_) (fun C f d g e hC hf hd h ih => ?_) C f d hC hf hd
  · rw [sweep_none h]; exact manyC_nonneg C
  · obtain ⟨g1, g2, g3⟩ := next_good hf hd h
    have hl := serve_less hC g1 g2 g3
    rw [sweep_some hC hf hd h]; simp only [List.length_cons]; omega
theorem sweep_good (C : Cl) (f d : Int) (hC : callsP C) (hf : 0 ≤ f ∧ f < C.car.length) (hd : d = 1 ∨ d = -1) : ∀ r ∈ sweepL C f d, (0 ≤ r.1 ∧ r.1 < C.car.length) ∧ (r.2 = 1 ∨ r.2 = -1) := by
  refine sweep_ind (Q := fun C f d => ∀ r ∈ sweepL C f d, (0 ≤ r.1 ∧ r.1 < C.car.length) ∧ (r.2 = 1 ∨ r.2 = -1)) (fun C f d hC hf hd h => ?_) (fun C f d g e hC hf hd h ih => ?_) C f d hC hf hd
  · rw [sweep_none h]; simp
  · obtain ⟨g1, g2, g3⟩ := next_good hf hd h
    rw [sweep_some hC hf hd h]
    intro r hr
    rcases List.mem_cons.1 hr with rfl | hr
    · exact ⟨g1, g2⟩
    · have := ih r hr; rw [serve_len] at this; exact this
def turnsL : Int → List (Int × Int) → Int
  | _, [] => 0
  | d, r :: rest => (if r.2 = d then 0 else 1) + turnsL r.2 rest
/-- Behind the car there are only calls to go back. -/
def Ph1 (C : Cl) (f d : Int) : Prop := ∀ y : Int, 0 ≤ y → y < C.car.length → (y - f) * d < 0 → hitB C d y = false
/-- All calls lie ahead, and none is to go back. -/
def Ph0 (C : Cl) (f d : Int) : Prop := (∀ y : Int, 0 ≤ y → y < C.car.length → goB C (-d) y = false) ∧ Ph1 C f d
theorem hit_f {C : Cl} {d y : Int} (h1 : bat C.car y = false) (h2 : goB C d y = false) : hitB C d y = false := by unfold hitB; rw [h1, h2]; rfl
theorem hit_car {C : Cl} {d y : Int} (h : hitB C d y = false) : bat C.car y = false := by unfold hitB at h; rw [Bool.or_eq_false_iff] at h; exact h.1
theorem hit_go {C : Cl} {d y : Int} (h : hitB C d y = false) : goB C d y = false := by unfold hitB at h; rw [Bool.or_eq_false_iff] at h; exact h.2
theorem Ph1.serve {C : Cl} {f d g e : Int} (hC : callsP C) (hg : 0 ≤ g ∧ g < C.car.length) (he : e = 1 ∨ e = -1) (hd : d = 1 ∨ d = -1) (h : Ph1 C f d) : Ph1 (serveC C g e) f d := by
  intro y y0 y1 y2; rw [serve_len] at y1; exact serve_hit hC hg y0 he hd (h y y0 y1 y2)
theorem Ph0.serve {C : Cl} {f d g e : Int} (hC : callsP C) (hg : 0 ≤ g ∧ g < C.car.length) (he : e = 1 ∨ e = -1) (hd : d = 1 ∨ d = -1) (h : Ph0 C f d) : Ph0 (serveC C g e) f d :=
  ⟨fun y y0 y1 => by rw [serve_len] at y1; exact serve_goN hC hg y0 he (by omega) (h.1 y y0 y1), h.2.serve hC hg he hd⟩
theorem turns0 (C : Cl) (f d : Int) (hC : callsP C) (hf : 0 ≤ f ∧ f < C.car.length) (hd : d = 1 ∨ d = -1) : Ph0 C f d → turnsL d (sweepL C f d) = 0 := by
  refine sweep_ind (Q := fun C f d => Ph0 C f d → turnsL d (sweepL C f d) = 0) (fun C f d hC hf hd h _ => by rw [sweep_none h]; rfl) (fun C f d g e hC hf hd h ih hp => ?_) C f d hC hf hd
  have hn := next_is hf hd
  rw [h] at hn
  rw [sweep_some hC hf hd h]
  obtain ⟨p1, p2⟩ := hp
  generalize hr : some (g, e) = r at hn
  cases hn with
  | ahead g' h1 h2 h3 h4 =>
    injection hr with hr; injection hr with e1 e2; subst e1; subst e2
    have : Ph0 C g e := ⟨p1, fun y y0 y1 y2 => by
      by_cases hy : (y - f) * e < 0
      · exact p2 y y0 y1 hy
      · exact h4 y (by omega) (by rcases hd with rfl | rfl <;> omega)⟩
    simp only [turnsL, if_true]; rw [ih (this.serve hC h2 hd hd)]; rfl
  | turn g' h1 h2 h3 h4 h5 => rw [p1 g' h2.1 h2.2] at h3; cases h3
  | back g' h0 h1 h2 h3 h4 =>
    exfalso
    have hc : bat C.car g' = false := by
      by_cases hy : (g' - f) * d < 0
      · exact hit_car (p2 g' h2.1 h2.2 hy)
      · exact hit_car (h0 g' h2.1 h2.2 (by omega)).1
    rw [hit_f hc (p1 g' h2.1 h2.2)] at h3; cases h3
  | again g' h0 h1 h2 h3 h4 h5 =>
    exfalso
    have hc : goB C d g' = false := by
      by_cases hy : (g' - f) * d < 0
      · exact hit_go (p2 g' h2.1 h2.2 hy)
      · exact hit_go (h0 g' h2.1 h2.2 (by omega)).1
    rw [hc] at h3; cases h3
  | none h0 => cases hr
theorem turns1 (C : Cl) (f d : Int) (hC : callsP C) (hf : 0 ≤ f ∧ f < C.car.length) (hd : d = 1 ∨ d = -1) : Ph1 C f d → turnsL d (sweepL C f d) ≤ 1 := by
  refine sweep_ind (Q := fun C f d => Ph1 C f d → turnsL d (sweepL C f d) ≤ 1) (fun C f d hC hf hd h _ => by rw [sweep_none h]; simp [turnsL]) (fun C f d g e hC hf hd h ih hp => ?_) C f d hC hf hd
  have hn := next_is hf hd
  rw [h] at hn
  rw [sweep_some hC hf hd h]
  have hd' : -d = 1 ∨ -d = -1 := by omega
  have one : ∀ g', (0 ≤ g' ∧ g' < (C.car.length : Int)) → Ph0 C g' (-d) → turnsL d ((g', -d) :: sweepL (serveC C g' (-d)) g' (-d)) ≤ 1 := fun g' hg p => by
    have := turns0 (serveC C g' (-d)) g' (-d) (serve_valid hC _ _) (by rw [serve_len]; exact hg) hd' (p.serve hC hg hd' hd')
    simp only [turnsL]; rw [this]; split <;> omega
  generalize hr : some (g, e) = r at hn
  cases hn with
  | ahead g' h1 h2 h3 h4 =>
    injection hr with hr; injection hr with e1 e2; subst e1; subst e2
    have : Ph1 C g e := fun y y0 y1 y2 => by
      by_cases hy : (y - f) * e < 0
      · exact hp y y0 y1 hy
      · exact h4 y (by omega) (by rcases hd with rfl | rfl <;> omega)
    have := ih (this.serve hC h2 hd hd)
    simp only [turnsL, if_true]; omega
  | turn g' h1 h2 h3 h4 h5 =>
    injection hr with hr; injection hr with e1 e2; subst e1; subst e2
    refine one g h2 ⟨fun y y0 y1 => ?_, fun y y0 y1 y2 => ?_⟩
    · rw [Int.neg_neg]
      by_cases hy : (y - f) * d < 0
      · exact hit_go (hp y y0 y1 hy)
      · exact hit_go (h4 y y0 y1 (by omega))
    · exact hit_f (hit_car (h4 y y0 y1 (by rcases hd with rfl | rfl <;> omega))) (h5 y y0 y1 (by rcases hd with rfl | rfl <;> omega))
  | back g' h0 h1 h2 h3 h4 =>
    injection hr with hr; injection hr with e1 e2; subst e1; subst e2
    refine one g h2 ⟨fun y y0 y1 => ?_, fun y y0 y1 y2 => ?_⟩
    · rw [Int.neg_neg]
      by_cases hy : (y - f) * d < 0
      · exact hit_go (hp y y0 y1 hy)
      · exact hit_go (h0 y y0 y1 (by omega)).1
    · by_cases hy : (y - f) * d < 0
      · exact h4 y (by rcases hd with rfl | rfl <;> omega) (by rcases hd with rfl | rfl <;> omega)
      · have := h0 y y0 y1 (by omega)
        exact hit_f (hit_car this.1) this.2
  | again g' h0 h1 h2 h3 h4 h5 =>
    exfalso
    have hc : goB C d g' = false := by
      by_cases hy : (g' - f) * d < 0
      · exact hit_go (hp g' h2.1 h2.2 hy)
      · exact hit_go (h0 g' h2.1 h2.2 (by omega)).1
    rw [hc] at h3; cases h3
  | none h0 => cases hr
theorem turns2 (C : Cl) (f d : Int) (hC : callsP C) (hf : 0 ≤ f ∧ f < C.car.length) (hd : d = 1 ∨ d = -1) : turnsL d (sweepL C f d) ≤ 2 := by
  refine sweep_ind (Q := fun C f d => turnsL d (sweepL C f d) ≤ 2) (fun C f d hC hf hd h => by rw [sweep_none h]; simp [turnsL]) (fun C f d g e hC hf hd h ih => ?_) C f d hC hf hd
  have hn := next_is hf hd
  rw [h] at hn
  rw [sweep_some hC hf hd h]
  have hd' : -d = 1 ∨ -d = -1 := by omega
  have two : ∀ g' e', (e' = 1 ∨ e' = -1) → (0 ≤ g' ∧ g' < (C.car.length : Int)) → Ph1 C g' e' → turnsL d ((g', e') :: sweepL (serveC C g' e') g' e') ≤ 2 := fun g' e' he hg p => by
    have := turns1 (serveC C g' e') g' e' (serve_valid hC _ _) (by rw [serve_len]; exact hg) he (p.serve hC hg he he)
    simp only [turnsL]; split <;> omega
  generalize hr : some (g, e) = r at hn
  cases hn with
  | ahead g' h1 h2 h3 h4 =>
    injection hr with hr; injection hr with e1 e2; subst e1; subst e2
    simp only [turnsL, if_true]; omega
  | turn g' h1 h2 h3 h4 h5 =>
    injection hr with hr; injection hr with e1 e2; subst e1; subst e2
    refine two g _ hd' h2 fun y y0 y1 y2 => ?_
    exact hit_f (hit_car (h4 y y0 y1 (by rcases hd with rfl | rfl <;> omega))) (h5 y y0 y1 (by rcases hd with rfl | rfl <;> omega))
  | back g' h0 h1 h2 h3 h4 =>
    injection hr with hr; injection hr with e1 e2; subst e1; subst e2
    refine two g _ hd' h2 fun y y0 y1 y2 => ?_
    by_cases hy : (y - f) * d < 0
    · exact h4 y (by rcases hd with rfl | rfl <;> omega) (by rcases hd with rfl | rfl <;> omega)
    · have := h0 y y0 y1 (by omega)
      exact hit_f (hit_car this.1) this.2
  | again g' h0 h1 h2 h3 h4 h5 =>
    injection hr with hr; injection hr with e1 e2; subst e1; subst e2
    refine two g _ hd h2 fun y y0 y1 y2 => ?_
    exact hit_f (hit_car (h4 y y0 y1 (by rcases hd with rfl | rfl <;> omega))) (h5 y y0 y1 (by rcases hd with rfl | rfl <;> omega))
  | none h0 => cases hr
end Go.Proofs.YtmekhjaeclgonaaDoor
