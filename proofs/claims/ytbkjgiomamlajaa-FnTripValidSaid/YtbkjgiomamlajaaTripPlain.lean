/- Trips: plain lists and numbers. A rider: from, to, state. -/
import Derived.Test.YtbkjgiomamlajaaStopPlain
namespace Go.Proofs.Ytbkjgiomamlajaa

abbrev Rr := Int × Int × Int
def dirR (r : Rr) : Int := if r.1 < r.2.1 then 1 else -1
theorem dirR_or (r : Rr) : dirR r = 1 ∨ dirR r = -1 := by unfold dirR; split <;> simp
def ridP (n : Int) (r : Rr) : Prop := (0 ≤ r.1 ∧ r.1 < n) ∧ (0 ≤ r.2.1 ∧ r.2.1 < n) ∧ r.1 ≠ r.2.1 ∧ (0 ≤ r.2.2 ∧ r.2.2 ≤ 2)
def wayP (r : Rr) (f d : Int) : Prop := dirR r = d ∧ 0 ≤ (f - r.1) * d ∧ 0 < (r.2.1 - f) * d
/-- How many are in a state. -/
def inN (s : Int) (rs : List Rr) : Int := (rs.countP (fun r => r.2.2 == s) : Nat)
theorem inN_nil (s : Int) : inN s [] = 0 := rfl
theorem inN_cons (s : Int) (r : Rr) (rs : List Rr) : inN s (r :: rs) = inN s rs + if r.2.2 = s then 1 else 0 := by
  unfold inN; rw [List.countP_cons]; by_cases h : r.2.2 = s <;> simp [h]
theorem inN_append (s : Int) (xs ys : List Rr) : inN s (xs ++ ys) = inN s xs + inN s ys := by unfold inN; rw [List.countP_append]; omega
theorem inN_bd (s : Int) (rs : List Rr) : 0 ≤ inN s rs ∧ inN s rs ≤ rs.length := by unfold inN; have := List.countP_le_length (p := fun r : Rr => r.2.2 == s) (l := rs); omega
theorem inN_snoc {s : Int} {rs : List Rr} {k : Nat} {r : Rr} (h : rs[k]? = some r) : inN s (rs.take (k + 1)) = inN s (rs.take k) + if r.2.2 = s then 1 else 0 := by
  rw [take_snoc' rs k r h, inN_append, inN_cons, inN_nil]; omega
theorem inN_pos {s : Int} {rs : List Rr} {r : Rr} (hr : r ∈ rs) (h : r.2.2 = s) : 0 < inN s rs := by
  unfold inN; have := List.countP_pos_iff (p := fun r : Rr => r.2.2 == s) (l := rs) |>.2 ⟨r, hr, by simpa using h⟩; omega
theorem inN_ex {s : Int} {rs : List Rr} (h : 0 < inN s rs) : ∃ r ∈ rs, r.2.2 = s := by
  unfold inN at h; obtain ⟨r, hr, e⟩ := List.countP_pos_iff (p := fun r : Rr => r.2.2 == s) (l := rs) |>.1 (by omega); exact ⟨r, hr, by simpa using e⟩
theorem inN_all {s : Int} {rs : List Rr} (h : ∀ r ∈ rs, r.2.2 = s) : inN s rs = rs.length := by
  unfold inN; rw [List.countP_eq_length.2 (fun r hr => by simpa using h r hr)]

structure Tp where
  n : Int
  room : Int
  f : Int
  d : Int
  rs : List Rr
/-- TripValid. -/
def tripP (t : Tp) : Prop := (1 ≤ t.n ∧ t.n ≤ 8) ∧ (1 ≤ t.room ∧ t.room ≤ 8) ∧ (0 ≤ t.f ∧ t.f < t.n) ∧ (t.d = 1 ∨ t.d = -1) ∧ t.rs.length ≤ 8 ∧ (∀ r ∈ t.rs, ridP t.n r ∧ (r.2.2 = 1 → wayP r t.f t.d)) ∧ inN 1 t.rs ≤ t.room
open Classical in
noncomputable def tripB (t : Tp) : Bool := decide (tripP t)
theorem tripB_iff {t : Tp} : tripB t = true ↔ tripP t := by unfold tripB; simp
theorem tripB_f {t : Tp} : tripB t = false ↔ ¬ tripP t := by unfold tripB; simp

/-- The call of one rider. -/
def addCall (full : Bool) (C : Cl) (r : Rr) : Cl :=
  if r.2.2 = 1 then ⟨C.up, C.dn, C.car.set r.2.1.toNat true⟩
  else if r.2.2 = 0 ∧ full = false then (if r.1 < r.2.1 then ⟨C.up.set r.1.toNat true, C.dn, C.car⟩ else ⟨C.up, C.dn.set r.1.toNat true, C.car⟩)
  else C
def fullB (t : Tp) : Bool := decide (t.room ≤ inN 1 t.rs)
def callsTo (t : Tp) (k : Nat) : Cl := (t.rs.take k).foldl (addCall (fullB t)) (noCalls t.n.toNat)
def tripC (t : Tp) : Cl := t.rs.foldl (addCall (fullB t)) (noCalls t.n.toNat)
theorem callsTo_zero (t : Tp) : callsTo t 0 = noCalls t.n.toNat := rfl
theorem callsTo_succ {t : Tp} {k : Nat} {r : Rr} (h : t.rs[k]? = some r) : callsTo t (k + 1) = addCall (fullB t) (callsTo t k) r := by
  unfold callsTo; rw [take_snoc' t.rs k r h, List.foldl_append]; rfl
theorem callsTo_all {t : Tp} {k : Nat} (h : t.rs.length ≤ k) : callsTo t k = tripC t := by unfold callsTo tripC; rw [List.take_of_length_le h]
/-- All three lists have n places. -/
def Len (n : Int) (C : Cl) : Prop := (C.up.length : Int) = n ∧ (C.dn.length : Int) = n ∧ (C.car.length : Int) = n
theorem Len.add {n : Int} {C : Cl} (h : Len n C) (full : Bool) (r : Rr) : Len n (addCall full C r) := by
  obtain ⟨h1, h2, h3⟩ := h
  unfold addCall
  split
  · exact ⟨h1, h2, by simpa using h3⟩
  · split
    · split
      · exact ⟨by simpa using h1, h2, h3⟩
      · exact ⟨h1, by simpa using h2, h3⟩
    · exact ⟨h1, h2, h3⟩
theorem Len.no {n : Int} (h : 0 ≤ n) : Len n (noCalls n.toNat) := ⟨by simp [noCalls]; omega, by simp [noCalls]; omega, by simp [noCalls]; omega⟩
theorem Len.fold {n : Int} (full : Bool) (rs : List Rr) : ∀ {C : Cl}, Len n C → Len n (rs.foldl (addCall full) C) := by
  induction rs with
  | nil => intro C h; exact h
  | cons r rest ih => intro C h; exact ih (h.add full r)
theorem add_car {n : Int} {C : Cl} {full : Bool} {r : Rr} (hl : Len n C) (hr : ridP n r) {k : Int} (hk : 0 ≤ k) : bat (addCall full C r).car k = (bat C.car k || decide (r.2.2 = 1 ∧ r.2.1 = k)) := by
  unfold addCall
  split
  · rename_i h
    show bat (C.car.set r.2.1.toNat true) k = _
    rw [bat_set hr.2.1.1 hk true (by have := hl.2.2; have := hr.2.1; omega)]
    by_cases e : k = r.2.1
    · subst e; simp [h]
    · rw [if_neg e]
      have : ¬ (r.2.2 = 1 ∧ r.2.1 = k) := fun h => e h.2.symm
      simp [this]
  · rename_i h
    have : ¬ (r.2.2 = 1 ∧ r.2.1 = k) := fun hh => h hh.1
    split
    · split <;> simp [this]
    · simp [this]
theorem add_go {n : Int} {C : Cl} {full : Bool} {r : Rr} (hl : Len n C) (hr : ridP n r) {k e : Int} (hk : 0 ≤ k) (he : e = 1 ∨ e = -1) :
    goB (addCall full C r) e k = (goB C e k || decide (full = false ∧ r.2.2 = 0 ∧ r.1 = k ∧ dirR r = e)) := by
  have hne := hr.2.2.1
  unfold addCall
  split
  · rename_i h
    have : ¬ (full = false ∧ r.2.2 = 0 ∧ r.1 = k ∧ dirR r = e) := fun hh => by omega
    simp [goB, this]
  · rename_i h
    split
    · rename_i h2
      split
      · rename_i h3
        have hd : dirR r = 1 := by unfold dirR; simp [h3]
        unfold goB
        rcases he with rfl | rfl
        · simp only [show (0 : Int) < 1 from by omega, if_true]
          rw [bat_set hr.1.1 hk true (by have := hl.1; have := hr.1; omega)]
          by_cases e : k = r.1
          · subst e; simp [h2.1, h2.2, hd]
          · rw [if_neg e]
            have : ¬ (full = false ∧ r.2.2 = 0 ∧ r.1 = k ∧ dirR r = 1) := fun hh => e hh.2.2.1.symm
            simp [this]
        · have : ¬ (full = false ∧ r.2.2 = 0 ∧ r.1 = k ∧ dirR r = -1) := fun hh => by have := hh.2.2.2; omega
          simp [this]
      · rename_i h3
        have hd : dirR r = -1 := by unfold dirR; simp [h3]
        unfold goB
        rcases he with rfl | rfl
        · have : ¬ (full = false ∧ r.2.2 = 0 ∧ r.1 = k ∧ dirR r = 1) := fun hh => by have := hh.2.2.2; omega
          simp [this]
        · simp only [show ¬ (0 : Int) < -1 from by omega, if_false]
          rw [bat_set hr.1.1 hk true (by have := hl.2.1; have := hr.1; omega)]
          by_cases e : k = r.1
          · subst e; simp [h2.1, h2.2, hd]
          · rw [if_neg e]
            have : ¬ (full = false ∧ r.2.2 = 0 ∧ r.1 = k ∧ dirR r = -1) := fun hh => e hh.2.2.1.symm
            simp [this]
    · rename_i h2
      have : ¬ (full = false ∧ r.2.2 = 0 ∧ r.1 = k ∧ dirR r = e) := fun hh => h2 ⟨hh.2.1, hh.1⟩
      simp [this]
theorem fold_car {n : Int} {full : Bool} {rs : List Rr} {k : Int} (hk : 0 ≤ k) : ∀ {C : Cl}, Len n C → (∀ r ∈ rs, ridP n r) → (bat (rs.foldl (addCall full) C).car k = true ↔ bat C.car k = true ∨ ∃ r ∈ rs, r.2.2 = 1 ∧ r.2.1 = k) := by
  induction rs with
  | nil => intro C hl _; simp
  | cons r rest ih =>
    intro C hl hr
    rw [List.foldl_cons, ih (hl.add full r) (fun x hx => hr x (by simp [hx])), add_car hl (hr r (by simp)) hk]
    simp [or_assoc]
theorem fold_go {n : Int} {full : Bool} {rs : List Rr} {k e : Int} (hk : 0 ≤ k) (he : e = 1 ∨ e = -1) : ∀ {C : Cl}, Len n C → (∀ r ∈ rs, ridP n r) → (goB (rs.foldl (addCall full) C) e k = true ↔ goB C e k = true ∨ (full = false ∧ ∃ r ∈ rs, r.2.2 = 0 ∧ r.1 = k ∧ dirR r = e)) := by
  induction rs with
  | nil => intro C hl _; simp
  | cons r rest ih =>
    intro C hl hr
    rw [List.foldl_cons, ih (hl.add full r) (fun x hx => hr x (by simp [hx])), add_go hl (hr r (by simp)) hk he, Bool.or_eq_true, decide_eq_true_eq]
    constructor
    · rintro ((h | ⟨h1, h2⟩) | ⟨h1, x, hx, h2⟩)
      · exact .inl h
      · exact .inr ⟨h1, r, by simp, h2⟩
      · exact .inr ⟨h1, x, by simp [hx], h2⟩
    · rintro (h | ⟨h1, x, hx, h2⟩)
      · exact .inl (.inl h)
      · rcases List.mem_cons.1 hx with rfl | hx
        · exact .inl (.inr ⟨h1, h2⟩)
        · exact .inr ⟨h1, x, hx, h2⟩
theorem bat_rep (n : Nat) (k : Int) : bat (List.replicate n false) k = false := by
  unfold bat; rw [List.getElem?_replicate]; split <;> rfl
section
variable {t : Tp} (h : tripP t)
include h
theorem tripC_len : Len t.n (tripC t) := (Len.no (by have := h.1; omega)).fold _ _
theorem tripC_car {k : Int} (hk : 0 ≤ k) : bat (tripC t).car k = true ↔ ∃ r ∈ t.rs, r.2.2 = 1 ∧ r.2.1 = k := by
  unfold tripC
  rw [fold_car hk (Len.no (by have := h.1; omega)) (fun r hr => (h.2.2.2.2.2.1 r hr).1)]
  simp [noCalls, bat_rep]
theorem tripC_go {k e : Int} (hk : 0 ≤ k) (he : e = 1 ∨ e = -1) : goB (tripC t) e k = true ↔ inN 1 t.rs < t.room ∧ ∃ r ∈ t.rs, r.2.2 = 0 ∧ r.1 = k ∧ dirR r = e := by
  unfold tripC
  rw [fold_go hk he (Len.no (by have := h.1; omega)) (fun r hr => (h.2.2.2.2.2.1 r hr).1)]
  have : goB (noCalls t.n.toNat) e k = false := by unfold goB noCalls; split <;> exact bat_rep _ _
  rw [this]
  simp [fullB]
theorem tripC_valid : callsP (tripC t) := by
  obtain ⟨l1, l2, l3⟩ := tripC_len h
  obtain ⟨n1, n2⟩ := h.1
  have hv := h.2.2.2.2.2.1
  refine ⟨by omega, by omega, by omega, by omega, ?_, ?_⟩
  · have e : (tripC t).up[((t.n - 1)).toNat]? = some (bat (tripC t).up (t.n - 1)) := bat_some (by omega) (by omega)
    rw [show (tripC t).car.length - 1 = (t.n - 1).toNat from by omega, e]
    cases hb : bat (tripC t).up (t.n - 1)
    · rfl
    · exfalso
      have hg : goB (tripC t) 1 (t.n - 1) = true := by unfold goB; simp [hb]
      obtain ⟨-, r, hr, -, e1, e2⟩ := (tripC_go h (by omega) (.inl rfl)).1 hg
      have := (hv r hr).1.2.1
      unfold dirR at e2
      split at e2 <;> omega
  · have e : (tripC t).dn[((0 : Int)).toNat]? = some (bat (tripC t).dn 0) := bat_some (by omega) (by omega)
    rw [show (0 : Nat) = (0 : Int).toNat from rfl, e]
    cases hb : bat (tripC t).dn 0
    · rfl
    · exfalso
      have hg : goB (tripC t) (-1) 0 = true := by unfold goB; simp [hb]
      obtain ⟨-, r, hr, -, e1, e2⟩ := (tripC_go h (by omega) (.inr rfl)).1 hg
      have := (hv r hr).1
      have := this.2.1; have := (hv r hr).1.2.2.1
      unfold dirR at e2
      split at e2 <;> omega
/-- No calls: all have arrived. -/
theorem many_done : manyC (tripC t) = 0 ↔ ∀ r ∈ t.rs, r.2.2 = 2 := by
  have hC := tripC_valid h
  obtain ⟨l1, l2, l3⟩ := tripC_len h
  have hv := h.2.2.2.2.2.1
  constructor
  · intro hm r hr
    have hr2 := (hv r hr).1
    have z : cnt (tripC t).up = 0 ∧ cnt (tripC t).dn = 0 ∧ cnt (tripC t).car = 0 := by
      unfold manyC at hm; have := cnt_bd (tripC t).up; have := cnt_bd (tripC t).dn; have := cnt_bd (tripC t).car; omega
    have noin : ∀ r ∈ t.rs, r.2.2 ≠ 1 := fun r hr h1 => by
      have hb := (tripC_car h (hv r hr).1.2.1.1).2 ⟨r, hr, h1, rfl⟩
      have := cnt_zero.1 z.2.2 _ (List.mem_of_getElem? (bat_some (hv r hr).1.2.1.1 (by have := (hv r hr).1.2.1; omega)))
      rw [hb] at this; cases this
    have nowait : r.2.2 ≠ 0 := fun h0 => by
      have hz : ¬ 0 < inN 1 t.rs := fun hp => by obtain ⟨x, hx, e⟩ := inN_ex hp; exact noin x hx e
      have hb := (tripC_go h hr2.1.1 (dirR_or r)).2 ⟨by have := h.2.1; omega, r, hr, h0, rfl, rfl⟩
      unfold goB at hb
      split at hb
      · have := cnt_zero.1 z.1 _ (List.mem_of_getElem? (bat_some hr2.1.1 (by have := hr2.1; omega)))
        rw [hb] at this; cases this
      · have := cnt_zero.1 z.2.1 _ (List.mem_of_getElem? (bat_some hr2.1.1 (by have := hr2.1; omega)))
        rw [hb] at this; cases this
    have := noin r hr; have := hr2.2.2.2; omega
  · intro hd
    refine none_many (d := 1) hC (.inl rfl) fun y y0 y1 => ⟨hit_f ?_ ?_, ?_⟩
    · cases hb : bat (tripC t).car y
      · rfl
      · obtain ⟨r, hr, e, -⟩ := (tripC_car h y0).1 hb; have := hd r hr; omega
    · cases hb : goB (tripC t) 1 y
      · rfl
      · obtain ⟨-, r, hr, e, -⟩ := (tripC_go h y0 (.inl rfl)).1 hb; have := hd r hr; omega
    · cases hb : goB (tripC t) (-1) y
      · rfl
      · obtain ⟨-, r, hr, e, -⟩ := (tripC_go h y0 (.inr rfl)).1 hb; have := hd r hr; omega
end

/-- Who gets out; who gets in, as long as there is room. -/
def outR (g : Int) (r : Rr) : Rr := if r.2.2 = 1 ∧ r.2.1 = g then (r.1, r.2.1, 2) else r
def canIn (g e m : Int) (r : Rr) : Prop := 0 < m ∧ r.2.2 = 0 ∧ r.1 = g ∧ dirR r = e
instance (g e m : Int) (r : Rr) : Decidable (canIn g e m r) := by unfold canIn; exact inferInstance
def ride (r : Rr) : Rr := (r.1, r.2.1, 1)
def boardL (g e : Int) : Int → List Rr → List Rr
  | _, [] => []
  | m, r :: rest => if canIn g e m r then ride r :: boardL g e (m - 1) rest else r :: boardL g e m rest
def leftN (g e : Int) : Int → List Rr → Int
  | m, [] => m
  | m, r :: rest => if canIn g e m r then leftN g e (m - 1) rest else leftN g e m rest
theorem board_snoc (g e : Int) (xs : List Rr) (x : Rr) : ∀ m, boardL g e m (xs ++ [x]) = boardL g e m xs ++ [if canIn g e (leftN g e m xs) x then ride x else x] := by
  induction xs with
  | nil => intro m; simp only [List.nil_append, boardL, leftN]; split <;> rename_i h <;> simp [h]
  | cons r rest ih => intro m; simp only [List.cons_append, boardL, leftN]; split <;> simp [ih]
theorem left_snoc (g e : Int) (xs : List Rr) (x : Rr) : ∀ m, leftN g e m (xs ++ [x]) = leftN g e m xs - if canIn g e (leftN g e m xs) x then 1 else 0 := by
  induction xs with
  | nil => intro m; simp only [List.nil_append, leftN]; split <;> rename_i h <;> simp [h]
  | cons r rest ih => intro m; simp only [List.cons_append, leftN]; split <;> simp [ih]
theorem board_len (g e : Int) (xs : List Rr) : ∀ m, (boardL g e m xs).length = xs.length := by
  induction xs with
  | nil => intro m; rfl
  | cons r rest ih => intro m; simp only [boardL]; split <;> simp [ih]
theorem left_bd (g e : Int) (xs : List Rr) : ∀ m, 0 ≤ m → 0 ≤ leftN g e m xs ∧ leftN g e m xs ≤ m := by
  induction xs with
  | nil => intro m h; exact ⟨h, Int.le_refl _⟩
  | cons r rest ih =>
    intro m h
    simp only [leftN]
    split
    · rename_i hc; have := ih (m - 1) (by have := hc.1; omega); omega
    · exact ih m h
theorem board_get (g e : Int) (xs : List Rr) : ∀ m (i : Nat) (r : Rr), xs[i]? = some r → ∃ r', (boardL g e m xs)[i]? = some r' ∧ (r' = r ∨ (r' = ride r ∧ r.2.2 = 0 ∧ r.1 = g ∧ dirR r = e)) := by
  induction xs with
  | nil => intro m i r h; simp at h
  | cons x rest ih =>
    intro m i r h
    simp only [boardL]
    cases i with
    | zero =>
      simp at h; subst h
      split
      · rename_i hc; exact ⟨ride x, rfl, .inr ⟨rfl, hc.2⟩⟩
      · exact ⟨x, rfl, .inl rfl⟩
    | succ i =>
      simp at h
      split
      · exact ih (m - 1) i r h
      · exact ih m i r h
theorem board_in (g e : Int) (xs : List Rr) : ∀ m, inN 1 (boardL g e m xs) = inN 1 xs + (m - leftN g e m xs) := by
  induction xs with
  | nil => intro m; simp only [boardL, leftN, inN_nil]; omega
  | cons r rest ih =>
    intro m
    simp only [boardL, leftN]
    split
    · rename_i hc
      rw [inN_cons, inN_cons, ih (m - 1)]
      have : r.2.2 = 0 := hc.2.1
      simp [ride, this]; omega
    · rw [inN_cons, inN_cons, ih m]; omega
theorem board_wait (g e : Int) (xs : List Rr) : ∀ m, inN 0 (boardL g e m xs) = inN 0 xs - (m - leftN g e m xs) := by
  induction xs with
  | nil => intro m; simp only [boardL, leftN, inN_nil]; omega
  | cons r rest ih =>
    intro m
    simp only [boardL, leftN]
    split
    · rename_i hc
      rw [inN_cons, inN_cons, ih (m - 1)]
      have : r.2.2 = 0 := hc.2.1
      simp [ride, this]; omega
    · rw [inN_cons, inN_cons, ih m]; omega
theorem board_some (g e : Int) (xs : List Rr) : ∀ m, leftN g e m xs < m → ∃ (i : Nat) (r : Rr), xs[i]? = some r ∧ (boardL g e m xs)[i]? = some (ride r) ∧ r.2.2 = 0 := by
  induction xs with
  | nil => intro m h; simp only [leftN] at h; omega
  | cons x rest ih =>
    intro m h
    simp only [leftN, boardL] at h ⊢
    split
    · rename_i hc; exact ⟨0, x, rfl, rfl, hc.2.1⟩
    · rename_i hc
      rw [if_neg hc] at h
      obtain ⟨i, r, h1, h2, h3⟩ := ih m h
      exact ⟨i + 1, r, by simpa using h1, by simpa using h2, h3⟩
theorem left_less (g e : Int) (xs : List Rr) : ∀ m, 0 < m → (∃ r ∈ xs, r.2.2 = 0 ∧ r.1 = g ∧ dirR r = e) → leftN g e m xs < m := by
  induction xs with
  | nil => intro m _ h; obtain ⟨r, hr, -⟩ := h; simp at hr
  | cons x rest ih =>
    intro m hm h
    simp only [leftN]
    split
    · have := left_bd g e rest (m - 1) (by omega); omega
    · rename_i hc
      obtain ⟨r, hr, h2⟩ := h
      rcases List.mem_cons.1 hr with rfl | hr
      · exact absurd ⟨hm, h2⟩ hc
      · exact ih m hm ⟨r, hr, h2⟩
theorem out_in (g : Int) (xs : List Rr) : inN 1 (xs.map (outR g)) ≤ inN 1 xs ∧ 0 ≤ inN 1 (xs.map (outR g)) ∧ inN 0 (xs.map (outR g)) = inN 0 xs := by
  induction xs with
  | nil => simp [inN_nil]
  | cons r rest ih =>
    rw [List.map_cons, inN_cons, inN_cons, inN_cons, inN_cons]
    unfold outR at ih ⊢
    split
    · rename_i h; simp [h.1]; omega
    · split <;> split <;> omega
theorem out_less (g : Int) (xs : List Rr) (h : ∃ r ∈ xs, r.2.2 = 1 ∧ r.2.1 = g) : inN 1 (xs.map (outR g)) < inN 1 xs := by
  induction xs with
  | nil => obtain ⟨r, hr, -⟩ := h; simp at hr
  | cons x rest ih =>
    rw [List.map_cons, inN_cons, inN_cons]
    obtain ⟨r, hr, h2⟩ := h
    have hb := out_in g rest
    rcases List.mem_cons.1 hr with rfl | hr
    · have : (outR g r).2.2 = 2 := by unfold outR; rw [if_pos h2]
      rw [this, h2.1]; simp; omega
    · have := ih ⟨r, hr, h2⟩
      unfold outR at this hb ⊢
      split
      · rename_i h; simp [h.1]; omega
      · split <;> omega
def stepTo (t : Tp) (g e : Int) : Tp := ⟨t.n, t.room, g, e, boardL g e (t.room - inN 1 (t.rs.map (outR g))) (t.rs.map (outR g))⟩
def stepO (t : Tp) : Option Tp :=
  match nextO (tripC t) t.f t.d with
  | none => none
  | some r => some (stepTo t r.1 r.2)
theorem step_none {t : Tp} (h : nextO (tripC t) t.f t.d = none) : stepO t = none := by unfold stepO; rw [h]
theorem step_some {t : Tp} {g e : Int} (h : nextO (tripC t) t.f t.d = some (g, e)) : stepO t = some (stepTo t g e) := by unfold stepO; rw [h]
/-- What became of one rider. -/
theorem step_get {t : Tp} {g e : Int} {i : Nat} {r : Rr} (h : t.rs[i]? = some r) : ∃ r', (stepTo t g e).rs[i]? = some r' ∧ r'.1 = r.1 ∧ r'.2.1 = r.2.1 ∧
    ((r.2.2 = 1 ∧ r.2.1 = g ∧ r'.2.2 = 2) ∨ (r.2.2 = 1 ∧ r.2.1 ≠ g ∧ r'.2.2 = 1) ∨ (r.2.2 ≠ 1 ∧ r' = r) ∨ (r.2.2 = 0 ∧ r'.2.2 = 1 ∧ r.1 = g ∧ dirR r = e)) := by
  obtain ⟨r', h1, h2⟩ := board_get g e (t.rs.map (outR g)) (t.room - inN 1 (t.rs.map (outR g))) i (outR g r) (by rw [List.getElem?_map, h]; rfl)
  refine ⟨r', h1, ?_⟩
  have ho : (outR g r).1 = r.1 ∧ (outR g r).2.1 = r.2.1 := by unfold outR; split <;> exact ⟨rfl, rfl⟩
  have hdir : dirR (outR g r) = dirR r := by unfold dirR; rw [ho.1, ho.2]
  by_cases hc : r.2.2 = 1 ∧ r.2.1 = g
  · have e2 : outR g r = (r.1, r.2.1, 2) := by unfold outR; rw [if_pos hc]
    rcases h2 with rfl | ⟨-, h3, -⟩
    · rw [e2]; exact ⟨rfl, rfl, .inl ⟨hc.1, hc.2, rfl⟩⟩
    · rw [e2] at h3; simp at h3
  · have e2 : outR g r = r := by unfold outR; rw [if_neg hc]
    rw [e2] at h2
    rcases h2 with rfl | ⟨rfl, h3, h4, h5⟩
    · refine ⟨rfl, rfl, ?_⟩
      by_cases h1 : r'.2.2 = 1
      · exact .inr (.inl ⟨h1, fun hg => hc ⟨h1, hg⟩, h1⟩)
      · exact .inr (.inr (.inl ⟨h1, rfl⟩))
    · exact ⟨rfl, rfl, .inr (.inr (.inr ⟨h3, rfl, h4, h5⟩))⟩
/-- Whoever is in the car: the car goes on to them, at most as far as To. -/
theorem step_inside {t : Tp} (h : tripP t) {g e : Int} (hn : nextO (tripC t) t.f t.d = some (g, e)) {r : Rr} (hr : r ∈ t.rs) (h1 : r.2.2 = 1) : e = t.d ∧ 0 ≤ (g - t.f) * t.d ∧ 0 ≤ (r.2.1 - g) * t.d := by
  obtain ⟨hr1, hw⟩ := h.2.2.2.2.2.1 r hr
  obtain ⟨w1, w2, w3⟩ := hw h1
  obtain ⟨l1, l2, l3⟩ := tripC_len h
  have hd := h.2.2.2.1
  have hf := h.2.2.1
  have hc := (tripC_car h hr1.2.1.1).2 ⟨r, hr, h1, rfl⟩
  have hh : hitB (tripC t) t.d r.2.1 = true := by unfold hitB; simp [hc]
  have hi := next_is (C := tripC t) (f := t.f) (d := t.d) (by omega) hd
  rw [hn] at hi
  have hto := hr1.2.1
  generalize hs : some (g, e) = s at hi
  cases hi with
  | ahead g' h1 h2 h3 h4 =>
    injection hs with hs; injection hs with e1 e2; subst e1; subst e2
    refine ⟨rfl, h1, ?_⟩
    by_cases hlt : 0 < (g - r.2.1) * t.d
    · rw [h4 r.2.1 (by omega) hlt] at hh; cases hh
    · rcases hd with hd | hd <;> rw [hd] at hlt ⊢ <;> omega
  | turn g' h1 h2 h3 h4 h5 => rw [h4 r.2.1 hto.1 (by omega) (by omega)] at hh; cases hh
  | back g' h0 h1 h2 h3 h4 => rw [(h0 r.2.1 hto.1 (by omega) (by omega)).1] at hh; cases hh
  | again g' h0 h1 h2 h3 h4 h5 => rw [(h0 r.2.1 hto.1 (by omega) (by omega)).1] at hh; cases hh
  | none h0 => cases hs
theorem step_valid {t : Tp} (h : tripP t) {g e : Int} (hn : nextO (tripC t) t.f t.d = some (g, e)) : tripP (stepTo t g e) := by
  obtain ⟨l1, l2, l3⟩ := tripC_len h
  obtain ⟨g1, g2, g3⟩ := next_good (by have := h.2.2.1; omega) h.2.2.2.1 hn
  have ho := out_in g t.rs
  have hroom := h.2.2.2.2.2.2
  refine ⟨h.1, h.2.1, by show 0 ≤ g ∧ g < t.n; omega, g2, by show (boardL _ _ _ _).length ≤ 8; rw [board_len]; simpa using h.2.2.2.2.1, ?_, ?_⟩
  · intro r' hr'
    obtain ⟨i, hi⟩ := List.mem_iff_getElem?.1 hr'
    have hil : i < t.rs.length := by have := getElem?_lt hi; unfold stepTo at this; simp only [board_len] at this; simpa using this
    have hr : t.rs[i]? = some t.rs[i] := List.getElem?_eq_getElem hil
    obtain ⟨r2, e2, a1, a2, a3⟩ := step_get (g := g) (e := e) hr
    rw [hi] at e2; injection e2 with e2; subst e2
    have hmem := List.mem_of_getElem? hr
    generalize t.rs[i] = r at *
    obtain ⟨b1, b2⟩ := h.2.2.2.2.2.1 r hmem
    obtain ⟨c1, c2, c3, c4⟩ := b1
    have hdir : dirR r' = dirR r := by unfold dirR; rw [a1, a2]
    refine ⟨⟨by rw [a1]; exact c1, by rw [a2]; exact c2, by rw [a1, a2]; exact c3, ?_⟩, fun hs => ?_⟩
    · rcases a3 with ⟨-, -, q⟩ | ⟨-, -, q⟩ | ⟨-, q⟩ | ⟨-, q, -⟩
      · omega
      · omega
      · rw [q]; exact c4
      · omega
    · show wayP r' g e
      rcases a3 with ⟨-, -, q⟩ | ⟨q1, q2, q⟩ | ⟨q1, q⟩ | ⟨-, -, q3, q4⟩
      · omega
      · obtain ⟨s1, s2, s3⟩ := step_inside h hn hmem q1
        obtain ⟨w1, w2, w3⟩ := b2 q1
        refine ⟨by rw [hdir, w1, s1], ?_, ?_⟩
        · rw [a1, s1]; rcases h.2.2.2.1 with hd | hd <;> rw [hd] at s2 w2 ⊢ <;> omega
        · rw [a2, s1]; rcases h.2.2.2.1 with hd | hd <;> rw [hd] at s3 ⊢ <;> omega
      · rw [q] at hs; exact absurd hs q1
      · refine ⟨by rw [hdir, q4], by rw [a1, q3]; simp, ?_⟩
        rw [a2, ← q3, ← q4]
        unfold dirR; split <;> omega
  · show inN 1 (boardL _ _ _ _) ≤ t.room
    rw [board_in]
    have := left_bd g e (t.rs.map (outR g)) (t.room - inN 1 (t.rs.map (outR g))) (by omega)
    omega
/-- At every stop somebody gets in or out. -/
theorem step_moves {t : Tp} (h : tripP t) {g e : Int} (hn : nextO (tripC t) t.f t.d = some (g, e)) :
    2 * inN 0 (stepTo t g e).rs + inN 1 (stepTo t g e).rs < 2 * inN 0 t.rs + inN 1 t.rs ∧ ∃ (i : Nat) (a b : Rr), t.rs[i]? = some a ∧ (stepTo t g e).rs[i]? = some b ∧ a.2.2 ≠ b.2.2 := by
  obtain ⟨l1, l2, l3⟩ := tripC_len h
  obtain ⟨g1, g2, g3⟩ := next_good (by have := h.2.2.1; omega) h.2.2.2.1 hn
  have ho := out_in g t.rs
  have hroom := h.2.2.2.2.2.2
  have hb := left_bd g e (t.rs.map (outR g)) (t.room - inN 1 (t.rs.map (outR g))) (by omega)
  have e1 : inN 1 (stepTo t g e).rs = _ := board_in g e (t.rs.map (outR g)) (t.room - inN 1 (t.rs.map (outR g)))
  have e0 : inN 0 (stepTo t g e).rs = _ := board_wait g e (t.rs.map (outR g)) (t.room - inN 1 (t.rs.map (outR g)))
  unfold hitB at g3
  rw [Bool.or_eq_true] at g3
  rcases g3 with g3 | g3
  · obtain ⟨r, hr, h1, h2⟩ := (tripC_car h g1.1).1 g3
    have hl := out_less g t.rs ⟨r, hr, h1, h2⟩
    refine ⟨by omega, ?_⟩
    obtain ⟨i, hi⟩ := List.mem_iff_getElem?.1 hr
    obtain ⟨r', a0, -, -, a3⟩ := step_get (g := g) (e := e) hi
    refine ⟨i, r, r', hi, a0, ?_⟩
    rcases a3 with ⟨-, -, q⟩ | ⟨-, q, -⟩ | ⟨q, -⟩ | ⟨q, -⟩
    · omega
    · exact absurd h2 q
    · exact absurd h1 q
    · omega
  · obtain ⟨hf, r, hr, h1, h2, h3⟩ := (tripC_go h g1.1 g2).1 g3
    have hl : leftN g e (t.room - inN 1 (t.rs.map (outR g))) (t.rs.map (outR g)) < t.room - inN 1 (t.rs.map (outR g)) := by
      refine left_less g e _ _ (by omega) ⟨outR g r, List.mem_map_of_mem hr, ?_⟩
      have : outR g r = r := by unfold outR; rw [if_neg (by omega)]
      rw [this]; exact ⟨h1, h2, h3⟩
    refine ⟨by omega, ?_⟩
    obtain ⟨i, x, x1, x2, x3⟩ := board_some g e _ _ hl
    have hil : i < t.rs.length := by have := getElem?_lt x1; simpa using this
    have hr : t.rs[i]? = some t.rs[i] := List.getElem?_eq_getElem hil
    refine ⟨i, _, _, hr, x2, ?_⟩
    rw [List.getElem?_map, hr] at x1
    injection x1 with x1
    intro q
    have : (ride x).2.2 = 1 := rfl
    rw [this] at q
    unfold outR at x1
    rw [← x1] at x3
    split at x3
    · simp at x3
    · omega
def measT (t : Tp) : Int := 2 * inN 0 t.rs + inN 1 t.rs
theorem measT_nonneg (t : Tp) : 0 ≤ measT t := by unfold measT; have := inN_bd 0 t.rs; have := inN_bd 1 t.rs; omega
theorem stepO_cases {t t' : Tp} (h : tripP t) (hs : stepO t = some t') : tripP t' ∧ measT t' < measT t := by
  unfold stepO at hs
  cases hn : nextO (tripC t) t.f t.d with
  | none => rw [hn] at hs; cases hs
  | some r =>
    rw [hn] at hs; injection hs with hs; subst hs
    exact ⟨step_valid h hn, (step_moves h hn).1⟩
theorem stepO_done {t : Tp} (h : tripP t) (hs : stepO t = none) : (∀ r ∈ t.rs, r.2.2 = 2) ∧ nextO (tripC t) t.f t.d = none := by
  unfold stepO at hs
  cases hn : nextO (tripC t) t.f t.d with
  | none =>
    obtain ⟨l1, l2, l3⟩ := tripC_len h
    exact ⟨(many_done h).1 (next_none (tripC_valid h) (by have := h.2.2.1; omega) h.2.2.2.1 hn), rfl⟩
  | some r => rw [hn] at hs; cases hs
def endF : Nat → Tp → Tp
  | 0, t => t
  | n + 1, t => match stepO t with
    | none => t
    | some t' => endF n t'
def cntF : Nat → Tp → Int
  | 0, _ => 0
  | n + 1, t => match stepO t with
    | none => 0
    | some t' => 1 + cntF n t'
def endT (t : Tp) : Tp := endF (measT t).toNat t
def stopsT (t : Tp) : Int := cntF (measT t).toNat t
theorem stop_zero {t : Tp} (h : tripP t) (hm : measT t ≤ 0) : stepO t = none := by
  cases hs : stepO t with
  | none => rfl
  | some t' => have := stepO_cases h hs; have := measT_nonneg t'; omega
theorem runF_eq : ∀ (n m : Nat) (t : Tp), tripP t → measT t ≤ n → measT t ≤ m → endF n t = endF m t ∧ cntF n t = cntF m t := by
  intro n
  induction n with
  | zero =>
    intro m t h hn _
    cases m with
    | zero => exact ⟨rfl, rfl⟩
    | succ m => simp [endF, cntF, stop_zero h (by omega)]
  | succ n ih =>
    intro m t h hn hm
    cases m with
    | zero => simp [endF, cntF, stop_zero h (by omega)]
    | succ m =>
      cases hs : stepO t with
      | none => simp [endF, cntF, hs]
      | some t' =>
        obtain ⟨a, b⟩ := stepO_cases h hs
        obtain ⟨c1, c2⟩ := ih m t' a (by omega) (by omega)
        simp only [endF, cntF, hs]
        rw [c1, c2]; exact ⟨rfl, rfl⟩
theorem run_none {t : Tp} (h : stepO t = none) : endT t = t ∧ stopsT t = 0 := by
  unfold endT stopsT
  cases (measT t).toNat with
  | zero => exact ⟨rfl, rfl⟩
  | succ n => simp [endF, cntF, h]
theorem run_some {t t' : Tp} (h : tripP t) (hs : stepO t = some t') : endT t = endT t' ∧ stopsT t = 1 + stopsT t' := by
  obtain ⟨a, b⟩ := stepO_cases h hs
  have := measT_nonneg t'
  obtain ⟨m, hm⟩ : ∃ m, (measT t).toNat = m + 1 := ⟨(measT t).toNat - 1, by omega⟩
  obtain ⟨c1, c2⟩ := runF_eq m (measT t').toNat t' a (by omega) (by omega)
  unfold endT stopsT
  rw [hm]
  simp only [endF, cntF, hs]
  rw [c1, c2]; exact ⟨rfl, rfl⟩
theorem trip_ind {Q : Tp → Prop} (hnone : ∀ t, tripP t → stepO t = none → Q t) (hsome : ∀ t t', tripP t → stepO t = some t' → Q t' → Q t) : ∀ t, tripP t → Q t := by
  have main : ∀ (n : Nat) t, measT t ≤ n → tripP t → Q t := by
    intro n
    induction n with
    | zero => intro t hm h; exact hnone t h (stop_zero h (by omega))
    | succ n ih =>
      intro t hm h
      cases hs : stepO t with
      | none => exact hnone t h hs
      | some t' => obtain ⟨a, b⟩ := stepO_cases h hs; exact hsome t t' h hs (ih t' (by omega) a)
  intro t
  exact main (measT t).toNat t (by have := measT_nonneg t; omega)
theorem stops_bd (t : Tp) (h : tripP t) : 0 ≤ stopsT t ∧ stopsT t ≤ measT t := by
  refine trip_ind (Q := fun t => 0 ≤ stopsT t ∧ stopsT t ≤ measT t) (fun t h hs => ?_) (fun t t' h hs ih => ?_) t h
  · rw [(run_none hs).2]; have := measT_nonneg t; omega
  · rw [(run_some h hs).2]; have := stepO_cases h hs; omega
theorem end_good (t : Tp) (h : tripP t) : tripP (endT t) ∧ stepO (endT t) = none ∧ (endT t).rs.length = t.rs.length ∧ (endT t).n = t.n := by
  refine trip_ind (Q := fun t => tripP (endT t) ∧ stepO (endT t) = none ∧ (endT t).rs.length = t.rs.length ∧ (endT t).n = t.n) (fun t h hs => ?_) (fun t t' h hs ih => ?_) t h
  · rw [(run_none hs).1]; exact ⟨h, hs, rfl, rfl⟩
  · rw [(run_some h hs).1]
    obtain ⟨a, b, c, d⟩ := ih
    refine ⟨a, b, c.trans ?_, d.trans ?_⟩
    · unfold stepO at hs
      cases hn : nextO (tripC t) t.f t.d with
      | none => rw [hn] at hs; cases hs
      | some r => rw [hn] at hs; injection hs with hs; subst hs; show (boardL _ _ _ _).length = _; rw [board_len]; simp
    · unfold stepO at hs
      cases hn : nextO (tripC t) t.f t.d with
      | none => rw [hn] at hs; cases hs
      | some r => rw [hn] at hs; injection hs with hs; subst hs; rfl
end Go.Proofs.Ytbkjgiomamlajaa
