/- Ways between floors, tours, the shortest tour: plain lists and numbers. -/
import Derived.Test.YtddlnafkacogiaaVisits
namespace Go.Proofs.Ytddlnafkacogiaa

def hgt (fs : List Int) (a : Int) : Int := (fs[a.toNat]?).getD 0
def far (a b : Int) : Int := if a < b then b - a else a - b
theorem far_nonneg (a b : Int) : 0 ≤ far a b := by unfold far; split <;> omega
theorem far_comm (a b : Int) : far a b = far b a := by unfold far; split <;> split <;> omega
theorem far_tri (a b c : Int) : far a c ≤ far a b + far b c := by unfold far; split <;> split <;> split <;> omega
theorem far_self (a : Int) : far a a = 0 := by unfold far; split <;> omega
theorem far_up {a b : Int} (h : a ≤ b) : far a b = b - a := by unfold far; split <;> omega
theorem far_dn {a b : Int} (h : b ≤ a) : far a b = a - b := by unfold far; split <;> omega
theorem far_le {a b : Int} (ha : 0 ≤ a ∧ a ≤ 60) (hb : 0 ≤ b ∧ b ≤ 60) : far a b ≤ 60 := by unfold far; split <;> omega
theorem hgt_at {fs : List Int} {k : Nat} {x : Int} (h : fs[k]? = some x) : hgt fs k = x := by unfold hgt; simp [h]
theorem hgt_some {fs : List Int} {a : Int} (h0 : 0 ≤ a) (h1 : a < fs.length) : fs[a.toNat]? = some (hgt fs a) := by
  unfold hgt; rw [List.getElem?_eq_getElem (by omega)]; rfl
theorem hgt_bd {fs : List Int} (h : floorsP fs) (a : Int) : 0 ≤ hgt fs a ∧ hgt fs a ≤ 60 := by
  unfold hgt
  cases e : fs[a.toNat]? with
  | none => simp
  | some x => exact floorsP_range h e
theorem hgt_mono {fs : List Int} (h : floorsP fs) {a b : Int} (h0 : 0 ≤ a) (hab : a ≤ b) (hb : b < fs.length) : hgt fs a ≤ hgt fs b := by
  by_cases e : a = b
  · subst e; omega
  · have := h.2.2.2.1.lt (i := a.toNat) (j := b.toNat) (by omega) (by omega) (hgt_some h0 (by omega)) (hgt_some (by omega) hb); omega

/-- FloorWay. -/
noncomputable def wayB (fs : List Int) (a b : Int) : Int := if floorsB fs && (inB a 0 ((fs.length : Int) - 1) && inB b 0 ((fs.length : Int) - 1)) then far (hgt fs a) (hgt fs b) else -1
theorem wayB_yes {fs : List Int} {a b : Int} (h : floorsB fs = true) (ha : inB a 0 ((fs.length : Int) - 1) = true) (hb : inB b 0 ((fs.length : Int) - 1) = true) : wayB fs a b = far (hgt fs a) (hgt fs b) := by
  unfold wayB; simp [h, ha, hb]
theorem wayB_nof {fs : List Int} {a b : Int} (h : floorsB fs = false) : wayB fs a b = -1 := by unfold wayB; simp [h]
theorem wayB_noa {fs : List Int} {a b : Int} (h : inB a 0 ((fs.length : Int) - 1) = false) : wayB fs a b = -1 := by unfold wayB; simp [h]
theorem wayB_nob {fs : List Int} {a b : Int} (h : inB b 0 ((fs.length : Int) - 1) = false) : wayB fs a b = -1 := by unfold wayB; simp [h]
theorem wayB_bd (fs : List Int) (a b : Int) : -1 ≤ wayB fs a b ∧ wayB fs a b ≤ 60 := by
  unfold wayB
  split
  · rename_i h
    simp at h
    have hp := floorsB_iff.1 h.1
    have := far_nonneg (hgt fs a) (hgt fs b)
    have := far_le (hgt_bd hp a) (hgt_bd hp b)
    omega
  · omega

/-- The way over a list, from a floor on. -/
def pathL (fs : List Int) : Int → List Int → Int
  | _, [] => 0
  | a, x :: r => far (hgt fs a) (hgt fs x) + pathL fs x r
def lastOf : Int → List Int → Int
  | a, [] => a
  | _, x :: r => lastOf x r
theorem lastOf_append (a : Int) (xs ys : List Int) : lastOf a (xs ++ ys) = lastOf (lastOf a xs) ys := by
  induction xs generalizing a with
  | nil => rfl
  | cons x r ih => exact ih x
theorem lastOf_snoc (a : Int) (xs : List Int) (x : Int) : lastOf a (xs ++ [x]) = x := by rw [lastOf_append]; rfl
theorem pathL_append (fs : List Int) (a : Int) (xs ys : List Int) : pathL fs a (xs ++ ys) = pathL fs a xs + pathL fs (lastOf a xs) ys := by
  induction xs generalizing a with
  | nil => simp [pathL, lastOf]
  | cons x r ih => simp only [List.cons_append, pathL, lastOf, ih x]; omega
theorem pathL_snoc (fs : List Int) (a : Int) (xs : List Int) (x : Int) : pathL fs a (xs ++ [x]) = pathL fs a xs + far (hgt fs (lastOf a xs)) (hgt fs x) := by
  rw [pathL_append]; simp [pathL]
theorem pathL_nonneg (fs : List Int) (a : Int) (xs : List Int) : 0 ≤ pathL fs a xs := by
  induction xs generalizing a with
  | nil => simp [pathL]
  | cons x r ih => have := ih x; have := far_nonneg (hgt fs a) (hgt fs x); simp only [pathL]; omega
theorem pathL_le {fs : List Int} (h : floorsP fs) (a : Int) (xs : List Int) : pathL fs a xs ≤ 60 * xs.length := by
  induction xs generalizing a with
  | nil => simp [pathL]
  | cons x r ih => have := ih x; have := far_le (hgt_bd h a) (hgt_bd h x); simp only [pathL, List.length_cons]; omega
theorem pathL_last (fs : List Int) (a : Int) (xs : List Int) : far (hgt fs a) (hgt fs (lastOf a xs)) ≤ pathL fs a xs := by
  induction xs generalizing a with
  | nil => simp [pathL, lastOf, far_self]
  | cons x r ih => have := ih x; have := far_tri (hgt fs a) (hgt fs x) (hgt fs (lastOf x r)); simp only [pathL, lastOf]; omega
theorem pathL_mem (fs : List Int) (a p : Int) (xs : List Int) (h : p ∈ xs) : far (hgt fs a) (hgt fs p) ≤ pathL fs a xs := by
  induction xs generalizing a with
  | nil => simp at h
  | cons x r ih =>
    simp only [pathL]
    rcases List.mem_cons.1 h with rfl | h
    · have := pathL_nonneg fs p r; omega
    · have := ih x h; have := far_tri (hgt fs a) (hgt fs x) (hgt fs p); omega
theorem pathL_two (fs : List Int) (a p q : Int) (xs : List Int) (hp : p ∈ xs) (hq : q ∈ xs) :
    far (hgt fs a) (hgt fs p) + far (hgt fs p) (hgt fs q) ≤ pathL fs a xs ∨ far (hgt fs a) (hgt fs q) + far (hgt fs p) (hgt fs q) ≤ pathL fs a xs := by
  induction xs generalizing a with
  | nil => simp at hp
  | cons x r ih =>
    simp only [pathL]
    rcases List.mem_cons.1 hp with rfl | hp2
    · left
      rcases List.mem_cons.1 hq with rfl | hq
      · have := pathL_nonneg fs q r; rw [far_self]; omega
      · have := pathL_mem fs p q r hq; omega
    · rcases List.mem_cons.1 hq with rfl | hq
      · right
        have := pathL_mem fs q p r hp2; have := far_comm (hgt fs p) (hgt fs q); omega
      · have t1 := far_tri (hgt fs a) (hgt fs x) (hgt fs p)
        have t2 := far_tri (hgt fs a) (hgt fs x) (hgt fs q)
        rcases ih x hp2 hq with h | h
        · left; omega
        · right; omega
theorem pathL_up {fs : List Int} (h : floorsP fs) (a : Int) (xs : List Int) (h0 : 0 ≤ a) (hp : xs.Pairwise (· < ·)) (ha : ∀ x ∈ xs, a ≤ x ∧ x < fs.length) : pathL fs a xs = hgt fs (lastOf a xs) - hgt fs a := by
  induction xs generalizing a with
  | nil => simp [pathL, lastOf]
  | cons x r ih =>
    have hx := ha x (by simp)
    rw [List.pairwise_cons] at hp
    simp only [pathL, lastOf]
    rw [far_up (hgt_mono h h0 hx.1 hx.2), ih x (by omega) hp.2 (fun y hy => ⟨by have := hp.1 y hy; omega, (ha y (by simp [hy])).2⟩)]
    omega
theorem pathL_dn {fs : List Int} (h : floorsP fs) (a : Int) (xs : List Int) (h0 : a < fs.length) (hp : xs.Pairwise (fun x y => y < x)) (ha : ∀ x ∈ xs, x ≤ a ∧ 0 ≤ x) : pathL fs a xs = hgt fs a - hgt fs (lastOf a xs) := by
  induction xs generalizing a with
  | nil => simp [pathL, lastOf]
  | cons x r ih =>
    have hx := ha x (by simp)
    rw [List.pairwise_cons] at hp
    simp only [pathL, lastOf]
    rw [far_dn (hgt_mono h hx.2 hx.1 h0), ih x (by omega) hp.2 (fun y hy => ⟨by have := hp.1 y hy; omega, (ha y (by simp [hy])).2⟩)]
    omega

/-- TourWay. -/
noncomputable def tourB (fs : List Int) (a : Int) (xs : List Int) : Int := if floorsB fs && (inB a 0 ((fs.length : Int) - 1) && withinB xs fs.length) then pathL fs a xs else -1
theorem tourB_nof {fs : List Int} {a : Int} {xs : List Int} (h : floorsB fs = false) : tourB fs a xs = -1 := by unfold tourB; simp [h]
theorem tourB_noa {fs : List Int} {a : Int} {xs : List Int} (h : inB a 0 ((fs.length : Int) - 1) = false) : tourB fs a xs = -1 := by unfold tourB; simp [h]
theorem tourB_nox {fs : List Int} {a : Int} {xs : List Int} (h : withinB xs fs.length = false) : tourB fs a xs = -1 := by unfold tourB; simp [h]
theorem tourB_yes {fs : List Int} {a : Int} {xs : List Int} (h : floorsB fs = true) (ha : inB a 0 ((fs.length : Int) - 1) = true) (hx : withinB xs fs.length = true) : tourB fs a xs = pathL fs a xs := by unfold tourB; simp [h, ha, hx]
theorem tourB_bd (fs : List Int) (a : Int) (xs : List Int) : -1 ≤ tourB fs a xs ∧ tourB fs a xs ≤ 60 * xs.length := by
  unfold tourB
  split
  · rename_i h; simp at h
    have := pathL_nonneg fs a xs; have := pathL_le (floorsB_iff.1 h.1) a xs; omega
  · omega
theorem tourB_cases (fs : List Int) (a : Int) (xs : List Int) : tourB fs a xs = -1 ∨ (floorsB fs = true ∧ inB a 0 ((fs.length : Int) - 1) = true ∧ withinB xs fs.length = true ∧ tourB fs a xs = pathL fs a xs) := by
  unfold tourB
  split
  · rename_i h; simp at h; exact .inr ⟨h.1, h.2.1, h.2.2, rfl⟩
  · exact .inl rfl
theorem within_mem {vs : List Int} {m : Int} (h : withinB vs m = true) {x : Int} (hx : x ∈ vs) : 0 ≤ x ∧ x < m := by
  have := (inB_iff _ _ _).1 (List.all_eq_true.1 h x hx); omega
theorem within_sub {vs ws : List Int} {m : Int} (h : withinB vs m = true) (hs : ∀ x ∈ ws, x ∈ vs) : withinB ws m = true :=
  List.all_eq_true.2 fun x hx => inB_t (by have := within_mem h (hs x hx); omega)
theorem within_of {ws : List Int} {m : Int} (h : ∀ x ∈ ws, 0 ≤ x ∧ x < m) : withinB ws m = true :=
  List.all_eq_true.2 fun x hx => inB_t (by have := h x hx; omega)
theorem within_append (xs ys : List Int) (m : Int) : withinB (xs ++ ys) m = (withinB xs m && withinB ys m) := by unfold withinB; rw [List.all_append]
theorem lastOf_mem (a : Int) (xs : List Int) : lastOf a xs = a ∨ lastOf a xs ∈ xs := by
  induction xs generalizing a with
  | nil => exact .inl rfl
  | cons x r ih =>
    right
    show lastOf x r ∈ _
    rcases ih x with h | h
    · rw [h]; simp
    · simp [h]
theorem lastOf_take {a : Int} {xs : List Int} {k : Nat} {x : Int} (h : xs[k]? = some x) : lastOf a (xs.take (k + 1)) = x := by rw [take_snoc' xs k x h, lastOf_snoc]
/-- The way has parts. -/
theorem tourB_parts {fs : List Int} {a : Int} {xs : List Int} (h : 0 ≤ tourB fs a xs) (n : Nat) : tourB fs a (xs.take n) + tourB fs (lastOf a (xs.take n)) (xs.drop n) = tourB fs a xs := by
  rcases tourB_cases fs a xs with e | ⟨h1, h2, h3, e⟩
  · omega
  · have hi := (inB_iff _ _ _).1 h2
    have hl : inB (lastOf a (xs.take n)) 0 ((fs.length : Int) - 1) = true := by
      rcases lastOf_mem a (xs.take n) with q | q
      · rw [q]; exact h2
      · exact inB_t (by have := within_mem h3 (List.mem_of_mem_take q); omega)
    rw [e, tourB_yes h1 h2 (within_sub h3 fun x hx => List.mem_of_mem_take hx), tourB_yes h1 hl (within_sub h3 fun x hx => List.mem_of_mem_drop hx)]
    have := pathL_append fs a (xs.take n) (xs.drop n)
    rw [List.take_append_drop] at this
    exact this.symm
theorem tourB_end {fs : List Int} {a : Int} {xs : List Int} {z : Int} (h : 0 ≤ tourB fs a xs) (hz : xs[xs.length - 1]? = some z) : wayB fs a z ≤ tourB fs a xs := by
  rcases tourB_cases fs a xs with e | ⟨h1, h2, h3, e⟩
  · omega
  · have hm := List.mem_of_getElem? hz
    have := within_mem h3 hm
    rw [e, wayB_yes h1 h2 (inB_t (by omega))]
    exact pathL_mem fs a z xs hm

theorem ascTo_pairwise {vs : List Int} (h : AscTo vs vs.length) : vs.Pairwise (· < ·) := by
  rw [List.pairwise_iff_getElem]
  intro i j hi hj hij
  exact h.lt hij hj (List.getElem?_eq_getElem hi) (List.getElem?_eq_getElem hj)
theorem visitsB_iff {fs vs : List Int} : visitsB fs vs = true ↔ floorsB fs = true ∧ withinB vs fs.length = true ∧ AscTo vs vs.length := by
  unfold visitsB ascB; simp [Bool.and_eq_true]

/-- The order of ShortTour, for floors to visit that are valid and at least one. -/
noncomputable def shortL (fs : List Int) (a lo hi : Int) (vs : List Int) : List Int :=
  if a ≤ lo then vs
  else if hi ≤ a then vs.reverse
  else if wayB fs a lo ≤ wayB fs a hi then (vs.filter (fun v => decide (v ≤ a))).reverse ++ vs.filter (fun v => !decide (v ≤ a))
  else vs.filter (fun v => !decide (v < a)) ++ (vs.filter (fun v => decide (v < a))).reverse
noncomputable def shortB (fs : List Int) (a : Int) (vs : List Int) : List Int :=
  if visitsB fs vs && (inB a 0 ((fs.length : Int) - 1) && !vs.isEmpty) then shortL fs a (vs.head?.getD 0) (vs.getLast?.getD 0) vs else []
noncomputable def shortWayB (fs : List Int) (a : Int) (vs : List Int) : Int := if visitsB fs vs then tourB fs a (shortB fs a vs) else -1

theorem filter_split_perm (p : Int → Bool) (l : List Int) : (l.filter p ++ l.filter (fun v => !p v)).Perm l := by
  induction l with
  | nil => simp
  | cons x r ih =>
    cases hx : p x
    · simp only [List.filter_cons, hx, Bool.not_false, if_true, Bool.false_eq_true, if_false]
      exact List.perm_middle.trans (ih.cons x)
    · simp only [List.filter_cons, hx, if_true, Bool.not_true, Bool.false_eq_true, if_false, List.cons_append]
      exact ih.cons x
theorem shortL_perm (fs : List Int) (a lo hi : Int) (vs : List Int) : (shortL fs a lo hi vs).Perm vs := by
  unfold shortL
  split
  · exact List.Perm.refl _
  · split
    · exact List.reverse_perm vs
    · split
      · exact ((List.reverse_perm _).append_right _).trans (filter_split_perm _ vs)
      · exact ((List.reverse_perm _).append_left _).trans (List.perm_append_comm.trans (filter_split_perm _ vs))

/-- The length of the shortest tour over at least one floor. -/
theorem shortL_len {fs : List Int} (h : floorsP fs) {a : Int} (ha : 0 ≤ a ∧ a < fs.length) {vs : List Int} {lo hi : Int} (hw : ∀ v ∈ vs, 0 ≤ v ∧ v < fs.length) (hp : vs.Pairwise (· < ·)) (hlo : vs.head? = some lo) (hhi : vs.getLast? = some hi) (hf : floorsB fs = true) :
    pathL fs a (shortL fs a lo hi vs) = hgt fs (max a hi) - hgt fs (min a lo) + min (hgt fs a - hgt fs (min a lo)) (hgt fs (max a hi) - hgt fs a) := by
  obtain ⟨rest, rfl⟩ : ∃ rest, vs = lo :: rest := by
    cases vs with
    | nil => simp at hlo
    | cons x r => simp at hlo; exact ⟨r, by rw [hlo]⟩
  obtain ⟨ini, hini⟩ : ∃ ini, lo :: rest = ini ++ [hi] := by
    obtain ⟨ys, hys⟩ := List.getLast?_eq_some_iff.1 hhi
    exact ⟨ys, hys⟩
  have hlw := hw lo (by simp)
  have hhw := hw hi (by rw [hini]; simp)
  have hlohi : lo ≤ hi := by
    have : hi ∈ lo :: rest := by rw [hini]; simp
    rcases List.mem_cons.1 this with e | e
    · omega
    · have := (List.pairwise_cons.1 hp).1 hi e; omega
  have hge : ∀ v ∈ lo :: rest, lo ≤ v := fun v hv => by
    rcases List.mem_cons.1 hv with e | e
    · omega
    · have := (List.pairwise_cons.1 hp).1 v e; omega
  have hle : ∀ v ∈ lo :: rest, v ≤ hi := fun v hv => by
    rw [hini] at hv hp
    rcases List.mem_append.1 hv with e | e
    · have := (List.pairwise_append.1 hp).2.2 v e hi (by simp); omega
    · simp at e; omega
  have hrev : (lo :: rest).reverse.Pairwise (fun x y => y < x) := List.pairwise_reverse.2 hp
  unfold shortL
  split
  · rename_i h1
    rw [pathL_up h a _ ha.1 hp (fun x hx => ⟨by have := hge x hx; omega, (hw x hx).2⟩), hini, lastOf_snoc, show max a hi = hi from by omega, show min a lo = a from by omega]
    have := hgt_mono h ha.1 (show a ≤ hi by omega) hhw.2
    omega
  · rename_i h1
    split
    · rename_i h2
      rw [pathL_dn h a _ ha.2 hrev (fun x hx => ⟨by have := hle x (List.mem_reverse.1 hx); omega, (hw x (List.mem_reverse.1 hx)).1⟩), List.reverse_cons, lastOf_snoc, show max a hi = a from by omega, show min a lo = lo from by omega]
      have := hgt_mono h hlw.1 (show lo ≤ a by omega) ha.2
      omega
    · rename_i h2
      rw [show max a hi = hi from by omega, show min a lo = lo from by omega]
      have m1 := hgt_mono h hlw.1 (show lo ≤ a by omega) ha.2
      have m2 := hgt_mono h ha.1 (show a ≤ hi by omega) hhw.2
      have w1 : wayB fs a lo = hgt fs a - hgt fs lo := by rw [wayB_yes hf (inB_t (by omega)) (inB_t (by omega)), far_dn m1]
      have w2 : wayB fs a hi = hgt fs hi - hgt fs a := by rw [wayB_yes hf (inB_t (by omega)) (inB_t (by omega)), far_up m2]
      rw [w1, w2]
      split
      · rename_i h3
        have e1 : lastOf a ((lo :: rest).filter (fun v => decide (v ≤ a))).reverse = lo := by
          rw [List.filter_cons, if_pos (by simp; omega), List.reverse_cons, lastOf_snoc]
        have e2 : lastOf lo ((lo :: rest).filter (fun v => !decide (v ≤ a))) = hi := by
          rw [hini, List.filter_append]
          have : [hi].filter (fun v => !decide (v ≤ a)) = [hi] := by rw [List.filter_cons, if_pos (by simp; omega)]; rfl
          rw [this, lastOf_snoc]
        rw [pathL_append, e1, pathL_dn h a _ ha.2 (List.pairwise_reverse.2 (hp.filter _)) (fun x hx => ?_), e1, pathL_up h lo _ hlw.1 (hp.filter _) (fun x hx => ?_), e2]
        · omega
        · have hm := (List.mem_filter.1 hx).1
          exact ⟨hge x hm, (hw x hm).2⟩
        · have hm := List.mem_filter.1 (by simpa using hx : x ∈ (lo :: rest).filter (fun v => decide (v ≤ a)))
          have := hm.2; simp at this
          exact ⟨this, (hw x hm.1).1⟩
      · rename_i h3
        have e1 : lastOf a ((lo :: rest).filter (fun v => !decide (v < a))) = hi := by
          rw [hini, List.filter_append]
          have : [hi].filter (fun v => !decide (v < a)) = [hi] := by rw [List.filter_cons, if_pos (by simp; omega)]; rfl
          rw [this, lastOf_snoc]
        have e2 : lastOf hi ((lo :: rest).filter (fun v => decide (v < a))).reverse = lo := by
          rw [List.filter_cons, if_pos (by simp; omega), List.reverse_cons, lastOf_snoc]
        rw [pathL_append, e1, pathL_up h a _ ha.1 (hp.filter _) (fun x hx => ?_), e1, pathL_dn h hi _ hhw.2 (List.pairwise_reverse.2 (hp.filter _)) (fun x hx => ?_), e2]
        · omega
        · have hm := List.mem_filter.1 (by simpa using hx : x ∈ (lo :: rest).filter (fun v => decide (v < a)))
          exact ⟨hle x hm.1, (hw x hm.1).1⟩
        · have hm := List.mem_filter.1 hx
          have := hm.2; simp at this
          exact ⟨this, (hw x hm.1).2⟩
/-- No order is shorter. -/
theorem shortL_least {fs : List Int} (h : floorsP fs) {a : Int} (ha : 0 ≤ a ∧ a < fs.length) {vs : List Int} {lo hi : Int} (hw : ∀ v ∈ vs, 0 ≤ v ∧ v < fs.length) (hp : vs.Pairwise (· < ·)) (hlo : vs.head? = some lo) (hhi : vs.getLast? = some hi) (hf : floorsB fs = true)
    {xs : List Int} (hsub : ∀ v ∈ vs, v ∈ xs) : pathL fs a (shortL fs a lo hi vs) ≤ pathL fs a xs := by
  rw [shortL_len h ha hw hp hlo hhi hf]
  have ml : lo ∈ vs := List.mem_of_head? hlo
  have mh : hi ∈ vs := List.mem_of_getLast? hhi
  have wl := hw lo ml
  have wh := hw hi mh
  have hlohi : lo ≤ hi := by
    cases vs with
    | nil => simp at hlo
    | cons x r =>
      simp at hlo; subst hlo
      rcases List.mem_cons.1 mh with e | e
      · omega
      · have := (List.pairwise_cons.1 hp).1 hi e; omega
  have pl := pathL_mem fs a lo xs (hsub lo ml)
  have ph := pathL_mem fs a hi xs (hsub hi mh)
  have p2 := pathL_two fs a lo hi xs (hsub lo ml) (hsub hi mh)
  have m3 := hgt_mono h wl.1 hlohi wh.2
  by_cases h1 : a ≤ lo
  · rw [show max a hi = hi from by omega, show min a lo = a from by omega]
    have := hgt_mono h ha.1 (show a ≤ hi by omega) wh.2
    rw [far_up this] at ph
    omega
  · have m1 := hgt_mono h wl.1 (show lo ≤ a by omega) ha.2
    by_cases h2 : hi ≤ a
    · rw [show max a hi = a from by omega, show min a lo = lo from by omega]
      rw [far_dn m1] at pl
      omega
    · have m2 := hgt_mono h ha.1 (show a ≤ hi by omega) wh.2
      rw [show max a hi = hi from by omega, show min a lo = lo from by omega]
      rw [far_dn m1, far_up m2, far_up m3] at p2
      omega
theorem visits_parts {fs vs : List Int} (h : visitsB fs vs = true) : floorsP fs ∧ (∀ v ∈ vs, 0 ≤ v ∧ v < fs.length) ∧ vs.Pairwise (· < ·) := by
  obtain ⟨h1, h2, h3⟩ := visitsB_iff.1 h
  exact ⟨floorsB_iff.1 h1, fun v hv => within_mem h2 hv, ascTo_pairwise h3⟩
theorem shortB_yes {fs vs : List Int} {a lo hi : Int} (h : visitsB fs vs = true) (ha : inB a 0 ((fs.length : Int) - 1) = true) (hlo : vs.head? = some lo) (hhi : vs.getLast? = some hi) : shortB fs a vs = shortL fs a lo hi vs := by
  unfold shortB
  have : vs.isEmpty = false := by cases vs with | nil => simp at hlo | cons x r => rfl
  rw [h, ha, this, hlo, hhi]; rfl
theorem shortB_no {fs vs : List Int} {a : Int} (h : visitsB fs vs = false ∨ inB a 0 ((fs.length : Int) - 1) = false ∨ vs = []) : shortB fs a vs = [] := by
  unfold shortB
  rcases h with h | h | h
  · simp [h]
  · simp [h]
  · simp [h]
theorem ends_of {vs : List Int} (h : vs ≠ []) : ∃ lo hi, vs.head? = some lo ∧ vs.getLast? = some hi := by
  cases vs with
  | nil => exact absurd rfl h
  | cons x r => exact ⟨x, _, rfl, List.getLast?_eq_some_getLast (by simp)⟩
theorem shortB_mem {fs vs : List Int} {a : Int} : ∀ x ∈ shortB fs a vs, x ∈ vs := by
  intro x hx
  by_cases h0 : vs = []
  · rw [shortB_no (.inr (.inr h0))] at hx; simp at hx
  · obtain ⟨lo, hi, hlo, hhi⟩ := ends_of h0
    cases h1 : visitsB fs vs
    · rw [shortB_no (.inl h1)] at hx; simp at hx
    · cases h2 : inB a 0 ((fs.length : Int) - 1)
      · rw [shortB_no (.inr (.inl h2))] at hx; simp at hx
      · rw [shortB_yes h1 h2 hlo hhi] at hx; exact (shortL_perm fs a lo hi vs).mem_iff.1 hx
theorem shortB_len (fs vs : List Int) (a : Int) : (shortB fs a vs).length ≤ vs.length := by
  by_cases h0 : vs = []
  · rw [shortB_no (.inr (.inr h0))]; simp
  · obtain ⟨lo, hi, hlo, hhi⟩ := ends_of h0
    cases h1 : visitsB fs vs
    · rw [shortB_no (.inl h1)]; simp
    · cases h2 : inB a 0 ((fs.length : Int) - 1)
      · rw [shortB_no (.inr (.inl h2))]; simp
      · rw [shortB_yes h1 h2 hlo hhi, (shortL_perm fs a lo hi vs).length_eq]; omega
/-- ShortWay, at valid arguments: no list that has all of the floors is shorter. -/
theorem shortWay_least {fs vs xs : List Int} {a : Int} (h : 0 ≤ shortWayB fs a vs) (hsub : ∀ v ∈ vs, v ∈ xs) (hx : 0 ≤ tourB fs a xs) : shortWayB fs a vs ≤ tourB fs a xs := by
  unfold shortWayB at h ⊢
  cases h1 : visitsB fs vs
  · rw [h1] at h; simp at h
  · rw [h1] at h
    simp only [if_true] at h ⊢
    obtain ⟨hP, hw, hp⟩ := visits_parts h1
    rcases tourB_cases fs a (shortB fs a vs) with e | ⟨f1, f2, f3, e⟩
    · omega
    · rcases tourB_cases fs a xs with e' | ⟨-, -, -, e'⟩
      · omega
      · rw [e, e']
        by_cases h0 : vs = []
        · rw [shortB_no (.inr (.inr h0))]; exact pathL_nonneg fs a xs
        · obtain ⟨lo, hi, hlo, hhi⟩ := ends_of h0
          have hi' := (inB_iff _ _ _).1 f2
          rw [shortB_yes h1 f2 hlo hhi]
          exact shortL_least hP (by omega) hw hp hlo hhi f1 hsub
theorem pairwise_tail {vs : List Int} (h : AscTo vs vs.length) : AscTo (vs.drop 1) (vs.drop 1).length := by
  intro i a b hi ha hb
  rw [List.getElem?_drop] at ha hb
  simp at hi
  exact h (1 + i) a b (by omega) ha (by rw [← hb]; congr 1)
theorem visitsB_drop {fs vs : List Int} (h : visitsB fs vs = true) : visitsB fs (vs.drop 1) = true := by
  obtain ⟨h1, h2, h3⟩ := visitsB_iff.1 h
  exact visitsB_iff.2 ⟨h1, within_sub h2 fun x hx => List.mem_of_mem_drop hx, pairwise_tail h3⟩
/-- With one floor less to visit it is not longer. -/
theorem shortWay_drop {fs vs : List Int} {a : Int} (h : 0 ≤ shortWayB fs a vs) : shortWayB fs a (vs.drop 1) ≤ shortWayB fs a vs := by
  have h' := h
  unfold shortWayB at h
  cases h1 : visitsB fs vs
  · rw [h1] at h; simp at h
  · rw [h1] at h
    simp only [if_true] at h
    have hd : 0 ≤ shortWayB fs a (vs.drop 1) ∨ shortWayB fs a (vs.drop 1) < 0 := by omega
    rcases hd with hd | hd
    · have e : shortWayB fs a vs = tourB fs a (shortB fs a vs) := by unfold shortWayB; rw [h1]; rfl
      rw [e]
      refine shortWay_least hd (fun v hv => ?_) h
      have hv' := List.mem_of_mem_drop hv
      rcases tourB_cases fs a (shortB fs a vs) with q | ⟨f1, f2, f3, -⟩
      · omega
      · obtain ⟨lo, hi, hlo, hhi⟩ := ends_of (vs := vs) (by rintro rfl; simp at hv')
        rw [shortB_yes h1 f2 hlo hhi]
        exact (shortL_perm fs a lo hi vs).mem_iff.2 hv'
    · omega
theorem shortWay_bd (fs vs : List Int) (a : Int) : -1 ≤ shortWayB fs a vs ∧ shortWayB fs a vs ≤ 60 * vs.length := by
  unfold shortWayB
  split
  · have := tourB_bd fs a (shortB fs a vs); have := shortB_len fs vs a; omega
  · omega
end Go.Proofs.Ytddlnafkacogiaa
