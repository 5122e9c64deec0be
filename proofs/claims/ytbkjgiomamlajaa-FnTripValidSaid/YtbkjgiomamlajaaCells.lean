/- Rows of structs: the cells of a list, s to an element; rows of stops, rows of riders (no program in sight). -/
import Derived.Test.YtbkjgiomamlajaaMem
import Derived.Test.YtbkjgiomamlajaaTripPlain
namespace Go.Proofs.Ytbkjgiomamlajaa
open Go.RowKit

def cellsOf {α : Type} (enc : α → List Value) (l : List α) : List Value := l.flatMap enc
theorem cellsOf_nil {α : Type} (enc : α → List Value) : cellsOf enc [] = [] := rfl
theorem cellsOf_cons {α : Type} (enc : α → List Value) (x : α) (l : List α) : cellsOf enc (x :: l) = enc x ++ cellsOf enc l := rfl
theorem cellsOf_append {α : Type} (enc : α → List Value) (l m : List α) : cellsOf enc (l ++ m) = cellsOf enc l ++ cellsOf enc m := by simp [cellsOf]
theorem cellsOf_one {α : Type} (enc : α → List Value) (x : α) : cellsOf enc [x] = enc x := by simp [cellsOf]
theorem cellsOf_rep {α : Type} (enc : α → List Value) (x : α) (n : Nat) : cellsOf enc (List.replicate n x) = (List.replicate n (enc x)).flatten := by
  induction n with
  | zero => rfl
  | succ n ih => rw [List.replicate_succ, cellsOf_cons, ih, List.replicate_succ, List.flatten_cons]
section
variable {α : Type} {enc : α → List Value} {s : Nat} (hs : ∀ x, (enc x).length = s)
include hs
theorem cellsOf_length (l : List α) : (cellsOf enc l).length = l.length * s := by
  induction l with
  | nil => simp [cellsOf]
  | cons x r ih => rw [cellsOf_cons, List.length_append, ih, hs, List.length_cons, Nat.succ_mul]; omega
theorem cellsOf_get {l : List α} {k j : Nat} {x : α} (hx : l[k]? = some x) (hj : j < s) : (cellsOf enc l)[k * s + j]? = (enc x)[j]? := by
  induction l generalizing k with
  | nil => simp at hx
  | cons y r ih =>
    rw [cellsOf_cons]
    cases k with
    | zero => simp at hx; subst hx; rw [Nat.zero_mul, Nat.zero_add, List.getElem?_append_left (by rw [hs]; exact hj)]
    | succ k =>
      simp at hx
      rw [List.getElem?_append_right (by rw [hs, Nat.succ_mul]; omega), hs, show (k + 1) * s + j - s = k * s + j from by rw [Nat.succ_mul]; omega]
      exact ih hx
theorem cellsOf_set {l : List α} {k j : Nat} {x x' : α} {v : Value} (hx : l[k]? = some x) (hj : j < s) (he : (enc x).set j v = enc x') : (cellsOf enc l).set (k * s + j) v = cellsOf enc (l.set k x') := by
  induction l generalizing k with
  | nil => simp at hx
  | cons y r ih =>
    cases k with
    | zero => simp at hx; subst hx; rw [List.set_cons_zero, cellsOf_cons, cellsOf_cons, Nat.zero_mul, Nat.zero_add, List.set_append_left _ _ (by rw [hs]; exact hj), he]
    | succ k =>
      simp at hx
      rw [List.set_cons_succ, cellsOf_cons, cellsOf_cons, List.set_append_right _ _ (by rw [hs, Nat.succ_mul]; omega), hs, show (k + 1) * s + j - s = k * s + j from by rw [Nat.succ_mul]; omega, ih hx]
end
/-- The cells of a stop; of a rider. -/
def encS (r : Int × Int) : List Value := [.int .i64 r.1, .int .i64 r.2]
def encR (r : Rr) : List Value := [.int .i64 r.1, .int .i64 r.2.1, .int .i64 r.2.2]
theorem encS_len (r : Int × Int) : (encS r).length = 2 := rfl
theorem encR_len (r : Rr) : (encR r).length = 3 := rfl
def scs (l : List (Int × Int)) : List Value := cellsOf encS l
def rcs (l : List Rr) : List Value := cellsOf encR l
theorem scs_len (l : List (Int × Int)) : (scs l).length = l.length * 2 := cellsOf_length encS_len l
theorem rcs_len (l : List Rr) : (rcs l).length = l.length * 3 := cellsOf_length encR_len l
theorem scs_append (l m : List (Int × Int)) : scs (l ++ m) = scs l ++ scs m := cellsOf_append _ l m
theorem rcs_append (l m : List Rr) : rcs (l ++ m) = rcs l ++ rcs m := cellsOf_append _ l m
theorem scs_one (l : List (Int × Int)) : ∀ u ∈ scs l, u.oneCell' = true := by
  intro u hu; simp only [scs, cellsOf, List.mem_flatMap, encS] at hu; obtain ⟨r, -, hu⟩ := hu; simp at hu; rcases hu with rfl | rfl <;> rfl
theorem rcs_one (l : List Rr) : ∀ u ∈ rcs l, u.oneCell' = true := by
  intro u hu; simp only [rcs, cellsOf, List.mem_flatMap, encR] at hu; obtain ⟨r, -, hu⟩ := hu; simp at hu; rcases hu with rfl | rfl | rfl <;> rfl
theorem scs_get {l : List (Int × Int)} {k : Nat} {r : Int × Int} (h : l[k]? = some r) : (scs l)[k * 2]? = some (.int .i64 r.1) ∧ (scs l)[k * 2 + 1]? = some (.int .i64 r.2) :=
  ⟨by have := cellsOf_get (j := 0) encS_len h (by omega); rw [Nat.add_zero] at this; rw [scs, this]; rfl, by rw [scs, cellsOf_get (j := 1) encS_len h (by omega)]; rfl⟩
theorem rcs_get {l : List Rr} {k : Nat} {r : Rr} (h : l[k]? = some r) : (rcs l)[k * 3]? = some (.int .i64 r.1) ∧ (rcs l)[k * 3 + 1]? = some (.int .i64 r.2.1) ∧ (rcs l)[k * 3 + 2]? = some (.int .i64 r.2.2) :=
  ⟨by have := cellsOf_get (j := 0) encR_len h (by omega); rw [Nat.add_zero] at this; rw [rcs, this]; rfl, by rw [rcs, cellsOf_get (j := 1) encR_len h (by omega)]; rfl, by rw [rcs, cellsOf_get (j := 2) encR_len h (by omega)]; rfl⟩
theorem scs_set0 {l : List (Int × Int)} {k : Nat} {r : Int × Int} (h : l[k]? = some r) (x : Int) : (scs l).set (k * 2) (.int .i64 x) = scs (l.set k (x, r.2)) := by
  have := cellsOf_set (j := 0) (x' := (x, r.2)) (v := .int .i64 x) encS_len h (by omega) rfl; rwa [Nat.add_zero] at this
theorem scs_set1 {l : List (Int × Int)} {k : Nat} {r : Int × Int} (h : l[k]? = some r) (x : Int) : (scs l).set (k * 2 + 1) (.int .i64 x) = scs (l.set k (r.1, x)) :=
  cellsOf_set (j := 1) (x' := (r.1, x)) (v := .int .i64 x) encS_len h (by omega) rfl
theorem rcs_set0 {l : List Rr} {k : Nat} {r : Rr} (h : l[k]? = some r) (x : Int) : (rcs l).set (k * 3) (.int .i64 x) = rcs (l.set k (x, r.2)) := by
  have := cellsOf_set (j := 0) (x' := (x, r.2)) (v := .int .i64 x) encR_len h (by omega) rfl; rwa [Nat.add_zero] at this
theorem rcs_set1 {l : List Rr} {k : Nat} {r : Rr} (h : l[k]? = some r) (x : Int) : (rcs l).set (k * 3 + 1) (.int .i64 x) = rcs (l.set k (r.1, x, r.2.2)) :=
  cellsOf_set (j := 1) (x' := (r.1, x, r.2.2)) (v := .int .i64 x) encR_len h (by omega) rfl
theorem rcs_set2 {l : List Rr} {k : Nat} {r : Rr} (h : l[k]? = some r) (x : Int) : (rcs l).set (k * 3 + 2) (.int .i64 x) = rcs (l.set k (r.1, r.2.1, x)) :=
  cellsOf_set (j := 2) (x' := (r.1, r.2.1, x)) (v := .int .i64 x) encR_len h (by omega) rfl
theorem scs_rep (n : Nat) : scs (List.replicate n (0, 0)) = List.replicate (n * 2) (.int .i64 0) := by
  rw [scs, cellsOf_rep]
  induction n with
  | zero => rfl
  | succ n ih => rw [List.replicate_succ, List.flatten_cons, ih, Nat.succ_mul, Nat.add_comm, ← List.replicate_append_replicate]; rfl
theorem rcs_rep (n : Nat) : rcs (List.replicate n (0, 0, 0)) = List.replicate (n * 3) (.int .i64 0) := by
  rw [rcs, cellsOf_rep]
  induction n with
  | zero => rfl
  | succ n ih => rw [List.replicate_succ, List.flatten_cons, ih, Nat.succ_mul, Nat.add_comm, ← List.replicate_append_replicate]; rfl
/-- A slice of stops, of riders reads as l; a row of one's own. -/
def Stps (w : World) (A : Option Addr) (l : List (Int × Int)) : Prop := Sl w A (scs l)
def Rds (w : World) (A : Option Addr) (l : List Rr) : Prop := Sl w A (rcs l)
def SW (lo hi : Nat) (w : World) (A : Option Addr) (l : List (Int × Int)) : Prop := OS lo hi w A l.length (scs l)
def RW (lo hi : Nat) (w : World) (A : Option Addr) (l : List Rr) : Prop := OS lo hi w A l.length (rcs l)
theorem Stps.below {w w' : World} {A : Option Addr} {l : List (Int × Int)} (h : Stps w A l) (b : Below w.heap.size w w') : Stps w' A l := Sl.below h b
theorem Rds.below {w w' : World} {A : Option Addr} {l : List Rr} (h : Rds w A l) (b : Below w.heap.size w w') : Rds w' A l := Sl.below h b
theorem Rds.drew {w : World} {A : Option Addr} {l : List Rr} (h : Rds w A l) : Rds w.drew A l := h
theorem Rds.nil (w : World) (A : Option Addr) : Rds w A [] := .inl rfl
theorem SW.stps {lo hi : Nat} {w : World} {A : Option Addr} {l : List (Int × Int)} (h : SW lo hi w A l) : Stps w A l := h.sl
theorem RW.rds {lo hi : Nat} {w : World} {A : Option Addr} {l : List Rr} (h : RW lo hi w A l) : Rds w A l := h.sl
theorem SW.below {lo hi : Nat} {w w' : World} {A : Option Addr} {l : List (Int × Int)} (h : SW lo hi w A l) (b : Below w.heap.size w w') : SW lo hi w' A l := OS.below h b
theorem RW.below {lo hi : Nat} {w w' : World} {A : Option Addr} {l : List Rr} (h : RW lo hi w A l) (b : Below w.heap.size w w') : RW lo hi w' A l := OS.below h b
theorem SW.only {lo hi lo' hi' : Nat} {w w' : World} {A : Option Addr} {l : List (Int × Int)} (h : SW lo' hi' w A l) (o : Only lo hi w w') (hd : hi' ≤ lo ∨ hi ≤ lo') : SW lo' hi' w' A l := OS.only h o hd
theorem RW.only {lo hi lo' hi' : Nat} {w w' : World} {A : Option Addr} {l : List Rr} (h : RW lo' hi' w A l) (o : Only lo hi w w') (hd : hi' ≤ lo ∨ hi ≤ lo') : RW lo' hi' w' A l := OS.only h o hd
theorem SW.mono {lo hi lo' hi' : Nat} {w : World} {A : Option Addr} {l : List (Int × Int)} (h : SW lo hi w A l) (h1 : lo' ≤ lo) (h2 : hi ≤ hi') : SW lo' hi' w A l := OS.mono h h1 h2
theorem RW.mono {lo hi lo' hi' : Nat} {w : World} {A : Option Addr} {l : List Rr} (h : RW lo hi w A l) (h1 : lo' ≤ lo) (h2 : hi ≤ hi') : RW lo' hi' w A l := OS.mono h h1 h2
theorem RW.empty (lo hi : Nat) (w : World) (A : Option Addr) : RW lo hi w A [] := OS.empty lo hi w A
theorem SW.empty (lo hi : Nat) (w : World) (A : Option Addr) : SW lo hi w A [] := OS.empty lo hi w A
theorem Stps.at {w : World} {A : Option Addr} {l : List (Int × Int)} {k : Nat} (h : Stps w A l) (hk : k < l.length) :
    ∃ b off r, A = some ⟨b, off, none⟩ ∧ b < w.heap.size ∧ Hid (l[k]? = some r) ∧ w.cell? ⟨b, off + k * 2, none⟩ = some (.int .i64 r.1) ∧ w.cell? ⟨b, off + k * 2 + 1, none⟩ = some (.int .i64 r.2) := by
  have hr : l[k]? = some l[k] := List.getElem?_eq_getElem hk
  obtain ⟨g0, g1⟩ := scs_get hr
  rcases h with h | ⟨b, off, rfl, hlt, hc⟩
  · rw [h] at g0; simp at g0
  · exact ⟨b, off, l[k], rfl, hlt, hr, hc _ _ g0, by rw [Nat.add_assoc]; exact hc _ _ g1⟩
theorem Rds.at {w : World} {A : Option Addr} {l : List Rr} {k : Nat} (h : Rds w A l) (hk : k < l.length) :
    ∃ b off r, A = some ⟨b, off, none⟩ ∧ b < w.heap.size ∧ Hid (l[k]? = some r) ∧ w.cell? ⟨b, off + k * 3, none⟩ = some (.int .i64 r.1) ∧ w.cell? ⟨b, off + k * 3 + 1, none⟩ = some (.int .i64 r.2.1) ∧ w.cell? ⟨b, off + k * 3 + 2, none⟩ = some (.int .i64 r.2.2) := by
  have hr : l[k]? = some l[k] := List.getElem?_eq_getElem hk
  obtain ⟨g0, g1, g2⟩ := rcs_get hr
  rcases h with h | ⟨b, off, rfl, hlt, hc⟩
  · rw [h] at g0; simp at g0
  · exact ⟨b, off, l[k], rfl, hlt, hr, hc _ _ g0, by rw [Nat.add_assoc]; exact hc _ _ g1, by rw [Nat.add_assoc]; exact hc _ _ g2⟩
/-- The cells of one element of a row of one's own are not frozen. -/
theorem SW.at {lo hi : Nat} {w : World} {A : Option Addr} {l : List (Int × Int)} {k : Nat} (h : SW lo hi w A l) (hk : k < l.length) :
    ∃ b off r, A = some ⟨b, off, none⟩ ∧ (lo ≤ b ∧ b < hi ∧ b < w.heap.size) ∧ Hid (l[k]? = some r) ∧ (w.cell? ⟨b, off + k * 2, none⟩ = some (.int .i64 r.1) ∧ w.cell? ⟨b, off + k * 2 + 1, none⟩ = some (.int .i64 r.2)) ∧ (w.frozen? ⟨b, off + k * 2, none⟩ = false ∧ w.frozen? ⟨b, off + k * 2 + 1, none⟩ = false) := by
  obtain ⟨b, off, r, rfl, hlt, hr, c0, c1⟩ := h.stps.at hk
  rcases h.rg with e | ⟨b', off', e, r1, r2⟩
  · omega
  · injection e with e; injection e with e1 e2; subst e1; subst e2
    have hl : (scs l).length = l.length * 2 := scs_len l
    exact ⟨b, off, r, rfl, ⟨r1, r2, hlt⟩, hr, ⟨c0, c1⟩, h.nf b off _ rfl (by omega), by rw [Nat.add_assoc]; exact h.nf b off _ rfl (by omega)⟩
theorem RW.at {lo hi : Nat} {w : World} {A : Option Addr} {l : List Rr} {k : Nat} (h : RW lo hi w A l) (hk : k < l.length) :
    ∃ b off r, A = some ⟨b, off, none⟩ ∧ (lo ≤ b ∧ b < hi ∧ b < w.heap.size) ∧ Hid (l[k]? = some r) ∧ (w.cell? ⟨b, off + k * 3, none⟩ = some (.int .i64 r.1) ∧ w.cell? ⟨b, off + k * 3 + 1, none⟩ = some (.int .i64 r.2.1) ∧ w.cell? ⟨b, off + k * 3 + 2, none⟩ = some (.int .i64 r.2.2)) ∧ (w.frozen? ⟨b, off + k * 3, none⟩ = false ∧ w.frozen? ⟨b, off + k * 3 + 1, none⟩ = false ∧ w.frozen? ⟨b, off + k * 3 + 2, none⟩ = false) := by
  obtain ⟨b, off, r, rfl, hlt, hr, c0, c1, c2⟩ := h.rds.at hk
  rcases h.rg with e | ⟨b', off', e, r1, r2⟩
  · omega
  · injection e with e; injection e with e1 e2; subst e1; subst e2
    have hl : (rcs l).length = l.length * 3 := rcs_len l
    exact ⟨b, off, r, rfl, ⟨r1, r2, hlt⟩, hr, ⟨c0, c1, c2⟩, h.nf b off _ rfl (by omega), by rw [Nat.add_assoc]; exact h.nf b off _ rfl (by omega), by rw [Nat.add_assoc]; exact h.nf b off _ rfl (by omega)⟩
theorem SW.set0 {lo hi : Nat} {w : World} {b off : Nat} {l : List (Int × Int)} {k : Nat} {r : Int × Int} (h : SW lo hi w (some ⟨b, off, none⟩) l) (hr : l[k]? = some r) (x : Int) : SW lo hi (w.setCell ⟨b, off + k * 2, none⟩ (.int .i64 x)) (some ⟨b, off, none⟩) (l.set k (x, r.2)) := by
  have := OS.set h (k * 2) (.int .i64 x); rw [scs_set0 hr] at this; unfold SW; rw [List.length_set]; exact this
theorem SW.set1 {lo hi : Nat} {w : World} {b off : Nat} {l : List (Int × Int)} {k : Nat} {r : Int × Int} (h : SW lo hi w (some ⟨b, off, none⟩) l) (hr : l[k]? = some r) (x : Int) : SW lo hi (w.setCell ⟨b, off + k * 2 + 1, none⟩ (.int .i64 x)) (some ⟨b, off, none⟩) (l.set k (r.1, x)) := by
  have := OS.set h (k * 2 + 1) (.int .i64 x); rw [scs_set1 hr] at this; unfold SW; rw [List.length_set]; exact this
theorem RW.set0 {lo hi : Nat} {w : World} {b off : Nat} {l : List Rr} {k : Nat} {r : Rr} (h : RW lo hi w (some ⟨b, off, none⟩) l) (hr : l[k]? = some r) (x : Int) : RW lo hi (w.setCell ⟨b, off + k * 3, none⟩ (.int .i64 x)) (some ⟨b, off, none⟩) (l.set k (x, r.2)) := by
  have := OS.set h (k * 3) (.int .i64 x); rw [rcs_set0 hr] at this; unfold RW; rw [List.length_set]; exact this
theorem RW.set1 {lo hi : Nat} {w : World} {b off : Nat} {l : List Rr} {k : Nat} {r : Rr} (h : RW lo hi w (some ⟨b, off, none⟩) l) (hr : l[k]? = some r) (x : Int) : RW lo hi (w.setCell ⟨b, off + k * 3 + 1, none⟩ (.int .i64 x)) (some ⟨b, off, none⟩) (l.set k (r.1, x, r.2.2)) := by
  have := OS.set h (k * 3 + 1) (.int .i64 x); rw [rcs_set1 hr] at this; unfold RW; rw [List.length_set]; exact this
theorem RW.set2 {lo hi : Nat} {w : World} {b off : Nat} {l : List Rr} {k : Nat} {r : Rr} (h : RW lo hi w (some ⟨b, off, none⟩) l) (hr : l[k]? = some r) (x : Int) : RW lo hi (w.setCell ⟨b, off + k * 3 + 2, none⟩ (.int .i64 x)) (some ⟨b, off, none⟩) (l.set k (r.1, r.2.1, x)) := by
  have := OS.set h (k * 3 + 2) (.int .i64 x); rw [rcs_set2 hr] at this; unfold RW; rw [List.length_set]; exact this
theorem own_sw {w : World} {B : Nat} {e : TypeId} {A : Option Addr} {c : Nat} {l : List (Int × Int)} (h : w.ownsRow B e 2 (.slice A l.length c) l.length (scs l)) : SW B w.heap.size w A l := own_os h
theorem own_rw {w : World} {B : Nat} {e : TypeId} {A : Option Addr} {c : Nat} {l : List Rr} (h : w.ownsRow B e 3 (.slice A l.length c) l.length (rcs l)) : RW B w.heap.size w A l := own_os h
end Go.Proofs.Ytbkjgiomamlajaa
