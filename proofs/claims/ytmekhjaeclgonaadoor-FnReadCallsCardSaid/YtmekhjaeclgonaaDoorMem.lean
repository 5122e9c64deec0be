/- Words of my own for memory, more: rows in a range of blocks; what only one range of blocks has changed; rows of truths; calls (no program in sight). -/
import Derived.Test.YtmekhjaeclgonaaDoorStopPlain
namespace Go.Proofs.YtmekhjaeclgonaaDoor
open Go.RowKit

/-- The n elements lie in a block of lo..hi-1. -/
def Rg (lo hi : Nat) (A : Option Addr) (n : Nat) : Prop := n = 0 ∨ ∃ b off, A = some ⟨b, off, none⟩ ∧ lo ≤ b ∧ b < hi
theorem Rg.mono {lo hi lo' hi' : Nat} {A : Option Addr} {n : Nat} (h : Rg lo hi A n) (h1 : lo' ≤ lo) (h2 : hi ≤ hi') : Rg lo' hi' A n := by
  rcases h with h | ⟨b, off, e, a, c⟩
  · exact .inl h
  · exact .inr ⟨b, off, e, by omega, by omega⟩
/-- Outside lo..hi-1 nothing has changed. -/
structure Only (lo hi : Nat) (w w' : World) : Prop where
  os : w'.os = w.os
  tape : w'.tape = w.tape
  output : w'.output = w.output
  size : w.heap.size ≤ w'.heap.size
  block : ∀ k, k < w.heap.size → (k < lo ∨ hi ≤ k) → w'.heap[k]? = w.heap[k]?
theorem Only.refl (lo hi : Nat) (w : World) : Only lo hi w w := ⟨rfl, rfl, rfl, Nat.le_refl _, fun _ _ _ => rfl⟩
theorem Only.trans {lo hi : Nat} {a b c : World} (h : Only lo hi a b) (k : Only lo hi b c) : Only lo hi a c :=
  ⟨k.os.trans h.os, k.tape.trans h.tape, k.output.trans h.output, Nat.le_trans h.size k.size, fun i hi ho => (k.block i (Nat.lt_of_lt_of_le hi h.size) ho).trans (h.block i hi ho)⟩
theorem Only.mono {lo hi lo' hi' : Nat} {a b : World} (h : Only lo hi a b) (h1 : lo' ≤ lo) (h2 : hi ≤ hi') : Only lo' hi' a b :=
  ⟨h.os, h.tape, h.output, h.size, fun i hi ho => h.block i hi (by omega)⟩
theorem Only.of {lo hi : Nat} {a b : World} (h : Below a.heap.size a b) : Only lo hi a b := ⟨h.os, h.tape, h.output, h.size, fun i hi _ => h.block i hi⟩
theorem Only.drewN {lo hi : Nat} {a b : World} (h : Only lo hi a b) (n : Nat) : Only lo hi a (b.drewN n) := ⟨h.os, h.tape, h.output, h.size, h.block⟩
theorem Only.alloc {lo hi : Nat} {a b : World} (h : Only lo hi a b) (o : Obj) : Only lo hi a (b.alloc o) := h.trans (.of ((Below.refl _ _).alloc (Nat.le_refl _) o))
theorem Only.setCell {lo hi : Nat} {a b : World} (h : Only lo hi a b) {p : Addr} (h1 : lo ≤ p.block) (h2 : p.block < hi) (u : Value) : Only lo hi a (b.setCell p u) :=
  h.trans ⟨rfl, rfl, rfl, by simp [World.setCell], fun i hi ho => Below.heap_setCell _ _ _ _ (by omega)⟩
theorem Only.then {lo hi B : Nat} {a b c : World} (h : Below B a b) (k : Only lo hi b c) (h1 : B ≤ lo) (h2 : B ≤ b.heap.size) : Below B a c :=
  h.trans ⟨k.os, k.tape, k.output, k.size, fun i hi => k.block i (by omega) (.inl (by omega))⟩
theorem Sl.only {w w' : World} {A : Option Addr} {xs : List Value} {n lo hi lo' hi' : Nat} (h : Sl w A xs) (r : Rg lo' hi' A n) (hx : n = 0 → xs = []) (o : Only lo hi w w') (hd : hi' ≤ lo ∨ hi ≤ lo') : Sl w' A xs := by
  rcases r with r | ⟨b, off, rfl, r1, r2⟩
  · rw [hx r]; exact .inl rfl
  · exact h.keep o.size fun b' off' e hlt => o.block b' hlt (by injection e with e; injection e with e1 e2; omega)
/-- None of the first n cells is frozen. -/
def Nf (w : World) (A : Option Addr) (n : Nat) : Prop := ∀ b off k, A = some ⟨b, off, none⟩ → k < n → w.frozen? ⟨b, off + k, none⟩ = false
/-- A row of n elements with the cells xs, in a block of lo..hi-1, not frozen. -/
structure OS (lo hi : Nat) (w : World) (A : Option Addr) (n : Nat) (xs : List Value) : Prop where
  sl : Sl w A xs
  rg : Rg lo hi A n
  nf : Nf w A xs.length
  nil : n = 0 → xs = []
theorem OS.empty (lo hi : Nat) (w : World) (A : Option Addr) : OS lo hi w A 0 [] := ⟨.inl rfl, .inl rfl, fun _ _ _ _ h => by simp at h, fun _ => rfl⟩
theorem OS.mono {lo hi lo' hi' : Nat} {w : World} {A : Option Addr} {n : Nat} {xs : List Value} (h : OS lo hi w A n xs) (h1 : lo' ≤ lo) (h2 : hi ≤ hi') : OS lo' hi' w A n xs := ⟨h.sl, h.rg.mono h1 h2, h.nf, h.nil⟩
theorem OS.only {lo hi lo' hi' : Nat} {w w' : World} {A : Option Addr} {n : Nat} {xs : List Value} (h : OS lo' hi' w A n xs) (o : Only lo hi w w') (hd : hi' ≤ lo ∨ hi ≤ lo') : OS lo' hi' w' A n xs := by
  refine ⟨h.sl.only h.rg h.nil o hd, h.rg, ?_, h.nil⟩
  intro b off k e hk
  rcases h.rg with r | ⟨b', off', e', r1, r2⟩
  · rw [h.nil r] at hk; simp at hk
  · rw [e] at e'; injection e' with e'; injection e' with e1 e2
    rcases h.sl with hs | ⟨b2, off2, e2', hlt, -⟩
    · rw [hs] at hk; simp at hk
    · rw [e] at e2'; injection e2' with e2'; injection e2' with e3 e4
      rw [World.frozen?_of_block (w := w) (o.block b (by omega) (by omega))]
      exact h.nf b off k e hk
theorem OS.below {lo hi : Nat} {w w' : World} {A : Option Addr} {n : Nat} {xs : List Value} (h : OS lo hi w A n xs) (b : Below w.heap.size w w') : OS lo hi w' A n xs :=
  h.only (lo := hi) (hi := hi) (.of b) (.inl (Nat.le_refl _))
theorem OS.at {lo hi : Nat} {w : World} {A : Option Addr} {n : Nat} {xs : List Value} {k : Nat} (h : OS lo hi w A n xs) (hk : k < xs.length) :
    ∃ b off v, A = some ⟨b, off, none⟩ ∧ (lo ≤ b ∧ b < hi ∧ b < w.heap.size) ∧ Hid (xs[k]? = some v) ∧ w.cell? ⟨b, off + k, none⟩ = some v ∧ w.frozen? ⟨b, off + k, none⟩ = false := by
  rcases h.sl with hs | ⟨b, off, rfl, hlt, hc⟩
  · rw [hs] at hk; simp at hk
  · rcases h.rg with r | ⟨b', off', e', r1, r2⟩
    · rw [h.nil r] at hk; simp at hk
    · injection e' with e'; injection e' with e1 e2
      exact ⟨b, off, xs[k], rfl, ⟨by omega, by omega, hlt⟩, List.getElem?_eq_getElem hk, hc k _ (List.getElem?_eq_getElem hk), h.nf b off k rfl hk⟩
theorem OS.set {lo hi : Nat} {w : World} {b off n : Nat} {xs : List Value} (h : OS lo hi w (some ⟨b, off, none⟩) n xs) (k : Nat) (u : Value) : OS lo hi (w.setCell ⟨b, off + k, none⟩ u) (some ⟨b, off, none⟩) n (xs.set k u) := by
  refine ⟨?_, h.rg, ?_, fun hn => by rw [h.nil hn]; rfl⟩
  · rcases h.sl with hs | ⟨b', off', e, hlt, hc⟩
    · left; rw [hs]; rfl
    · injection e with e; injection e with e1 e2; subst e1; subst e2
      refine .inr ⟨b, off, rfl, by simpa [World.setCell] using hlt, fun j v hv => ?_⟩
      rw [List.getElem?_set] at hv
      split at hv
      · rename_i hkj
        subst hkj
        split at hv
        · rename_i hl
          injection hv with hv; subst hv
          exact World.cell?_setCell_same _ _ _ (hc k _ (List.getElem?_eq_getElem hl))
        · cases hv
      · rename_i hkj
        rw [World.cell?_setCell_other _ _ _ _ (by intro e; injection e with e1 e2; omega)]
        exact hc j v hv
  · intro b' off' j e hj
    rw [World.frozen?_setCell]
    exact h.nf b' off' j e (by simpa using hj)
theorem OS.far {lo hi : Nat} {w : World} {A : Option Addr} {n : Nat} {xs : List Value} (h : OS lo hi w A n xs) {p : Addr} (hp : ∀ b off, A = some ⟨b, off, none⟩ → n ≠ 0 → b ≠ p.block) (u : Value) : OS lo hi (w.setCell p u) A n xs := by
  by_cases hn : n = 0
  · have := h.nil hn; subst this; subst hn; exact OS.empty _ _ _ _
  · refine ⟨?_, h.rg, ?_, h.nil⟩
    · exact h.sl.keep (by simp [World.setCell]) fun b off e _ => Below.heap_setCell _ _ _ _ (hp b off e hn)
    · intro b off k e hk
      rw [World.frozen?_setCell]; exact h.nf b off k e hk
/-- Two rows lie in different blocks. -/
def Ap (A : Option Addr) (n : Nat) (B : Option Addr) (m : Nat) : Prop := n = 0 ∨ m = 0 ∨ ∀ a b, A = some a → B = some b → a.block ≠ b.block
theorem Ap.symm {A B : Option Addr} {n m : Nat} (h : Ap A n B m) : Ap B m A n := by
  rcases h with h | h | h
  · exact .inr (.inl h)
  · exact .inl h
  · exact .inr (.inr fun a b ea eb => (h b a eb ea).symm)
theorem Ap.of {lo hi lo' hi' : Nat} {A B : Option Addr} {n m : Nat} (h : Rg lo hi A n) (k : Rg lo' hi' B m) (hd : hi ≤ lo' ∨ hi' ≤ lo) : Ap A n B m := by
  rcases h with h | ⟨b, off, rfl, r1, r2⟩
  · exact .inl h
  · rcases k with k | ⟨b', off', rfl, r1', r2'⟩
    · exact .inr (.inl k)
    · refine .inr (.inr fun a b ea eb => ?_)
      injection ea with ea; injection eb with eb; subst ea; subst eb
      show b ≠ b'; omega
theorem own_os {w : World} {B : Nat} {e : TypeId} {A : Option Addr} {s n c : Nat} {xs : List Value} (h : w.ownsRow B e s (.slice A n c) n xs) : OS B w.heap.size w A n xs := by
  rcases h.2 with ⟨h', hn⟩ | ⟨g, cap, cur, h', hb, hg, hnc, hcm, hcs, htake⟩
  · have hl := h.1; subst hn
    have : xs = [] := List.eq_nil_of_length_eq_zero (by simpa using hl)
    subst this; exact OS.empty _ _ _ _
  · injection h' with h1 h2 h3; subst h1
    have hlt := (Array.getElem?_eq_some_iff.1 hg).1
    refine ⟨.inr ⟨g, 0, rfl, hlt, fun k u hu => ?_⟩, .inr ⟨g, 0, rfl, hb, hlt⟩, fun b off k e' _ => ?_, fun hn => List.eq_nil_of_length_eq_zero (by have := h.1; rw [hn] at this; simpa using this)⟩
    · have := h.cells (g := g) rfl k u hu
      rw [← this]; simp [Addr.add]; split <;> simp_all
    · injection e' with e'; injection e' with e1 e2; subst e1
      exact frozen_of_row w g _ cur e hg

/-- The block of a row, none for an empty one. -/
def rowOf (A : Option Addr) (n : Nat) : Option Nat := if n = 0 then none else A.map (·.block)
theorem grown_then' {a b c : World} {r : Option Nat} (g : a.grownBy b r) (h : b.grownBy c r) : a.grownBy c r :=
  ⟨h.os.trans g.os, h.tape.trans g.tape, h.output.trans g.output, Nat.le_trans g.size h.size, fun k hk hne => (h.block k (Nat.lt_of_lt_of_le hk g.size) hne).trans (g.block k hk hne)⟩
theorem grown_one (w : World) (b j : Nat) (u : Value) : w.grownBy (w.setCell ⟨b, j, none⟩ u) (some b) :=
  ⟨rfl, rfl, rfl, by simp [World.setCell], fun k _ hk => Below.heap_setCell _ _ _ _ (fun e => hk (by simp [e]))⟩
theorem grown_only {w w' : World} {A : Option Addr} {n lo hi : Nat} (g : w.grownBy w' (rowOf A n)) (r : Rg lo hi A n) : Only lo hi w w' := by
  refine ⟨g.os, g.tape, g.output, g.size, fun k hk ho => g.block k hk fun e => ?_⟩
  rcases r with r | ⟨b, off, rfl, r1, r2⟩
  · simp [rowOf, r] at e
  · unfold rowOf at e; split at e
    · cases e
    · simp at e; omega
theorem Sl.row {w w' : World} {A B : Option Addr} {n m : Nat} {xs : List Value} (h : Sl w A xs) (g : w.grownBy w' (rowOf B m)) (hx : n = 0 → xs = []) (hap : Ap B m A n) : Sl w' A xs := by
  by_cases hn : n = 0
  · rw [hx hn]; exact .inl rfl
  · refine h.keep g.size fun b off e hlt => g.block b hlt fun e' => ?_
    subst e
    unfold rowOf at e'
    split at e'
    · cases e'
    · rename_i hm
      cases B with
      | none => cases e'
      | some p =>
        simp at e'
        rcases hap with h | h | h
        · exact hm h
        · exact hn h
        · exact h _ _ rfl rfl e'.symm
theorem OS.row {lo hi : Nat} {w w' : World} {A B : Option Addr} {n m : Nat} {xs : List Value} (h : OS lo hi w A n xs) (g : w.grownBy w' (rowOf B m)) (hap : Ap B m A n) : OS lo hi w' A n xs := by
  refine ⟨h.sl.row g h.nil hap, h.rg, fun b off k e hk => ?_, h.nil⟩
  by_cases hn : n = 0
  · rw [h.nil hn] at hk; simp at hk
  · rcases h.sl with hs | ⟨b2, off2, e2', hlt, -⟩
    · rw [hs] at hk; simp at hk
    · rw [e] at e2'; injection e2' with e2'; injection e2' with e3 e4
      have hne : some b ≠ rowOf B m := fun e' => by
        subst e
        unfold rowOf at e'
        split at e'
        · cases e'
        · rename_i hm
          cases B with
          | none => cases e'
          | some p =>
            simp at e'
            rcases hap with h | h | h
            · exact hm h
            · exact hn h
            · exact h _ _ rfl rfl e'.symm
      rw [World.frozen?_of_block (w := w) (g.block b (by omega) hne)]
      exact h.nf b off k e hk

def bls (xs : List Bool) : List Value := xs.map Value.bool
theorem bls_length (xs : List Bool) : (bls xs).length = xs.length := by simp [bls]
theorem bls_set (xs : List Bool) (k : Nat) (b : Bool) : (bls xs).set k (.bool b) = bls (xs.set k b) := by simp [bls, List.map_set]
theorem bls_one (xs : List Bool) : ∀ u ∈ bls xs, u.oneCell' = true := by
  intro u hu; simp [bls] at hu; rcases hu with ⟨-, rfl⟩ | ⟨-, rfl⟩ <;> rfl
/-- A slice of truths reads as xs. -/
def Bools (w : World) (A : Option Addr) (xs : List Bool) : Prop := Sl w A (bls xs)
theorem Bools.below {w w' : World} {A : Option Addr} {xs : List Bool} (h : Bools w A xs) (hb : Below w.heap.size w w') : Bools w' A xs := Sl.below h hb
theorem Bools.dr {w w' : World} {A : Option Addr} {xs : List Bool} (h : Bools w A xs) (d : Dr w w') : Bools w' A xs := Sl.dr h d
theorem Bools.nil (w : World) (A : Option Addr) : Bools w A [] := .inl rfl
theorem Bools.at {w : World} {A : Option Addr} {xs : List Bool} {k : Nat} (h : Bools w A xs) (hk : k < xs.length) :
    ∃ b off x, A = some ⟨b, off, none⟩ ∧ b < w.heap.size ∧ Hid (xs[k]? = some x) ∧ w.cell? ⟨b, off + k, none⟩ = some (.bool x) := by
  rcases h with h | ⟨b, off, rfl, hlt, hc⟩
  · have h' : xs.length = 0 := by rw [← bls_length, h]; rfl
    omega
  · exact ⟨b, off, xs[k], rfl, hlt, List.getElem?_eq_getElem hk, hc k _ (by simp [bls, List.getElem?_eq_getElem hk])⟩
/-- A row of truths of one's own. -/
def BO (lo hi : Nat) (w : World) (A : Option Addr) (xs : List Bool) : Prop := OS lo hi w A xs.length (bls xs)
theorem BO.empty (lo hi : Nat) (w : World) (A : Option Addr) : BO lo hi w A [] := OS.empty lo hi w A
theorem BO.bools {lo hi : Nat} {w : World} {A : Option Addr} {xs : List Bool} (h : BO lo hi w A xs) : Bools w A xs := h.sl
theorem BO.mono {lo hi lo' hi' : Nat} {w : World} {A : Option Addr} {xs : List Bool} (h : BO lo hi w A xs) (h1 : lo' ≤ lo) (h2 : hi ≤ hi') : BO lo' hi' w A xs := OS.mono h h1 h2
theorem BO.only {lo hi lo' hi' : Nat} {w w' : World} {A : Option Addr} {xs : List Bool} (h : BO lo' hi' w A xs) (o : Only lo hi w w') (hd : hi' ≤ lo ∨ hi ≤ lo') : BO lo' hi' w' A xs := OS.only h o hd
theorem BO.below {lo hi : Nat} {w w' : World} {A : Option Addr} {xs : List Bool} (h : BO lo hi w A xs) (b : Below w.heap.size w w') : BO lo hi w' A xs := OS.below h b
theorem BO.at {lo hi : Nat} {w : World} {A : Option Addr} {xs : List Bool} {k : Nat} (h : BO lo hi w A xs) (hk : k < xs.length) :
    ∃ b off x, A = some ⟨b, off, none⟩ ∧ (lo ≤ b ∧ b < hi ∧ b < w.heap.size) ∧ Hid (xs[k]? = some x) ∧ w.cell? ⟨b, off + k, none⟩ = some (.bool x) ∧ w.frozen? ⟨b, off + k, none⟩ = false := by
  obtain ⟨b, off, v, e, hb, hv, hc, hf⟩ := OS.at h (k := k) (by rw [bls_length]; exact hk)
  have hv' := hv.out
  simp only [bls, List.getElem?_map, List.getElem?_eq_getElem hk, Option.map_some] at hv'
  injection hv' with hv'
  exact ⟨b, off, xs[k], e, hb, List.getElem?_eq_getElem hk, by rw [hc, ← hv'], hf⟩
theorem BO.set {lo hi : Nat} {w : World} {b off : Nat} {xs : List Bool} (h : BO lo hi w (some ⟨b, off, none⟩) xs) (k : Nat) (x : Bool) : BO lo hi (w.setCell ⟨b, off + k, none⟩ (.bool x)) (some ⟨b, off, none⟩) (xs.set k x) := by
  have := OS.set h k (.bool x)
  unfold BO; rw [← bls_set, List.length_set]; exact this
theorem BO.far {lo hi : Nat} {w : World} {A : Option Addr} {xs : List Bool} (h : BO lo hi w A xs) {b off k m : Nat} (hp : Ap (some ⟨b, off, none⟩) m A xs.length) (hm : m ≠ 0) (u : Value) : BO lo hi (w.setCell ⟨b, off + k, none⟩ u) A xs :=
  OS.far h (fun b' off' e hn => by
    rcases hp with hp | hp | hp
    · exact absurd hp hm
    · exact absurd hp hn
    · exact (hp _ _ rfl e).symm) u
/-- Calls that read; calls of one's own. -/
structure CR (w : World) (A0 A1 A2 : Option Addr) (C : Cl) : Prop where
  up : Bools w A0 C.up
  dn : Bools w A1 C.dn
  car : Bools w A2 C.car
theorem CR.below {w w' : World} {A0 A1 A2 : Option Addr} {C : Cl} (h : CR w A0 A1 A2 C) (b : Below w.heap.size w w') : CR w' A0 A1 A2 C := ⟨h.up.below b, h.dn.below b, h.car.below b⟩
structure CO (lo hi : Nat) (w : World) (A0 A1 A2 : Option Addr) (C : Cl) : Prop where
  up : BO lo hi w A0 C.up
  dn : BO lo hi w A1 C.dn
  car : BO lo hi w A2 C.car
  ud : Ap A0 C.up.length A1 C.dn.length
  uc : Ap A0 C.up.length A2 C.car.length
  dc : Ap A1 C.dn.length A2 C.car.length
theorem CO.cr {lo hi : Nat} {w : World} {A0 A1 A2 : Option Addr} {C : Cl} (h : CO lo hi w A0 A1 A2 C) : CR w A0 A1 A2 C := ⟨h.up.bools, h.dn.bools, h.car.bools⟩
theorem CO.mono {lo hi lo' hi' : Nat} {w : World} {A0 A1 A2 : Option Addr} {C : Cl} (h : CO lo hi w A0 A1 A2 C) (h1 : lo' ≤ lo) (h2 : hi ≤ hi') : CO lo' hi' w A0 A1 A2 C := ⟨h.up.mono h1 h2, h.dn.mono h1 h2, h.car.mono h1 h2, h.ud, h.uc, h.dc⟩
theorem CO.only {lo hi lo' hi' : Nat} {w w' : World} {A0 A1 A2 : Option Addr} {C : Cl} (h : CO lo' hi' w A0 A1 A2 C) (o : Only lo hi w w') (hd : hi' ≤ lo ∨ hi ≤ lo') : CO lo' hi' w' A0 A1 A2 C := ⟨h.up.only o hd, h.dn.only o hd, h.car.only o hd, h.ud, h.uc, h.dc⟩
theorem CO.below {lo hi : Nat} {w w' : World} {A0 A1 A2 : Option Addr} {C : Cl} (h : CO lo hi w A0 A1 A2 C) (b : Below w.heap.size w w') : CO lo hi w' A0 A1 A2 C := ⟨h.up.below b, h.dn.below b, h.car.below b, h.ud, h.uc, h.dc⟩
theorem CO.zero (lo hi : Nat) (w : World) (A0 A1 A2 : Option Addr) : CO lo hi w A0 A1 A2 ⟨[], [], []⟩ := ⟨BO.empty _ _ _ _, BO.empty _ _ _ _, BO.empty _ _ _ _, .inl rfl, .inl rfl, .inl rfl⟩
theorem CO.setUp {lo hi : Nat} {w : World} {b off : Nat} {A1 A2 : Option Addr} {C : Cl} (h : CO lo hi w (some ⟨b, off, none⟩) A1 A2 C) {k : Nat} (hk : k < C.up.length) (x : Bool) :
    CO lo hi (w.setCell ⟨b, off + k, none⟩ (.bool x)) (some ⟨b, off, none⟩) A1 A2 ⟨C.up.set k x, C.dn, C.car⟩ :=
  ⟨h.up.set k x, h.dn.far h.ud (by omega) _, h.car.far h.uc (by omega) _, by simpa using h.ud, by simpa using h.uc, h.dc⟩
theorem CO.setDn {lo hi : Nat} {w : World} {b off : Nat} {A0 A2 : Option Addr} {C : Cl} (h : CO lo hi w A0 (some ⟨b, off, none⟩) A2 C) {k : Nat} (hk : k < C.dn.length) (x : Bool) :
    CO lo hi (w.setCell ⟨b, off + k, none⟩ (.bool x)) A0 (some ⟨b, off, none⟩) A2 ⟨C.up, C.dn.set k x, C.car⟩ :=
  ⟨h.up.far h.ud.symm (by omega) _, h.dn.set k x, h.car.far h.dc (by omega) _, by simpa using h.ud, h.uc, by simpa using h.dc⟩
theorem CO.setCar {lo hi : Nat} {w : World} {b off : Nat} {A0 A1 : Option Addr} {C : Cl} (h : CO lo hi w A0 A1 (some ⟨b, off, none⟩) C) {k : Nat} (hk : k < C.car.length) (x : Bool) :
    CO lo hi (w.setCell ⟨b, off + k, none⟩ (.bool x)) A0 A1 (some ⟨b, off, none⟩) ⟨C.up, C.dn, C.car.set k x⟩ :=
  ⟨h.up.far h.uc.symm (by omega) _, h.dn.far h.dc.symm (by omega) _, h.car.set k x, h.ud, by simpa using h.uc, by simpa using h.dc⟩
end Go.Proofs.YtmekhjaeclgonaaDoor
