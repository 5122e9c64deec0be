/-
  Words of my own for memory (no program in sight): a slice that reads as a list of values, nil let in; small lemmas.
-/
import Derived.WalkKit
import Derived.WalkLawsBesides
import Derived.WalkSpells
import Derived.Outline
import Derived.Deep.QuietTactic
import Derived.BigQuiet
import Derived.Deep.LoopGhost
import Derived.Deep.RegionWith
import Derived.OwnWalk
import Derived.Maps.AppendAt
import Derived.Deep.AppendLies
import Derived.Deep.Draws
import Derived.Laws.OwnMore
import Derived.Laws.Rows
import Derived.Below
namespace Go.Proofs.YtmekhjaeclgonaaDoor
open Go.RowKit

/-- A name for the world at a piece of code. -/
theorem code_name {P : Program} {c : Code} {Q : Exit → Act → World → Prop} {a : Act} {w : World} (h : ∀ W, W = w → Code.wp P c Q a W) : Code.wp P c Q a w := h w rfl
theorem hide {p : Prop} (h : p) : Hid p := h
theorem ret_bool {a b : Bool} (h : a = b) : Ending.returned (.bool a) = .returned (.bool b) := by rw [h]
theorem ret_int {k : IntKind} {a b : Int} (h : a = b) : Ending.returned (.int k a) = .returned (.int k b) := by rw [h]

/-- A slice value with address A reads as the values xs. -/
def Sl (w : World) (A : Option Addr) (xs : List Value) : Prop :=
  xs = [] ∨ ∃ b off, A = some ⟨b, off, none⟩ ∧ b < w.heap.size ∧ ∀ k u, xs[k]? = some u → w.cell? ⟨b, off + k, none⟩ = some u

def iv (x : Int) : Value := .int .i64 x
def ivs (xs : List Int) : List Value := xs.map iv
theorem ivs_length (xs : List Int) : (ivs xs).length = xs.length := by simp [ivs]

/-- A slice of int reads as xs. -/
def Ints (w : World) (A : Option Addr) (xs : List Int) : Prop := Sl w A (ivs xs)

theorem Sl.keep {w w' : World} {A : Option Addr} {xs : List Value} (h : Sl w A xs) (hs : w.heap.size ≤ w'.heap.size) (hb : ∀ b off, A = some ⟨b, off, none⟩ → b < w.heap.size → w'.heap[b]? = w.heap[b]?) : Sl w' A xs := by
  rcases h with h | ⟨b, off, rfl, hlt, hc⟩
  · exact .inl h
  · exact .inr ⟨b, off, rfl, by omega, fun k u hu => (World.cell?_of_block (hb b off rfl hlt)).trans (hc k u hu)⟩
theorem Sl.below {w w' : World} {A : Option Addr} {xs : List Value} (h : Sl w A xs) (hb : Below w.heap.size w w') : Sl w' A xs :=
  h.keep hb.size fun b _ _ hlt => hb.block b hlt
theorem Ints.below {w w' : World} {A : Option Addr} {xs : List Int} (h : Ints w A xs) (hb : Below w.heap.size w w') : Ints w' A xs := Sl.below h hb
theorem Sl.drewN {w : World} {A : Option Addr} {xs : List Value} (h : Sl w A xs) (n : Nat) : Sl (w.drewN n) A xs := h
theorem Ints.drewN {w : World} {A : Option Addr} {xs : List Int} (h : Ints w A xs) (n : Nat) : Ints (w.drewN n) A xs := h
theorem Sl.nil (w : World) (A : Option Addr) : Sl w A [] := .inl rfl
theorem Ints.nil (w : World) (A : Option Addr) : Ints w A [] := .inl rfl

/-- The k-th element, inside a round. -/
theorem Ints.at {w : World} {A : Option Addr} {xs : List Int} {k : Nat} (h : Ints w A xs) (hk : k < xs.length) :
    ∃ b off x, A = some ⟨b, off, none⟩ ∧ Hid (xs[k]? = some x) ∧ w.cell? ⟨b, off + k, none⟩ = some (.int .i64 x) := by
  rcases h with h | ⟨b, off, rfl, _, hc⟩
  · have h' : xs.length = 0 := by rw [← ivs_length, h]; rfl
    omega
  · exact ⟨b, off, xs[k], rfl, List.getElem?_eq_getElem hk, hc k _ (by simp [ivs, iv, List.getElem?_eq_getElem hk])⟩
theorem Sl.take {w : World} {A : Option Addr} {xs : List Value} (h : Sl w A xs) (n : Nat) : Sl w A (xs.take n) := by
  rcases h with h | ⟨b, off, e, hlt, hc⟩
  · left; simp [h]
  · right
    refine ⟨b, off, e, hlt, fun k u hu => hc k u ?_⟩
    rw [List.getElem?_take] at hu
    split at hu
    · exact hu
    · cases hu
theorem Sl.drop {w : World} {b off : Nat} {xs : List Value} (h : Sl w (some ⟨b, off, none⟩) xs) (n : Nat) : Sl w (some ⟨b, off + n, none⟩) (xs.drop n) := by
  rcases h with h | ⟨b', off', e, hlt, hc⟩
  · left; simp [h]
  · injection e with e; injection e with e1 e2; subst e1 e2
    right
    refine ⟨b, off + n, rfl, hlt, fun k u hu => ?_⟩
    rw [List.getElem?_drop] at hu
    rw [Nat.add_assoc]; exact hc _ u hu
theorem Ints.take {w : World} {A : Option Addr} {xs : List Int} (h : Ints w A xs) (n : Nat) : Ints w A (xs.take n) := by
  unfold Ints ivs; rw [List.map_take]; exact Sl.take h n
theorem Ints.drop {w : World} {b off : Nat} {xs : List Int} (h : Ints w (some ⟨b, off, none⟩) xs) (n : Nat) : Ints w (some ⟨b, off + n, none⟩) (xs.drop n) := by
  unfold Ints ivs; rw [List.map_drop]; exact Sl.drop h n
theorem Ints.short {w : World} {A : Option Addr} {xs : List Int} {k : Nat} (h : xs.length ≤ k) : Ints w A (xs.drop k) := by rw [List.drop_of_length_le h]; exact .inl rfl
theorem calls_len {P : Program} {f : FuncId} {A : Option Addr} {c n m : Nat} {rest : List Value} {w : World} {Q : Ending → World → Prop} (h : Calls P f ⟨.slice A n c :: rest⟩ w Q) (e : m = n) : Calls P f ⟨.slice A m c :: rest⟩ w Q := by rw [e]; exact h
theorem Ints.cell {w : World} {b off : Nat} {xs : List Int} {k : Nat} (h : Ints w (some ⟨b, off, none⟩) xs) (hk : k < xs.length) :
    ∃ x, Hid (xs[k]? = some x) ∧ w.cell? ⟨b, off + k, none⟩ = some (.int .i64 x) := by
  obtain ⟨b', off', x, e, hx, hc⟩ := h.at hk
  injection e with e; injection e with e1 e2; subst e1 e2
  exact ⟨x, hx, hc⟩
/-- The first n cells at A lie in a block from B on, and are not frozen. -/
def Fr (B : Nat) (w : World) (A : Option Addr) (n : Nat) : Prop :=
  n = 0 ∨ ∃ b off, A = some ⟨b, off, none⟩ ∧ B ≤ b ∧ b < w.heap.size ∧ ∀ k, k < n → w.frozen? ⟨b, off + k, none⟩ = false
theorem Fr.keep {B : Nat} {w w' : World} {A : Option Addr} {n : Nat} (h : Fr B w A n) (hs : w.heap.size ≤ w'.heap.size) (hb : ∀ b off, A = some ⟨b, off, none⟩ → b < w.heap.size → w'.heap[b]? = w.heap[b]?) : Fr B w' A n := by
  rcases h with h | ⟨b, off, rfl, h1, h2, h3⟩
  · exact .inl h
  · exact .inr ⟨b, off, rfl, h1, by omega, fun k hk => (World.frozen?_of_block (hb b off rfl h2)).trans (h3 k hk)⟩
theorem Fr.below {B : Nat} {w w' : World} {A : Option Addr} {n : Nat} (h : Fr B w A n) (hb : Below w.heap.size w w') : Fr B w' A n :=
  h.keep hb.size fun b _ _ hlt => hb.block b hlt
theorem Fr.mono {B B' : Nat} {w : World} {A : Option Addr} {n : Nat} (h : Fr B w A n) (hB : B' ≤ B) : Fr B' w A n := by
  rcases h with h | ⟨b, off, rfl, h1, h2, h3⟩
  · exact .inl h
  · exact .inr ⟨b, off, rfl, by omega, h2, h3⟩
theorem Fr.drewN {B : Nat} {w : World} {A : Option Addr} {n : Nat} (h : Fr B w A n) (k : Nat) : Fr B (w.drewN k) A n := h

theorem owns_sl {w : World} {B : Nat} {e : TypeId} {A : Option Addr} {n c : Nat} {xs : List Value} (h : w.ownsRow B e 1 (.slice A n c) n xs) : Sl w A xs := by
  rcases h.2 with ⟨h', hn⟩ | ⟨g, cap, cur, h', hb, hg, hnc, hcm, hcs, htake⟩
  · have := h.1; subst hn; exact .inl (List.eq_nil_of_length_eq_zero (by simpa using this))
  · injection h' with h1 h2 h3; subst h1
    refine .inr ⟨g, 0, rfl, (Array.getElem?_eq_some_iff.1 hg).1, fun k u hu => ?_⟩
    have := h.cells (g := g) rfl k u hu
    rw [← this]; simp [Addr.add]; split <;> simp_all
theorem owns_fr {w : World} {B : Nat} {e : TypeId} {A : Option Addr} {n c : Nat} {xs : List Value} (h : w.ownsRow B e 1 (.slice A n c) n xs) : Fr B w A n := by
  rcases h.2 with ⟨h', hn⟩ | ⟨g, cap, cur, h', hb, hg, hnc, hcm, hcs, htake⟩
  · exact .inl hn
  · injection h' with h1 h2 h3; subst h1
    exact .inr ⟨g, 0, rfl, hb, (Array.getElem?_eq_some_iff.1 hg).1, fun k _ => frozen_of_row w g _ cur e hg⟩
theorem owns_ints {w : World} {B : Nat} {e : TypeId} {A : Option Addr} {n c : Nat} {xs : List Int} (h : w.ownsRow B e 1 (.slice A n c) n (ivs xs)) : Ints w A xs := owns_sl h

/-- Reads as xs, in blocks from lo on. -/
def FrI (lo : Nat) (w : World) (A : Option Addr) (xs : List Int) : Prop := Ints w A xs ∧ Fr lo w A xs.length
theorem grown_block {w w' : World} {lo R : Nat} {A : Option Addr} {n : Nat} (f : Fr lo w A n) (g : w.grownBy w' (some R)) (h : R < lo) (hn : 0 < n) : ∀ b off, A = some ⟨b, off, none⟩ → b < w.heap.size → w'.heap[b]? = w.heap[b]? := by
  intro b off e hlt
  rcases f with f | ⟨b', off', e', h1, -⟩
  · omega
  · rw [e] at e'; injection e' with e'; injection e' with e1 e2
    exact g.block b hlt (by intro e; injection e; omega)
theorem FrI.grown {lo R : Nat} {w w' : World} {A : Option Addr} {xs : List Int} (h : FrI lo w A xs) (g : w.grownBy w' (some R)) (hR : R < lo) : FrI lo w' A xs := by
  by_cases h0 : xs.length = 0
  · have : xs = [] := List.eq_nil_of_length_eq_zero h0
    subst this; exact ⟨.inl rfl, .inl rfl⟩
  · exact ⟨Sl.keep h.1 g.size (grown_block h.2 g hR (by omega)), Fr.keep h.2 g.size (grown_block h.2 g hR (by omega))⟩
theorem FrI.below {lo : Nat} {w w' : World} {A : Option Addr} {xs : List Int} (h : FrI lo w A xs) (hb : Below w.heap.size w w') : FrI lo w' A xs := ⟨h.1.below hb, h.2.below hb⟩
theorem FrI.mono {lo lo' : Nat} {w : World} {A : Option Addr} {xs : List Int} (h : FrI lo w A xs) (hl : lo' ≤ lo) : FrI lo' w A xs := ⟨h.1, h.2.mono hl⟩
theorem owns_fri {w : World} {B : Nat} {e : TypeId} {A : Option Addr} {n c : Nat} {xs : List Int} (h : w.ownsRow B e 1 (.slice A n c) n (ivs xs)) : FrI B w A xs := ⟨owns_ints h, by have := h.1; rw [ivs_length] at this; rw [show xs.length = n from by omega]; exact owns_fr h⟩
theorem results_tmp4 {fn : Func} {t u v x : Tmp} (h : fn.results = #[.tmp t, .tmp u, .tmp v, .tmp x]) (tmps : Array Value) (P : Program) (w : World) :
    (results fn tmps).run P w = .ok (.tuple #[tmps.getD t undef, tmps.getD u undef, tmps.getD v undef, tmps.getD x undef]) w := by simp [results, h]

theorem below_drewN {B : Nat} {a w : World} (h : Below B a w) (n : Nat) : Below B a (w.drewN n) := ⟨h.os, h.tape, h.output, h.size, h.block⟩

theorem bthen {a b c : World} (h : Below a.heap.size a b) (k : Below b.heap.size b c) : Below a.heap.size a c := h.trans (k.mono h.size)
theorem bdrew {a b : World} (h : Below a.heap.size a b) (n : Nat) : Below a.heap.size a (b.drewN n) := below_drewN h n

/-- Only draws lie between the two worlds. -/
def Dr (w w' : World) : Prop := ∃ n, w' = w.drewN n
theorem Dr.refl (w : World) : Dr w w := ⟨0, rfl⟩
theorem Dr.of_eq {w w' : World} (h : w = w') : Dr w w' := ⟨0, h.symm⟩
theorem Dr.more {w w' : World} (h : Dr w w') (n : Nat) : Dr w (w'.drewN n) := by obtain ⟨k, rfl⟩ := h; exact ⟨k + n, World.drewN_drewN _ _ _⟩
theorem Dr.then {a b c : World} (h : Dr a b) (k : Dr b c) : Dr a c := by obtain ⟨n, rfl⟩ := k; exact h.more n
theorem Dr.size {w w' : World} (h : Dr w w') : w'.heap.size = w.heap.size := by obtain ⟨n, rfl⟩ := h; rfl
theorem Dr.cell {w w' : World} (h : Dr w w') (p : Addr) : w'.cell? p = w.cell? p := by obtain ⟨n, rfl⟩ := h; rfl
theorem Dr.frozen {w w' : World} (h : Dr w w') (p : Addr) : w'.frozen? p = w.frozen? p := by obtain ⟨n, rfl⟩ := h; rfl
theorem Dr.below {w w' : World} (h : Dr w w') : Below w.heap.size w w' := by obtain ⟨n, rfl⟩ := h; exact below_drewN (Below.refl _ _) n
theorem Sl.dr {w w' : World} {A : Option Addr} {xs : List Value} (h : Sl w A xs) (d : Dr w w') : Sl w' A xs := h.below d.below
theorem Ints.dr {w w' : World} {A : Option Addr} {xs : List Int} (h : Ints w A xs) (d : Dr w w') : Ints w' A xs := h.below d.below
theorem Fr.dr {B : Nat} {w w' : World} {A : Option Addr} {n : Nat} (h : Fr B w A n) (d : Dr w w') : Fr B w' A n := h.below d.below
theorem quiet_left {P : Program} {f : FuncId} {args : Array Value} {w w0 : World} {v : Value}
    (h : Calls P f args w fun e w' => e = .returned v ∧ w = w') (hw : ∃ m, w = w0.drewN m) : Calls P f args w fun e w'' => e = .returned v ∧ ∃ m, w'' = w0.drewN m :=
  h.mono fun _ _ ⟨he, hm⟩ => ⟨he, by subst hm; exact hw⟩
theorem quiet_dr {P : Program} {f : FuncId} {args : Array Value} {w w0 : World} {v : Value}
    (h : Calls P f args w fun e w' => e = .returned v ∧ Dr w w') (hw : ∃ m, w = w0.drewN m) : Calls P f args w fun e w'' => e = .returned v ∧ ∃ m, w'' = w0.drewN m :=
  h.mono fun _ _ ⟨he, hm⟩ => ⟨he, (Dr.then hw hm : Dr w0 _)⟩

theorem take_snoc' {α : Type} (xs : List α) (k : Nat) (x : α) (h : xs[k]? = some x) : xs.take (k + 1) = xs.take k ++ [x] := by
  rw [List.take_add_one, h]; rfl
theorem getElem?_lt {α : Type} {xs : List α} {k : Nat} {x : α} (h : xs[k]? = some x) : k < xs.length := (List.getElem?_eq_some_iff.1 h).1

theorem all_bad {α : Type} {p : α → Bool} {xs : List α} {k : Nat} {x : α} (h : xs[k]? = some x) (hp : p x = false) : xs.all p = false := by
  rw [List.all_eq_false]; exact ⟨x, List.mem_of_getElem? h, by simp [hp]⟩
theorem all_step {α : Type} {p : α → Bool} {xs : List α} {k : Nat} {x : α} (h : (xs.take k).all p = true) (hx : xs[k]? = some x) (hp : p x = true) : (xs.take (k + 1)).all p = true := by
  rw [take_snoc' xs k x hx]; simp [h, hp]
theorem all_done {α : Type} {p : α → Bool} {xs : List α} {k : Nat} (h : (xs.take k).all p = true) (hk : xs.length ≤ k) : xs.all p = true := by
  rwa [List.take_of_length_le hk] at h

/-- Two lists, held against each other place by place. -/
def eqL {α : Type} [DecidableEq α] (xs ys : List α) : Bool := decide (xs = ys)
theorem eqL_len {α : Type} [DecidableEq α] {xs ys : List α} (h : ¬ xs.length = ys.length) : eqL xs ys = false := by
  unfold eqL; simp; rintro rfl; exact h rfl
theorem eqL_bad {α : Type} [DecidableEq α] {xs ys : List α} {k : Nat} {x y : α} (hx : xs[k]? = some x) (hy : ys[k]? = some y) (h : x ≠ y) : eqL xs ys = false := by
  unfold eqL; simp; rintro rfl; rw [hx] at hy; injection hy with hy; exact h hy
theorem eqL_step {α : Type} {xs ys : List α} {k : Nat} {x y : α} (h : xs.take k = ys.take k) (hx : xs[k]? = some x) (hy : ys[k]? = some y) (e : x = y) : xs.take (k + 1) = ys.take (k + 1) := by
  rw [take_snoc' xs k x hx, take_snoc' ys k y hy, h, e]
theorem eqL_done {α : Type} [DecidableEq α] {xs ys : List α} {k : Nat} (h : xs.take k = ys.take k) (hx : xs.length ≤ k) (hy : ys.length ≤ k) : eqL xs ys = true := by
  rw [List.take_of_length_le hx, List.take_of_length_le hy] at h; unfold eqL; simp [h]
theorem eqL_self {α : Type} [DecidableEq α] (xs : List α) : eqL xs xs = true := by unfold eqL; simp

end Go.Proofs.YtmekhjaeclgonaaDoor
