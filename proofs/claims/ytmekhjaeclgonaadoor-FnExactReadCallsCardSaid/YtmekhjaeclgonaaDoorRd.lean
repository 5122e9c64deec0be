/- The reader of the drawn codes: a block of two cells (the bytes and the position). -/
import Derived.Test.YtmekhjaeclgonaaDoorSmall
import Derived.Laws.BitsAllLaws
import Derived.Laws.BitsLemmas
namespace Go.Proofs.YtmekhjaeclgonaaDoor
open Go.RowKit

theorem ofInt_i64 (a : Nat) (ha : a < 9223372036854775808) : (BitVec.ofInt 64 (a : Int)).toNat = a := by
  rw [BitVec.ofInt_natCast, BitVec.toNat_ofNat]; exact Nat.mod_eq_of_lt (by omega)
theorem i64_xor_nat (a b : Nat) (ha : a < 9223372036854775808) (hb : b < 9223372036854775808) : bits .xor .i64 (a : Int) (b : Int) = ((a ^^^ b : Nat) : Int) := by
  have hx : a ^^^ b < 2 ^ 63 := Nat.xor_lt_two_pow (by omega) (by omega)
  show IntKind.i64.wrap ((BitVec.ofInt 64 (a : Int) ^^^ BitVec.ofInt 64 (b : Int)).toNat : Int) = _
  rw [BitVec.toNat_xor, ofInt_i64 a ha, ofInt_i64 b hb, IntKind.wrap_i64]
  omega
theorem xor_nonneg {X : Int} (h1 : 0 ≤ X) (h2 : X ≤ 100000000) : 0 ≤ bits .xor .i64 X (X / 64) := by
  obtain ⟨x, rfl⟩ := Int.eq_ofNat_of_zero_le h1
  rw [show ((x : Int) / 64) = ((x / 64 : Nat) : Int) from by omega, i64_xor_nat x (x / 64) (by omega) (by omega)]
  exact Int.natCast_nonneg _
theorem tmod_nonneg {x n : Int} (h : 0 ≤ x) (_hn : 1 ≤ n) : 0 ≤ x.tmod n := by rw [Int.tmod_eq_emod_of_nonneg h]; exact Int.emod_nonneg _ (by omega)
theorem tmod_lt {x n : Int} (h : 0 ≤ x) (hn : 1 ≤ n) : x.tmod n < n := by rw [Int.tmod_eq_emod_of_nonneg h]; exact Int.emod_lt_of_pos _ (by omega)

def bvs (bs : List Int) : List Value := bs.map (Value.int .u8)
/-- Block R is a reader over bytes that lie below it, its position at most q. -/
def Rd (w : World) (R q : Nat) : Prop :=
  ∃ (A : Option Addr) (bs : List Int) (c p : Nat), w.heap[R]? = some (.cells #[.slice A bs.length c, .int .i64 (p : Int)] 52 (0, 0)) ∧ p ≤ q ∧ bs.length ≤ 2000 ∧
    (bs = [] ∨ ∃ b off, A = some ⟨b, off, none⟩ ∧ b < R ∧ ∀ (k : Nat) (u : Int), bs[k]? = some u → w.cell? ⟨b, off + k, none⟩ = some (.int .u8 u)) ∧ ∀ x ∈ bs, 0 ≤ x ∧ x ≤ 255
theorem Rd.lt {w : World} {R q : Nat} (h : Rd w R q) : R < w.heap.size := by
  obtain ⟨A, bs, c, p, hb, -⟩ := h; exact (Array.getElem?_eq_some_iff.1 hb).1
theorem Rd.keep {w w' : World} {R q : Nat} (h : Rd w R q) (hb : ∀ k, k ≤ R → w'.heap[k]? = w.heap[k]?) : Rd w' R q := by
  obtain ⟨A, bs, c, p, h1, h2, h3, h4, h5⟩ := h
  refine ⟨A, bs, c, p, (hb R (Nat.le_refl _)).trans h1, h2, h3, ?_, h5⟩
  rcases h4 with h4 | ⟨b, off, e, hlt, hc⟩
  · exact .inl h4
  · exact .inr ⟨b, off, e, hlt, fun k u hu => (World.cell?_of_block (hb b (by omega))).trans (hc k u hu)⟩
theorem Rd.below {w w' : World} {R q : Nat} (h : Rd w R q) (hb : Below w.heap.size w w') : Rd w' R q := h.keep fun k hk => hb.block k (by have := h.lt; omega)
theorem Rd.mono {w : World} {R q q' : Nat} (h : Rd w R q) (hq : q ≤ q') : Rd w R q' := by
  obtain ⟨A, bs, c, p, h1, h2, h3, h4, h5⟩ := h; exact ⟨A, bs, c, p, h1, by omega, h3, h4, h5⟩
theorem Rd.grown {w w' : World} {R q g : Nat} (h : Rd w R q) (hg : w.grownBy w' (some g)) (hgR : R < g) : Rd w' R q :=
  h.keep fun k hk => hg.block k (by have := h.lt; omega) (by intro e; injection e; omega)

theorem Rd.byte {w : World} {R : Nat} {A : Option Addr} {bs : List Int} (h4 : bs = [] ∨ ∃ b off, A = some ⟨b, off, none⟩ ∧ b < R ∧ ∀ (k : Nat) (u : Int), bs[k]? = some u → w.cell? ⟨b, off + k, none⟩ = some (.int .u8 u))
    (h5 : ∀ x ∈ bs, 0 ≤ x ∧ x ≤ 255) (h : 0 < bs.length) : ∃ b off, A = some ⟨b, off, none⟩ ∧ b < R ∧ ∀ k, k < bs.length → ∃ u : Int, w.cell? ⟨b, off + k, none⟩ = some (.int .u8 u) ∧ 0 ≤ u ∧ u ≤ 255 := by
  rcases h4 with h4 | ⟨b, off, e, hlt, hc⟩
  · subst h4; simp at h
  · exact ⟨b, off, e, hlt, fun k hk => ⟨bs[k], hc k _ (List.getElem?_eq_getElem hk), h5 _ (List.getElem_mem hk)⟩⟩
theorem Rd.set {w : World} {R q : Nat} {A : Option Addr} {bs : List Int} {c p : Nat} (h1 : w.heap[R]? = some (.cells #[.slice A bs.length c, .int .i64 (p : Int)] 52 (0, 0))) (h2 : p ≤ q) (h3 : bs.length ≤ 2000)
    (h4 : bs = [] ∨ ∃ b off, A = some ⟨b, off, none⟩ ∧ b < R ∧ ∀ (k : Nat) (u : Int), bs[k]? = some u → w.cell? ⟨b, off + k, none⟩ = some (.int .u8 u)) (h5 : ∀ x ∈ bs, 0 ≤ x ∧ x ≤ 255) :
    Rd (w.setCell ⟨R, 1, none⟩ (.int .i64 ((p : Int) + 1))) R (q + 1) := by
  have hs := heap_setCell_same w R 1 _ _ (.int .i64 ((p : Int) + 1)) h1
  refine ⟨A, bs, c, p + 1, ?_, by omega, h3, ?_, h5⟩
  · rw [hs]; rfl
  · rcases h4 with h4 | ⟨b, off, e, hlt, hc⟩
    · exact .inl h4
    · exact .inr ⟨b, off, e, hlt, fun k u hu => (World.cell?_of_block (Below.heap_setCell _ _ _ _ (by show b ≠ R; omega))).trans (hc k u hu)⟩
theorem grown_set (w : World) (R j : Nat) (u : Value) : w.grownBy (w.setCell ⟨R, j, none⟩ u) (some R) ∧ (w.setCell ⟨R, j, none⟩ u).heap.size = w.heap.size :=
  ⟨⟨rfl, rfl, rfl, by simp, fun k _ hk => heap_setCell_other w ⟨R, j, none⟩ k u (fun e => hk (by simp [e]))⟩, by simp⟩
theorem grown_drewN {w w' : World} {r : Option Nat} (h : w.grownBy w' r) (n : Nat) : w.grownBy (w'.drewN n) r := ⟨h.os, h.tape, h.output, h.size, h.block⟩
/-- What a pick leaves. -/
def Picked (R q : Nat) (n : Int) (w : World) (e : Ending) (w' : World) : Prop :=
  ∃ x : Int, e = .returned (.int .i64 x) ∧ 0 ≤ x ∧ x < n ∧ Rd w' R (q + 1) ∧ w.grownBy w' (some R) ∧ w'.heap.size = w.heap.size
theorem Picked.mk {R q : Nat} {n : Int} {w : World} {A : Option Addr} {bs : List Int} {c p : Nat} (h1 : w.heap[R]? = some (.cells #[.slice A bs.length c, .int .i64 (p : Int)] 52 (0, 0))) (h2 : p ≤ q) (h3 : bs.length ≤ 2000)
    (h4 : bs = [] ∨ ∃ b off, A = some ⟨b, off, none⟩ ∧ b < R ∧ ∀ (k : Nat) (u : Int), bs[k]? = some u → w.cell? ⟨b, off + k, none⟩ = some (.int .u8 u)) (h5 : ∀ x ∈ bs, 0 ≤ x ∧ x ≤ 255) (x : Int) (hx : 0 ≤ x) (hxn : x < n) (m : Nat) :
    Picked R q n w (.returned (.int .i64 x)) ((w.setCell ⟨R, 1, none⟩ (.int .i64 ((p : Int) + 1))).drewN m) :=
  ⟨x, rfl, hx, hxn, Rd.set h1 h2 h3 h4 h5, grown_drewN (grown_set _ _ _ _).1 m, (grown_set _ _ _ _).2⟩

theorem pick_any (R q : Nat) (n : Int) (w : World) (h : Rd w R q) (hq : q ≤ 100000) (hn : 1 ≤ n) :
    Calls Tryd.prog 20 #[.pointer (some ⟨R, 0, none⟩), .int .i64 n] w (Picked R q n w) := by
  obtain ⟨A, bs, c, p, h1, h2, h3, h4, h5⟩ := h
  have H1 := hide h1; have H4 := hide h4; have H5 := hide h5
  have hc0 : w.cell? ⟨R, 0, none⟩ = some (.slice A bs.length c) := by rw [cell_of_row w R 0 _ _ (0, 0) h1]; rfl
  have hc1 : w.cell? ⟨R, 1, none⟩ = some (.int .i64 (p : Int)) := by rw [cell_of_row w R 1 _ _ (0, 0) h1]; rfl
  have hf1 : w.frozen? ⟨R, 1, none⟩ = false := frozen_of_row w R 1 _ _ h1
  clear h1 h4 h5
  by_cases hb : bs.length = 0
  · have hb' : ((bs.length : Int) == 0) = true := by simp [hb]
    clear hb
    go_enter Tryd.func20, Tryd.ntmps20
    go_wp2
    go_ret
    exact Picked.mk H1.out h2 h3 H4.out H5.out 0 (by omega) (by omega) 0
  · have hb' : ((bs.length : Int) == 0) = false := by simp; intro e; exact hb (by simp [e])
    have hb0 : 0 < bs.length := by omega
    obtain ⟨b, off, rfl, hbR, hby⟩ := Rd.byte H4.out H5.out hb0
    have HY := hide hby
    have hne : ¬ b = R := by omega
    clear hb hby
    by_cases hp : p < bs.length
    · obtain ⟨u, hu, u1, u2⟩ := HY.out p hp
      go_enter Tryd.func20, Tryd.ntmps20
      go_wp2
      go_ret
      exact Picked.mk H1.out h2 h3 H4.out H5.out _ (by first | exact Int.emod_nonneg _ (by omega) | (simp; omega)) (by first | exact Int.emod_lt_of_pos _ (by omega) | (simp; omega)) 0
    · obtain ⟨i, hi, il⟩ : ∃ i : Nat, (p : Int).tmod (bs.length : Int) = (i : Int) ∧ i < bs.length := ⟨p % bs.length, rfl, Nat.mod_lt _ hb0⟩
      obtain ⟨j, hj, jl⟩ : ∃ j : Nat, ((p : Int) * 7 + 3).tmod (bs.length : Int) = (j : Int) ∧ j < bs.length := ⟨(p * 7 + 3) % bs.length, rfl, Nat.mod_lt _ hb0⟩
      obtain ⟨d, hd, dl⟩ : ∃ d : Nat, (p : Int).tdiv (bs.length : Int) = (d : Int) ∧ d ≤ p := ⟨p / bs.length, rfl, Nat.div_le_self _ _⟩
      obtain ⟨u, hu, u1, u2⟩ := HY.out i il
      obtain ⟨v, hv, v1, v2⟩ := HY.out j jl
      go_enter Tryd.func20, Tryd.ntmps20
      go_wp2
      have e0 : IntKind.i64.wrap u = u := IntWalk.i64_in _ (by omega)
      have e1 : IntKind.i64.wrap v = v := IntWalk.i64_in _ (by omega)
      have e2 : IntKind.i64.wrap (u * 131) = u * 131 := IntWalk.i64_in _ (by omega)
      have e3 : IntKind.i64.wrap (v * 1117) = v * 1117 := IntWalk.i64_in _ (by omega)
      have e4 : IntKind.i64.wrap ((p : Int) * 7) = (p : Int) * 7 := IntWalk.i64_in _ (by omega)
      have e5 : IntKind.i64.wrap ((p : Int) * 7 + 3) = (p : Int) * 7 + 3 := IntWalk.i64_in _ (by omega)
      have e6 : IntKind.i64.wrap (u * 131 + v * 1117) = u * 131 + v * 1117 := IntWalk.i64_in _ (by omega)
      have e7 : IntKind.i64.wrap ((p : Int) * 29) = (p : Int) * 29 := IntWalk.i64_in _ (by omega)
      have e8 : IntKind.i64.wrap (u * 131 + v * 1117 + (p : Int) * 29) = u * 131 + v * 1117 + (p : Int) * 29 := IntWalk.i64_in _ (by omega)
      have e9 : IntKind.i64.wrap ((d : Int) * 53) = (d : Int) * 53 := IntWalk.i64_in _ (by omega)
      have e10 : IntKind.i64.wrap (u * 131 + v * 1117 + (p : Int) * 29 + (d : Int) * 53) = u * 131 + v * 1117 + (p : Int) * 29 + (d : Int) * 53 := IntWalk.i64_in _ (by omega)
      have j1 : (0 : Int) ≤ (i : Int) := by omega
      have j2 : (i : Int) < (bs.length : Int) := by omega
      have j3 : (0 : Int) ≤ (j : Int) := by omega
      have j4 : (j : Int) < (bs.length : Int) := by omega
      go_quiet (fail)
      clear e0 e1 e2 e3 e4 e5 e6 e7 e8 e9 e10 hi hj hd
      obtain ⟨X, hX⟩ : ∃ X : Int, X = u * 131 + v * 1117 + (p : Int) * 29 + (d : Int) * 53 := ⟨_, rfl⟩
      have X1 : 0 ≤ X := by omega
      have X2 : X ≤ 100000000 := by omega
      rw [← hX]
      clear hX
      go_wp2
      go_ret
      exact Picked.mk H1.out h2 h3 H4.out H5.out _ (tmod_nonneg (xor_nonneg X1 X2) hn) (tmod_lt (xor_nonneg X1 X2) hn) _
/-- odd gives some truth. -/
def Odded (R q : Nat) (w : World) (e : Ending) (w' : World) : Prop :=
  ∃ x : Bool, e = .returned (.bool x) ∧ Rd w' R (q + 1) ∧ w.grownBy w' (some R) ∧ w'.heap.size = w.heap.size
theorem odd_any (R q : Nat) (n : Int) (w : World) (h : Rd w R q) (hq : q ≤ 100000) (hn : 0 ≤ n) (hn2 : n ≤ 1000) :
    Calls Tryd.prog 35 #[.pointer (some ⟨R, 0, none⟩), .int .i64 n] w (Odded R q w) := by
  have H := hide h; clear h
  by_cases h0 : n = 0
  · subst h0
    go_enter Tryd.func35, Tryd.ntmps35
    go_wp2_with fail
    go_ret
    exact ⟨false, rfl, H.out.mono (by omega), ⟨rfl, rfl, rfl, Nat.le_refl _, fun _ _ _ => rfl⟩, rfl⟩
  · have h1 : 1 ≤ n := by omega
    go_enter Tryd.func35, Tryd.ntmps35
    go_wp2_with fail
    refine (pick_any R q n _ H.out hq h1).mono ?_
    rintro e w1 ⟨x, rfl, x1, x2, r1, g1, z1⟩
    have R1 := hide r1; have G1 := hide g1; have Z1 := hide z1
    clear r1 g1 z1
    go_wp2_with fail
    go_ret
    exact ⟨_, rfl, R1.out, G1.out, Z1.out⟩
end Go.Proofs.YtmekhjaeclgonaaDoor
