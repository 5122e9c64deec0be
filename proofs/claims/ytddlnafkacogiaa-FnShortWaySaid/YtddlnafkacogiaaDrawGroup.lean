import Derived.Test.YtddlnafkacogiaaDrawFloors
namespace Go.Proofs.Ytddlnafkacogiaa
open Go.RowKit

theorem FrI.grownO {lo : Nat} {r : Option Nat} {w w' : World} {A : Option Addr} {xs : List Int} (h : FrI lo w A xs) (g : w.grownBy w' r) (hr : ∀ k, r = some k → k < lo) : FrI lo w' A xs := by
  rcases r with _ | R
  · exact h.below ⟨g.os, g.tape, g.output, g.size, fun k hk => g.block k hk (by simp)⟩
  · exact h.grown g (hr R rfl)
/-- append of one number, which lies in a new block; what stays is said by the row's own block. -/
theorem wp_app1g {ops : Array Oper} {rest : List Oper} {o : Oper} {a : Act} {Q : Exit → Act → World → Prop} (hgd : Region.wanted o (yielded ops a.tmps) = true) (s x : Operand)
    (ho : o.op = .call { callee := .builtin .append, args := #[s, x], argTypes := #[22, 22] }) (LO : Nat) (w : World) (v : Value) (xs : List Int) (y : Int)
    (hs : a.eval s = v) (hx : a.eval x = .slice (some ⟨w.heap.size, 0, none⟩) 1 1) (hown : OwnI LO w v xs) (hl : xs.length ≤ 1000000) (hLO : LO ≤ w.heap.size)
    (h : ∀ v' w', OwnI LO w' v' (xs ++ [y]) → w.grownBy w' v.ownBlock → wpList Try.prog ops Q rest (a.put o.dst v') w') : wpList Try.prog ops Q (o :: rest) a (w.alloc (.cells #[.int .i64 y] 3)) := by
  have hb : Below w.heap.size w (w.alloc (.cells #[.int .i64 y] 3)) := (Below.refl _ _).alloc (Nat.le_refl _) _
  have hr : Ints (w.alloc (.cells #[.int .i64 y] 3)) (some ⟨w.heap.size, 0, none⟩) [y] := (OwnI.lit (LO := LO) [y] #[.int .i64 y] rfl hLO (by simp)).form.elim fun A hA => by
    obtain ⟨c, e, -, f⟩ := hA
    injection e with e1 e2 e3; rw [e1]; exact f.1
  obtain ⟨i0, hi, hz0, hz1, hz2⟩ := info_parts info_int
  refine wpList_step fun _ hK => ?_
  rw [if_pos hgd]
  obtain ⟨v', w', hrun, h2, h3⟩ := run_app_sl (P := Try.prog) (w.alloc (.cells #[.int .i64 y] 3)) LO 22 o.type 3 i0 (.int .i64 0) 1 8 Try.underlying22 hi hz0 hz1 hz2 rfl (by omega) v xs.length (ivs xs) (hown.below hb) (some ⟨w.heap.size, 0, none⟩) 1 1 (ivs [y]) (by simp [ivs]) hr (ivs_one [y]) (by unfold maxLen; omega) (by omega) (Nat.le_trans hLO hb.size)
  unfold Oper.wp execOp
  simp only [ho, resolve, invoke, builtin, Sem.run_bind, Sem.run_pure, Result.andThen_ok, List.map_toArray, List.map_cons, List.map_nil, hs, hx, hrun]
  refine hK _ _ (h v' w' ?_ ?_)
  · unfold OwnI; rw [List.length_append]; unfold ivs at h2 ⊢; rw [List.map_append]; exact h2
  · exact ⟨h3.os.trans hb.os, h3.tape.trans hb.tape, h3.output.trans hb.output, Nat.le_trans hb.size h3.size, fun k hk hne => (h3.block k (Nat.lt_of_lt_of_le hk hb.size) hne).trans (hb.block k hk)⟩
theorem OwnI.block {LO : Nat} {w : World} {v : Value} {xs : List Int} (h : OwnI LO w v xs) : ∀ k, v.ownBlock = some k → LO ≤ k ∧ k < w.heap.size := fun k hk => World.ownsRow.lt h k hk
theorem grown_own {a b c : World} {R : Nat} {r : Option Nat} (g : a.grownBy b (some R)) (h : b.grownBy c r) (hr : ∀ k, r = some k → a.heap.size ≤ k) : a.grownBy c (some R) :=
  ⟨h.os.trans g.os, h.tape.trans g.tape, h.output.trans g.output, Nat.le_trans g.size h.size, fun k hk hne => (h.block k (Nat.lt_of_lt_of_le hk g.size) (by intro e; have := hr k e.symm; omega)).trans (g.block k hk hne)⟩
theorem Rd.grownO {w w' : World} {R q : Nat} {r : Option Nat} (h : Rd w R q) (g : w.grownBy w' r) (hr : ∀ k, r = some k → R < k) : Rd w' R q :=
  h.keep fun k hk => g.block k (by have := h.lt; omega) (by intro e; have := hr k e.symm; omega)
/-- Three slices of int in new blocks; the reader has gone on. -/
def DrawnG (R q : Nat) (w : World) (e : Ending) (w' : World) : Prop :=
  ∃ (A : Option Addr) (c : Nat) (xs : List Int) (A' : Option Addr) (c' : Nat) (ys : List Int) (A'' : Option Addr) (c'' : Nat) (zs : List Int), e = .returned (.tuple #[.slice A xs.length c, .slice A' ys.length c', .slice A'' zs.length c'']) ∧ xs.length ≤ 9 ∧ ys.length ≤ 9 ∧ zs.length ≤ 9 ∧ FrI w.heap.size w' A xs ∧ FrI w.heap.size w' A' ys ∧ FrI w.heap.size w' A'' zs ∧ Rd w' R q ∧ w.grownBy w' (some R)

theorem DrawnG.mk {w W : World} {R q c L1 L2 : Nat} {A : Option Addr} {fs xs ys : List Int} {v1 v2 : Value} (f : FrI w.heap.size W A fs) (O1 : OwnI L1 W v1 xs) (h1 : w.heap.size ≤ L1) (O2 : OwnI L2 W v2 ys) (h2 : w.heap.size ≤ L2) (l0 : fs.length ≤ 9) (l1 : xs.length ≤ 9) (l2 : ys.length ≤ 9) (r : Rd W R q) (g : w.grownBy W (some R)) :
    DrawnG R q w (.returned (.tuple #[.slice A fs.length c, v1, v2])) W := by
  obtain ⟨A1, c1, rfl, -, f1⟩ := O1.form
  obtain ⟨A2, c2, rfl, -, f2⟩ := O2.form
  exact ⟨A, c, fs, A1, c1, xs, A2, c2, ys, rfl, l0, l1, l2, f, f1.mono h1, f2.mono h2, r, g⟩
end Go.Proofs.Ytddlnafkacogiaa
