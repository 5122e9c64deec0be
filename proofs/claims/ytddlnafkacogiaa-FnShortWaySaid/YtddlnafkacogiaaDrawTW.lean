import Derived.Test.YtddlnafkacogiaaDrawGroup
namespace Go.Proofs.Ytddlnafkacogiaa
open Go.RowKit

theorem wp_app1o {ops : Array Oper} {rest : List Oper} {o : Oper} {a : Act} {Q : Exit → Act → World → Prop} (hgd : Region.wanted o (yielded ops a.tmps) = true) (s x : Operand)
    (ho : o.op = .call { callee := .builtin .append, args := #[s, x], argTypes := #[22, 22] }) (LO : Nat) (w : World) (v : Value) (xs : List Int) (y : Int)
    (hs : a.eval s = v) (hx : a.eval x = .slice (some ⟨w.heap.size, 0, none⟩) 1 1) (hown : OwnI LO w v xs) (hl : xs.length ≤ 9000000) (hLO : LO ≤ w.heap.size)
    (h : ∀ v' w', OwnI LO w' v' (xs ++ [y]) → w.grownBy w' v.ownBlock → (v'.ownBlock = v.ownBlock ∨ ∃ k, v'.ownBlock = some k ∧ w.heap.size ≤ k) → wpList Try.prog ops Q rest (a.put o.dst v') w') : wpList Try.prog ops Q (o :: rest) a (w.alloc (.cells #[.int .i64 y] 3)) := by
  have hb : Below w.heap.size w (w.alloc (.cells #[.int .i64 y] 3)) := (Below.refl _ _).alloc (Nat.le_refl _) _
  have hr : Ints (w.alloc (.cells #[.int .i64 y] 3)) (some ⟨w.heap.size, 0, none⟩) [y] := (OwnI.lit (LO := LO) [y] #[.int .i64 y] rfl hLO (by simp)).form.elim fun A hA => by
    obtain ⟨c, e, -, f⟩ := hA
    injection e with e1 e2 e3; rw [e1]; exact f.1
  have hcells : ∀ j u, (ivs [y])[j]? = some u → (w.alloc (.cells #[.int .i64 y] 3)).cell? (Addr.add ⟨w.heap.size, 0, none⟩ j) = some u := by
    intro j u hu
    rcases hr with h | ⟨b, off, h, _, hc⟩
    · simp [ivs] at h
    · injection h with h; injection h with h1 h2; subst h1 h2
      rw [show (Addr.add ⟨w.heap.size, 0, none⟩ j : Addr) = ⟨w.heap.size, 0 + j, none⟩ from by unfold Addr.add; split <;> simp_all]
      exact hc j u hu
  obtain ⟨i0, hi, hz0, hz1, hz2⟩ := info_parts info_int
  refine wpList_step fun _ hK => ?_
  rw [if_pos hgd]
  obtain ⟨v', w', hrun, h2, h3, -, h5⟩ := run_append_own_at (P := Try.prog) (w.alloc (.cells #[.int .i64 y] 3)) LO 22 o.type 3 i0 (.int .i64 0) 1 8 Try.underlying22 hi hz0 hz1 hz2 rfl (by omega) v xs.length (ivs xs) (hown.below hb) ⟨w.heap.size, 0, none⟩ 1 1 (ivs [y]) (by simp [ivs]) hcells (ivs_one [y]) (by unfold maxLen; omega) (by omega) (Nat.le_trans hLO hb.size)
  unfold Oper.wp execOp
  simp only [ho, resolve, invoke, builtin, Sem.run_bind, Sem.run_pure, Result.andThen_ok, List.map_toArray, List.map_cons, List.map_nil, hs, hx, hrun]
  refine hK _ _ (h v' w' ?_ ?_ ?_)
  · unfold OwnI; rw [List.length_append]; unfold ivs at h2 ⊢; rw [List.map_append]; exact h2
  · exact ⟨h3.os.trans hb.os, h3.tape.trans hb.tape, h3.output.trans hb.output, Nat.le_trans hb.size h3.size, fun k hk hne => (h3.block k (Nat.lt_of_lt_of_le hk hb.size) hne).trans (hb.block k hk)⟩
  · rcases h5 with h5 | h5
    · exact .inl h5
    · exact .inr ⟨_, h5, hb.size⟩
/-- Two rows of the call's own, in different blocks. -/
def Own2 (LO : Nat) (w : World) (v1 : Value) (xs : List Int) (v2 : Value) (ys : List Int) : Prop := OwnI LO w v1 xs ∧ OwnI LO w v2 ys ∧ ∀ k, v1.ownBlock = some k → v2.ownBlock ≠ some k
theorem Own2.symm {LO : Nat} {w : World} {v1 v2 : Value} {xs ys : List Int} (h : Own2 LO w v1 xs v2 ys) : Own2 LO w v2 ys v1 xs := ⟨h.2.1, h.1, fun k h2 h1 => h.2.2 k h1 h2⟩
theorem Own2.grown {LO R : Nat} {w w' : World} {v1 v2 : Value} {xs ys : List Int} (h : Own2 LO w v1 xs v2 ys) (g : w.grownBy w' (some R)) (hR : R < LO) : Own2 LO w' v1 xs v2 ys := ⟨h.1.grown g hR, h.2.1.grown g hR, h.2.2⟩
theorem OwnI.grownO {LO : Nat} {r : Option Nat} {w w' : World} {v : Value} {xs : List Int} (h : OwnI LO w v xs) (g : w.grownBy w' r) (hr : ∀ k, r = some k → v.ownBlock ≠ some k) : OwnI LO w' v xs := by
  refine ⟨h.1, ?_⟩
  rcases h.2 with h | ⟨b, cap, cur, rfl, hg, hh, q⟩
  · exact .inl h
  · exact .inr ⟨b, cap, cur, rfl, hg, (g.block b (Array.getElem?_eq_some_iff.1 hh).1 (fun e => hr b e.symm rfl)).trans hh, q⟩
theorem Own2.app {LO : Nat} {w w' : World} {v1 v2 v' : Value} {xs ys zs : List Int} (h : Own2 LO w v1 xs v2 ys) (o : OwnI LO w' v' zs) (g : w.grownBy w' v1.ownBlock) (d : v'.ownBlock = v1.ownBlock ∨ ∃ k, v'.ownBlock = some k ∧ w.heap.size ≤ k) : Own2 LO w' v' zs v2 ys := by
  refine ⟨o, h.2.1.grownO g h.2.2, fun k h1 h2 => ?_⟩
  rcases d with d | ⟨j, hj, hs⟩
  · rw [d] at h1; exact h.2.2 k h1 h2
  · rw [hj] at h1; injection h1 with h1; subst h1
    have := (h.2.1.block j h2).2; omega
theorem Own2.start {LO : Nat} {w : World} (y : Int) (h : LO ≤ w.heap.size) : Own2 LO ((w.alloc (.cells #[.int .i64 y] 3)).alloc (.cells #[] 3)) (.slice (some ⟨w.heap.size, 0, none⟩) 1 1) [y] (.slice (some ⟨w.heap.size + 1, 0, none⟩) 0 0) [] := by
  rw [show w.heap.size + 1 = (w.alloc (.cells #[.int .i64 y] 3)).heap.size from by simp]
  have hb : Below w.heap.size w (w.alloc (.cells #[.int .i64 y] 3)) := (Below.refl _ _).alloc (Nat.le_refl _) _
  refine ⟨(OwnI.lit (LO := LO) [y] #[.int .i64 y] rfl h (by simp)).below ((Below.refl _ _).alloc (Nat.le_refl _) _), OwnI.lit (LO := LO) [] #[] rfl (Nat.le_trans h hb.size) (by simp), fun k h1 h2 => ?_⟩
  simp [Value.ownBlock] at h1 h2
  omega
theorem OwnI.addr {LO n c : Nat} {w : World} {A : Option Addr} {xs : List Int} (h : OwnI LO w (.slice A n c) xs) : A = none ∨ ∃ g, A = some ⟨g, 0, none⟩ := by
  rcases h.2 with ⟨h, -⟩ | ⟨g, cap, cur, h, -⟩
  · injection h with h; exact .inl h
  · injection h with h; exact .inr ⟨g, h⟩
/-- Three slices of int in new blocks. -/
def DrawIII (w : World) (e : Ending) (w' : World) : Prop :=
  ∃ (A : Option Addr) (c : Nat) (fs : List Int) (A' : Option Addr) (c' : Nat) (xs : List Int) (A'' : Option Addr) (c'' : Nat) (ys : List Int), e = .returned (.tuple #[.slice A fs.length c, .slice A' xs.length c', .slice A'' ys.length c'']) ∧ fs.length ≤ 9 ∧ (xs.length ≤ 20 ∧ xs.length ≤ c') ∧ (ys.length ≤ 20 ∧ ys.length ≤ c'') ∧ FrI w.heap.size w' A fs ∧ FrI w.heap.size w' A' xs ∧ FrI w.heap.size w' A'' ys ∧ (A'' = none ∨ ∃ g, A'' = some ⟨g, 0, none⟩) ∧ Below w.heap.size w w'

end Go.Proofs.Ytddlnafkacogiaa
