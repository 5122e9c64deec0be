/- append in a region that draws its order. -/
import Derived.Test.YtddlnafkacogiaaOwn
import Derived.Deep.RegionHeld3
namespace Go.Proofs.Ytddlnafkacogiaa
open Go.RowKit

theorem step_app {ops : Array Oper} {o : Oper} {a : Act} {K : Act → World → Prop} {Q : Exit → Act → World → Prop} {E : Prop} (hgd : Region.wanted o (yielded ops a.tmps) = true) (s x : Operand)
    (ho : o.op = .call { callee := .builtin .append, args := #[s, x], argTypes := #[22, 22] }) (LO : Nat) (w : World) (v : Value) (xs : List Int) (A : Option Addr) (m c : Nat) (ys : List Int) (hm : m = ys.length)
    (hs : a.eval s = v) (hx : a.eval x = .slice A m c) (hown : OwnI LO w v xs) (hr : Ints w A ys) (hl : xs.length + ys.length ≤ 10000000) (hLO : LO ≤ w.heap.size)
    (h : ∀ v' w', OwnI LO w' v' (xs ++ ys) → Below LO w w' → K (a.put o.dst v') w') :
    if Region.wanted o (yielded ops a.tmps) = true then Oper.wp Try.prog o a w K Q else E := by
  obtain ⟨i0, hi, hz0, hz1, hz2⟩ := info_parts info_int
  subst hm
  rw [if_pos hgd]
  obtain ⟨v', w', hrun, h2, h3⟩ := run_app_sl (P := Try.prog) w LO 22 o.type 3 i0 (.int .i64 0) 1 8 Try.underlying22 hi hz0 hz1 hz2 rfl (by omega) v xs.length (ivs xs) hown A ys.length c (ivs ys) (by rw [ivs_length]; omega) hr (ivs_one ys) (by unfold maxLen; omega) (by omega) hLO
  unfold Oper.wp execOp
  simp only [ho, resolve, invoke, builtin, Sem.run_bind, Sem.run_pure, Result.andThen_ok, List.map_toArray, List.map_cons, List.map_nil, hs, hx, hrun]
  refine h v' w' ?_ (own_below hown h3 hLO)
  unfold OwnI; rw [List.length_append]; unfold ivs at h2 ⊢; rw [List.map_append]; exact h2
theorem lit_ints {w : World} (y : Int) : Ints (w.alloc (.cells #[.int .i64 y] 3)) (some ⟨w.heap.size, 0, none⟩) [y] := (OwnI.lit (LO := 0) [y] #[.int .i64 y] rfl (Nat.zero_le _) (by simp)).form.elim fun A hA => by
    obtain ⟨c, e, -, f⟩ := hA
    injection e with e1 e2 e3; rw [e1]; exact f.1
theorem step_app1 {ops : Array Oper} {o : Oper} {a : Act} {K : Act → World → Prop} {Q : Exit → Act → World → Prop} {E : Prop} (hgd : Region.wanted o (yielded ops a.tmps) = true) (s x : Operand)
    (ho : o.op = .call { callee := .builtin .append, args := #[s, x], argTypes := #[22, 22] }) (LO : Nat) (w : World) (v : Value) (xs : List Int) (y : Int)
    (hs : a.eval s = v) (hx : a.eval x = .slice (some ⟨w.heap.size, 0, none⟩) 1 1) (hown : OwnI LO w v xs) (hl : xs.length ≤ 1000000) (hLO : LO ≤ w.heap.size)
    (h : ∀ v' w', OwnI LO w' v' (xs ++ [y]) → Below LO w w' → K (a.put o.dst v') w') :
    if Region.wanted o (yielded ops a.tmps) = true then Oper.wp Try.prog o a (w.alloc (.cells #[.int .i64 y] 3)) K Q else E := by
  have hb : Below w.heap.size w (w.alloc (.cells #[.int .i64 y] 3)) := (Below.refl _ _).alloc (Nat.le_refl _) _
  exact step_app hgd s x ho LO _ v xs (some ⟨w.heap.size, 0, none⟩) 1 1 [y] rfl hs hx (hown.below hb) (lit_ints y) (by simp; omega) (Nat.le_trans hLO hb.size) fun v' w' h1 h2 => h v' w' h1 ((hb.mono hLO).trans h2)
/-- append as a step of a region; what the world is told whole. -/
theorem step_appG {ops : Array Oper} {o : Oper} {a : Act} {K : Act → World → Prop} {Q : Exit → Act → World → Prop} {E : Prop} (hgd : Region.wanted o (yielded ops a.tmps) = true) (s x : Operand)
    (ho : o.op = .call { callee := .builtin .append, args := #[s, x], argTypes := #[22, 22] }) (LO : Nat) (w : World) (v : Value) (xs : List Int) (A : Option Addr) (m c : Nat) (ys : List Int) (hm : m = ys.length)
    (hs : a.eval s = v) (hx : a.eval x = .slice A m c) (hown : OwnI LO w v xs) (hr : Ints w A ys) (hl : xs.length + ys.length ≤ 10000000) (hLO : LO ≤ w.heap.size)
    (h : ∀ v' w', OwnI LO w' v' (xs ++ ys) → Below LO w w' → w.grownBy w' v.ownBlock → K (a.put o.dst v') w') :
    if Region.wanted o (yielded ops a.tmps) = true then Oper.wp Try.prog o a w K Q else E := by
  obtain ⟨i0, hi, hz0, hz1, hz2⟩ := info_parts info_int
  subst hm
  rw [if_pos hgd]
  obtain ⟨v', w', hrun, h2, h3⟩ := run_app_sl (P := Try.prog) w LO 22 o.type 3 i0 (.int .i64 0) 1 8 Try.underlying22 hi hz0 hz1 hz2 rfl (by omega) v xs.length (ivs xs) hown A ys.length c (ivs ys) (by rw [ivs_length]; omega) hr (ivs_one ys) (by unfold maxLen; omega) (by omega) hLO
  unfold Oper.wp execOp
  simp only [ho, resolve, invoke, builtin, Sem.run_bind, Sem.run_pure, Result.andThen_ok, List.map_toArray, List.map_cons, List.map_nil, hs, hx, hrun]
  refine h v' w' ?_ (own_below hown h3 hLO) h3
  unfold OwnI; rw [List.length_append]; unfold ivs at h2 ⊢; rw [List.map_append]; exact h2
theorem own_nil_at {w : World} {LO g : Nat} (h : w.heap[g]? = some (.cells #[] 3 (0, 0))) (hl : LO ≤ g) : OwnI LO w (.slice (some ⟨g, 0, none⟩) 0 0) [] :=
  ⟨rfl, .inr ⟨g, 0, #[], rfl, hl, h, Nat.le_refl _, by unfold maxLen; omega, rfl, rfl⟩⟩
theorem lit_at {w : World} {g : Nat} {y : Int} {t : TypeId} (h : w.heap[g]? = some (.cells #[.int .i64 y] t (0, 0))) : Ints w (some ⟨g, 0, none⟩) [y] := by
  refine .inr ⟨g, 0, rfl, (Array.getElem?_eq_some_iff.1 h).1, fun k u hu => ?_⟩
  rw [Nat.zero_add, cell_of_row w g k _ _ (0, 0) h]
  rw [← hu]; simp [ivs, iv]
theorem lit_kept {w w' : World} {g go n : Nat} {y : Int} {t : TypeId} {c : Nat} (h : w.heap[g]? = some (.cells #[.int .i64 y] t (0, 0))) (G : w.grownBy w' (Value.slice (some ⟨go, 0, none⟩) n c).ownBlock) (hne : g ≠ go) : Ints w' (some ⟨g, 0, none⟩) [y] :=
  lit_at (t := t) ((G.block g (Array.getElem?_eq_some_iff.1 h).1 (by simp [Value.ownBlock]; exact hne)).trans h)
theorem at_new (w : World) (o : Obj) : (w.alloc o).heap[w.heap.size]? = some o := heap_alloc_new w o
theorem at_old (w : World) (o p : Obj) : ((w.alloc o).alloc p).heap[w.heap.size]? = some o := (Below.heap_alloc _ p _ (by simp)).trans (heap_alloc_new w o)
theorem at_new1 (w : World) (o p : Obj) : ((w.alloc o).alloc p).heap[w.heap.size + 1]? = some p := by
  have := heap_alloc_new (w.alloc o) p; simpa using this
theorem at_oldd (w : World) (o p : Obj) : ((w.alloc o).alloc p).drew.heap[w.heap.size]? = some o := at_old w o p
theorem at_new1d (w : World) (o p : Obj) : ((w.alloc o).alloc p).drew.heap[w.heap.size + 1]? = some p := at_new1 w o p
end Go.Proofs.Ytddlnafkacogiaa
