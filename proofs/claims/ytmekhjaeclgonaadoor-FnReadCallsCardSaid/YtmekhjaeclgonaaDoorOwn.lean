/- append onto a row of the call's own, the source read by Sl (nil let in); make; over any program; then for int. -/
import Derived.Test.YtmekhjaeclgonaaDoorIntS
namespace Go.Proofs.YtmekhjaeclgonaaDoor
open Go.RowKit

theorem own_below {w w' : World} {base : Nat} {e : TypeId} {size : Nat} {v : Value} {n : Nat} {xs : List Value} (hown : w.ownsRow base e size v n xs) (hg : w.grownBy w' v.ownBlock) (hbase : base ≤ w.heap.size) : Below base w w' :=
  (Below.refl _ _).grown hg hbase fun k hk => (hown.lt k hk).1
theorem own_kept {w w' : World} {base B : Nat} {e : TypeId} {size : Nat} {v : Value} {n : Nat} {xs : List Value} (hown : w.ownsRow base e size v n xs) (_hs : w.heap.size ≤ w'.heap.size) (hb : ∀ k, B ≤ k → k < w.heap.size → w'.heap[k]? = w.heap[k]?) (hB : B ≤ base) : w'.ownsRow base e size v n xs := by
  refine ⟨hown.1, ?_⟩
  rcases hown.2 with h | ⟨g, cap, cur, hv, hg, hh, r⟩
  · exact .inl h
  · exact .inr ⟨g, cap, cur, hv, hg, (hb g (by omega) (Array.getElem?_eq_some_iff.1 hh).1).trans hh, r⟩
theorem own_grown {w w' : World} {base R : Nat} {e : TypeId} {size : Nat} {v : Value} {n : Nat} {xs : List Value} (hown : w.ownsRow base e size v n xs) (hg : w.grownBy w' (some R)) (hR : R < base) : w'.ownsRow base e size v n xs :=
  own_kept (B := base) hown hg.size (fun k hk hlt => hg.block k hlt (by intro e; injection e; omega)) (Nat.le_refl _)
theorem own_after {w w' : World} {base : Nat} {e : TypeId} {size : Nat} {v : Value} {n : Nat} {xs : List Value} (hown : w.ownsRow base e size v n xs) (hb : Below w.heap.size w w') : w'.ownsRow base e size v n xs :=
  own_kept (B := 0) hown hb.size (fun k _ hlt => hb.block k hlt) (Nat.zero_le _)
theorem grown_then {a b c : World} {R : Nat} (g : a.grownBy b (some R)) (h : b.grownBy c (some R)) : a.grownBy c (some R) :=
  ⟨h.os.trans g.os, h.tape.trans g.tape, h.output.trans g.output, Nat.le_trans g.size h.size, fun k hk hne => (h.block k (Nat.lt_of_lt_of_le hk g.size) hne).trans (g.block k hk hne)⟩
theorem grown_below {a b c : World} {R : Nat} (g : a.grownBy b (some R)) (h : Below a.heap.size b c) : a.grownBy c (some R) :=
  ⟨h.os.trans g.os, h.tape.trans g.tape, h.output.trans g.output, Nat.le_trans g.size h.size, fun k hk hne => (h.block k hk).trans (g.block k hk hne)⟩
theorem grown_refl (w : World) (R : Nat) : w.grownBy w (some R) := ⟨rfl, rfl, rfl, Nat.le_refl _, fun _ _ _ => rfl⟩

section
variable {P : Program} (w : World)
theorem run_app_sl (base : Nat) (t ty e : TypeId) (i : TypeInfo) (z : Value) (size bytes : Nat) (ht : P.underlying t = some (.slice e)) (hi : P.info? e = some i) (hz : i.zero = some z)
    (hsize : i.size = size) (hby : i.bytes = bytes) (hzs : z.cells.size = size) (hsz : 0 < size)
    (v : Value) (n : Nat) (xs : List Value) (hown : w.ownsRow base e size v n xs) (A : Option Addr) (m c : Nat) (news : List Value) (hl : news.length = m * size) (hr : Sl w A news) (h1 : ∀ u ∈ news, u.oneCell' = true)
    (h63 : n + m ≤ maxLen) (hbytes : (n + m) * bytes ≤ 140737488355328) (hbase : base ≤ w.heap.size) :
    ∃ v' w', (Builtin.append_ #[t, t] ty #[v, .slice A m c]).run P w = .ok v' w' ∧ w'.ownsRow base e size v' (n + m) (xs ++ news) ∧ w.grownBy w' v.ownBlock := by
  rcases A with _ | ad
  · have hn : news = [] := by
      rcases hr with h | ⟨b, off, h, -⟩
      · exact h
      · cases h
    subst hn
    have hm : m = 0 := by
      rcases Nat.eq_zero_or_pos m with h | h
      · exact h
      · have : 0 < m * size := Nat.mul_pos h hsz
        simp at hl; omega
    subst hm
    refine ⟨v, w, ?_, by simpa using hown, World.grownBy.refl w _⟩
    rcases hown.2 with ⟨rfl, rfl⟩ | ⟨g, cap, cur, rfl, _, _, hnc, _⟩
    · simp [Builtin.append_, run_underlying ht, sizeOf, typeInfo, hi, Builtin.lenOf, Builtin.firstCells]
    · simp [Builtin.append_, run_underlying ht, sizeOf, typeInfo, hi, Builtin.lenOf, Builtin.firstCells, hnc, storeCells]
  · have hcells : ∀ j u, news[j]? = some u → w.cell? (ad.add j) = some u := by
      intro j u hu
      rcases hr with h | ⟨b, off, h, _, hc⟩
      · subst h; simp at hu
      · injection h with h; subst h
        rw [show (Addr.add ⟨b, off, none⟩ j : Addr) = ⟨b, off + j, none⟩ from by unfold Addr.add; split <;> simp_all]
        exact hc j u hu
    obtain ⟨v', w', hrun, h2, h3, _, _⟩ := run_append_own_at (P := P) w base t ty e i z size bytes ht hi hz hsize hby hzs hsz v n xs hown ad m c news hl hcells h1 h63 hbytes hbase
    exact ⟨v', w', hrun, h2, h3⟩
theorem wpList_app_sl {ops : Array Oper} {rest : List Oper} {o : Oper} {a : Act} {Q : Exit → Act → World → Prop} (hgd : Region.wanted o (yielded ops a.tmps) = true) (s x : Operand) (t : TypeId)
    (ho : o.op = .call { callee := .builtin .append, args := #[s, x], argTypes := #[t, t] })
    (base : Nat) (e : TypeId) (i : TypeInfo) (z : Value) (size bytes : Nat) (ht : P.underlying t = some (.slice e)) (hi : P.info? e = some i) (hz : i.zero = some z)
    (hsize : i.size = size) (hby : i.bytes = bytes) (hzs : z.cells.size = size) (hsz : 0 < size)
    (v : Value) (n : Nat) (xs : List Value) (hs : a.eval s = v) (hown : w.ownsRow base e size v n xs)
    (A : Option Addr) (m c : Nat) (news : List Value) (hx : a.eval x = .slice A m c) (hl : news.length = m * size) (hr : Sl w A news) (h1 : ∀ u ∈ news, u.oneCell' = true)
    (h63 : n + m ≤ maxLen) (hbytes : (n + m) * bytes ≤ 140737488355328) (hbase : base ≤ w.heap.size)
    (h : ∀ v' w', w'.ownsRow base e size v' (n + m) (xs ++ news) → Below base w w' → wpList P ops Q rest (a.put o.dst v') w') : wpList P ops Q (o :: rest) a w := by
  refine wpList_step fun _ hK => ?_
  rw [if_pos hgd]
  obtain ⟨v', w', hrun, h2, h3⟩ := run_app_sl (P := P) w base t o.type e i z size bytes ht hi hz hsize hby hzs hsz v n xs hown A m c news hl hr h1 h63 hbytes hbase
  unfold Oper.wp execOp
  simp only [ho, resolve, invoke, builtin, Sem.run_bind, Sem.run_pure, Result.andThen_ok, List.map_toArray, List.map_cons, List.map_nil, hs, hx, hrun]
  exact hK _ _ (h v' w' h2 (own_below hown h3 hbase))
end

/-- v owns the numbers xs, in blocks from LO on. -/
def OwnI (LO : Nat) (w : World) (v : Value) (xs : List Int) : Prop := w.ownsRow LO 3 1 v xs.length (ivs xs)
theorem OwnI.nil (LO : Nat) (w : World) : OwnI LO w (.slice none 0 0) [] := World.ownsRow_nil _ _ _ _
theorem OwnI.grown {LO R : Nat} {w w' : World} {v : Value} {xs : List Int} (h : OwnI LO w v xs) (g : w.grownBy w' (some R)) (hR : R < LO) : OwnI LO w' v xs := own_grown h g hR
theorem OwnI.below {LO : Nat} {w w' : World} {v : Value} {xs : List Int} (h : OwnI LO w v xs) (b : Below w.heap.size w w') : OwnI LO w' v xs := own_after h b
theorem OwnI.form {LO : Nat} {w : World} {v : Value} {xs : List Int} (h : OwnI LO w v xs) : ∃ A c, v = .slice A xs.length c ∧ xs.length ≤ c ∧ FrI LO w A xs := by
  have h' := h
  rcases h'.2 with ⟨rfl, hn⟩ | ⟨g, cap, cur, rfl, _, _, hc, _⟩
  · have : xs = [] := List.eq_nil_of_length_eq_zero hn
    subst this
    exact ⟨none, 0, rfl, by simp, .inl rfl, .inl rfl⟩
  · exact ⟨_, cap, rfl, hc, owns_fri h⟩
theorem ivs_one (xs : List Int) : ∀ u ∈ ivs xs, u.oneCell' = true := by
  intro u hu; simp [ivs, iv] at hu; obtain ⟨x, -, rfl⟩ := hu; rfl
theorem OwnI.lit {LO : Nat} {w : World} (xs : List Int) (cs : Array Value) (hcs : cs.toList = ivs xs) (h : LO ≤ w.heap.size) (hl : xs.length ≤ 1000000) :
    OwnI LO (w.alloc (.cells cs 3)) (.slice (some ⟨w.heap.size, 0, none⟩) xs.length xs.length) xs := by
  have hsz : cs.size = xs.length := by rw [← Array.length_toList, hcs, ivs_length]
  have := World.ownsRow_lit (base := LO) (e := 3) (size := 1) w cs xs.length h (by unfold maxLen; omega) (by omega)
  rw [hcs] at this; exact this

theorem OwnI.made {LO g n : Nat} {w : World} (h : w.ownsRow LO 3 1 (.slice (some ⟨g, 0, none⟩) n n) n (madeCells (Value.int .i64 0).cells (n * 1)).toList) : OwnI LO w (.slice (some ⟨g, 0, none⟩) n n) (List.replicate n 0) := by
  rw [show (madeCells (Value.int .i64 0).cells (n * 1)).toList = ivs (List.replicate n 0) from by rw [Nat.mul_one, ivs, List.map_replicate]; exact toList_madeCells_one _ _] at h
  unfold OwnI; rw [List.length_replicate]; exact h

theorem wp_app {ops : Array Oper} {rest : List Oper} {o : Oper} {a : Act} {Q : Exit → Act → World → Prop} (hgd : Region.wanted o (yielded ops a.tmps) = true) (s x : Operand)
    (ho : o.op = .call { callee := .builtin .append, args := #[s, x], argTypes := #[48, 48] }) (LO : Nat) (w : World) (v : Value) (xs : List Int) (A : Option Addr) (m c : Nat) (ys : List Int) (hm : m = ys.length)
    (hs : a.eval s = v) (hx : a.eval x = .slice A m c) (hown : OwnI LO w v xs) (hr : Ints w A ys) (hl : xs.length + ys.length ≤ 10000000) (hLO : LO ≤ w.heap.size)
    (h : ∀ v' w', OwnI LO w' v' (xs ++ ys) → Below LO w w' → wpList Tryd.prog ops Q rest (a.put o.dst v') w') : wpList Tryd.prog ops Q (o :: rest) a w := by
  obtain ⟨i0, hi, hz0, hz1, hz2⟩ := info_parts info_int
  subst hm
  refine wpList_app_sl w hgd s x 48 ho LO 3 i0 (.int .i64 0) 1 8 Tryd.underlying48 hi hz0 hz1 hz2 rfl (by omega) v xs.length (ivs xs) hs hown A ys.length c (ivs ys) hx (by rw [ivs_length]; omega) hr (ivs_one ys) (by unfold maxLen; omega) (by omega) hLO ?_
  intro v' w' h1 h2
  refine h v' w' ?_ h2
  unfold OwnI; rw [List.length_append]; unfold ivs at h1 ⊢; rw [List.map_append]; exact h1
/-- append of one number, which lies in a new block. -/
theorem wp_app1 {ops : Array Oper} {rest : List Oper} {o : Oper} {a : Act} {Q : Exit → Act → World → Prop} (hgd : Region.wanted o (yielded ops a.tmps) = true) (s x : Operand)
    (ho : o.op = .call { callee := .builtin .append, args := #[s, x], argTypes := #[48, 48] }) (LO : Nat) (w : World) (v : Value) (xs : List Int) (y : Int)
    (hs : a.eval s = v) (hx : a.eval x = .slice (some ⟨w.heap.size, 0, none⟩) 1 1) (hown : OwnI LO w v xs) (hl : xs.length ≤ 1000000) (hLO : LO ≤ w.heap.size)
    (h : ∀ v' w', OwnI LO w' v' (xs ++ [y]) → Below LO w w' → wpList Tryd.prog ops Q rest (a.put o.dst v') w') : wpList Tryd.prog ops Q (o :: rest) a (w.alloc (.cells #[.int .i64 y] 3)) := by
  have hb : Below w.heap.size w (w.alloc (.cells #[.int .i64 y] 3)) := (Below.refl _ _).alloc (Nat.le_refl _) _
  refine wp_app hgd s x ho LO _ v xs (some ⟨w.heap.size, 0, none⟩) 1 1 [y] rfl hs hx (hown.below hb) ?_ (by simp; omega) (by simp; omega) fun v' w' h1 h2 => h v' w' h1 ((hb.mono hLO).trans h2)
  exact (OwnI.lit (LO := LO) [y] #[.int .i64 y] rfl hLO (by simp)).form.elim fun A hA => by
    obtain ⟨c, e, -, f⟩ := hA
    injection e with e1 e2 e3; rw [e1]; exact f.1
end Go.Proofs.YtmekhjaeclgonaaDoor
