/- append of rows of any element, the world told by the row's own block; rows that lie where some blocks are. -/
import Derived.Test.YtbkjgiomamlajaaOwn
import Derived.Test.YtbkjgiomamlajaaMem
import Derived.Test.YtbkjgiomamlajaaBox
import Derived.Test.YtbkjgiomamlajaaCallsB
namespace Go.Proofs.Ytbkjgiomamlajaa
open Go.RowKit

section
variable {P : Program} (w : World)
theorem run_app_g (base : Nat) (t ty e : TypeId) (i : TypeInfo) (z : Value) (size bytes : Nat) (ht : P.underlying t = some (.slice e)) (hi : P.info? e = some i) (hz : i.zero = some z)
    (hsize : i.size = size) (hby : i.bytes = bytes) (hzs : z.cells.size = size) (hsz : 0 < size)
    (v : Value) (n : Nat) (xs : List Value) (hown : w.ownsRow base e size v n xs) (A : Option Addr) (m c : Nat) (news : List Value) (hl : news.length = m * size) (hr : Sl w A news) (h1 : ∀ u ∈ news, u.oneCell' = true)
    (h63 : n + m ≤ maxLen) (hbytes : (n + m) * bytes ≤ 140737488355328) (hbase : base ≤ w.heap.size) :
    ∃ v' w', (Builtin.append_ #[t, t] ty #[v, .slice A m c]).run P w = .ok v' w' ∧ w'.ownsRow base e size v' (n + m) (xs ++ news) ∧ w.grownBy w' v.ownBlock ∧ (v'.ownBlock = v.ownBlock ∨ v'.ownBlock = some w.heap.size) := by
  rcases A with _ | ad
  · have hn : news = [] := by
      rcases hr with h | ⟨b, off, h, -⟩
      · exact h
      · cases h
    subst hn
    have hm : m = 0 := by
      rcases Nat.eq_zero_or_pos m with h | h
      · exact h
      · have : 0 < m * size := Nat.mul_pos h hsz
        simp at hl; omega
    subst hm
    refine ⟨v, w, ?_, by simpa using hown, World.grownBy.refl w _, .inl rfl⟩
    rcases hown.2 with ⟨rfl, rfl⟩ | ⟨g, cap, cur, rfl, _, _, hnc, _⟩
    · simp [Builtin.append_, run_underlying ht, sizeOf, typeInfo, hi, Builtin.lenOf, Builtin.firstCells]
    · simp [Builtin.append_, run_underlying ht, sizeOf, typeInfo, hi, Builtin.lenOf, Builtin.firstCells, hnc, storeCells]
  · have hcells : ∀ j u, news[j]? = some u → w.cell? (ad.add j) = some u := by
      intro j u hu
      rcases hr with h | ⟨b, off, h, _, hc⟩
      · subst h; simp at hu
      · injection h with h; subst h
        rw [show (Addr.add ⟨b, off, none⟩ j : Addr) = ⟨b, off + j, none⟩ from by unfold Addr.add; split <;> simp_all]
        exact hc j u hu
    obtain ⟨v', w', hrun, h2, h3, _, h4⟩ := run_append_own_at (P := P) w base t ty e i z size bytes ht hi hz hsize hby hzs hsz v n xs hown ad m c news hl hcells h1 h63 hbytes hbase
    exact ⟨v', w', hrun, h2, h3, h4⟩
theorem wpList_app_g {ops : Array Oper} {rest : List Oper} {o : Oper} {a : Act} {Q : Exit → Act → World → Prop} (hgd : Region.wanted o (yielded ops a.tmps) = true) (s x : Operand) (t : TypeId)
    (ho : o.op = .call { callee := .builtin .append, args := #[s, x], argTypes := #[t, t] })
    (base : Nat) (e : TypeId) (i : TypeInfo) (z : Value) (size bytes : Nat) (ht : P.underlying t = some (.slice e)) (hi : P.info? e = some i) (hz : i.zero = some z)
    (hsize : i.size = size) (hby : i.bytes = bytes) (hzs : z.cells.size = size) (hsz : 0 < size)
    (v : Value) (n : Nat) (xs : List Value) (hs : a.eval s = v) (hown : w.ownsRow base e size v n xs)
    (A : Option Addr) (m c : Nat) (news : List Value) (hx : a.eval x = .slice A m c) (hl : news.length = m * size) (hr : Sl w A news) (h1 : ∀ u ∈ news, u.oneCell' = true)
    (h63 : n + m ≤ maxLen) (hbytes : (n + m) * bytes ≤ 140737488355328) (hbase : base ≤ w.heap.size)
    (h : ∀ v' w', w'.ownsRow base e size v' (n + m) (xs ++ news) → w.grownBy w' v.ownBlock → (v'.ownBlock = v.ownBlock ∨ v'.ownBlock = some w.heap.size) → wpList P ops Q rest (a.put o.dst v') w') : wpList P ops Q (o :: rest) a w := by
  refine wpList_step fun _ hK => ?_
  rw [if_pos hgd]
  obtain ⟨v', w', hrun, h2, h3, h4⟩ := run_app_g (P := P) w base t o.type e i z size bytes ht hi hz hsize hby hzs hsz v n xs hown A m c news hl hr h1 h63 hbytes hbase
  unfold Oper.wp execOp
  simp only [ho, resolve, invoke, builtin, Sem.run_bind, Sem.run_pure, Result.andThen_ok, List.map_toArray, List.map_cons, List.map_nil, hs, hx, hrun]
  exact hK _ _ (h v' w' h2 h3 h4)
theorem step_app_g {ops : Array Oper} {o : Oper} {a : Act} {K : Act → World → Prop} {Q : Exit → Act → World → Prop} {E : Prop} (hgd : Region.wanted o (yielded ops a.tmps) = true) (s x : Operand) (t : TypeId)
    (ho : o.op = .call { callee := .builtin .append, args := #[s, x], argTypes := #[t, t] })
    (base : Nat) (e : TypeId) (i : TypeInfo) (z : Value) (size bytes : Nat) (ht : P.underlying t = some (.slice e)) (hi : P.info? e = some i) (hz : i.zero = some z)
    (hsize : i.size = size) (hby : i.bytes = bytes) (hzs : z.cells.size = size) (hsz : 0 < size)
    (v : Value) (n : Nat) (xs : List Value) (hs : a.eval s = v) (hown : w.ownsRow base e size v n xs)
    (A : Option Addr) (m c : Nat) (news : List Value) (hx : a.eval x = .slice A m c) (hl : news.length = m * size) (hr : Sl w A news) (h1 : ∀ u ∈ news, u.oneCell' = true)
    (h63 : n + m ≤ maxLen) (hbytes : (n + m) * bytes ≤ 140737488355328) (hbase : base ≤ w.heap.size)
    (h : ∀ v' w', w'.ownsRow base e size v' (n + m) (xs ++ news) → w.grownBy w' v.ownBlock → (v'.ownBlock = v.ownBlock ∨ v'.ownBlock = some w.heap.size) → K (a.put o.dst v') w') :
    if Region.wanted o (yielded ops a.tmps) = true then Oper.wp P o a w K Q else E := by
  rw [if_pos hgd]
  obtain ⟨v', w', hrun, h2, h3, h4⟩ := run_app_g (P := P) w base t o.type e i z size bytes ht hi hz hsize hby hzs hsz v n xs hown A m c news hl hr h1 h63 hbytes hbase
  unfold Oper.wp execOp
  simp only [ho, resolve, invoke, builtin, Sem.run_bind, Sem.run_pure, Result.andThen_ok, List.map_toArray, List.map_cons, List.map_nil, hs, hx, hrun]
  exact h v' w' h2 h3 h4
end
/-- The row, if not empty, lies in a block of which ok holds. -/
def Loc (ok : Nat → Prop) (w : World) (A : Option Addr) (xs : List Value) : Prop := xs = [] ∨ ∃ b off, A = some ⟨b, off, none⟩ ∧ ok b ∧ b < w.heap.size
theorem Sl.loc {ok : Nat → Prop} {w w' : World} {A : Option Addr} {xs : List Value} (h : Sl w A xs) (l : Loc ok w A xs) (hs : w.heap.size ≤ w'.heap.size) (hb : ∀ k, ok k → k < w.heap.size → w'.heap[k]? = w.heap[k]?) : Sl w' A xs ∧ Loc ok w' A xs := by
  rcases l with rfl | ⟨b, off, rfl, h1, h2⟩
  · exact ⟨.inl rfl, .inl rfl⟩
  · exact ⟨h.keep hs fun b' off' e hlt => by injection e with e; injection e with e1 e2; subst e1; exact hb b h1 h2, .inr ⟨b, off, rfl, h1, Nat.lt_of_lt_of_le h2 hs⟩⟩
theorem Loc.mono {ok ok' : Nat → Prop} {w : World} {A : Option Addr} {xs : List Value} (h : Loc ok w A xs) (hm : ∀ k, ok k → ok' k) : Loc ok' w A xs := by
  rcases h with h | ⟨b, off, e, h1, h2⟩
  · exact .inl h
  · exact .inr ⟨b, off, e, hm b h1, h2⟩
theorem Sl.locate {ok : Nat → Prop} {w : World} {A : Option Addr} {xs : List Value} (h : Sl w A xs) (hk : ∀ k, k < w.heap.size → ok k) : Loc ok w A xs := by
  rcases h with h | ⟨b, off, rfl, hlt, -⟩
  · exact .inl h
  · exact .inr ⟨b, off, rfl, hk b hlt, hlt⟩
theorem OS.locate {lo hi : Nat} {ok : Nat → Prop} {w : World} {A : Option Addr} {n : Nat} {xs : List Value} (h : OS lo hi w A n xs) (hk : ∀ k, lo ≤ k → k < hi → ok k) : Loc ok w A xs := by
  rcases h.rg with r | ⟨b, off, rfl, r1, r2⟩
  · exact .inl (h.nil r)
  · rcases h.sl with hs | ⟨b', off', e, hlt, -⟩
    · exact .inl hs
    · injection e with e; injection e with e1 e2; subst e1
      exact .inr ⟨b, off, rfl, hk b r1 r2, hlt⟩
/-- Calls that read, in blocks of which ok holds. -/
structure CRI (ok : Nat → Prop) (w : World) (A0 A1 A2 : Option Addr) (C : Cl) : Prop where
  cr : CR w A0 A1 A2 C
  l0 : Loc ok w A0 (bls C.up)
  l1 : Loc ok w A1 (bls C.dn)
  l2 : Loc ok w A2 (bls C.car)
theorem CRI.keep {ok : Nat → Prop} {w w' : World} {A0 A1 A2 : Option Addr} {C : Cl} (h : CRI ok w A0 A1 A2 C) (hs : w.heap.size ≤ w'.heap.size) (hb : ∀ k, ok k → k < w.heap.size → w'.heap[k]? = w.heap[k]?) : CRI ok w' A0 A1 A2 C := by
  have a := Sl.loc h.cr.up h.l0 hs hb; have b := Sl.loc h.cr.dn h.l1 hs hb; have c := Sl.loc h.cr.car h.l2 hs hb
  exact ⟨⟨a.1, b.1, c.1⟩, a.2, b.2, c.2⟩
theorem CRI.below {ok : Nat → Prop} {w w' : World} {A0 A1 A2 : Option Addr} {C : Cl} (h : CRI ok w A0 A1 A2 C) (b : Below w.heap.size w w') : CRI ok w' A0 A1 A2 C := h.keep b.size fun k _ hk => b.block k hk
theorem CRI.only {ok : Nat → Prop} {lo hi : Nat} {w w' : World} {A0 A1 A2 : Option Addr} {C : Cl} (h : CRI ok w A0 A1 A2 C) (o : Only lo hi w w') (hd : ∀ k, ok k → k < lo ∨ hi ≤ k) : CRI ok w' A0 A1 A2 C := h.keep o.size fun k hk hlt => o.block k hlt (hd k hk)
theorem CRI.mono {ok ok' : Nat → Prop} {w : World} {A0 A1 A2 : Option Addr} {C : Cl} (h : CRI ok w A0 A1 A2 C) (hm : ∀ k, ok k → ok' k) : CRI ok' w A0 A1 A2 C := ⟨h.cr, h.l0.mono hm, h.l1.mono hm, h.l2.mono hm⟩
theorem CRI.grown {ok : Nat → Prop} {r : Option Nat} {w w' : World} {A0 A1 A2 : Option Addr} {C : Cl} (h : CRI ok w A0 A1 A2 C) (g : w.grownBy w' r) (hr : ∀ k, ok k → some k ≠ r) : CRI ok w' A0 A1 A2 C := h.keep g.size fun k hk hlt => g.block k hlt (hr k hk)
theorem CR.locate {ok : Nat → Prop} {w : World} {A0 A1 A2 : Option Addr} {C : Cl} (h : CR w A0 A1 A2 C) (hk : ∀ k, k < w.heap.size → ok k) : CRI ok w A0 A1 A2 C := ⟨h, Sl.locate h.up hk, Sl.locate h.dn hk, Sl.locate h.car hk⟩
theorem CO.locate {ok : Nat → Prop} {lo hi : Nat} {w : World} {A0 A1 A2 : Option Addr} {C : Cl} (h : CO lo hi w A0 A1 A2 C) (hk : ∀ k, lo ≤ k → k < hi → ok k) : CRI ok w A0 A1 A2 C := ⟨h.cr, OS.locate h.up hk, OS.locate h.dn hk, OS.locate h.car hk⟩
end Go.Proofs.Ytbkjgiomamlajaa
