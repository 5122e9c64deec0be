/- One step of a trip: rows half done; a copy of riders. -/
import Derived.Test.YtbkjgiomamlajaaRidD
import Derived.Test.YtbkjgiomamlajaaRidL
namespace Go.Proofs.Ytbkjgiomamlajaa
open Go.RowKit

theorem set_same {l : List Rr} {k : Nat} {r : Rr} (h : l[k]? = some r) : l = l.set k r := by
  have hk := getElem?_lt h
  rw [List.getElem?_eq_getElem hk] at h; injection h with h; subst h; exact (List.set_getElem_self hk).symm
theorem mix_get {l P : List Rr} {k : Nat} (hP : P.length = k) : (P ++ l.drop k)[k]? = l[k]? := by
  rw [List.getElem?_append_right (by omega), hP, List.getElem?_drop]; simp
theorem mix_set {l P : List Rr} {k : Nat} {r y : Rr} (hP : P.length = k) (hr : l[k]? = some r) : (P ++ l.drop k).set k y = (P ++ [y]) ++ l.drop (k + 1) := by
  have hk := getElem?_lt hr
  rw [List.set_append_right _ _ (by omega), hP, Nat.sub_self, List.drop_eq_getElem_cons hk, List.set_cons_zero, List.append_assoc]; rfl
def outTo (g : Int) (l : List Rr) (k : Nat) : List Rr := (l.take k).map (outR g) ++ l.drop k
def boardTo (g e m : Int) (l : List Rr) (k : Nat) : List Rr := boardL g e m (l.take k) ++ l.drop k
def leftTo (g e m : Int) (l : List Rr) (k : Nat) : Int := leftN g e m (l.take k)
section
variable {g e m : Int} {l : List Rr} {k : Nat}
theorem outTo_zero : outTo g l 0 = l := by simp [outTo]
theorem outTo_len : (outTo g l k).length = l.length := by simp [outTo]; omega
theorem outTo_all (h : l.length ≤ k) : outTo g l k = l.map (outR g) := by unfold outTo; rw [List.take_of_length_le h, List.drop_of_length_le h, List.append_nil]
theorem outTo_get (hk : k ≤ l.length) : (outTo g l k)[k]? = l[k]? := mix_get (by simp; omega)
theorem outTo_step {r : Rr} (hr : l[k]? = some r) : outTo g l (k + 1) = (outTo g l k).set k (outR g r) := by
  have hk := getElem?_lt hr
  unfold outTo
  rw [mix_set (by simp; omega) hr, take_snoc' l k r hr, List.map_append]; rfl
theorem outTo_no {r : Rr} (hr : l[k]? = some r) (h : ¬ (r.2.2 = 1 ∧ r.2.1 = g)) : outTo g l (k + 1) = outTo g l k := by
  have hk := getElem?_lt hr
  rw [outTo_step hr, show outR g r = r from if_neg h]
  exact (set_same (by rw [outTo_get (by omega)]; exact hr)).symm
theorem outTo_yes {r : Rr} (hr : l[k]? = some r) (h : r.2.2 = 1) (h2 : r.2.1 = g) : outTo g l (k + 1) = (outTo g l k).set k (r.1, r.2.1, 2) := by
  rw [outTo_step hr, show outR g r = (r.1, r.2.1, 2) from if_pos ⟨h, h2⟩]
theorem boardTo_zero : boardTo g e m l 0 = l := by simp [boardTo, boardL]
theorem leftTo_zero : leftTo g e m l 0 = m := by simp [leftTo, leftN]
theorem boardTo_len : (boardTo g e m l k).length = l.length := by simp [boardTo, board_len]; omega
theorem boardTo_all (h : l.length ≤ k) : boardTo g e m l k = boardL g e m l := by unfold boardTo; rw [List.take_of_length_le h, List.drop_of_length_le h, List.append_nil]
theorem boardTo_get (hk : k ≤ l.length) : (boardTo g e m l k)[k]? = l[k]? := mix_get (by rw [board_len]; simp; omega)
theorem boardTo_no {r : Rr} (hr : l[k]? = some r) (h : ¬ canIn g e (leftTo g e m l k) r) : boardTo g e m l (k + 1) = boardTo g e m l k ∧ leftTo g e m l (k + 1) = leftTo g e m l k := by
  have hk := getElem?_lt hr
  unfold leftTo at h
  constructor
  · unfold boardTo
    rw [take_snoc' l k r hr, board_snoc, if_neg h, ← mix_set (by rw [board_len]; simp; omega) hr]
    exact (set_same (by rw [mix_get (by rw [board_len]; simp; omega)]; exact hr)).symm
  · unfold leftTo
    rw [take_snoc' l k r hr, left_snoc, if_neg h, Int.sub_zero]
theorem boardTo_yes {r : Rr} (hr : l[k]? = some r) (h : canIn g e (leftTo g e m l k) r) : boardTo g e m l (k + 1) = (boardTo g e m l k).set k (r.1, r.2.1, 1) ∧ leftTo g e m l (k + 1) = leftTo g e m l k - 1 := by
  have hk := getElem?_lt hr
  unfold leftTo at h
  constructor
  · unfold boardTo
    rw [take_snoc' l k r hr, board_snoc, if_pos h, mix_set (by rw [board_len]; simp; omega) hr]; rfl
  · unfold leftTo
    rw [take_snoc' l k r hr, left_snoc, if_pos h]
theorem boardTo_in : inN 1 (boardTo g e m l k) = inN 1 l + (m - leftTo g e m l k) := by
  have h : inN 1 l = inN 1 (l.take k) + inN 1 (l.drop k) := by rw [← inN_append, List.take_append_drop]
  unfold boardTo leftTo
  rw [inN_append, board_in]; omega
theorem leftTo_bd (h : 0 ≤ m) : 0 ≤ leftTo g e m l k ∧ leftTo g e m l k ≤ m := left_bd g e _ m h
end
/-- TripStep, for all arguments. -/
noncomputable def stepB (t : Tp) : Tp × Bool := if tripB t then (match stepO t with
  | none => (t, false)
  | some t' => (t', true)) else (⟨0, 0, 0, 0, []⟩, false)
theorem stepB_no {t : Tp} (h : tripB t = false) : stepB t = (⟨0, 0, 0, 0, []⟩, false) := by unfold stepB; rw [h]; rfl
theorem stepB_none {t : Tp} (h : tripB t = true) (hn : nextO (tripC t) t.f t.d = none) : stepB t = (t, false) := by unfold stepB; rw [h, step_none hn]; rfl
theorem stepB_some {t : Tp} {g e : Int} (h : tripB t = true) (hn : nextO (tripC t) t.f t.d = some (g, e)) : stepB t = (stepTo t g e, true) := by unfold stepB; rw [h, step_some hn]; rfl
theorem stepB_len (t : Tp) : ((stepB t).1.rs.length : Int) ≤ 8 := by
  cases h : tripB t
  · rw [stepB_no h]; simp
  · have h8 := (tripB_iff.1 h).2.2.2.2.1
    cases hn : nextO (tripC t) t.f t.d with
    | none => rw [stepB_none h hn]; show (t.rs.length : Int) ≤ 8; omega
    | some r => obtain ⟨g, e⟩ := r; rw [stepB_some h hn]; unfold stepTo; simp only [board_len, List.length_map]; omega
theorem trip_next {t : Tp} (h : tripP t) : nextB (tripC t) t.f t.d = nextO (tripC t) t.f t.d := by
  obtain ⟨l1, l2, l3⟩ := tripC_len h
  exact nextB_yes (callsB_iff.2 (tripC_valid h)) (stopOkB_iff.2 ⟨by have := h.2.2.1; omega, h.2.2.2.1⟩)
def GivesT (D : Tp × Bool) (w : World) (e : Ending) (w' : World) : Prop := ∃ A' c', e = .returned (.tuple #[.agg #[.int .i64 D.1.n, .int .i64 D.1.room, .int .i64 D.1.f, .int .i64 D.1.d, .slice A' D.1.rs.length c'], .bool D.2]) ∧ RW w.heap.size w'.heap.size w' A' D.1.rs ∧ Below w.heap.size w w'
theorem RW.far' {w W : World} {p : Addr} {u : Value} (hW : W = w.setCell p u) {lo hi : Nat} {A : Option Addr} {l : List Rr} (h : RW lo hi w A l) (hp : p.block < lo ∨ hi ≤ p.block) : RW lo hi W A l := OS.far' hW h hp
theorem onlyW5 {g : Nat} (w : World) (a b c d x : Value) : Only g (g + 1) w (((((w.setCell ⟨g, 0, none⟩ a).setCell ⟨g, 1, none⟩ b).setCell ⟨g, 2, none⟩ c).setCell ⟨g, 3, none⟩ d).setCell ⟨g, 4, none⟩ x) := ((onlyW3 w a b c).setCell (p := ⟨g, 3, none⟩) (Nat.le_refl g) (Nat.lt_succ_self g) d).setCell (p := ⟨g, 4, none⟩) (Nat.le_refl g) (Nat.lt_succ_self g) x
theorem OwnR.lit0 {LO : Nat} {w : World} (h : LO ≤ w.heap.size) : OwnR LO (w.alloc (.cells #[] 50)) (.slice (some ⟨w.heap.size, 0, none⟩) 0 0) [] := by
  have := World.ownsRow_lit (base := LO) (e := 50) (size := 3) w #[] 0 h (by unfold maxLen; omega) (by simp)
  exact this
/-- The block behind a slice of riders has its c places; it lies from lo on. -/
def Cap (lo : Nat) (w : World) (A : Option Addr) (n c : Nat) : Prop := (A = none ∧ n = 0 ∧ c = 0) ∨ ∃ g cur, A = some ⟨g, 0, none⟩ ∧ lo ≤ g ∧ w.heap[g]? = some (.cells cur 50 (0, 0)) ∧ n ≤ c ∧ c ≤ maxLen ∧ cur.size = c * 3
theorem Cap.ofOwn {LO c : Nat} {w : World} {A : Option Addr} {rs : List Rr} (h : OwnR LO w (.slice A rs.length c) rs) : Cap LO w A rs.length c := by
  rcases h.2 with ⟨h', hn⟩ | ⟨g, cap, cur, h', hb, hg, hnc, hcm, hcs, -⟩
  · injection h' with h1 h2 h3; exact .inl ⟨h1, hn, h3⟩
  · injection h' with h1 h2 h3; subst h3; exact .inr ⟨g, cur, h1, hb, hg, hnc, hcm, hcs⟩
theorem Cap.below {lo : Nat} {w w' : World} {A : Option Addr} {n c : Nat} (h : Cap lo w A n c) (b : Below w.heap.size w w') : Cap lo w' A n c := by
  rcases h with h | ⟨g, cur, e, hl, hg, r⟩
  · exact .inl h
  · exact .inr ⟨g, cur, e, hl, (b.block g (Array.getElem?_eq_some_iff.1 hg).1).trans hg, r⟩
theorem Cap.setCell {lo : Nat} {w : World} {A : Option Addr} {n c : Nat} (h : Cap lo w A n c) (b j : Nat) (u : Value) : Cap lo (w.setCell ⟨b, j, none⟩ u) A n c := by
  rcases h with h | ⟨g, cur, e, hl, hg, r1, r2, r3⟩
  · exact .inl h
  · by_cases hp : g = b
    · refine .inr ⟨g, cur.setIfInBounds j u, e, hl, ?_, r1, r2, by simpa using r3⟩
      subst hp; simp [World.setCell, Array.getElem?_modify, hg]
    · exact .inr ⟨g, cur, e, hl, (Below.heap_setCell w ⟨b, j, none⟩ u g hp).trans hg, r1, r2, r3⟩
theorem Cap.set' {lo : Nat} {w W : World} {b j : Nat} {u : Value} (hW : W = w.setCell ⟨b, j, none⟩ u) {A : Option Addr} {n c : Nat} (h : Cap lo w A n c) : Cap lo W A n c := hW ▸ h.setCell b j u
theorem OwnR.mono {lo lo' : Nat} {w : World} {v : Value} {rs : List Rr} (h : OwnR lo w v rs) (hb : lo' ≤ lo) : OwnR lo' w v rs := ⟨h.1, h.2.imp id fun ⟨g, cap, cur, h1, h2, h3⟩ => ⟨g, cap, cur, h1, Nat.le_trans hb h2, h3⟩⟩
theorem Cap.own {lo hi c : Nat} {w : World} {A : Option Addr} {rs : List Rr} (h : Cap lo w A rs.length c) (r : RW lo hi w A rs) : OwnR lo w (.slice A rs.length c) rs := by
  refine ⟨rcs_len rs, ?_⟩
  rcases h with ⟨rfl, hn, rfl⟩ | ⟨g, cur, rfl, hl, hg, r1, r2, r3⟩
  · exact .inl ⟨by rw [hn], hn⟩
  · refine .inr ⟨g, c, cur, rfl, hl, hg, r1, r2, r3, ?_⟩
    have hle : rs.length * 3 ≤ cur.size := by rw [r3]; omega
    refine List.ext_getElem? fun j => ?_
    by_cases hj : j < rs.length * 3
    · rw [List.getElem?_take, if_pos hj]
      have hx : (rcs rs)[j]? = some ((rcs rs)[j]'(by rw [rcs_len]; exact hj)) := List.getElem?_eq_getElem _
      rcases r.rds with e | ⟨b, off, e, hlt, hc⟩
      · have := congrArg List.length e; rw [rcs_len] at this; simp at this; omega
      · injection e with e; injection e with e1 e2; subst e1; subst e2
        have := hc j _ hx
        rw [Nat.zero_add, cell_of_row w g j cur _ (0, 0) hg] at this
        rw [hx, ← this]; simp
    · rw [List.getElem?_take, if_neg hj, List.getElem?_eq_none (by rw [rcs_len]; omega)]
/-- TripStep's answer; a new trip's riders may be appended to. -/
def GivesTO (D : Tp × Bool) (w : World) (e : Ending) (w' : World) : Prop := ∃ A' c', e = .returned (.tuple #[.agg #[.int .i64 D.1.n, .int .i64 D.1.room, .int .i64 D.1.f, .int .i64 D.1.d, .slice A' D.1.rs.length c'], .bool D.2]) ∧ RW w.heap.size w'.heap.size w' A' D.1.rs ∧ Below w.heap.size w w' ∧ (D.2 = true → OwnR w.heap.size w' (.slice A' D.1.rs.length c') D.1.rs)
theorem GivesTO.give {D : Tp × Bool} {w w' : World} {e : Ending} (h : GivesTO D w e w') : GivesT D w e w' := by
  obtain ⟨A', c', h1, h2, h3, -⟩ := h; exact ⟨A', c', h1, h2, h3⟩
/-- append of riders. -/
theorem wp_appR {ops : Array Oper} {rest : List Oper} {o : Oper} {a : Act} {Q : Exit → Act → World → Prop} (hgd : Region.wanted o (yielded ops a.tmps) = true) (s x : Operand)
    (ho : o.op = .call { callee := .builtin .append, args := #[s, x], argTypes := #[25, 25] }) (LO : Nat) (w : World) (v : Value) (xs : List Rr) (A : Option Addr) (m c : Nat) (ys : List Rr) (hm : m = ys.length)
    (hs : a.eval s = v) (hx : a.eval x = .slice A m c) (hown : OwnR LO w v xs) (hr : Rds w A ys) (hl : xs.length + ys.length ≤ 1048584) (hLO : LO ≤ w.heap.size)
    (h : ∀ v' w', OwnR LO w' v' (xs ++ ys) → Below LO w w' → wpList Try.prog ops Q rest (a.put o.dst v') w') : wpList Try.prog ops Q (o :: rest) a w := by
  obtain ⟨i0, hi, hz0, hz1, hz2⟩ := info_parts info_rider
  subst hm
  refine wpList_app_g w hgd s x 25 ho LO 50 i0 (.agg #[.int .i64 0, .int .i64 0, .int .i64 0]) 3 24 Try.underlying25 hi hz0 hz1 hz2 rfl (by omega) v xs.length (rcs xs) hs hown A ys.length c (rcs ys) hx (rcs_len ys) hr (rcs_one ys) (by unfold maxLen; omega) (by omega) hLO ?_
  intro v' w' h1 h2 h3
  refine h v' w' ?_ ⟨h2.os, h2.tape, h2.output, h2.size, fun k hk => h2.block k (by omega) fun e => ?_⟩
  · unfold OwnR; rw [List.length_append, rcs_append]; exact h1
  · have := OwnR.block hown k e.symm; omega
theorem exit_name {Q : Exit → Act → World → Prop} {e : Exit} {a : Act} {w : World} (h : ∀ W, W = w → Q e a W) : Q e a w := h w rfl
theorem ridersInside_at (A : Option Addr) (c n : Nat) (rs : List Rr) (hn : rs.length = n) (w : World) (h : Rds w A rs) (hl : (rs.length : Int) ≤ 1000000000) :
    Calls Try.prog 50 #[.slice A n c] w fun e w' => e = .returned (.int .i64 (inN 1 rs)) ∧ Below w.heap.size w w' := by subst hn; exact ridersInside_any A c rs w h hl
theorem l11Inside_at (A : Option Addr) (c n : Nat) (t : Tp) (x : Int) (hn : t.rs.length = n) (hx : inN 1 t.rs = x) (w : World) (h : Rds w A t.rs) (hl : (n : Int) ≤ 1000000000) :
    Calls Try.prog 46 #[.agg #[.int .i64 t.n, .int .i64 t.room, .int .i64 t.f, .int .i64 t.d, .slice A n c]] w fun e w' => e = .returned (.int .i64 x) ∧ Below w.heap.size w w' := by subst hn; subst hx; exact l11Inside_any A c t w h hl
theorem cloneR_any (A : Option Addr) (c : Nat) (rs : List Rr) (w : World) (h : Rds w A rs) (hl : rs.length ≤ 1048576) :
    Calls Try.prog 49 #[.slice A rs.length c] w fun e w' => ∃ v, e = .returned v ∧ OwnR w.heap.size w' v rs ∧ Below w.heap.size w w' := by
  have H := hide h; clear h
  have q : ∀ (w : World) (a : Option Addr) (n c n' c' : Nat), (binOp .eql 25 (.slice a n c) (.slice none n' c')).run Try.prog w = .ok (.bool a.isNone) w := fun w a n c n' c' => Lib.run_eql_slice_nil w _ _ a n c n' c' Try.underlying25
  rcases A with _ | ad
  · have hx : rs = [] := by
      rcases H.out with h | ⟨_, _, h, -⟩
      · have := congrArg List.length h; rw [rcs_len] at this; exact List.eq_nil_of_length_eq_zero (by simp at this; omega)
      · cases h
    subst hx
    go_enter Try.func49, Try.ntmps49
    go_wp2_with fail
    go_ret
    exact ⟨_, rfl, OwnR.nil _ _, Below.refl _ _⟩
  · go_enter Try.func49, Try.ntmps49
    have b0 : Below w.heap.size w (w.alloc (.cells #[] 50)) := (Below.refl _ _).alloc (Nat.le_refl _) _
    go_wp2_with (at_builtin; refine wp_appR rfl (.tmp 5) (.tmp 6) rfl w.heap.size _ (.slice (some ⟨w.heap.size, 0, none⟩) 0 0) [] (some ad) rs.length c rs rfl rfl rfl (OwnR.lit0 (Nat.le_refl _)) (H.out.below b0) (by simp; omega) b0.size ?_; intro v' w1 hown hb)
    have O := hide hown; have B := hide (b0.trans hb)
    clear hown hb b0
    go_wp2_with fail
    go_ret
    exact ⟨v', rfl, O.out, B.out⟩
end Go.Proofs.Ytbkjgiomamlajaa
