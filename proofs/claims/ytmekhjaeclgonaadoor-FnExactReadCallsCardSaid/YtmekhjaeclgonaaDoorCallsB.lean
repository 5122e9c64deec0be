/- Calls: making them. -/
import Derived.Test.YtmekhjaeclgonaaDoorCallsA
import Derived.RegionTactic
import Derived.ChangeAlike
import Derived.BigRegion
namespace Go.Proofs.YtmekhjaeclgonaaDoor
open Go.RowKit

theorem info_bool : (Tryd.prog.info? 4).map (fun i => (i.zero, i.size, i.bytes)) = some (some (.bool false), 1, 1) := by kernel_rfl
theorem run_make_rowN {P : Program} (t e : TypeId) (i : TypeInfo) (z : Value) (ht : P.underlying t = some (.slice e)) (hi : P.info? e = some i) (hz : i.zero = some z)
    (kl kc : IntKind) (n c : Nat) (hnc : n ≤ c) (hbytes : i.bytes * c ≤ 281474976710656) (h63 : c ≤ 9223372036854775807) (w : World) :
    (Instr.makeSlice t (.int kl (n : Int)) (.int kc (c : Int))).run P w = .ok (.slice (some ⟨w.heap.size, 0, none⟩) n c) (w.alloc (.cells (madeCells z.cells (c * i.size)) e)) := by
  have hb : (i.bytes : Int) * (c : Int) ≤ 281474976710656 := by
    have h : ((i.bytes * c : Nat) : Int) ≤ 281474976710656 := by omega
    rwa [Int.natCast_mul] at h
  have hr := run_make (P := P) w t e i z ht hi hz kl kc n c (by omega) (by omega) hb (by omega)
  simp only [Int.toNat_natCast] at hr
  exact hr
def madeB (n : Nat) : Array Value := madeCells (Value.bool false).cells (n * 1)
theorem run_make_bool (n : Nat) (hn : n ≤ 100000000) (w : World) : (Instr.makeSlice 24 (.int .i64 (n : Int)) (.int .i64 (n : Int))).run Tryd.prog w = .ok (.slice (some ⟨w.heap.size, 0, none⟩) n n) (w.alloc (.cells (madeB n) 4)) := by
  obtain ⟨i0, hi, hz0, hz1, hz2⟩ := info_parts info_bool
  have := run_make_rowN (P := Tryd.prog) 24 4 i0 (.bool false) Tryd.underlying24 hi hz0 .i64 .i64 n n (Nat.le_refl _) (by rw [hz2]; omega) (by omega) w
  rw [hz1] at this; exact this
theorem BO.new {w : World} {g n lo : Nat} {t : TypeId} (h : w.heap[g]? = some (.cells (madeB n) t (0, 0))) (hl : lo ≤ g) : BO lo w.heap.size w (some ⟨g, 0, none⟩) (List.replicate n false) := by
  have hlt := (Array.getElem?_eq_some_iff.1 h).1
  have e : (madeB n).toList = bls (List.replicate n false) := by
    unfold madeB; rw [Nat.mul_one, bls, List.map_replicate]; exact toList_madeCells_one _ _
  refine ⟨.inr ⟨g, 0, rfl, hlt, fun k u hu => ?_⟩, .inr ⟨g, 0, rfl, hl, hlt⟩, fun b off k e' _ => ?_, fun hn => ?_⟩
  · rw [cell_of_row w g _ _ _ (0, 0) h, Nat.zero_add, ← Array.getElem?_toList, e]; exact hu
  · injection e' with e'; injection e' with e1 e2; subst e1
    exact frozen_of_row w g _ _ t h
  · simp at hn; subst hn; rfl
/-- Calls of one's own come back. -/
def GivesC (D : Cl) (w : World) (e : Ending) (w' : World) : Prop := ∃ (A0 A1 A2 : Option Addr) (c0 c1 c2 : Nat), e = .returned (.agg #[.slice A0 D.up.length c0, .slice A1 D.dn.length c1, .slice A2 D.car.length c2]) ∧ CO w.heap.size w'.heap.size w' A0 A1 A2 D ∧ Below w.heap.size w w'
def GivesCB (D : Cl) (b : Bool) (w : World) (e : Ending) (w' : World) : Prop := ∃ (A0 A1 A2 : Option Addr) (c0 c1 c2 : Nat), e = .returned (.tuple #[.agg #[.slice A0 D.up.length c0, .slice A1 D.dn.length c1, .slice A2 D.car.length c2], .bool b]) ∧ CO w.heap.size w'.heap.size w' A0 A1 A2 D ∧ Below w.heap.size w w'

/-- The same, and the row of the car's calls can be appended to. -/
def GivesS (D : Cl) (w : World) (e : Ending) (w' : World) : Prop := ∃ (A0 A1 A2 : Option Addr) (c0 c1 c2 : Nat), e = .returned (.agg #[.slice A0 D.up.length c0, .slice A1 D.dn.length c1, .slice A2 D.car.length c2]) ∧ CO w.heap.size w'.heap.size w' A0 A1 A2 D ∧ Below w.heap.size w w' ∧ w'.ownsRow w.heap.size 4 1 (.slice A2 D.car.length c2) D.car.length (bls D.car)
def GivesSB (D : Cl) (b : Bool) (w : World) (e : Ending) (w' : World) : Prop := ∃ (A0 A1 A2 : Option Addr) (c0 c1 c2 : Nat), e = .returned (.tuple #[.agg #[.slice A0 D.up.length c0, .slice A1 D.dn.length c1, .slice A2 D.car.length c2], .bool b]) ∧ CO w.heap.size w'.heap.size w' A0 A1 A2 D ∧ Below w.heap.size w w' ∧ w'.ownsRow w.heap.size 4 1 (.slice A2 D.car.length c2) D.car.length (bls D.car)
theorem GivesS.weak {D : Cl} {w w' : World} {e : Ending} (h : GivesS D w e w') : GivesC D w e w' := by obtain ⟨A0, A1, A2, c0, c1, c2, h1, h2, h3, -⟩ := h; exact ⟨A0, A1, A2, c0, c1, c2, h1, h2, h3⟩
theorem GivesSB.weak {D : Cl} {b : Bool} {w w' : World} {e : Ending} (h : GivesSB D b w e w') : GivesCB D b w e w' := by obtain ⟨A0, A1, A2, c0, c1, c2, h1, h2, h3, -⟩ := h; exact ⟨A0, A1, A2, c0, c1, c2, h1, h2, h3⟩
theorem owns_new {w : World} {g n lo : Nat} (h : w.heap[g]? = some (.cells (madeB n) 4 (0, 0))) (hl : lo ≤ g) (hn : n ≤ 1000) : w.ownsRow lo 4 1 (.slice (some ⟨g, 0, none⟩) n n) n (bls (List.replicate n false)) := by
  have e : (madeB n).toList = bls (List.replicate n false) := by
    unfold madeB; rw [Nat.mul_one, bls, List.map_replicate]; exact toList_madeCells_one _ _
  have es : (madeB n).size = n := by rw [← Array.length_toList, e]; simp [bls]
  exact ⟨by simp [bls], .inr ⟨g, n, madeB n, rfl, hl, h, Nat.le_refl _, by unfold maxLen; omega, by rw [es]; omega, by rw [e, List.take_of_length_le (by simp [bls])]⟩⟩
theorem owns_only {w w' : World} {lo lo' hi' n s : Nat} {e : TypeId} {v : Value} {xs : List Value} (h : w.ownsRow lo e s v n xs) (o : Only lo' hi' w w') (hd : hi' ≤ lo) : w'.ownsRow lo e s v n xs := by
  refine ⟨h.1, ?_⟩
  rcases h.2 with h2 | ⟨g, cap, cur, hv, hb, hh, r⟩
  · exact .inl h2
  · exact .inr ⟨g, cap, cur, hv, hb, (o.block g (Array.getElem?_eq_some_iff.1 hh).1 (.inr (by omega))).trans hh, r⟩
theorem owns_below {w w' : World} {lo n s : Nat} {e : TypeId} {v : Value} {xs : List Value} (h : w.ownsRow lo e s v n xs) (b : Below w.heap.size w w') : w'.ownsRow lo e s v n xs := by
  refine ⟨h.1, ?_⟩
  rcases h.2 with h2 | ⟨g, cap, cur, hv, hb, hh, r⟩
  · exact .inl h2
  · exact .inr ⟨g, cap, cur, hv, hb, (b.block g (Array.getElem?_eq_some_iff.1 hh).1).trans hh, r⟩
theorem owns_mono {w : World} {lo lo' n s : Nat} {e : TypeId} {v : Value} {xs : List Value} (h : w.ownsRow lo e s v n xs) (hl : lo' ≤ lo) : w.ownsRow lo' e s v n xs := by
  refine ⟨h.1, ?_⟩
  rcases h.2 with h2 | ⟨g, cap, cur, hv, hb, r⟩
  · exact .inl h2
  · exact .inr ⟨g, cap, cur, hv, by omega, r⟩
theorem heap3 (w : World) (o0 o1 o2 o3 : Obj) : (((((w.alloc o0).alloc o1).alloc o2).alloc o3).drew).heap[w.heap.size + 1]? = some o1 ∧ (((((w.alloc o0).alloc o1).alloc o2).alloc o3).drew).heap[w.heap.size + 1 + 1]? = some o2 ∧ (((((w.alloc o0).alloc o1).alloc o2).alloc o3).drew).heap[w.heap.size + 1 + 1 + 1]? = some o3 := by
  refine ⟨?_, ?_, ?_⟩
  · show ((((w.heap.push o0).push o1).push o2).push o3)[w.heap.size + 1]? = _
    simp [Array.getElem_push]
  · show ((((w.heap.push o0).push o1).push o2).push o3)[w.heap.size + 1 + 1]? = _
    simp [Array.getElem_push]
  · show ((((w.heap.push o0).push o1).push o2).push o3)[w.heap.size + 1 + 1 + 1]? = _
    simp [Array.getElem_push]
theorem GivesC.made {w w' : World} {k g0 g1 g2 : Nat} {t : TypeId} (h0 : w'.heap[g0]? = some (.cells (madeB k) t (0, 0))) (h1 : w'.heap[g1]? = some (.cells (madeB k) t (0, 0))) (h2 : w'.heap[g2]? = some (.cells (madeB k) t (0, 0)))
    (hn : g0 ≠ g1 ∧ g0 ≠ g2 ∧ g1 ≠ g2) (hl : w.heap.size ≤ g0 ∧ w.heap.size ≤ g1 ∧ w.heap.size ≤ g2) (b : Below w.heap.size w w') :
    GivesC (noCalls k) w (.returned (.agg #[.slice (some ⟨g0, 0, none⟩) k k, .slice (some ⟨g1, 0, none⟩) k k, .slice (some ⟨g2, 0, none⟩) k k])) w' := by
  have ap : ∀ {x y : Nat}, x ≠ y → ∀ n m, Ap (some ⟨x, 0, none⟩) n (some ⟨y, 0, none⟩) m := fun h n m => .inr (.inr fun a b ea eb => by injection ea with ea; injection eb with eb; subst ea; subst eb; exact h)
  exact ⟨_, _, _, k, k, k, by simp [noCalls], ⟨BO.new h0 hl.1, BO.new h1 hl.2.1, BO.new h2 hl.2.2, ap hn.1 _ _, ap hn.2.1 _ _, ap hn.2.2 _ _⟩, b⟩
theorem GivesS.made {w w' : World} {k g0 g1 g2 : Nat} (h0 : w'.heap[g0]? = some (.cells (madeB k) 4 (0, 0))) (h1 : w'.heap[g1]? = some (.cells (madeB k) 4 (0, 0))) (h2 : w'.heap[g2]? = some (.cells (madeB k) 4 (0, 0)))
    (hn : g0 ≠ g1 ∧ g0 ≠ g2 ∧ g1 ≠ g2) (hl : w.heap.size ≤ g0 ∧ w.heap.size ≤ g1 ∧ w.heap.size ≤ g2) (b : Below w.heap.size w w') (hk : k ≤ 1000) :
    GivesS (noCalls k) w (.returned (.agg #[.slice (some ⟨g0, 0, none⟩) k k, .slice (some ⟨g1, 0, none⟩) k k, .slice (some ⟨g2, 0, none⟩) k k])) w' := by
  have ap : ∀ {x y : Nat}, x ≠ y → ∀ n m, Ap (some ⟨x, 0, none⟩) n (some ⟨y, 0, none⟩) m := fun h n m => .inr (.inr fun a b ea eb => by injection ea with ea; injection eb with eb; subst ea; subst eb; exact h)
  exact ⟨_, _, _, k, k, k, by simp [noCalls], ⟨BO.new h0 hl.1, BO.new h1 hl.2.1, BO.new h2 hl.2.2, ap hn.1 _ _, ap hn.2.1 _ _, ap hn.2.2 _ _⟩, b, by have := owns_new h2 hl.2.2 hk; simpa [noCalls] using this⟩
theorem GivesS.zero {w w' : World} (b : Below w.heap.size w w') : GivesS ⟨[], [], []⟩ w (.returned (.agg #[.slice none 0 0, .slice none 0 0, .slice none 0 0])) w' := ⟨_, _, _, _, _, _, rfl, CO.zero _ _ _ _ _ _, b, World.ownsRow_nil _ _ _ _⟩
theorem GivesC.zero {w w' : World} (b : Below w.heap.size w w') : GivesC ⟨[], [], []⟩ w (.returned (.agg #[.slice none 0 0, .slice none 0 0, .slice none 0 0])) w' := ⟨_, _, _, _, _, _, rfl, CO.zero _ _ _ _ _ _, b⟩
theorem GivesCB.zero {w w' : World} (b : Below w.heap.size w w') (x : Bool) : GivesCB ⟨[], [], []⟩ x w (.returned (.tuple #[.agg #[.slice none 0 0, .slice none 0 0, .slice none 0 0], .bool x])) w' := ⟨_, _, _, _, _, _, rfl, CO.zero _ _ _ _ _ _, b⟩

theorem specCallsNoneS (n : Int) (w : World) : Calls Tryd.prog 33 #[.int .i64 n] w (GivesS (noneC n) w) := by
  by_cases h : 1 ≤ n ∧ n ≤ 8
  · have hb : inB n 1 8 = true := inB_t h
    obtain ⟨k, rfl⟩ := Int.eq_ofNat_of_zero_le (a := n) (by omega)
    have HN : Hid (noneC (k : Int) = noCalls k) := by unfold noneC; rw [if_pos h]; rfl
    have hmk := run_make_bool k (by omega)
    go_enter Tryd.func33, Tryd.ntmps33
    go_wp2_with (go_at_call 37; refine (l1In_any _ _ _ _).mono ?_; rintro e w' ⟨rfl, rfl⟩)
    go_region
    all_goals
      go_wp2
      refine bodyPost_ret (by simp [results, Tryd.results33, go_sem]; rfl) rfl ?_
      rw [HN.out]
      exact GivesS.made (by first | exact (heap3 _ _ _ _ _).1 | exact (heap3 _ _ _ _ _).2.1 | exact (heap3 _ _ _ _ _).2.2) (by first | exact (heap3 _ _ _ _ _).1 | exact (heap3 _ _ _ _ _).2.1 | exact (heap3 _ _ _ _ _).2.2) (by first | exact (heap3 _ _ _ _ _).1 | exact (heap3 _ _ _ _ _).2.1 | exact (heap3 _ _ _ _ _).2.2) (by omega) (by omega) (((((Below.refl _ _).alloc (Nat.le_refl _) _).alloc (by simp) _).alloc (by simp; omega) _).alloc (by simp; omega) _).drew (by omega)
  · have hb : inB n 1 8 = false := inB_n (by omega)
    have HN : Hid (noneC n = ⟨[], [], []⟩) := by unfold noneC; rw [if_neg h]; rfl
    go_enter Tryd.func33, Tryd.ntmps33
    go_wp2_with (go_at_call 37; refine (l1In_any _ _ _ _).mono ?_; rintro e w' ⟨rfl, rfl⟩)
    refine bodyPost_ret (by simp [results, Tryd.results33, go_sem]; rfl) rfl ?_
    rw [HN.out]
    exact GivesS.zero ((Below.refl _ _).alloc (Nat.le_refl _) _)
theorem specCallsNone (n : Int) (w : World) : Calls Tryd.prog 33 #[.int .i64 n] w (GivesC (noneC n) w) := (specCallsNoneS n w).mono fun _ _ h => h.weak
end Go.Proofs.YtmekhjaeclgonaaDoor
