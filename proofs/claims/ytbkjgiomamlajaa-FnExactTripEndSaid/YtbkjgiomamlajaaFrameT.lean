/- What the row's step hands to a walk of a trip that came in (no program in sight). -/
import Derived.Test.YtbkjgiomamlajaaFrameC
import Derived.Test.YtbkjgiomamlajaaCells
import Derived.Deep.Slices
import Derived.Deep.Fields
namespace Go.Proofs.Ytbkjgiomamlajaa
open Go.ChangeShapes Go.WideShapes Go.ChangeAt Go.RowKit
open Go.Deep (oneCellFields hone_of)

/-- A trip that came in. -/
def InT (w : World) (A : Option Addr) (_c : Nat) (t : Tp) : Prop := Rds w A t.rs ∧ (t.rs.length : Int) ≤ 9223372036854775807
section
variable {H : Type} {enc : TypeId × Value → H} {P : Program} {w : World} {held : Bool}
theorem three_of {e : TypeId} {f0 f1 f2 : Field} {fuel : Nat} {cs : List Value} {y : DataW H × List MemPlace} (he : P.underlying e = some (.struct #[f0, f1, f2])) (hone : oneCellFields P #[f0, f1, f2] = true) (hC : P.cellsOf e = 3)
    (h0 : P.underlying f0.type = some (.int .i64)) (h1 : P.underlying f1.type = some (.int .i64)) (h2 : P.underlying f2.type = some (.int .i64))
    (h : DataW.trod enc P w 0 (fun _ => true) held fuel e cs = some y) : ∃ r : Rr, cs = encR r := by
  obtain ⟨ys, n, -, -, hl, hys, hf⟩ := DataW.trod_struct he h
  rw [hC] at hl
  match cs, hl with
  | [a, b, c], _ =>
    have q0 := hf 0 f0 rfl; have q1 := hf 1 f1 rfl; have q2 := hf 2 f2 rfl
    obtain ⟨o0, k0⟩ := hone_of hone 0 f0 rfl
    obtain ⟨o1, k1⟩ := hone_of hone 1 f1 rfl
    obtain ⟨o2, k2⟩ := hone_of hone 2 f2 rfl
    rw [o0, k0] at q0; rw [o1, k1] at q1; rw [o2, k2] at q2
    have g0 : DataW.trod enc P w 0 (fun _ => true) held n f0.type [a] = ys[0]? := q0
    have g1 : DataW.trod enc P w 0 (fun _ => true) held n f1.type [b] = ys[1]? := q1
    have g2 : DataW.trod enc P w 0 (fun _ => true) held n f2.type [c] = ys[2]? := q2
    have hy : ys.length = 3 := hys
    rw [List.getElem?_eq_getElem (by omega)] at g0 g1 g2
    obtain ⟨x0, rfl, -⟩ := int_of h0 g0
    obtain ⟨x1, rfl, -⟩ := int_of h1 g1
    obtain ⟨x2, rfl, -⟩ := int_of h2 g2
    exact ⟨(x0, x1, x2), rfl⟩
theorem riders_of {t e : TypeId} {f0 f1 f2 : Field} {fuel : Nat} {v : Value} {y : DataW H × List MemPlace} (ht : P.underlying t = some (.slice e)) (he : P.underlying e = some (.struct #[f0, f1, f2])) (hone : oneCellFields P #[f0, f1, f2] = true) (hC : P.cellsOf e = 3)
    (h0 : P.underlying f0.type = some (.int .i64)) (h1 : P.underlying f1.type = some (.int .i64)) (h2 : P.underlying f2.type = some (.int .i64))
    (h : DataW.trod enc P w 0 (fun _ => true) held fuel t [v] = some y) : ∃ (A : Option Addr) (c : Nat) (rs : List Rr), v = .slice A rs.length c ∧ Rds w A rs ∧ (rs.length : Int) ≤ 9223372036854775807 := by
  rcases Go.Deep.open_slice ht h with ⟨hcs, -⟩ | ⟨a, len, cap, m, n, D, Pl, hcs, -, hl, hm, hmm, -, hi⟩
  · simp at hcs; subst hcs; exact ⟨none, 0, [], rfl, .inl rfl, by simp⟩
  · simp at hcs; subst hcs
    rw [if_pos rfl] at hmm
    subst hmm
    have hex : ∀ i, ∃ r : Rr, i < len → ∀ j, j < 3 → w.cell? (a.add (i * 3 + j)) = (encR r)[j]? := by
      intro i
      by_cases hil : i < len
      · obtain ⟨cs', hc, hd⟩ := hi i (by omega)
        rw [hC] at hc
        obtain ⟨-, hcl, hat⟩ := World.cells?_some hc
        obtain ⟨r, rfl⟩ := three_of he hone hC h0 h1 h2 hd
        exact ⟨r, fun _ j hj => by rw [← Go.Deep.add_add]; exact hat j hj⟩
      · exact ⟨(0, 0, 0), fun h => absurd h hil⟩
    obtain ⟨R, hR⟩ := Classical.axiomOfChoice hex
    refine ⟨some a, m, (List.range len).map R, by simp, ?_, by simp [maxLen] at hm ⊢; omega⟩
    by_cases hz : len = 0
    · subst hz; exact .inl rfl
    · obtain ⟨b, off, spot⟩ := a
      have hc0 := hR 0 (by omega) 0 (by omega)
      have hspot : spot = none := by
        have : w.cell? (Addr.add ⟨b, off, spot⟩ (0 * 3 + 0)) = some (.int .i64 (R 0).1) := hc0
        simpa [Addr.add] using World.cell?_spot this
      subst hspot
      have hadd : ∀ k, (Addr.add ⟨b, off, none⟩ k : Addr) = ⟨b, off + k, none⟩ := fun k => by unfold Addr.add; split <;> simp_all
      refine .inr ⟨b, off, rfl, ?_, fun j u hu => ?_⟩
      · rw [hadd] at hc0; exact World.block_lt_of_cell? w _ (show _ = some (Value.int .i64 (R 0).1) from hc0)
      · have hjl := getElem?_lt hu
        rw [rcs_len] at hjl
        have hj3 : j / 3 < len := by simp at hjl; omega
        have hget := hR (j / 3) hj3 (j % 3) (by omega)
        rw [hadd, show j / 3 * 3 + j % 3 = j from by omega] at hget
        rw [hget, ← hu]
        have hx : ((List.range len).map R)[j / 3]? = some (R (j / 3)) := by simp [hj3]
        have := cellsOf_get (j := j % 3) encR_len hx (by omega)
        rw [show j / 3 * 3 + j % 3 = j from by omega] at this
        exact this.symm
theorem trip_of {r : Reach} {b0 : Nat} {t e : TypeId} {f0 f1 f2 f3 g0 g1 e0 e1 e2 : Field} {v : Value} {d : DataW H} {p : List MemPlace} (hs : P.underlying t = some (.struct #[f0, f1, f2, f3])) (hC : P.cellsOf t = 5)
    (ho : (f0.offset = 0 ∧ f1.offset = 1) ∧ f2.offset = 2 ∧ f3.offset = 4) (hk : (P.cellsOf f0.type = 1 ∧ P.cellsOf f1.type = 1) ∧ P.cellsOf f2.type = 2 ∧ P.cellsOf f3.type = 1)
    (h0 : P.underlying f0.type = some (.int .i64)) (h1 : P.underlying f1.type = some (.int .i64)) (h2 : P.underlying f2.type = some (.struct #[g0, g1])) (hg : oneCellFields P #[g0, g1] = true) (hg0 : P.underlying g0.type = some (.int .i64)) (hg1 : P.underlying g1.type = some (.int .i64))
    (h3 : P.underlying f3.type = some (.slice e)) (he : P.underlying e = some (.struct #[e0, e1, e2])) (hone : oneCellFields P #[e0, e1, e2] = true) (hCe : P.cellsOf e = 3)
    (q0 : P.underlying e0.type = some (.int .i64)) (q1 : P.underlying e1.type = some (.int .i64)) (q2 : P.underlying e2.type = some (.int .i64))
    (hv : Value.okWide P w r b0 t v) (h : DataW.Trod enc P w 0 (fun _ => true) held t v d p) :
    ∃ (A : Option Addr) (c : Nat) (T : Tp), v = .agg #[.int .i64 T.n, .int .i64 T.room, .int .i64 T.f, .int .i64 T.d, .slice A T.rs.length c] ∧ InT w A c T := by
  obtain ⟨cs, rfl, hsz⟩ := okWide_struct hs hv
  obtain ⟨l⟩ := cs
  match l, hsz.trans hC with
  | [c0, c1, c2, c3, c4], _ =>
    obtain ⟨fuel, hf⟩ := h
    obtain ⟨xs, n, -, -, -, hlen, hgt⟩ := DataW.trod_struct hs hf
    have a0 := hgt 0 f0 rfl; have a1 := hgt 1 f1 rfl; have a2 := hgt 2 f2 rfl; have a3 := hgt 3 f3 rfl
    rw [ho.1.1, hk.1.1] at a0; rw [ho.1.2, hk.1.2] at a1; rw [ho.2.1, hk.2.1] at a2; rw [ho.2.2, hk.2.2] at a3
    have hx : xs.length = 4 := hlen
    rw [List.getElem?_eq_getElem (by omega)] at a0 a1 a2 a3
    have b0 : DataW.trod enc P w 0 (fun _ => true) held n f0.type [c0] = some xs[0] := a0
    have b1 : DataW.trod enc P w 0 (fun _ => true) held n f1.type [c1] = some xs[1] := a1
    have b2 : DataW.trod enc P w 0 (fun _ => true) held n f2.type [c2, c3] = some xs[2] := a2
    have b3 : DataW.trod enc P w 0 (fun _ => true) held n f3.type [c4] = some xs[3] := a3
    obtain ⟨x0, rfl, -⟩ := int_of h0 b0
    obtain ⟨x1, rfl, -⟩ := int_of h1 b1
    obtain ⟨zs, n2, -, -, -, hzl, hz⟩ := DataW.trod_struct h2 b2
    have z0 := hz 0 g0 rfl; have z1 := hz 1 g1 rfl
    obtain ⟨o0, k0⟩ := hone_of hg 0 g0 rfl
    obtain ⟨o1, k1⟩ := hone_of hg 1 g1 rfl
    rw [o0, k0] at z0; rw [o1, k1] at z1
    have hzx : zs.length = 2 := hzl
    rw [List.getElem?_eq_getElem (by omega)] at z0 z1
    have y0 : DataW.trod enc P w 0 (fun _ => true) held n2 g0.type [c2] = some zs[0] := z0
    have y1 : DataW.trod enc P w 0 (fun _ => true) held n2 g1.type [c3] = some zs[1] := z1
    obtain ⟨x2, rfl, -⟩ := int_of hg0 y0
    obtain ⟨x3, rfl, -⟩ := int_of hg1 y1
    obtain ⟨A, c, rs, rfl, hr, hl⟩ := riders_of h3 he hone hCe q0 q1 q2 b3
    exact ⟨A, c, ⟨x0, x1, x2, x3, rs⟩, rfl, hr, hl⟩
end
end Go.Proofs.Ytbkjgiomamlajaa
