/-
  For all arguments the law laws.FnExactSweepStops returns true and leaves its arguments as they were: impl.SweepStops and spec.SweepStops agree. No conditions.
-/
import Derived.Test.YtngblphkpkhppaaRows
import Derived.Test.YtngblphkpkhppaaWSweepStops
namespace Go.Proofs.Ytngblphkpkhppaa.fnExactSweepStops
open Go.ChangeShapes Go.WideShapes Go.ChangeAt Go.RowKit
open Go.ChangeMaps (open_string shut_string)

theorem own : ownKnob Try.prog.godebug = none := by kernel_rfl
theorem laidOut : laidOutB Try.prog = true := by kernel_rfl
set_option maxRecDepth 100000 in
theorem lifted (os : Os) (started : os.Started) (H : Type) (enc : TypeId × Value → H) :
    ReturnsInHanded {} Try.checked os 7 .any (Rows.fnExactSweepStopsSpec.pre6 enc Try.prog Try.f7 Rows.fnExactSweepStopsRow.domain false) (Rows.fnExactSweepStopsSpec.post enc Try.prog Try.f7 false true false false) := by
  refine returnsInHanded_of_change (C := Try.checked) own started (by kernel_rfl) Try.func7
    (ChangeSpec.witness6 (enc := enc) (C := Try.checked) false ⟨#[], #[.agg #[.slice none 0 0, .slice none 0 0, .slice none 0 0], .agg #[.int .i64 0, .int .i64 0]], []⟩ 8 (by kernel_rfl) (by kernel_rfl) (by kernel_rfl) (by kernel_rfl)) ?_
  intro W base args ds gs before hval0 hW hcnd _
  have hval : ∀ (j : Nat) t v, Try.f7.params[j]? = some t → args[j]? = some v → Value.okWide Try.prog W .any base t v := hval0
  have hW' := hW
  obtain ⟨p, q, hA0, hV, rfl, hfz, hnd⟩ := hW
  have hA : DataW.TrodAll enc Try.prog W 0 (fun _ => true) true Try.f7.params.toList args.toList ds p := hA0
  rw [Try.params7] at hA hval
  obtain ⟨v0, vs0, d0, ds0, p0, q0, hargs, rfl, rfl, h0, r0⟩ := trodAll_cons hA
  obtain ⟨v1, vs1, d1, ds1, p1, q1, rfl, rfl, rfl, h1, r1⟩ := trodAll_cons r0
  obtain ⟨rfl, rfl, rfl⟩ := trodAll_nil r1
  obtain rfl : args = #[v0, v1] := by cases args; simp_all
  obtain ⟨rfl, rfl⟩ := trodVars_none hV
  have k0 := h0
  have lt0 : ∀ x ∈ p0, x.block < W.heap.size := by obtain ⟨m, hm⟩ := k0; exact DataW.trod_lt m _ _ _ hm
  obtain ⟨u00, u01, u02, y00, y01, y02, m0, hv0, -, -, t00, t01, t02⟩ := Go.Joins.open_agg3 Try.underlying24 (by kernel_rfl) (by kernel_rfl) (hval 0 24 v0 rfl rfl) h0
  subst hv0
  obtain ⟨a00, cap00, z00, rfl, w00, n00⟩ := bools_of Try.underlying22 Try.underlying4 (by kernel_rfl) t00
  obtain ⟨a01, cap01, z01, rfl, w01, n01⟩ := bools_of Try.underlying22 Try.underlying4 (by kernel_rfl) t01
  obtain ⟨a02, cap02, z02, rfl, w02, n02⟩ := bools_of Try.underlying22 Try.underlying4 (by kernel_rfl) t02
  have w0 : InC W a00 a01 a02 cap00 cap01 cap02 ⟨z00, z01, z02⟩ := ⟨⟨w00, w01, w02⟩, n00, n01, n02⟩
  have k1 := h1
  have lt1 : ∀ x ∈ p1, x.block < W.heap.size := by obtain ⟨m, hm⟩ := k1; exact DataW.trod_lt m _ _ _ hm
  obtain ⟨u10, u11, y10, y11, m1, hv1, -, -, t10, t11⟩ := Go.Joins.open_agg2 Try.underlying26 (by kernel_rfl) (by kernel_rfl) (hval 1 26 v1 rfl rfl) h1
  subst hv1
  obtain ⟨a10, rfl, w10⟩ := int_of Try.underlying3 t10
  obtain ⟨a11, rfl, w11⟩ := int_of Try.underlying3 t11
  clear hA0 hval0
  refine (wExactSweepStops a00 a01 a02 cap00 cap01 cap02 ⟨z00, z01, z02⟩ a10 a11 W w0).mono fun e W' ⟨he, bel⟩ => ?_
  subst he
  exact ⟨_, rfl, _, _, _, [], _, [], hW', trodAll_mk1 (shut_bool Try.underlying4 _), (trodAll_cons_mk (Below.trod laidOut (by kernel_rfl) (of_decide_eq_true (by kernel_rfl)) k0 bel lt0) (trodAll_cons_mk (Below.trod laidOut (by kernel_rfl) (of_decide_eq_true (by kernel_rfl)) k1 bel lt1) trodAll_mk0)), rfl, bel.frame _, fun h => by cases h⟩

theorem over : Rows.fnExactSweepStopsRow.holds Try.pinned (OpenSpec.ofChange Rows.fnExactSweepStopsSpec) :=
  OpenClaim.holds_of_wide 7 Try.f7 rfl rfl rfl rfl rfl rfl rfl ⟨rfl, rfl, rfl, rfl, rfl⟩ rfl rfl rfl rfl rfl (by kernel_rfl) Try.func7 (by kernel_rfl)
    (of_decide_eq_true (by kernel_rfl)) (by unfold Func.isWrapper; first | (rw [if_pos (by decide +kernel)]; kernel_rfl) | (rw [if_neg (by decide +kernel)]; exact ⟨rfl, rfl⟩))
    (fun os started H enc _ => lifted os started H enc)

/-- The given statement. -/
theorem proved : Rows.FnExactSweepStopsSaid := over
#print axioms proved
end Go.Proofs.Ytngblphkpkhppaa.fnExactSweepStops
