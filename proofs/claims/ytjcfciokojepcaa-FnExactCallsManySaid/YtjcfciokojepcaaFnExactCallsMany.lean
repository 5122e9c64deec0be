/-
  For all arguments the law laws.FnExactCallsMany returns true and leaves its arguments as they were: impl.CallsMany and spec.CallsMany agree. No conditions.
-/
import Derived.Test.YtjcfciokojepcaaRows
import Derived.Test.YtjcfciokojepcaaWCallsC
namespace Go.Proofs.Ytjcfciokojepcaa.fnExactCallsMany
open Go.ChangeShapes Go.WideShapes Go.ChangeAt Go.RowKit
open Go.ChangeMaps (open_string shut_string)

theorem own : ownKnob Try.prog.godebug = none := by kernel_rfl
theorem laidOut : laidOutB Try.prog = true := by kernel_rfl
set_option maxRecDepth 100000 in
theorem lifted (os : Os) (started : os.Started) (H : Type) (enc : TypeId × Value → H) :
    ReturnsInHanded {} Try.checked os 6 .any (Rows.fnExactCallsManySpec.pre6 enc Try.prog Try.f6 Rows.fnExactCallsManyRow.domain false) (Rows.fnExactCallsManySpec.post enc Try.prog Try.f6 false true false false) := by
  refine returnsInHanded_of_change (C := Try.checked) own started (by kernel_rfl) Try.func6
    (ChangeSpec.witness6 (enc := enc) (C := Try.checked) false ⟨#[], #[.agg #[.slice none 0 0, .slice none 0 0, .slice none 0 0]], []⟩ 8 (by kernel_rfl) (by kernel_rfl) (by kernel_rfl) (by kernel_rfl)) ?_
  intro W base args ds gs before hval0 hW hcnd _
  have hval : ∀ (j : Nat) t v, Try.f6.params[j]? = some t → args[j]? = some v → Value.okWide Try.prog W .any base t v := hval0
  have hW' := hW
  obtain ⟨p, q, hA0, hV, rfl, hfz, hnd⟩ := hW
  have hA : DataW.TrodAll enc Try.prog W 0 (fun _ => true) true Try.f6.params.toList args.toList ds p := hA0
  rw [Try.params6] at hA hval
  obtain ⟨v0, vs0, d0, ds0, p0, q0, hargs, rfl, rfl, h0, r0⟩ := trodAll_cons hA
  obtain ⟨rfl, rfl, rfl⟩ := trodAll_nil r0
  obtain rfl : args = #[v0] := by cases args; simp_all
  obtain ⟨rfl, rfl⟩ := trodVars_none hV
  have k0 := h0
  have lt0 : ∀ x ∈ p0, x.block < W.heap.size := by obtain ⟨m, hm⟩ := k0; exact DataW.trod_lt m _ _ _ hm
  obtain ⟨u00, u01, u02, y00, y01, y02, m0, hv0, -, -, t00, t01, t02⟩ := Go.Joins.open_agg3 Try.underlying24 (by kernel_rfl) (by kernel_rfl) (hval 0 24 v0 rfl rfl) h0
  subst hv0
  obtain ⟨a00, cap00, z00, rfl, w00, n00⟩ := bools_of Try.underlying22 Try.underlying4 (by kernel_rfl) t00
  obtain ⟨a01, cap01, z01, rfl, w01, n01⟩ := bools_of Try.underlying22 Try.underlying4 (by kernel_rfl) t01
  obtain ⟨a02, cap02, z02, rfl, w02, n02⟩ := bools_of Try.underlying22 Try.underlying4 (by kernel_rfl) t02
  have w0 : InC W a00 a01 a02 cap00 cap01 cap02 ⟨z00, z01, z02⟩ := ⟨⟨w00, w01, w02⟩, n00, n01, n02⟩
  clear hA0 hval0
  refine (wExactCallsMany a00 a01 a02 cap00 cap01 cap02 ⟨z00, z01, z02⟩ W w0).mono fun e W' ⟨he, bel⟩ => ?_
  subst he
  exact ⟨_, rfl, _, _, _, [], _, [], hW', trodAll_mk1 (shut_bool Try.underlying4 _), (trodAll_cons_mk (Below.trod laidOut (by kernel_rfl) (of_decide_eq_true (by kernel_rfl)) k0 bel lt0) trodAll_mk0), rfl, bel.frame _, fun h => by cases h⟩

theorem over : Rows.fnExactCallsManyRow.holds Try.pinned (OpenSpec.ofChange Rows.fnExactCallsManySpec) :=
  OpenClaim.holds_of_wide 6 Try.f6 rfl rfl rfl rfl rfl rfl rfl ⟨rfl, rfl, rfl, rfl, rfl⟩ rfl rfl rfl rfl rfl (by kernel_rfl) Try.func6 (by kernel_rfl)
    (of_decide_eq_true (by kernel_rfl)) (by unfold Func.isWrapper; first | (rw [if_pos (by decide +kernel)]; kernel_rfl) | (rw [if_neg (by decide +kernel)]; exact ⟨rfl, rfl⟩))
    (fun os started H enc _ => lifted os started H enc)

/-- The given statement. -/
theorem proved : Rows.FnExactCallsManySaid := over
#print axioms proved
end Go.Proofs.Ytjcfciokojepcaa.fnExactCallsMany
