/- A drawn region walked by hand: an operation taken first, wanted or not, its slot told. -/
import Derived.Test.YtmhocmppafggaaaBase
import Derived.Deep.RegionHeld3
namespace Go.Proofs.Ytmhocmppafggaaa
open Go.RowKit

section
variable {P : Program} {ops : Array Oper} {Q : Exit → Act → World → Prop} {md : Region.Mode} {S : World → Prop}
theorem take_in {i d : Nat} {oi : Oper} {v : Value} {fuel : Nat} {listed : Array Bool} {tm : Array Value} {df : List Deferred} {w : World} (hi : ops[i]? = some oi) (hd : oi.dst = some d)
    (hs : Region.noSelect ops = true) (hf : Region.free md ops listed i = true) (hr : (Region.ready md ops listed).contains i = true)
    (hQ : ∀ c a w, Q (.panic c) (a.put oi.dst v) w → Q (.panic c) a w) (hw : Region.wanted oi (yielded ops tm) = true) (hv : ∀ w, S w → (execOp (Act.eval ⟨tm, df⟩) oi).run P w = .ok (.value v) w) (hS : S w)
    (h : wpAnyH P md ops Q S fuel (listed.setIfInBounds i true) ⟨tm.setIfInBounds d v, df⟩ w) : wpAnyH P md ops Q S (fuel + 1) listed ⟨tm, df⟩ w := by
  refine wpAnyH_take hi hs hf hr hQ (.inl ⟨hw, hv⟩) hS ?_
  rw [hd]; exact h
theorem take_out {i d : Nat} {oi : Oper} {fuel : Nat} {listed : Array Bool} {tm : Array Value} {df : List Deferred} {w : World} (hi : ops[i]? = some oi) (hd : oi.dst = some d)
    (hs : Region.noSelect ops = true) (hf : Region.free md ops listed i = true) (hr : (Region.ready md ops listed).contains i = true)
    (hQ : ∀ c a w, Q (.panic c) (a.put oi.dst undef) w → Q (.panic c) a w) (hw : Region.wanted oi (yielded ops tm) = false) (hS : S w)
    (h : wpAnyH P md ops Q S fuel (listed.setIfInBounds i true) ⟨tm.setIfInBounds d undef, df⟩ w) : wpAnyH P md ops Q S (fuel + 1) listed ⟨tm, df⟩ w := by
  refine wpAnyH_take hi hs hf hr hQ (.inr ⟨hw, rfl⟩) hS ?_
  rw [hd]; exact h
end
end Go.Proofs.Ytmhocmppafggaaa
