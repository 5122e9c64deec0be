import Derived.Test.YtddlnafkacogiaaShort2
namespace Go.Proofs.Ytddlnafkacogiaa
open Go.RowKit

theorem swB_no {fs vs : List Int} {a : Int} (h : visitsB fs vs = false) : shortWayB fs a vs = -1 := by unfold shortWayB; rw [h]; rfl
theorem swB_yes {fs vs : List Int} {a : Int} (h : visitsB fs vs = true) : shortWayB fs a vs = tourB fs a (shortB fs a vs) := by unfold shortWayB; rw [h]; rfl
theorem implShortWay (A0 A2 : Option Addr) (c0 c2 : Nat) (fs vs : List Int) (a : Int) (w : World) (h0 : Ints w A0 fs) (h2 : Ints w A2 vs) (hl : vs.length ≤ 1048576) (hc : vs.length ≤ c2) :
    Calls Try.prog 14 #[.slice A0 fs.length c0, .int .i64 a, .slice A2 vs.length c2] w fun e w' => e = .returned (.int .i64 (shortWayB fs a vs)) ∧ Below w.heap.size w w' := by
  have H0 := hide h0; have H2 := hide h2; clear h0 h2
  go_enter Try.func14, Try.ntmps14
  go_wp2_with fail
  refine (implVisitsOk A0 A2 c0 c2 fs vs _ H0.out H2.out (by omega)).mono ?_
  rintro e w1 ⟨rfl, D1⟩
  replace H0 := hide (H0.out.dr D1); replace H2 := hide (H2.out.dr D1); have B := hide D1.below
  clear D1
  cases hv : visitsB fs vs
  · go_wp2_with fail
    go_ret
    exact ⟨ret_int (swB_no hv).symm, B.out⟩
  · have HE := hide (swB_yes (a := a) hv)
    have hsl := shortB_len fs vs a
    go_wp2_with fail
    refine (implShortTour A0 A2 c0 c2 fs vs a _ H0.out H2.out hl hc).mono ?_
    rintro e w2 ⟨A3, c3, rfl, f, b⟩
    replace H0 := hide (H0.out.below b); replace B := hide (bthen B.out b); have F := hide f.1
    clear f b
    go_wp2_with fail
    refine (implTourWay A0 A3 c0 c3 fs _ a _ H0.out F.out (by omega)).mono ?_
    rintro e w3 ⟨rfl, D⟩
    replace B := hide (bthen B.out D.below)
    clear D
    go_wp2_with fail
    go_ret
    exact ⟨ret_int HE.out.symm, B.out⟩
theorem specShortWay (A0 A2 : Option Addr) (c0 c2 : Nat) (fs vs : List Int) (a : Int) (w : World) (h0 : Ints w A0 fs) (h2 : Ints w A2 vs) (hl0 : fs.length ≤ 140737488351232) (hl : vs.length ≤ 1048576) :
    Calls Try.prog 13 #[.slice A0 fs.length c0, .int .i64 a, .slice A2 vs.length c2] w fun e w' => e = .returned (.int .i64 (shortWayB fs a vs)) ∧ Below w.heap.size w w' := by
  have H0 := hide h0; have H2 := hide h2; clear h0 h2
  go_enter Try.func13, Try.ntmps13
  go_wp2_with fail
  refine (specVisitsOk A0 A2 c0 c2 fs vs _ H0.out H2.out (by omega) hl0).mono ?_
  rintro e w1 ⟨rfl, D1⟩
  replace H0 := hide (H0.out.dr D1); replace H2 := hide (H2.out.dr D1); have B := hide D1.below
  clear D1
  cases hv : visitsB fs vs
  · go_wp2_with fail
    go_ret
    exact ⟨ret_int (swB_no hv).symm, B.out⟩
  · have HE := hide (swB_yes (a := a) hv)
    have hsl := shortB_len fs vs a
    go_wp2_with fail
    refine (specShortTour A0 A2 c0 c2 fs vs a _ H0.out H2.out hl0 hl).mono ?_
    rintro e w2 ⟨A3, c3, rfl, f, b⟩
    replace H0 := hide (H0.out.below b); replace B := hide (bthen B.out b); have F := hide f.1
    clear f b
    go_wp2_with fail
    refine (specTourWay A0 A3 c0 c3 fs _ a _ H0.out F.out hl0 (by omega)).mono ?_
    rintro e w3 ⟨rfl, D⟩
    replace B := hide (bthen B.out D.below)
    clear D
    go_wp2_with fail
    go_ret
    exact ⟨ret_int HE.out.symm, B.out⟩
end Go.Proofs.Ytddlnafkacogiaa
