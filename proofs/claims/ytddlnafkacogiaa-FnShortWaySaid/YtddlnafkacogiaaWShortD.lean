import Derived.Test.YtddlnafkacogiaaFrame
import Derived.Test.YtddlnafkacogiaaDrawShort
import Derived.Test.YtddlnafkacogiaaAlive
import Derived.Test.YtddlnafkacogiaaShortWay
namespace Go.Proofs.Ytddlnafkacogiaa
open Go.RowKit

/-- The order, and behind it what it lacks of the first k visits. -/
def allK (os vs : List Int) (k : Nat) : List Int := os ++ (vs.take k).filter (fun v => !hasB os v)
theorem allK_len (os vs : List Int) (k : Nat) : (allK os vs k).length ≤ os.length + vs.length := by
  unfold allK; rw [List.length_append]
  have := List.length_filter_le (fun v => !hasB os v) (vs.take k)
  simp at this; simp; omega
theorem allK_yes {os vs : List Int} {k : Nat} {x : Int} (hx : vs[k]? = some x) (h : hasB os x = true) : allK os vs (k + 1) = allK os vs k := by
  unfold allK; rw [take_snoc' vs k x hx, List.filter_append]; simp [h]
theorem allK_no {os vs : List Int} {k : Nat} {x : Int} (hx : vs[k]? = some x) (h : hasB os x = false) : allK os vs (k + 1) = allK os vs k ++ [x] := by
  unfold allK; rw [take_snoc' vs k x hx, List.filter_append]; simp [h]
theorem allK_all {os vs : List Int} {k : Nat} (hk : vs.length ≤ k) : ∀ v ∈ vs, v ∈ allK os vs k := by
  intro v hv
  unfold allK; rw [List.take_of_length_le hk, List.mem_append]
  by_cases h : v ∈ os
  · exact .inl h
  · exact .inr (List.mem_filter.2 ⟨hv, by simp [hasB, h]⟩)
theorem implTourWayM (A A' : Option Addr) (c c' n : Nat) (fs xs : List Int) (a : Int) (w : World) (hn : n = xs.length) (h : Ints w A fs) (h' : Ints w A' xs) (hl : xs.length ≤ 140737488351232) :
    Calls Try.prog 20 #[.slice A fs.length c, .int .i64 a, .slice A' n c'] w fun e w' => e = .returned (.int .i64 (tourB fs a xs)) ∧ Dr w w' := by
  subst hn; exact implTourWay A A' c c' fs xs a w h h' hl
theorem implShortWayM (A0 A2 : Option Addr) (c0 c2 n : Nat) (fs vs : List Int) (a : Int) (w : World) (hn : n = vs.length) (h0 : Ints w A0 fs) (h2 : Ints w A2 vs) (hl : vs.length ≤ 1048576) (hc : vs.length ≤ c2) :
    Calls Try.prog 14 #[.slice A0 fs.length c0, .int .i64 a, .slice A2 n c2] w fun e w' => e = .returned (.int .i64 (shortWayB fs a vs)) ∧ Below w.heap.size w w' := by
  subst hn; exact implShortWay A0 A2 c0 c2 fs vs a w h0 h2 hl hc
set_option maxRecDepth 100000 in
set_option maxHeartbeats 4000000 in
theorem wShortWay (A : Option Addr) (c : Nat) (bs : List Int) (A' : Option Addr) (c' : Nat) (bs' : List Int) (w : World) (h0 : InRow .u8 w A c bs) (h1 : InRow .u8 w A' c' bs') :
    Calls Try.prog 6 #[.slice A bs.length c, .slice A' bs'.length c'] w fun e w' => e = .returned (.bool true) ∧ Below w.heap.size w w' := by
  have HB := hide h0.byte; have HB' := hide h1.byte
  obtain ⟨h, hc, -, -⟩ := h0
  obtain ⟨h', hc', -, -⟩ := h1
  have H : Hid (Sl w A (bvs bs)) := h
  have H' : Hid (Sl w A' (bvs bs')) := h'
  clear h h'
  by_cases hl : ¬ bs.length ≤ 1048576
  · go_enter Try.func6, Try.ntmps6
    go_wp2
    go_ret
    exact ⟨rfl, Below.refl _ _⟩
  have hl : bs.length ≤ 1048576 := by omega
  by_cases hl' : ¬ bs'.length ≤ 1048576
  · go_enter Try.func6, Try.ntmps6
    go_wp2
    go_ret
    exact ⟨rfl, Below.refl _ _⟩
  have hl' : bs'.length ≤ 1048576 := by omega
  go_enter Try.func6, Try.ntmps6
  go_wp2_with fail
  refine (drawShortWay_any A c bs _ H.out HB.out hl hc).mono ?_
  rintro e w1 ⟨A0, c0, fs, a, A1, c1, vs, rfl, l0, l1, lc, f0, f1, b⟩
  have F0 := hide f0.1; have F1 := hide f1.1; have B := hide b
  clear f0 f1 b
  go_wp2_with fail
  refine (implShortWay A0 A1 c0 c1 fs vs a _ F0.out F1.out (by omega) lc).mono ?_
  rintro e w2 ⟨rfl, b⟩
  replace F0 := hide (F0.out.below b); replace F1 := hide (F1.out.below b); replace B := hide (bthen B.out b)
  clear b
  go_wp2_with fail
  refine (specShortWay A0 A1 c0 c1 fs vs a _ F0.out F1.out (by omega) (by omega)).mono ?_
  rintro e w3 ⟨rfl, b⟩
  replace F0 := hide (F0.out.below b); replace F1 := hide (F1.out.below b); replace B := hide (bthen B.out b)
  clear b
  have hbd := shortWay_bd fs vs a
  obtain ⟨X, hX⟩ : ∃ X, X = shortWayB fs a vs := ⟨_, rfl⟩
  rw [← hX] at hbd ⊢
  have HX := hide hX
  clear hX
  have e0 : (X != X) = false := by simp
  by_cases hx : X < 0
  · obtain rfl : X = -1 := by omega
    go_wp2_with fail
    refine (alive_any _).mono ?_
    rintro e w9 ⟨rfl, b9⟩
    have B9 := hide b9
    clear b9
    go_wp2
    go_ret
    exact ⟨rfl, bthen B.out B9.out⟩
  have hx0 : 0 ≤ X := by omega
  go_wp2_with fail
  refine (drawTourWay_any A' c' bs' _ (H'.out.below B.out) HB'.out hl' hc').mono ?_
  rintro e w4 ⟨A3, c3, fs3, a3, A4, c4, os, rfl, -, l4, lc4, -, f4, b⟩
  replace F0 := hide (F0.out.below b); replace F1 := hide (F1.out.below b); replace B := hide (bthen B.out b); have F4 := hide f4.1
  clear f4 b
  have b0 : Below w4.heap.size w4 (w4.alloc (.cells #[] 3)) := (Below.refl _ _).alloc (Nat.le_refl _) _
  have ra := hide (F4.out.below b0)
  go_wp2_with (at_builtin; refine wp_app rfl (.tmp 52) (.tmp 53) rfl w4.heap.size _ (.slice (some ⟨w4.heap.size, 0, none⟩) 0 0) [] A4 os.length c4 os rfl rfl rfl (OwnI.lit [] #[] rfl (Nat.le_refl _) (by simp)) ra.out (by simp; omega) b0.size ?_; intro v5 w5 hown hb; have O := hide hown; have B5 := hide (b0.trans hb); clear hown hb b0 ra)
  have hsz := B5.out.size
  have O0 : Hid (OwnI w4.heap.size w5 v5 (allK os vs 0)) := by simpa [allK] using O
  clear O
  go_wp2_with fail
  go_loopw [12, 13] (fun v i wr => ∃ k : Nat, k ≤ vs.length ∧ i = .int .i64 (k : Int) ∧ Hid (OwnI w4.heap.size wr v (allK os vs k)) ∧ Hid (Below w4.heap.size w4 wr)) (fun _ i _ => vs.length - (intOf i).toNat)
  case atStart => exact ⟨0, by omega, rfl, O0, B5⟩
  case round =>
    clear O0 B5 hsz
    obtain ⟨k, hk, rfl, O, B5⟩ := hrel
    have hL := B5.out.size
    have hal := allK_len os vs k
    by_cases hlt : k < vs.length
    · obtain ⟨b1, o1, x, rfl, hx1, hcx⟩ := (F1.out.below B5.out).at hlt
      cases hh : hasB os x
      · have HS := hide (allK_no hx1.out hh)
        have HH := hide hh
        clear hh
        go_wp2_with (first | (go_at_call 19; refine (hasInt_any A4 c4 _ os x _ rfl (F4.out.below B5.out) (by omega)).mono ?_; rintro e w' ⟨rfl, rfl⟩; rw [HH.out]) | (at_builtin; refine wp_app1 rfl (.tmp 68) (.tmp 73) rfl w4.heap.size _ _ _ x rfl rfl O.out (by omega) hL ?_; intro v' w6 hown hb; have O6 := hide hown; have B6 := hide (B5.out.trans hb); clear hown hb O B5))
        go_roundw
        case rel => exact ⟨k + 1, by omega, by go_num, by rw [HS.out]; exact O6, B6⟩
        case measure => simp [intOf]; omega
      · have HS := hide (allK_yes hx1.out hh)
        have HH := hide hh
        clear hh
        go_wp2_with (go_at_call 19; refine (hasInt_any A4 c4 _ os x _ rfl (F4.out.below B5.out) (by omega)).mono ?_; rintro e w' ⟨rfl, rfl⟩; rw [HH.out])
        go_roundw
        case rel => exact ⟨k + 1, by omega, by go_num, by rw [HS.out]; exact O, B5⟩
        case measure => simp [intOf]; omega
    · obtain rfl : k = vs.length := by omega
      obtain ⟨A6, c6, rfl, -, f6⟩ := OwnI.form O.out
      have F6 := hide f6.1
      have hLe : Hid (0 ≤ tourB fs a (allK os vs vs.length) → X ≤ tourB fs a (allK os vs vs.length)) := fun h => by
        rw [HX.out] at hx0 ⊢; exact shortWay_least hx0 (allK_all (Nat.le_refl _)) h
      have hDr : Hid (shortWayB fs a (vs.drop 1) ≤ X) := by unfold Hid; rw [HX.out] at hx0 ⊢; exact shortWay_drop hx0
      have hb2 := tourB_bd fs a (allK os vs vs.length)
      clear O f6
      go_wp2_with fail
      refine (implTourWayM A0 A6 c0 c6 _ fs (allK os vs vs.length) a _ rfl (F0.out.below B5.out) F6.out (by omega)).mono ?_
      rintro e w7 ⟨rfl, D⟩
      replace F0 := hide ((F0.out.below B5.out).dr D); replace F1 := hide ((F1.out.below B5.out).dr D); replace B := hide (bthen (bthen B.out B5.out) D.below)
      clear D F4 F6 B5
      obtain ⟨Y, hY⟩ : ∃ Y, Y = tourB fs a (allK os vs vs.length) := ⟨_, rfl⟩
      rw [← hY] at hLe hb2 ⊢
      have hY2 : Y < 0 ∨ ((¬ Y < 0) ∧ X ≤ Y) := by
        by_cases h : Y < 0
        · exact .inl h
        · exact .inr ⟨h, hLe.out (by omega)⟩
      clear hY hb2
      by_cases hn : vs.length = 0
      · have hn' : ((vs.length : Int) == 0) = true := by simp [hn]
        clear hn
        rcases hY2 with h | ⟨h, h3⟩
        all_goals
          go_wp2_with fail
          go_ret
          exact ⟨rfl, B.out⟩
      · have hn' : ((vs.length : Int) == 0) = false := by simp; intro e; exact hn (by simp [e])
        obtain ⟨b, off, z, rfl, -, -⟩ := F1.out.at (k := 0) (by omega)
        have F2 := hide (F1.out.drop 1)
        have hl2 : Hid (vs.length - 1 = (vs.drop 1).length) := by unfold Hid; simp
        have hd1 : (vs.drop 1).length ≤ c1 - 1 := by simp; omega
        have hd2 := hide hd1
        have q1 : 1 ≤ vs.length := by omega
        have q2 : (1 : Int) ≤ (vs.length : Int) := by omega
        have q3 : (vs.length : Int) ≤ (c1 : Int) := by omega
        have hcap : ¬ c1 = 1 ∨ c1 = 1 := by omega
        have hDb := shortWay_bd fs (vs.drop 1) a
        have hDo := hDr.out
        obtain ⟨V, hV⟩ : ∃ V, V = shortWayB fs a (vs.drop 1) := ⟨_, rfl⟩
        rw [← hV] at hDo hDb
        have HV := hide hV
        clear hn hd1 hV
        rcases hcap with hcap | rfl
        all_goals
          rcases hY2 with h | ⟨h, h3⟩
          all_goals
            go_wp2_with (go_at_call 14; (first | (with_reducible refine (implShortWayM A0 (some ⟨b, off + 1, none⟩) c0 (c1 - 1) (vs.length - 1) fs (vs.drop 1) a _ hl2.out F0.out F2.out ?_ ?_).mono ?_) | (with_reducible refine (implShortWayM A0 (some ⟨b, off, none⟩) c0 0 0 fs (vs.drop 1) a _ ?_ F0.out ?_ ?_ ?_).mono ?_; (have := hl2.out; omega); exact Ints.short (by omega))); (have := hl2.out; omega); exact hd2.out; rintro e w8 ⟨rfl, b8⟩; replace B := hide (bthen B.out b8); clear b8; rw [← HV.out])
            go_ret
            exact ⟨rfl, B.out⟩
end Go.Proofs.Ytddlnafkacogiaa
