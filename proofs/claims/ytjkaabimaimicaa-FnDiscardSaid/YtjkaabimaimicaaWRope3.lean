import Derived.Test.YtjkaabimaimicaaWRope2
import Derived.Test.YtjkaabimaimicaaWorstMore
namespace Go.Proofs.Ytjkaabimaimicaa
open Go.RowKit

theorem isum_take_bd {xs : List Int} (hb : ∀ x ∈ xs, 0 ≤ x ∧ x ≤ 9) (hl : xs.length ≤ 24) (k : Nat) : 0 ≤ isum (xs.take k) ∧ isum (xs.take k) ≤ 216 := by
  have h1 := isum_nonneg (xs := xs.take k) fun x hx => (hb x (List.mem_of_mem_take hx)).1
  have h2 := isum_le (xs := xs.take k) (B := 9) fun x hx => (hb x (List.mem_of_mem_take hx)).2
  have h3 : (xs.take k).length ≤ 24 := by simp; omega
  exact ⟨h1, by omega⟩
theorem sumOf_any (A : Option Addr) (c : Nat) (xs : List Int) (w : World) (h : Ints w A xs) (hl : xs.length ≤ 24) (hb : ∀ x ∈ xs, 0 ≤ x ∧ x ≤ 9) :
    Calls Try.prog 36 #[.slice A xs.length c] w fun e w' => e = .returned (.int .i64 (isum xs)) ∧ w = w' := by
  have H := hide h; have HM := hide hb; clear h hb
  go_enter Try.func36, Try.ntmps36
  go_wp2
  go_loop [3, 4] (fun s i => ∃ (k : Nat) (t : Int), k ≤ xs.length ∧ i = .int .i64 k ∧ s = .int .i64 t ∧ 0 ≤ t ∧ t ≤ 216 ∧ Hid (t = isum (xs.take k))) (fun _ i => xs.length - (intOf i).toNat)
  case atStart => exact ⟨0, 0, by omega, rfl, rfl, by omega, by omega, rfl⟩
  case round =>
    obtain ⟨k, t, hk, rfl, rfl, t1, t2, ht⟩ := hrel
    by_cases hlt : k < xs.length
    · obtain ⟨b, off, x, rfl, hx, hc⟩ := H.out.at hlt
      obtain ⟨x1, x2⟩ := HM.out x (List.mem_of_getElem? hx)
      have e : isum (xs.take (k + 1)) = t + x := by rw [take_snoc' xs k x hx, isum_append, isum_cons, isum_nil, ht.out]; omega
      obtain ⟨e1, e2⟩ := isum_take_bd HM.out hl (k + 1)
      rw [e] at e1 e2
      have E := hide e
      clear e
      go_wp2
      go_round
      case rel => exact ⟨k + 1, t + x, by omega, by go_num, rfl, e1, e2, E.out.symm⟩
      case measure => simp [intOf]; omega
    · go_wp2
      go_ret
      exact ⟨ret_int (by rw [ht.out, List.take_of_length_le (by omega)]), rfl⟩
theorem wWorstLay (A : Option Addr) (c : Nat) (bs : List Int) (w : World) (h0 : InRow .u8 w A c bs) :
    Calls Try.prog 13 #[.slice A bs.length c] w fun e w' => e = .returned (.bool true) ∧ Below w.heap.size w w' := by
  have HB := hide h0.byte
  obtain ⟨h, hc, hc2, -⟩ := h0
  have H : Hid (Sl w A (bvs bs)) := h
  clear h
  by_cases hl : ¬ bs.length ≤ 1048576
  · go_enter Try.func13, Try.ntmps13
    go_wp2
    go_ret
    exact ⟨rfl, Below.refl _ _⟩
  have hl : bs.length ≤ 1048576 := by omega
  clear hc2
  go_enter Try.func13, Try.ntmps13
  go_wp2_with fail
  refine (drawWorstLay_any A c bs _ H.out HB.out hl hc).mono ?_
  rintro e w1 ⟨A1, c1, xs, rfl, hc1, f, ⟨p1, -⟩, b⟩
  have F := hide f.1; have B := hide b
  clear f b
  go_wp2_with fail
  refine (implWorstLay A1 c1 xs _ F.out (by omega)).mono ?_
  rintro e w' ⟨rfl, rfl⟩
  go_wp2_with fail
  refine (specWorstLay A1 c1 xs _ F.out (by omega)).mono ?_
  rintro e w' ⟨rfl, rfl⟩
  cases hr : ropeB xs
  · have hw := worstB_no hr
    rw [hw]
    clear hw
    go_wp2_with fail
    refine (alive_any _).mono ?_
    rintro e w9 ⟨rfl, b9⟩
    have B9 := hide b9
    clear b9
    go_wp2
    go_ret
    exact ⟨rfl, bthen B.out B9.out⟩
  · have HM := hide (ropeB_mem hr)
    have hl24 := ropeB_length hr
    have HR := hide hr
    obtain ⟨x, hx⟩ : ∃ x, x = worstB xs := ⟨_, rfl⟩
    have hxv : x = worstV xs := hx.trans (worstB_yes hr)
    have hx0 : 0 ≤ x ∧ x ≤ 36 := by rw [hxv]; exact maxTo_bd fun k => (winB_bd HM.out k).2
    obtain ⟨x1, x2⟩ := hx0
    rw [← hx]
    have HX := hide hx; have HXV := hide hxv
    clear hx hxv hr
    go_wp2_with fail
    go_loopw [5, 6] (fun v i wr => ∃ j : Nat, j ≤ xs.length ∧ i = .int .i64 ((j : Int) - 1) ∧ Hid (OwnI w1.heap.size wr v (xs.drop j).reverse) ∧ Hid (Below w1.heap.size w1 wr)) (fun _ i _ => (intOf i + 1).toNat)
    case atStart => exact ⟨xs.length, by omega, rfl, by rw [List.drop_length]; exact OwnI.lit [] #[] rfl (Nat.le_refl _) (by simp), (Below.refl _ _).alloc (Nat.le_refl _) _⟩
    case round =>
      obtain ⟨j, hj, rfl, O, b1⟩ := hrel
      by_cases hj0 : 0 < j
      · obtain ⟨k, rfl⟩ : ∃ k, j = k + 1 := ⟨j - 1, by omega⟩
        obtain ⟨b, off, y, rfl, hy, hcy⟩ := (F.out.below b1.out).at (k := k) (by omega)
        have hL : w1.heap.size ≤ wr.heap.size := b1.out.size
        go_wp2_with (at_builtin; refine wp_app1 rfl (.tmp 34) (.tmp 39) rfl w1.heap.size _ _ (xs.drop (k + 1)).reverse y rfl rfl O.out (by simp; omega) hL ?_; intro v' w3 hown hb)
        have e : (xs.drop (k + 1)).reverse ++ [y] = (xs.drop k).reverse := by
          have hk : k < xs.length := getElem?_lt hy
          rw [List.drop_eq_getElem_cons hk, List.reverse_cons]
          have := hy.out; rw [List.getElem?_eq_getElem hk] at this; injection this with this; rw [this]
        rw [e] at hown
        have O3 := hide hown; have b3 := hide (b1.out.trans hb)
        clear hown hb e
        go_wp2_with fail
        go_roundw
        case rel => exact ⟨k, by omega, by go_num, O3, b3⟩
        case measure => simp [intOf] <;> omega
      · obtain rfl : j = 0 := by omega
        obtain ⟨ys, hys⟩ : ∃ ys, ys = xs.reverse := ⟨_, rfl⟩
        have O2 := O.out
        rw [List.drop_zero, ← hys] at O2
        obtain ⟨A3, c3, rfl, -, f3⟩ := O2.form
        have F3 := hide f3.1
        have hyl : ys.length ≤ 24 := by rw [hys]; simpa using hl24
        have HYW : Hid (worstB ys = x) := by rw [hys]; exact (worstB_yes (ropeB_rev HR.out)).trans ((worstV_reverse fun z hz => (HM.out z hz).1).trans HXV.out.symm)
        clear O O2 f3 hys
        obtain ⟨wo, rfl⟩ : ∃ wo : World, wo = wr := ⟨_, rfl⟩
        have F1 := hide (F.out.below b1.out)
        go_wp2_with fail
        go_loop [7] (fun i => ∃ k : Nat, k ≤ xs.length ∧ i = .int .i64 (k : Int)) (fun i => xs.length - (intOf i).toNat)
        case atStart => exact ⟨0, by omega, rfl⟩
        case round =>
          obtain ⟨k, hk, rfl⟩ := hrel
          by_cases hk4 : k + 4 ≤ xs.length
          · obtain ⟨b, off, y, rfl, -, -⟩ := F1.out.at (k := 0) (by omega)
            have hcap : ¬ c1 = k := by omega
            have FW := hide ((F1.out.drop k).take 4)
            have hwl : ((xs.drop k).take 4).length = 4 := by simp; omega
            have hsum : isum ((xs.drop k).take 4) ≤ x := by rw [HXV.out]; exact maxTo_ge (winB xs) xs.length k (by omega)
            go_wp2_with fail
            refine (calls_len (sumOf_any _ _ ((xs.drop k).take 4) _ FW.out (by omega) fun z hz => HM.out z (List.mem_of_mem_drop (List.mem_of_mem_take hz))) hwl.symm).mono ?_
            rintro e w' ⟨rfl, rfl⟩
            go_wp2_with fail
            refine ⟨⟨trivial, ?_⟩, by simp [intOf]; omega⟩
            repeat apply Exists.intro
            exact ⟨⟨k + 1, by omega, rfl⟩, rfl⟩
          · have HT : Hid (worstB (xs.take (xs.length / 2)) ≤ x) := by
              rw [HXV.out]
              show worstB _ ≤ _
              rw [worstB_yes (ropeB_take HR.out _)]
              exact worstV_take (fun z hz => (HM.out z hz).1) _
            go_wp2_with fail
            refine (implWorstLay A3 c3 ys _ F3.out (by omega)).mono ?_
            rintro e w' ⟨rfl, rfl⟩
            rw [HYW.out]
            go_wp2_with fail
            refine (calls_len (implWorstLay _ _ (xs.take (xs.length / 2)) _ (F1.out.take _) (by simp; omega)) (by simp; omega)).mono ?_
            rintro e w' ⟨rfl, rfl⟩
            have ht := HT.out
            go_wp2_with fail
            go_ret
            exact ⟨ret_bool (by simp), bthen B.out b1.out⟩
end Go.Proofs.Ytjkaabimaimicaa
