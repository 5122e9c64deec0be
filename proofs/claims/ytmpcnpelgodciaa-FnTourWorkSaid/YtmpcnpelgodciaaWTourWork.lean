import Derived.Test.YtmpcnpelgodciaaFrame
import Derived.Test.YtmpcnpelgodciaaDrawTW
import Derived.Test.YtmpcnpelgodciaaAlive
import Derived.Test.YtmpcnpelgodciaaTourWork
import Derived.Test.YtmpcnpelgodciaaAppReg
import Derived.Deep.CutRange
namespace Go.Proofs.Ytmpcnpelgodciaa
open Go.RowKit

theorem code_name {P : Program} {c : Code} {Q : Exit → Act → World → Prop} {a : Act} {w : World} (h : ∀ W, W = w → Code.wp P c Q a W) : Code.wp P c Q a w := h w rfl
theorem twB_bd {fs ss ls : List Int} (h : ls.length ≤ 100) : -120000 ≤ tourWkB fs ss ls ∧ tourWkB fs ss ls ≤ 120000 := by
  have := twK_bd fs ss ls ls.length
  unfold tourWkB; split <;> omega
set_option maxHeartbeats 4000000 in
theorem wTourWork (A : Option Addr) (c : Nat) (bs : List Int) (w : World) (h0 : InRow .u8 w A c bs) :
    Calls Try.prog 5 #[.slice A bs.length c] w fun e w' => e = .returned (.bool true) ∧ Below w.heap.size w w' := by
  have HB := hide h0.byte
  obtain ⟨h, hc, hc2, -⟩ := h0
  have H : Hid (Sl w A (bvs bs)) := h
  clear h
  by_cases hl : ¬ bs.length ≤ 1048576
  · go_enter Try.func5, Try.ntmps5
    go_wp2
    go_ret
    exact ⟨rfl, Below.refl _ _⟩
  have hl : bs.length ≤ 1048576 := by omega
  clear hc2
  go_enter Try.func5, Try.ntmps5
  go_wp2_with fail
  refine (drawTourWork_any A c bs _ H.out HB.out hl hc).mono ?_
  rintro e w1 ⟨A0, c0, fs, A1, c1, ss, A2, c2, ls, rfl, l0, ⟨l1, lc1⟩, ⟨l2, lc2⟩, f0, f1, f2, hA2, b⟩
  have F0 := hide f0.1; have F1 := hide f1.1; have F2 := hide f2.1; have B := hide b
  clear f0 f1 f2 b
  go_wp2_with fail
  refine (implTourWork A0 A1 A2 c0 c1 c2 _ _ fs ss ls _ F0.out F1.out F2.out rfl rfl (by omega) (by omega)).mono ?_
  rintro e w2 ⟨rfl, D⟩
  replace F0 := hide (F0.out.dr D); replace F1 := hide (F1.out.dr D); replace F2 := hide (F2.out.dr D); replace B := hide (bthen B.out D.below); clear D
  go_wp2_with fail
  refine (specTourWork A0 A1 A2 c0 c1 c2 fs ss ls _ F0.out F1.out F2.out (by omega) (by omega) (by omega)).mono ?_
  rintro e w3 ⟨rfl, D⟩
  replace F0 := hide (F0.out.dr D); replace F1 := hide (F1.out.dr D); replace F2 := hide (F2.out.dr D); replace B := hide (bthen B.out D.below); clear D
  have hbd := twB_bd (fs := fs) (ss := ss) (ls := ls) (by omega)
  obtain ⟨X, hX⟩ : ∃ X, X = tourWkB fs ss ls := ⟨_, rfl⟩
  rw [← hX] at hbd ⊢
  have HX := hide hX
  clear hX
  have e0 : (X != X) = false := by simp
  cases hk : tourOkB fs ss ls
  · have hx0 : X = 0 := by rw [HX.out]; exact tourWk_no (tourOkB_f.1 hk)
    subst hx0
    go_wp2_with fail
    refine (alive_any _).mono ?_
    rintro e w9 ⟨rfl, b9⟩
    have B9 := hide b9
    clear b9
    go_wp2
    go_ret
    exact ⟨rfl, bthen B.out B9.out⟩
  · have ht := tourOkB_iff.1 hk
    have HT := hide ht
    have hlen := ht.2.1
    obtain ⟨m, hm⟩ : ∃ m : Nat, m = ls.length / 2 := ⟨_, rfl⟩
    have hm1 : (ls.length : Int).tdiv 2 = (m : Int) := by rw [Int.tdiv_eq_ediv_of_nonneg (by omega)]; omega
    have hm2 : m ≤ ls.length := by omega
    have hp := tour_parts ht hm2
    have hk1 := tourOkB_iff.2 (ht.take hm2); have hk2 := tourOkB_iff.2 (ht.drop hm2)
    obtain ⟨ht3, hr3⟩ := tour_round ht
    have hk3 := tourOkB_iff.2 ht3
    have hb1 := twB_bd (fs := fs) (ss := ss.take (m + 1)) (ls := ls.take m) (by simp; omega)
    have hb2 := twB_bd (fs := fs) (ss := ss.drop m) (ls := ls.drop m) (by simp; omega)
    obtain ⟨Y, hY⟩ : ∃ Y, Y = tourWkB fs (ss.take (m + 1)) (ls.take m) := ⟨_, rfl⟩
    obtain ⟨Z, hZ⟩ : ∃ Z, Z = tourWkB fs (ss.drop m) (ls.drop m) := ⟨_, rfl⟩
    rw [← hY] at hp hb1; rw [← hZ] at hp hb2
    rw [← HX.out] at hp
    have HY := hide hY; have HZ := hide hZ; have HK1 := hide hk1; have HK2 := hide hk2; have HK3 := hide hk3; have HR := hide hr3
    have ew : IntKind.i64.wrap (Y + Z) = X := by rw [hp]; exact IntWalk.i64_in _ (by omega)
    have exx : (X == X) = true := by simp
    obtain ⟨b1, off1, x, rfl, hx, hcx⟩ := F1.out.at (k := 0) (by omega)
    simp only [Nat.add_zero] at hcx
    have hnx : nth ss 0 = x := nth_at hx.out
    rw [hnx] at HK3 HR
    have hT1 := hide (F1.out.take (m + 1)); have hD1 := hide (F1.out.drop m); have hT2 := hide (F2.out.take m)
    have HN := hide hlen
    have hn1 : Hid (m + 1 = (ss.take (m + 1)).length) := by unfold Hid; simp; omega
    have hn2 : Hid (m = (ls.take m).length) := by unfold Hid; simp; omega
    have hn3 : Hid (ss.length - m = (ss.drop m).length) := by unfold Hid; simp
    have hn4 : Hid (ls.length - m = (ls.drop m).length) := by unfold Hid; simp
    have q1 : (m : Int) + 1 ≤ (ss.length : Int) := by omega
    have q2 : (m : Int) + 1 ≤ (c1 : Int) := by omega
    have q3 : (m : Int) ≤ (c2 : Int) := by omega
    have q4 : (m : Int) ≤ (ls.length : Int) := by omega
    have q5 : (m : Int) ≤ (ss.length : Int) := by omega
    have q6 : ¬ c1 = m := by omega
    have q9 : (ls.length : Int) ≤ (c2 : Int) := by omega
    have q10 : (ss.length : Int) ≤ (c1 : Int) := by omega
    have q11 : (0 : Int) ≤ (m : Int) := by omega
    have q7 : 0 < ss.length := by omega
    clear hm hk ht hY hZ hk1 hk2 hk3 hr3 hp hb1 hb2 hlen hnx ht3
    go_wp2_with fail
    go_quiet ((go_at_call 18; (with_reducible refine quiet_dr (implTourWork A0 (some ⟨b1, off1, none⟩) A2 c0 c1 c2 (m + 1) m fs (ss.take (m + 1)) (ls.take m) _ ?_ ?_ ?_ hn1.out hn2.out ?_ ?_) ?_); exact F0.out.dr ⟨_, rfl⟩; exact hT1.out.dr ⟨_, rfl⟩; exact hT2.out.dr ⟨_, rfl⟩; (simp; omega); (simp; omega); exact ⟨_, rfl⟩))
    go_wp2_with fail
    refine code_name fun W hW => ?_
    have D : Dr w3 W := ⟨_, hW⟩
    replace F0 := hide (F0.out.dr D); replace F1 := hide (F1.out.dr D); replace F2 := hide (F2.out.dr D); replace B := hide (bthen B.out D.below); replace hD1 := hide (hD1.out.dr D); replace hcx := (D.cell _).trans hcx
    clear hW D hT1 hT2
    rw [← HY.out, HK1.out]
    go_cut [13, 14] from 73 to 83 (fun s t wx => s = .int .i64 Z ∧ t = .bool true ∧ Hid (Dr W wx))
    case first =>
      have cases2 : (A2 = none ∧ ls.length = 0) ∨ (∃ g, A2 = some ⟨g, 0, none⟩ ∧ m = c2) ∨ (∃ g, A2 = some ⟨g, 0, none⟩ ∧ ¬ c2 = m) := by
        rcases hA2 with h | ⟨g, h⟩
        · refine .inl ⟨h, ?_⟩
          rcases F2.out with h2 | ⟨_, _, h2, -⟩
          · rw [← ivs_length, h2]; rfl
          · rw [h] at h2; cases h2
        · by_cases h2 : c2 = m
          · exact .inr (.inl ⟨g, h, h2.symm⟩)
          · exact .inr (.inr ⟨g, h, h2⟩)
      have DD : Hid (∀ g, A2 = some ⟨g, 0, none⟩ → Ints W (some ⟨g, m, none⟩) (ls.drop m)) := fun g h => by
        subst h; have := Ints.drop F2.out m; rwa [Nat.zero_add] at this
      rcases cases2 with ⟨rfl, hz⟩ | ⟨g, rfl, hz⟩ | ⟨g, rfl, q8⟩
      · have HZ0 := hide hz
        clear hz
        go_wp2_with fail
        go_quiet ((go_at_call 18; (with_reducible refine quiet_dr (implTourWork A0 (some ⟨b1, off1 + m, none⟩) _ c0 (c1 - m) _ (ss.length - m) _ fs (ss.drop m) (ls.drop m) _ ?_ ?_ ?_ hn3.out ?_ ?_ ?_) ?_); exact F0.out.dr ⟨_, rfl⟩; exact hD1.out.dr ⟨_, rfl⟩; (first | exact Ints.short (by omega) | exact Ints.short (by have := HZ0.out; omega) | exact (DD.out _ rfl).dr ⟨_, rfl⟩); (first | exact hn4.out | (have := hn4.out; omega)); (simp; omega); (simp; omega); exact ⟨_, rfl⟩))
        go_wp2_with fail
        go_meet
        case rel => exact ⟨by rw [HZ.out], by rw [HK2.out], ⟨_, rfl⟩⟩
      · subst hz
        go_wp2_with fail
        go_quiet ((go_at_call 18; (with_reducible refine quiet_dr (implTourWork A0 (some ⟨b1, off1 + m, none⟩) _ c0 (c1 - m) _ (ss.length - m) _ fs (ss.drop m) (ls.drop m) _ ?_ ?_ ?_ hn3.out ?_ ?_ ?_) ?_); exact F0.out.dr ⟨_, rfl⟩; exact hD1.out.dr ⟨_, rfl⟩; (first | exact Ints.short (by omega) | exact Ints.short (by have := HZ0.out; omega) | exact (DD.out _ rfl).dr ⟨_, rfl⟩); (first | exact hn4.out | (have := hn4.out; omega)); (simp; omega); (simp; omega); exact ⟨_, rfl⟩))
        go_wp2_with fail
        go_meet
        case rel => exact ⟨by rw [HZ.out], by rw [HK2.out], ⟨_, rfl⟩⟩
      · go_wp2_with fail
        go_quiet ((go_at_call 18; (with_reducible refine quiet_dr (implTourWork A0 (some ⟨b1, off1 + m, none⟩) _ c0 (c1 - m) _ (ss.length - m) _ fs (ss.drop m) (ls.drop m) _ ?_ ?_ ?_ hn3.out ?_ ?_ ?_) ?_); exact F0.out.dr ⟨_, rfl⟩; exact hD1.out.dr ⟨_, rfl⟩; (first | exact Ints.short (by omega) | exact Ints.short (by have := HZ0.out; omega) | exact (DD.out _ rfl).dr ⟨_, rfl⟩); (first | exact hn4.out | (have := hn4.out; omega)); (simp; omega); (simp; omega); exact ⟨_, rfl⟩))
        go_wp2_with fail
        go_meet
        case rel => exact ⟨by rw [HZ.out], by rw [HK2.out], ⟨_, rfl⟩⟩
    case rest =>
      obtain ⟨rfl, rfl, D⟩ := hcut
      rename World => W2
      replace F0 := hide (F0.out.dr D.out); replace F1 := hide (F1.out.dr D.out); replace B := hide (bthen B.out D.out.below); replace hcx := (D.out.cell _).trans hcx
      clear D F2 hA2 hD1 hn1 hn2 hn3 hn4 HY HZ HK1 HK2 hm1 q1 q2 q3 q4 q5 q6 q9 HT
      have hb1 : b1 < W2.heap.size := World.block_lt_of_cell? W2 _ hcx
      have KS : Hid (∀ w', Below W2.heap.size W2 w' → w'.cell? ⟨b1, off1, none⟩ = some (.int .i64 x)) := fun w' b => (World.cell?_of_block (b.block b1 hb1)).trans hcx
      have b4 : Hid (Below W2.heap.size W2 W2.drew) := (Below.refl _ _).drew
      have z4 : W2.drew.heap.size = W2.heap.size := rfl
      go_upto_region 13 with fail
      go_cut [15] from 84 to 91 (fun s wx => ∃ A6 c6, s = .slice A6 (ss.length + 1) c6 ∧ Hid (FrI W2.heap.size wx A6 (ss ++ [x])) ∧ Hid (Below W2.heap.size W2 wx))
      case first =>
        go_region_held3 (fun W => W.cell? ⟨b1, off1, none⟩ = some (.int .i64 x)) (first | (go_keep; done) | exact K6.out | exact K5.out | exact K4.out) (first | (refine step_appG (by rfl) (.tmp 84) (.tmp 85) (by rfl) W2.heap.size _ _ [] (some ⟨b1, off1, none⟩) ss.length c1 ss (by rfl) (by rfl) (by rfl) (own_nil_at (by first | exact at_new _ _ | exact at_old _ _ _ | exact at_new1 _ _ _) (by first | omega | (simp; done) | (simp; omega))) (by first | exact (F1.out.below b4.out).below ((Below.refl _ _).alloc (Nat.le_refl _) _) | exact (F1.out.below b4.out).below (((Below.refl _ _).alloc (Nat.le_refl _) _).alloc (by simp) _)) (by first | omega | (simp; done) | (simp; omega)) (by first | omega | (simp; done) | (simp; omega)) ?_; intro v5 w5 own5 b5 g5; replace own5 := hide own5; replace g5 := hide g5; replace b5 := hide (Below.trans (by first | exact b4.out.alloc (by first | omega | (simp; done) | (simp; omega)) _ | exact (b4.out.alloc (by first | omega | (simp; done) | (simp; omega)) _).alloc (by first | omega | (simp; done) | (simp; omega)) _) b5); have K5 := hide (KS.out _ b5.out); have z5 := b5.out.size) | ((first | (refine step_app1 (by rfl) (.tmp 86) (.tmp 90) (by rfl) W2.heap.size _ _ _ x (by rfl) (by rfl) own5.out (by first | omega | (simp; done) | (simp; omega)) (by first | omega | (simp; done) | (simp; omega)) ?_; intro v6 w6 own6 b6) | (have Z6 := lit_kept (at_new1 _ _ _) g5.out (by omega); refine step_appG (by rfl) (.tmp 86) (.tmp 90) (by rfl) W2.heap.size _ _ _ _ 1 1 [x] (by rfl) (by rfl) (by rfl) own5.out Z6 (by first | omega | (simp; done) | (simp; omega)) (by omega) ?_; intro v6 w6 own6 b6 _) | (have Z6 := lit_kept (at_old _ _ _) g5.out (by omega); refine step_appG (by rfl) (.tmp 86) (.tmp 90) (by rfl) W2.heap.size _ _ _ _ 1 1 [x] (by rfl) (by rfl) (by rfl) own5.out Z6 (by first | omega | (simp; done) | (simp; omega)) (by omega) ?_; intro v6 w6 own6 b6 _) | (have Z6 := lit_kept (at_new1d _ _ _) g5.out (by omega); refine step_appG (by rfl) (.tmp 86) (.tmp 90) (by rfl) W2.heap.size _ _ _ _ 1 1 [x] (by rfl) (by rfl) (by rfl) own5.out Z6 (by first | omega | (simp; done) | (simp; omega)) (by omega) ?_; intro v6 w6 own6 b6 _) | (have Z6 := lit_kept (at_oldd _ _ _) g5.out (by omega); refine step_appG (by rfl) (.tmp 86) (.tmp 90) (by rfl) W2.heap.size _ _ _ _ 1 1 [x] (by rfl) (by rfl) (by rfl) own5.out Z6 (by first | omega | (simp; done) | (simp; omega)) (by omega) ?_; intro v6 w6 own6 b6 _)); obtain ⟨A6, c6, rfl, -, f6⟩ := OwnI.form own6; replace f6 := hide f6; replace b6 := hide (b5.out.trans b6); clear own6; have K6 := hide (KS.out _ b6.out)))
        all_goals
          go_wp2_with fail
          go_meet
          case rel => exact ⟨A6, c6, rfl, f6, b6⟩
      case rest =>
        obtain ⟨A6, c6, rfl, f6, b6⟩ := hcut
        rename World => w6
        clear KS hcx hb1 F1 b4 z4
        go_wp2_with fail
        have z6 := b6.out.size
        have O := hide (OwnI.lit (LO := w6.heap.size) (w := w6) [] #[] rfl (Nat.le_refl _) (by simp))
        have B6 : Hid (Below w6.heap.size w6 (w6.alloc (.cells #[] 3))) := (Below.refl _ _).alloc (Nat.le_refl _) _
        go_loopw [16, 17] (fun v i wr => ∃ k : Nat, k ≤ ss.length ∧ i = .int .i64 (k : Int) ∧ Hid (OwnI w6.heap.size wr v (List.replicate k 7)) ∧ Hid (Below w6.heap.size w6 wr)) (fun _ i _ => ss.length - (intOf i).toNat)
        case atStart => exact ⟨0, by omega, rfl, O, B6⟩
        case round =>
          clear O B6
          obtain ⟨k, hk, rfl, O, B6⟩ := hrel
          have hL := B6.out.size
          by_cases hlt : k < ss.length
          · go_wp2_with (at_builtin; refine wp_app1 rfl (.tmp 99) (.tmp 100) rfl w6.heap.size _ _ _ 7 rfl rfl O.out (by simp; omega) hL ?_; intro v' w7 hown hb)
            have O7 := hide hown; have B7 := hide (B6.out.trans hb)
            clear hown hb O B6
            go_wp2_with fail
            go_roundw
            case rel => exact ⟨k + 1, by omega, by go_num, by rw [List.replicate_succ']; exact O7, B7⟩
            case measure => simp [intOf]; omega
          · obtain rfl : k = ss.length := by omega
            obtain ⟨A7, c7, rfl, -, f7⟩ := OwnI.form O.out
            have F7 := hide f7.1
            clear O f7
            go_wp2_with fail
            refine (implTourWork A0 A6 A7 c0 c6 c7 _ _ fs (ss ++ [x]) (List.replicate ss.length 7) _ ((F0.out.below b6.out).below B6.out) (f6.out.1.below B6.out) F7.out (by simp) (by simp) (by simp; omega) (by simp; omega)).mono ?_
            rintro e w8 ⟨rfl, D⟩
            have B8 := hide (((B.out.trans (b6.out.mono B.out.size)).trans (B6.out.mono (Nat.le_trans B.out.size z6))).trans (D.below.mono (Nat.le_trans B.out.size (Nat.le_trans z6 hL))))
            rw [HR.out, HK3.out]
            go_wp2_with fail
            go_ret
            exact ⟨rfl, B8.out⟩
end Go.Proofs.Ytmpcnpelgodciaa
