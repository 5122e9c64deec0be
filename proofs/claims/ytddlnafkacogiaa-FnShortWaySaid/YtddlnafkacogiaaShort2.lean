/- The reference's ShortTour; ShortWay. -/
import Derived.Test.YtddlnafkacogiaaShort
import Derived.Deep.CutRange
namespace Go.Proofs.Ytddlnafkacogiaa
open Go.RowKit

theorem wp_appO {ops : Array Oper} {rest : List Oper} {o : Oper} {a : Act} {Q : Exit → Act → World → Prop} (hgd : Region.wanted o (yielded ops a.tmps) = true) (s x : Operand)
    (ho : o.op = .call { callee := .builtin .append, args := #[s, x], argTypes := #[22, 22] }) (LO : Nat) (w : World) (v : Value) (xs : List Int) (A : Option Addr) (m c : Nat) (ys : List Int) (hm : m = ys.length)
    (hs : a.eval s = v) (hx : a.eval x = .slice A m c) (hown : OwnI LO w v xs) (hr : Ints w A ys) (hl : xs.length + ys.length ≤ 10000000) (hLO : LO ≤ w.heap.size)
    (h : ∀ v' w', OwnI LO w' v' (xs ++ ys) → w.grownBy w' v.ownBlock → (v'.ownBlock = v.ownBlock ∨ ∃ k, v'.ownBlock = some k ∧ w.heap.size ≤ k) → wpList Try.prog ops Q rest (a.put o.dst v') w') : wpList Try.prog ops Q (o :: rest) a w := by
  obtain ⟨i0, hi, hz0, hz1, hz2⟩ := info_parts info_int
  subst hm
  have key : ∃ v' w', (Builtin.append_ #[22, 22] o.type #[v, .slice A ys.length c]).run Try.prog w = .ok v' w' ∧ w'.ownsRow LO 3 1 v' (xs.length + ys.length) (ivs xs ++ ivs ys) ∧ w.grownBy w' v.ownBlock ∧ (v'.ownBlock = v.ownBlock ∨ ∃ k, v'.ownBlock = some k ∧ w.heap.size ≤ k) := by
    rcases A with _ | ad
    · have hn : ys = [] := by
        rcases hr with h | ⟨b, off, h, -⟩
        · simpa [ivs] using h
        · cases h
      subst hn
      obtain ⟨v', w', hrun, h2, h3⟩ := run_app_sl (P := Try.prog) w LO 22 o.type 3 i0 (.int .i64 0) 1 8 Try.underlying22 hi hz0 hz1 hz2 rfl (by omega) v xs.length (ivs xs) hown none 0 c (ivs []) (by simp [ivs]) hr (ivs_one []) (by unfold maxLen; omega) (by simp at hl; omega) hLO
      have e : v' = v ∧ w' = w := by
        have hr2 : (Builtin.append_ #[22, 22] o.type #[v, .slice none 0 c]).run Try.prog w = .ok v w := by
          rcases hown.2 with ⟨rfl, hn⟩ | ⟨g, cap, cur, rfl, _, _, hnc, _⟩
          · simp [Builtin.append_, run_underlying Try.underlying22, sizeOf, typeInfo, hi, Builtin.lenOf, Builtin.firstCells]
          · simp [Builtin.append_, run_underlying Try.underlying22, sizeOf, typeInfo, hi, Builtin.lenOf, Builtin.firstCells, hnc, storeCells]
        rw [hrun] at hr2; injection hr2 with e1 e2; exact ⟨e1, e2⟩
      obtain ⟨rfl, rfl⟩ := e
      exact ⟨v', w', hrun, by simpa using h2, h3, .inl rfl⟩
    · have hcells : ∀ j u, (ivs ys)[j]? = some u → w.cell? (ad.add j) = some u := by
        intro j u hu
        rcases hr with h | ⟨b, off, h, _, hc⟩
        · rw [h] at hu; simp at hu
        · injection h with h; subst h
          rw [show (Addr.add ⟨b, off, none⟩ j : Addr) = ⟨b, off + j, none⟩ from by unfold Addr.add; split <;> simp_all]
          exact hc j u hu
      obtain ⟨v', w', hrun, h2, h3, -, h5⟩ := run_append_own_at (P := Try.prog) w LO 22 o.type 3 i0 (.int .i64 0) 1 8 Try.underlying22 hi hz0 hz1 hz2 rfl (by omega) v xs.length (ivs xs) hown ad ys.length c (ivs ys) (by simp [ivs]) hcells (ivs_one ys) (by unfold maxLen; omega) (by omega) hLO
      exact ⟨v', w', hrun, h2, h3, h5.imp id fun e => ⟨_, e, Nat.le_refl _⟩⟩
  obtain ⟨v', w', hrun, h2, h3, h5⟩ := key
  refine wpList_step fun _ hK => ?_
  rw [if_pos hgd]
  unfold Oper.wp execOp
  simp only [ho, resolve, invoke, builtin, Sem.run_bind, Sem.run_pure, Result.andThen_ok, List.map_toArray, List.map_cons, List.map_nil, hs, hx, hrun]
  refine hK _ _ (h v' w' ?_ h3 h5)
  unfold OwnI; rw [List.length_append]; unfold ivs at h2 ⊢; rw [List.map_append]; exact h2
theorem Own2.start0 {LO : Nat} {w : World} (h : LO ≤ w.heap.size) : Own2 LO ((w.alloc (.cells #[] 3)).alloc (.cells #[] 3)) (.slice (some ⟨w.heap.size, 0, none⟩) 0 0) [] (.slice (some ⟨w.heap.size + 1, 0, none⟩) 0 0) [] := by
  rw [show w.heap.size + 1 = (w.alloc (.cells #[] 3)).heap.size from by simp]
  have hb : Below w.heap.size w (w.alloc (.cells #[] 3)) := (Below.refl _ _).alloc (Nat.le_refl _) _
  refine ⟨(OwnI.lit (LO := LO) [] #[] rfl h (by simp)).below ((Below.refl _ _).alloc (Nat.le_refl _) _), OwnI.lit (LO := LO) [] #[] rfl (Nat.le_trans h hb.size) (by simp), fun k h1 h2 => ?_⟩
  simp [Value.ownBlock] at h1 h2
  omega
theorem Own2.below {LO : Nat} {w w' : World} {v1 v2 : Value} {xs ys : List Int} (h : Own2 LO w v1 xs v2 ys) (b : Below w.heap.size w w') : Own2 LO w' v1 xs v2 ys := ⟨h.1.below b, h.2.1.below b, h.2.2⟩
/-- The second row made anew: behind a literal in a new block. -/
theorem Own2.anew {LO : Nat} {w w1 w' : World} {v1 v2 v' v0 : Value} {xs ys zs : List Int} (h : Own2 LO w v1 xs v2 ys) (b : Below w.heap.size w w1) (o : OwnI LO w' v' zs) (h0 : v0.ownBlock = some w.heap.size) (g : w1.grownBy w' v0.ownBlock) (d : v'.ownBlock = v0.ownBlock ∨ ∃ k, v'.ownBlock = some k ∧ w1.heap.size ≤ k) : Own2 LO w' v1 xs v' zs := by
  have hb := h.1.block
  refine ⟨(h.1.below b).grownO g fun k e e' => ?_, o, fun k h1 h2 => ?_⟩
  · rw [h0] at e; injection e with e; subst e; have := hb _ e'; omega
  · have := hb k h1
    rcases d with d | ⟨j, hj, hs⟩
    · rw [d, h0] at h2; injection h2 with h2; omega
    · rw [hj] at h2; injection h2 with h2; have := b.size; omega
theorem own_grown_below {LO : Nat} {w w' : World} {v : Value} {xs : List Int} {W0 : World} (B : Below LO W0 w) (h : OwnI LO w v xs) (g : w.grownBy w' v.ownBlock) (hL : LO ≤ w.heap.size) : Below LO W0 w' := B.trans (own_below h g hL)
set_option maxHeartbeats 2000000 in
theorem specShortTour (A0 A2 : Option Addr) (c0 c2 : Nat) (fs vs : List Int) (a : Int) (w : World) (h0 : Ints w A0 fs) (h2 : Ints w A2 vs) (hl0 : fs.length ≤ 140737488351232) (hl : vs.length ≤ 1048576) :
    Calls Try.prog 7 #[.slice A0 fs.length c0, .int .i64 a, .slice A2 vs.length c2] w (NewI (shortB fs a vs) w) := by
  have H0 := hide h0; have H2 := hide h2; have HI2 := hide h2; clear h0 h2
  obtain ⟨W, hW⟩ : ∃ W, W = (w.alloc (.cells #[] 3)).alloc (.cells #[] 3) := ⟨_, rfl⟩
  have b0 : Below w.heap.size w W := by rw [hW]; exact ((Below.refl _ _).alloc (Nat.le_refl _) _).alloc (by simp) _
  have O : Hid (Own2 w.heap.size W (.slice (some ⟨w.heap.size, 0, none⟩) 0 0) [] (.slice (some ⟨w.heap.size + 1, 0, none⟩) 0 0) []) := by rw [hW]; exact Own2.start0 (Nat.le_refl _)
  have B := hide b0
  replace H0 := hide (H0.out.below b0); replace H2 := hide (H2.out.below b0)
  have HW := hide hW
  clear b0 hW
  cases hg : visitsB fs vs && (inB a 0 ((fs.length : Int) - 1) && !vs.isEmpty)
  · have HE : Hid (shortB fs a vs = []) := by unfold shortB; rw [hg]; rfl
    have fin : ∀ (w1 : World), Hid (Dr W w1) → NewI (shortB fs a vs) w (.returned (.slice (some ⟨w.heap.size, 0, none⟩) 0 0)) w1 := fun w1 D => by
      rw [HE.out]; exact NewI.nil _ _ (B.out.trans (D.out.below.mono B.out.size))
    have FIN := hide fin
    clear fin
    cases hv : visitsB fs vs
    · go_enter Try.func7, Try.ntmps7
      go_wp2_with fail
      rw [← HW.out]
      refine (specVisitsOk A0 A2 c0 c2 fs vs _ H0.out H2.out (by omega) hl0).mono ?_
      rintro e w1 ⟨rfl, D1⟩
      have D1 := hide D1
      rw [hv]
      go_wp2_with fail
      go_ret
      exact FIN.out _ D1
    · cases ha : inB a 0 ((fs.length : Int) - 1)
      · go_enter Try.func7, Try.ntmps7
        go_wp2_with fail
        rw [← HW.out]
        refine (specVisitsOk A0 A2 c0 c2 fs vs _ H0.out H2.out (by omega) hl0).mono ?_
        rintro e w1 ⟨rfl, D1⟩
        have D1 := hide D1
        go_wp2_with (go_at_call 23; refine (l1In_any _ _ _ _).mono ?_; rintro e w' ⟨rfl, rfl⟩)
        go_ret
        exact FIN.out _ D1
      · have hn : vs = [] := by rw [hv, ha] at hg; simpa using hg
        have hn' : ((vs.length : Int) == 0) = true := by simp [hn]
        clear hn hg
        go_enter Try.func7, Try.ntmps7
        go_wp2_with fail
        rw [← HW.out]
        refine (specVisitsOk A0 A2 c0 c2 fs vs _ H0.out H2.out (by omega) hl0).mono ?_
        rintro e w1 ⟨rfl, D1⟩
        have D1 := hide D1
        go_wp2_with (go_at_call 23; refine (l1In_any _ _ _ _).mono ?_; rintro e w' ⟨rfl, rfl⟩)
        go_ret
        exact FIN.out _ D1
  · have hg' := hg
    simp only [Bool.and_eq_true, Bool.not_eq_true', List.isEmpty_eq_false_iff] at hg'
    obtain ⟨hv, ha, hn⟩ := hg'
    have hn0 : vs.length ≠ 0 := fun h => hn (List.eq_nil_of_length_eq_zero h)
    have hn' : ((vs.length : Int) == 0) = false := by simp; exact hn
    obtain ⟨k, hk⟩ : ∃ k, vs.length = k + 1 := ⟨vs.length - 1, by omega⟩
    have HK := hide hk; have HV := hide hv; have HA := hide ha
    obtain ⟨-, -, hp⟩ := visits_parts hv
    have HP := hide hp
    obtain ⟨b, off, lo, rfl, hlo, hclo⟩ := H2.out.at (k := 0) (by omega)
    obtain ⟨hi, hhi, hchi⟩ := H2.out.cell (k := k) (by omega)
    simp only [Nat.add_zero] at hclo
    have HE := hide (short_ends hv ha hk hlo.out hhi.out)
    have hk1 : ((vs.length : Int) - 1) = (k : Int) := by omega
    have hk2 : k < vs.length := by omega
    have hk3 : IntKind.i64.wrap (k : Int) = (k : Int) := IntWalk.i64_in _ (by omega)
    have hk4 : 0 < vs.length := by omega
    have HCL := hide hclo; have HCH := hide hchi
    have wb1 := wayB_bd fs a lo; have wb2 := wayB_bd fs a hi
    clear hn hk hp hg hn0 hclo hchi
    go_enter Try.func7, Try.ntmps7
    go_wp2_with fail
    rw [← HW.out]
    clear HW
    refine (specVisitsOk A0 (some ⟨b, off, none⟩) c0 c2 fs vs _ H0.out H2.out (by omega) hl0).mono ?_
    rintro e w1 ⟨rfl, D1⟩
    replace H0 := hide (H0.out.dr D1); replace H2 := hide (H2.out.dr D1); replace O := hide (O.out.below D1.below); replace B := hide (B.out.trans (D1.below.mono B.out.size))
    have hclo := (D1.cell _).trans HCL.out; have hchi := (D1.cell _).trans HCH.out
    have hsz : Hid (w.heap.size ≤ w1.heap.size) := B.out.size
    clear D1 HCL HCH
    go_upto_region 7 with (go_at_call 23; refine (l1In_any _ _ _ _).mono ?_; rintro e w' ⟨rfl, rfl⟩)
    go_cut [11] from 43 to 61 (fun s wx => s = .bool (decide (lo < a ∧ (hi ≤ a ∨ wayB fs a lo ≤ wayB fs a hi))) ∧ Hid (Dr w1 wx))
    case first =>
      by_cases h1 : lo < a
      · by_cases h2 : hi ≤ a
        · have e : decide (lo < a ∧ (hi ≤ a ∨ wayB fs a lo ≤ wayB fs a hi)) = true := by simp [h1, h2]
          have E := hide e
          clear e
          go_wp2_with fail
          go_meet
          case rel => exact ⟨by rw [E.out], Dr.refl _⟩
        · have e : decide (lo < a ∧ (hi ≤ a ∨ wayB fs a lo ≤ wayB fs a hi)) = decide (wayB fs a lo ≤ wayB fs a hi) := by simp [h1, h2]
          have E := hide e
          clear e
          go_wp2_with fail
          refine (specFloorWay A0 c0 fs a lo _ H0.out hl0).mono ?_
          rintro e w2 ⟨rfl, D2⟩
          have H0' := hide (H0.out.dr D2)
          have D2 := hide D2
          go_wp2_with fail
          refine (specFloorWay A0 c0 fs a hi _ H0'.out hl0).mono ?_
          rintro e w3 ⟨rfl, D3⟩
          have D3 := hide (D2.out.then D3)
          go_wp2_with fail
          go_meet
          case rel => exact ⟨by rw [E.out], D3⟩
      · have e : decide (lo < a ∧ (hi ≤ a ∨ wayB fs a lo ≤ wayB fs a hi)) = false := by simp [h1]
        have E := hide e
        clear e
        go_wp2_with fail
        go_meet
        case rel => exact ⟨by rw [E.out], Dr.refl _⟩
    case rest =>
      obtain ⟨rfl, D⟩ := hcut
      rename World => W2
      obtain ⟨ff, hff⟩ : ∃ ff, ff = decide (lo < a ∧ (hi ≤ a ∨ wayB fs a lo ≤ wayB fs a hi)) := ⟨_, rfl⟩
      have HF := hide hff
      rw [← hff]
      clear hff
      have hu : Hid (ff = false → shortL fs a lo hi vs = upK false a vs vs.length ++ dnK false a vs vs.length) := fun h => short_up HP.out HK.out hlo.out hhi.out (Nat.le_refl _) (by rw [HF.out] at h; simpa using h)
      have hd : Hid (ff = true → shortL fs a lo hi vs = dnK true a vs vs.length ++ upK true a vs vs.length) := fun h => short_dn HP.out HK.out hlo.out hhi.out (Nat.le_refl _) (by rw [HF.out] at h; simpa using h)
      replace H2 := hide (H2.out.dr D.out); replace O := hide (O.out.below D.out.below); replace B := hide (B.out.trans (D.out.below.mono hsz.out))
      clear hclo hchi D H0 HF hk1 hk2 hk3 hk4 hn' hsz
      go_wp2_with fail
      go_loopw [7, 8, 12] (fun v1 v2 i wr => ∃ j : Nat, j ≤ vs.length ∧ i = .int .i64 (j : Int) ∧ Hid (Own2 w.heap.size wr v1 (upK ff a vs j) v2 (dnK ff a vs j)) ∧ Hid (Below w.heap.size w wr)) (fun _ _ i _ => vs.length - (intOf i).toNat)
      case atStart => exact ⟨0, by omega, rfl, by simpa [upK, dnK] using O, B⟩
      case round =>
        clear O B H2
        obtain ⟨j, hj, rfl, O, B⟩ := hrel
        have hL := B.out.size
        by_cases hlt : j < vs.length
        · obtain ⟨x, hx, hcx⟩ := (HI2.out.below B.out).cell hlt
          have b1 : Below wr.heap.size wr (wr.alloc (.cells #[.int .i64 x] 3)) := (Below.refl _ _).alloc (Nat.le_refl _) _
          have up1 := upK_len ff a vs j; have dn1 := dnK_len ff a vs j
          cases hd1 : dnP ff a x
          · have HS := hide (dn_no hx.out hd1)
            have h1 : ¬ x < a := fun h => by simp [dnP, h] at hd1
            have h2 : (x == a) = false ∨ ((x == a) = true ∧ ff = false) := by
              cases he : (x == a)
              · exact .inl rfl
              · have e : x = a := by simpa using he
                rw [e] at hd1 h1
                simp [dnP] at hd1
                exact .inr ⟨rfl, hd1⟩
            have ap : ∀ v' w3, OwnI w.heap.size w3 v' (upK ff a vs j ++ [x]) → wr.grownBy w3 u7.ownBlock → (v'.ownBlock = u7.ownBlock ∨ ∃ k, v'.ownBlock = some k ∧ wr.heap.size ≤ k) → Hid (Own2 w.heap.size w3 v' (upK ff a vs (j + 1)) u8 (dnK ff a vs (j + 1))) ∧ Hid (Below w.heap.size w w3) := fun v' w3 o g d => by
              rw [HS.out.1, HS.out.2]; exact ⟨O.out.app o g d, own_grown_below B.out O.out.1 g hL⟩
            have AP := hide ap
            clear ap hd1 b1
            have o1 := hide O.out.1
            rcases h2 with h2 | ⟨h2, h3⟩
            · cases ff
              all_goals
                go_wp2_with (at_builtin; refine wp_app1o rfl (.tmp 87) (.tmp 89) rfl w.heap.size _ _ _ x rfl rfl o1.out (by omega) hL ?_; intro v' w3 hown hg2 hd2; obtain ⟨O3, B3⟩ := AP.out v' w3 hown hg2 hd2; clear hown hg2 hd2 O B)
                go_wp2_with fail
                go_roundw
                case rel => exact ⟨j + 1, by omega, by go_num, O3, B3⟩
                case measure => simp [intOf]; omega
            · subst h3
              go_wp2_with (at_builtin; refine wp_app1o rfl (.tmp 87) (.tmp 89) rfl w.heap.size _ _ _ x rfl rfl o1.out (by omega) hL ?_; intro v' w3 hown hg2 hd2; obtain ⟨O3, B3⟩ := AP.out v' w3 hown hg2 hd2; clear hown hg2 hd2 O B)
              go_wp2_with fail
              all_goals
                go_roundw
                case rel => exact ⟨j + 1, by omega, by go_num, O3, B3⟩
                case measure => simp [intOf]; omega
          · have HS := hide (dn_yes hx.out hd1)
            obtain ⟨A8, c8, rfl, -, f8⟩ := OwnI.form O.out.2.1
            have F8 := hide (f8.1.below b1)
            have ol : OwnI w.heap.size (wr.alloc (.cells #[.int .i64 x] 3)) (.slice (some ⟨wr.heap.size, 0, none⟩) 1 1) [x] := OwnI.lit [x] #[.int .i64 x] rfl hL (by simp)
            have OL := hide ol
            have ap : ∀ v' w3, OwnI w.heap.size w3 v' ([x] ++ dnK ff a vs j) → (wr.alloc (.cells #[.int .i64 x] 3)).grownBy w3 (Value.slice (some ⟨wr.heap.size, 0, none⟩) 1 1).ownBlock → (v'.ownBlock = (Value.slice (some ⟨wr.heap.size, 0, none⟩) 1 1).ownBlock ∨ ∃ k, v'.ownBlock = some k ∧ (wr.alloc (.cells #[.int .i64 x] 3)).heap.size ≤ k) → Hid (Own2 w.heap.size w3 u7 (upK ff a vs (j + 1)) v' (dnK ff a vs (j + 1))) ∧ Hid (Below w.heap.size w w3) := fun v' w3 o g d => by
              rw [HS.out.1, HS.out.2]; exact ⟨O.out.anew b1 o rfl g d, own_grown_below (B.out.trans (b1.mono hL)) OL.out g (Nat.le_trans hL b1.size)⟩
            have AP := hide ap
            have hL2 : w.heap.size ≤ (wr.alloc (.cells #[.int .i64 x] 3)).heap.size := Nat.le_trans hL b1.size
            have HL2 := hide hL2
            have h2 : x < a ∨ ((¬ x < a) ∧ (x == a) = true ∧ ff = true) := by
              by_cases h : x < a
              · exact .inl h
              · right
                have := hd1
                simp [dnP, h] at this
                exact ⟨h, by simpa using this.1, this.2⟩
            clear ap hd1 b1 f8 ol hL2
            rcases h2 with h2 | ⟨h2, h3, rfl⟩
            all_goals
              go_wp2_with (at_builtin; refine wp_appO rfl (.tmp 84) (.tmp 85) rfl w.heap.size _ (.slice (some ⟨wr.heap.size, 0, none⟩) 1 1) [x] A8 _ c8 _ rfl rfl rfl OL.out F8.out (by simp; omega) HL2.out ?_; intro v' w3 hown hg2 hd2; obtain ⟨O3, B3⟩ := AP.out v' w3 hown hg2 hd2; clear hown hg2 hd2 O B)
              go_wp2_with fail
              all_goals
                go_roundw
                case rel => exact ⟨j + 1, by omega, by go_num, O3, B3⟩
                case measure => simp [intOf]; omega
        · obtain rfl : j = vs.length := by omega
          have up1 := upK_len ff a vs vs.length; have dn1 := dnK_len ff a vs vs.length
          obtain ⟨A8, c8, rfl, -, f8⟩ := OwnI.form O.out.2.1
          obtain ⟨A7, c7, rfl, -, f7⟩ := OwnI.form O.out.1
          have F8 := hide f8.1; have F7 := hide f7.1; have o1 := hide O.out.1; have o2 := hide O.out.2.1
          clear f7 f8 O
          cases ff
          · have HR := hide (hu.out rfl)
            go_wp2_with (at_builtin; refine wp_app rfl (.tmp 95) (.tmp 96) rfl w.heap.size _ _ _ A8 _ c8 _ rfl rfl rfl o1.out F8.out (by omega) hL ?_; intro v' w3 hown hb; have O3 := hide hown; have B3 := hide (B.out.trans hb); clear hown hb)
            go_wp2_with fail
            go_ret
            rw [HE.out, HR.out]
            exact NewI.own O3.out B3.out
          · have HR := hide (hd.out rfl)
            go_wp2_with (at_builtin; refine wp_app rfl (.tmp 92) (.tmp 93) rfl w.heap.size _ _ _ A7 _ c7 _ rfl rfl rfl o2.out F7.out (by omega) hL ?_; intro v' w3 hown hb; have O3 := hide hown; have B3 := hide (B.out.trans hb); clear hown hb)
            go_wp2_with fail
            go_ret
            rw [HE.out, HR.out]
            exact NewI.own O3.out B3.out
end Go.Proofs.Ytddlnafkacogiaa
