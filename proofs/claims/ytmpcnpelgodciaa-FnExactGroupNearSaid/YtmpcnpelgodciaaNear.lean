import Derived.Test.YtmpcnpelgodciaaWays
import Derived.Test.YtmpcnpelgodciaaGroup
import Derived.Test.YtmpcnpelgodciaaGroupWay
import Derived.Test.YtmpcnpelgodciaaOwn
namespace Go.Proofs.Ytmpcnpelgodciaa
open Go.RowKit

/-- The nearest of the first cars, the first one of them. -/
noncomputable def bestK (fs cars : List Int) (x : Int) : Nat → Nat
  | 0 => 0
  | c + 1 => if wayB fs (hgt cars c) x < wayB fs (hgt cars (bestK fs cars x c)) x then c else bestK fs cars x c
theorem bestK_lt (fs cars : List Int) (x : Int) (c : Nat) : bestK fs cars x c ≤ c ∧ (0 < c → bestK fs cars x c < c) := by
  induction c with
  | zero => simp [bestK]
  | succ c ih => unfold bestK; split <;> omega
noncomputable def nearL (fs cars calls : List Int) : List Int := calls.map fun x => (bestK fs cars x cars.length : Int)
noncomputable def nearB (fs cars calls : List Int) : List Int := if groupB fs cars calls then nearL fs cars calls else []
theorem nearB_len (fs cars calls : List Int) : (nearB fs cars calls).length ≤ calls.length := by
  unfold nearB; split
  · simp [nearL]
  · simp
theorem nearB_no {fs cars calls : List Int} (h : groupB fs cars calls = false) : nearB fs cars calls = [] := by unfold nearB; rw [h]; rfl
theorem nearB_yes {fs cars calls : List Int} (h : groupB fs cars calls = true) : nearB fs cars calls = nearL fs cars calls := by unfold nearB; rw [h]; rfl
/-- A slice in new blocks that reads as xs. -/
def NewI (xs : List Int) (w : World) (e : Ending) (w' : World) : Prop := ∃ A c, e = .returned (.slice A xs.length c) ∧ FrI w.heap.size w' A xs ∧ Below w.heap.size w w'
theorem NewI.nil {w w' : World} (A : Option Addr) (c : Nat) (b : Below w.heap.size w w') : NewI [] w (.returned (.slice A 0 c)) w' := ⟨A, c, rfl, ⟨.inl rfl, .inl rfl⟩, b⟩
theorem NewI.own {w w' : World} {v : Value} {xs : List Int} (h : OwnI w.heap.size w' v xs) (b : Below w.heap.size w w') : NewI xs w (.returned v) w' := by
  obtain ⟨A, c, rfl, -, f⟩ := h.form; exact ⟨A, c, rfl, f, b⟩

theorem specGroupNear (A0 A1 A2 : Option Addr) (c0 c1 c2 : Nat) (fs cars calls : List Int) (w : World) (h0 : Ints w A0 fs) (h1 : Ints w A1 cars) (h2 : Ints w A2 calls) (hl0 : fs.length ≤ 140737488351232) (hl1 : cars.length ≤ 140737488351232) (hl2 : calls.length ≤ 140737488351232) :
    Calls Try.prog 11 #[.slice A0 fs.length c0, .slice A1 cars.length c1, .slice A2 calls.length c2] w (NewI (nearB fs cars calls) w) := by
  have H0 := hide h0; have H1 := hide h1; have H2 := hide h2; clear h0 h1 h2
  go_enter Try.func11, Try.ntmps11
  have b0 : Below w.heap.size w (w.alloc (.cells #[] 3)) := (Below.refl _ _).alloc (Nat.le_refl _) _
  have B := hide b0
  have O : Hid (OwnI w.heap.size (w.alloc (.cells #[] 3)) (.slice (some ⟨w.heap.size, 0, none⟩) 0 0) []) := OwnI.lit [] #[] rfl (Nat.le_refl _) (by simp)
  clear b0
  go_wp2_with fail
  go_loopw [7, 8] (fun v i wr => ∃ k : Nat, k ≤ calls.length ∧ (k = 0 ∨ (Hid (groupB fs cars calls = true) ∧ calls.length ≤ 5)) ∧ i = .int .i64 k ∧ Hid (OwnI w.heap.size wr v ((nearL fs cars calls).take k)) ∧ Hid (Below w.heap.size w wr)) (fun _ i _ => calls.length - (intOf i).toNat)
  case atStart => exact ⟨0, by omega, .inl rfl, rfl, by simpa using O, B⟩
  case round =>
    clear O B
    obtain ⟨k, hk, hg, rfl, O, B⟩ := hrel
    have HG := hide hg
    clear hg
    have hsz : w.heap.size ≤ wr.heap.size := B.out.size
    by_cases hlt : k < calls.length
    · go_wp2_with fail
      refine (specGroupOk A0 A1 A2 c0 c1 c2 fs cars calls _ (H0.out.below B.out) (H1.out.below B.out) (H2.out.below B.out) hl0 hl1 hl2).mono ?_
      rintro e w1 ⟨rfl, D1⟩
      replace O := hide (O.out.below D1.below); replace B := hide (B.out.trans (D1.below.mono hsz)); have hs1 := hide D1.size
      clear D1
      cases hg : groupB fs cars calls
      · have hk0 : k = 0 := by
          rcases HG.out with h | ⟨h, -⟩
          · exact h
          · rw [hg] at h; cases h.out
        subst hk0
        go_wp2_with fail
        go_ret
        rw [nearB_no hg]
        exact NewI.own (by simpa using O.out) B.out
      · have HY := hide hg
        obtain ⟨-, n1, n2, n3, -, -⟩ := groupB_parts hg
        clear hg
        obtain ⟨b2, off2, x, rfl, hx, hcx⟩ := (H2.out.below B.out).at hlt
        have hx' : (nearL fs cars calls)[k]? = some (bestK fs cars x cars.length : Int) := by unfold nearL; rw [List.getElem?_map, hx.out]; rfl
        have HX := hide hx'
        clear hx'
        go_wp2_with fail
        go_loopw [9, 10] (fun bst i W => ∃ c : Nat, c ≤ cars.length ∧ i = .int .i64 c ∧ bst = .int .i64 (bestK fs cars x c) ∧ Hid (Dr w1 W)) (fun _ i _ => cars.length - (intOf i).toNat)
        case atStart => exact ⟨0, by omega, rfl, rfl, Dr.refl _⟩
        case round =>
          obtain ⟨c, hc, rfl, rfl, D⟩ := hrel
          have hb := bestK_lt fs cars x c
          by_cases hlc : c < cars.length
          · have B2 := hide (B.out.trans (D.out.below.mono (Nat.le_trans hsz (Nat.le_of_eq hs1.out.symm))))
            obtain ⟨b1, off1, y, rfl, hy, hcy⟩ := (H1.out.below B2.out).at hlc
            obtain ⟨z, hz, hcz⟩ := (H1.out.below B2.out).cell (k := bestK fs cars x c) (by omega)
            have hcx2 := (D.out.cell ⟨b2, off2 + k, none⟩).trans hcx
            have w1b := wayB_bd fs y x; have w2b := wayB_bd fs z x
            have HS : Hid (bestK fs cars x (c + 1) = if wayB fs y x < wayB fs z x then c else bestK fs cars x c) := by
              show bestK fs cars x (c + 1) = _
              rw [bestK, hgt_at hy.out, hgt_at hz.out]
            go_wp2_with fail
            go_quiet ((go_at_call 28; exact quiet_dr (specFloorWay A0 c0 fs _ _ _ (H0.out.below (below_drewN B2.out _)) hl0) ⟨_, rfl⟩))
            by_cases hw : wayB fs y x < wayB fs z x
            · rw [if_pos hw] at HS
              go_wp2_with fail
              go_roundw
              case rel => exact ⟨c + 1, by omega, by go_num, by rw [HS.out], D.out.more _⟩
              case measure => simp [intOf]; omega
            · rw [if_neg hw] at HS
              go_wp2_with fail
              go_roundw
              case rel => exact ⟨c + 1, by omega, by go_num, by rw [HS.out], D.out.more _⟩
              case measure => simp [intOf]; omega
          · obtain rfl : c = cars.length := by omega
            have hs2 := hide D.out.size
            go_wp2_with (at_builtin; refine wp_app1 rfl (.tmp 52) (.tmp 54) rfl w.heap.size _ _ _ _ rfl rfl (O.out.below D.out.below) (by simp; omega) (by have := hs1.out; have := hs2.out; omega) ?_; intro v' w3 hown hb)
            have O3 := hide hown; have B3 := hide ((B.out.trans (D.out.below.mono (Nat.le_trans hsz (Nat.le_of_eq hs1.out.symm)))).trans hb)
            clear hown hb O B
            go_wp2_with fail
            go_roundw
            case rel => exact ⟨k + 1, by omega, .inr ⟨HY, by omega⟩, by go_num, by rw [take_snoc' _ _ _ HX.out]; exact O3, B3⟩
            case measure => simp [intOf]; omega
    · obtain rfl : k = calls.length := by omega
      have hL : (nearL fs cars calls).length = calls.length := by simp [nearL]
      have HL := hide hL
      clear hL
      go_wp2_with fail
      go_ret
      have O' := O.out
      rw [List.take_of_length_le (by rw [HL.out]; exact Nat.le_refl _)] at O'
      cases hg : groupB fs cars calls
      · rcases HG.out with h | ⟨h, -⟩
        · have e : nearL fs cars calls = [] := List.eq_nil_of_length_eq_zero (by rw [HL.out, h])
          rw [nearB_no hg]; rw [e] at O'; exact NewI.own O' B.out
        · rw [hg] at h; cases h.out
      · rw [nearB_yes hg]; exact NewI.own O' B.out
noncomputable def nearK (fs cars calls : List Int) (k : Nat) : List Int := (nearL fs cars calls).take k ++ List.replicate (calls.length - k) 0
noncomputable def rowK (fs cars calls : List Int) (x : Int) (k c : Nat) : List Int := (nearL fs cars calls).take k ++ ((bestK fs cars x c : Int) :: List.replicate (calls.length - k - 1) 0)
theorem nearL_len (fs cars calls : List Int) : (nearL fs cars calls).length = calls.length := by simp [nearL]
theorem nearK_len {fs cars calls : List Int} {k : Nat} (hk : k ≤ calls.length) : (nearK fs cars calls k).length = calls.length := by simp [nearK, nearL_len]; omega
theorem nearK_zero (fs cars calls : List Int) : nearK fs cars calls 0 = List.replicate calls.length 0 := by simp [nearK]
theorem nearK_all (fs cars calls : List Int) : nearK fs cars calls calls.length = nearL fs cars calls := by
  unfold nearK; rw [Nat.sub_self, List.take_of_length_le (by rw [nearL_len]; exact Nat.le_refl _)]; simp
theorem nearK_row {fs cars calls : List Int} {k : Nat} (x : Int) (hk : k < calls.length) : nearK fs cars calls k = rowK fs cars calls x k 0 := by
  unfold nearK rowK
  rw [show calls.length - k = (calls.length - k - 1) + 1 from by omega, List.replicate_succ]; rfl
theorem rowK_next {fs cars calls : List Int} {k : Nat} {x : Int} (hx : calls[k]? = some x) : rowK fs cars calls x k cars.length = nearK fs cars calls (k + 1) := by
  have h' : (nearL fs cars calls)[k]? = some (bestK fs cars x cars.length : Int) := by unfold nearL; rw [List.getElem?_map, hx]; rfl
  unfold nearK rowK
  rw [take_snoc' _ _ _ h', List.append_assoc]
  rw [show calls.length - (k + 1) = calls.length - k - 1 from by omega]; rfl
theorem rowK_at {fs cars calls : List Int} {k : Nat} (x : Int) (c : Nat) (hk : k < calls.length) : (rowK fs cars calls x k c)[k]? = some (bestK fs cars x c : Int) := by
  unfold rowK
  rw [List.getElem?_append_right (by simp [nearL_len]; omega)]
  simp [nearL_len]; rw [show k - min k calls.length = 0 from by omega]; rfl
theorem rowK_set {fs cars calls : List Int} {k : Nat} {x : Int} {c : Nat} (hk : k < calls.length) (h : bestK fs cars x (c + 1) = c) : (ivs (rowK fs cars calls x k c)).set k (.int .i64 (c : Int)) = ivs (rowK fs cars calls x k (c + 1)) := by
  rw [show (ivs (rowK fs cars calls x k c)).set k (.int .i64 (c : Int)) = ivs ((rowK fs cars calls x k c).set k (c : Int)) from by simp [ivs, iv, List.map_set]]
  congr 1
  unfold rowK
  rw [List.set_append_right _ _ (by simp [nearL_len]; omega)]
  simp only [List.length_take, nearL_len]
  rw [show k - min k calls.length = 0 from by omega, h]; rfl
theorem rowK_same {fs cars calls : List Int} {k : Nat} {x : Int} {c : Nat} (h : bestK fs cars x (c + 1) = bestK fs cars x c) : rowK fs cars calls x k (c + 1) = rowK fs cars calls x k c := by unfold rowK; rw [h]
theorem implGroupNear (A0 A1 A2 : Option Addr) (c0 c1 c2 : Nat) (fs cars calls : List Int) (w : World) (h0 : Ints w A0 fs) (h1 : Ints w A1 cars) (h2 : Ints w A2 calls) (_hl0 : fs.length ≤ 140737488351232) (hl1 : cars.length ≤ 140737488351232) (hl2 : calls.length ≤ 140737488351232) :
    Calls Try.prog 13 #[.slice A0 fs.length c0, .slice A1 cars.length c1, .slice A2 calls.length c2] w (NewI (nearB fs cars calls) w) := by
  have H0 := hide h0; have H1 := hide h1; have H2 := hide h2; clear h0 h1 h2
  go_enter Try.func13, Try.ntmps13
  go_wp2_with fail
  refine (implGroupOk A0 A1 A2 c0 c1 c2 fs cars calls _ H0.out H1.out H2.out hl1 hl2).mono ?_
  rintro e w1 ⟨rfl, D1⟩
  replace H0 := hide (H0.out.dr D1); replace H1 := hide (H1.out.dr D1); replace H2 := hide (H2.out.dr D1)
  have B1 := hide D1.below; have hs1 := hide D1.size
  clear D1
  cases hg : groupB fs cars calls
  · go_wp2_with fail
    go_ret
    rw [nearB_no hg]
    exact NewI.nil _ _ B1.out
  · have HY := hide hg
    obtain ⟨-, n1, n2, n3, -, -⟩ := groupB_parts hg
    clear hg
    obtain ⟨i0, hi, hz0, hz1, hz2⟩ := info_parts info_int
    go_wp2_with (at_make; refine wpList_make_full _ rfl (.tmp 18) (.tmp 18) 23 rfl w1.heap.size 3 i0 (.int .i64 0) 1 Try.underlying23 hi hz0 hz1 .i64 .i64 _ _ calls.length rfl rfl rfl rfl (by rw [hz2]; omega) (by unfold maxLen; omega) (Nat.le_refl _) ?_; intro w2 hown hgrow)
    have hb2 : Below w1.heap.size w1 w2 := (Below.refl _ _).grown hgrow (Nat.le_refl _) (by simp)
    rw [show (madeCells (Value.int .i64 0).cells (calls.length * 1)).toList = ivs (nearK fs cars calls 0) from by rw [Nat.mul_one, nearK_zero, ivs, List.map_replicate]; exact toList_madeCells_one _ _] at hown
    have O := hide hown; have B2 := hide hb2
    clear hown hgrow hb2 hi hz0 hz1 hz2
    go_wp2_with fail
    go_loopw [22] (fun i wr => ∃ k : Nat, k ≤ calls.length ∧ i = .int .i64 k ∧ Hid (wr.ownsRow w1.heap.size 3 1 (.slice (some ⟨w1.heap.size, 0, none⟩) calls.length calls.length) calls.length (ivs (nearK fs cars calls k))) ∧ Hid (Below w1.heap.size w1 wr)) (fun i _ => calls.length - (intOf i).toNat)
    case atStart => exact ⟨0, by omega, rfl, O, B2⟩
    case round =>
      clear O B2
      obtain ⟨k, hk, rfl, O, B2⟩ := hrel
      by_cases hlt : k < calls.length
      · obtain ⟨b2, off2, x, rfl, hx, hcx⟩ := (H2.out.below B2.out).at hlt
        rw [nearK_row x hlt] at O
        go_wp2_with fail
        go_loopw [29] (fun i W => ∃ c : Nat, c ≤ cars.length ∧ i = .int .i64 c ∧ Hid (W.ownsRow w1.heap.size 3 1 (.slice (some ⟨w1.heap.size, 0, none⟩) calls.length calls.length) calls.length (ivs (rowK fs cars calls x k c))) ∧ Hid (Below w1.heap.size w1 W)) (fun i _ => cars.length - (intOf i).toNat)
        case atStart => exact ⟨0, by omega, rfl, O, B2⟩
        case round =>
          clear O B2
          obtain ⟨c, hc, rfl, O, B2⟩ := hrel
          have hb := bestK_lt fs cars x c
          by_cases hlc : c < cars.length
          · obtain ⟨b1, off1, y, rfl, hy, hcy⟩ := (H1.out.below B2.out).at hlc
            obtain ⟨z, hz, hcz⟩ := (H1.out.below B2.out).cell (k := bestK fs cars x c) (by omega)
            have hcg : wr.cell? ⟨w1.heap.size, k, none⟩ = some (.int .i64 (bestK fs cars x c : Int)) := (O.out.cellAt k (by omega)).trans (by have := rowK_at (fs := fs) (cars := cars) x c hlt; simp [ivs, iv, this])
            have hfg : wr.frozen? ⟨w1.heap.size, k, none⟩ = false := O.out.frozenAt k
            have w1b := wayB_bd fs y x; have w2b := wayB_bd fs z x
            have HS : Hid (bestK fs cars x (c + 1) = if wayB fs y x < wayB fs z x then c else bestK fs cars x c) := by
              show bestK fs cars x (c + 1) = _
              rw [bestK, hgt_at hy.out, hgt_at hz.out]
            have hbl : bestK fs cars x c < cars.length := by omega
            go_wp2_with fail
            go_quiet ((go_at_call 30; exact quiet_dr (implFloorWay A0 c0 fs _ _ _ (H0.out.below (below_drewN B2.out _))) ⟨_, rfl⟩))
            by_cases hw : wayB fs y x < wayB fs z x
            · rw [if_pos hw] at HS
              have OS := hide (O.out.stored k (.int .i64 (c : Int))).1
              rw [rowK_set hlt HS.out] at OS
              have BS := hide ((below_drewN B2.out 0).setCell (p := ⟨w1.heap.size, k, none⟩) (Nat.le_refl _) (.int .i64 (c : Int)))
              go_wp2_with fail
              go_roundw
              case rel => exact ⟨c + 1, by omega, by go_num, own_after OS.out (below_drewN (Below.refl _ _) _), below_drewN BS.out _⟩
              case measure => simp [intOf]; omega
            · rw [if_neg hw] at HS
              go_wp2_with fail
              go_roundw
              case rel => exact ⟨c + 1, by omega, by go_num, by rw [rowK_same HS.out]; exact own_after O.out (below_drewN (Below.refl _ _) _), below_drewN B2.out _⟩
              case measure => simp [intOf]; omega
          · obtain rfl : c = cars.length := by omega
            go_wp2_with fail
            go_roundw
            case rel => exact ⟨k + 1, by omega, by go_num, by rw [← rowK_next hx.out]; exact O, B2⟩
            case measure => simp [intOf]; omega
      · obtain rfl : k = calls.length := by omega
        rw [nearK_all] at O
        go_wp2_with fail
        go_ret
        rw [nearB_yes HY.out]
        have hL := nearL_len fs cars calls
        refine NewI.own (v := .slice (some ⟨w1.heap.size, 0, none⟩) calls.length calls.length) ?_ (B1.out.trans (B2.out.mono (Nat.le_of_eq hs1.out.symm)))
        unfold OwnI; rw [hL, ← hs1.out]
        exact O.out
end Go.Proofs.Ytmpcnpelgodciaa
