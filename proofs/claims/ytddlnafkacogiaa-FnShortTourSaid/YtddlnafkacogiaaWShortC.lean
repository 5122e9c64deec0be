import Derived.Test.YtddlnafkacogiaaFrame
import Derived.Test.YtddlnafkacogiaaDrawShort
import Derived.Test.YtddlnafkacogiaaAlive
import Derived.Test.YtddlnafkacogiaaShortWay
namespace Go.Proofs.Ytddlnafkacogiaa
open Go.RowKit

theorem short_nodup {fs vs : List Int} {a lo hi : Int} (h : vs.Pairwise (· < ·)) : (shortL fs a lo hi vs).Nodup := by
  refine (shortL_perm fs a lo hi vs).nodup_iff.2 ?_
  exact h.imp fun h => by omega
theorem nodup_has {xs : List Int} (h : xs.Nodup) {k : Nat} {x : Int} (hx : xs[k]? = some x) : hasB (xs.take k) x = false := by
  unfold hasB; simp only [decide_eq_false_iff_not]
  intro hm
  obtain ⟨j, hj⟩ := List.mem_iff_getElem?.1 hm
  have hjk : j < k := by have := getElem?_lt hj; simp at this; omega
  rw [List.getElem?_take, if_pos hjk] at hj
  obtain ⟨h1, e1⟩ := List.getElem?_eq_some_iff.1 hj
  obtain ⟨h2, e2⟩ := List.getElem?_eq_some_iff.1 hx
  exact absurd (e1.trans e2.symm) (List.pairwise_iff_getElem.1 h j k h1 h2 hjk)
theorem has_yes {xs : List Int} {x : Int} (h : x ∈ xs) : hasB xs x = true := by unfold hasB; simpa using h
theorem hasInt_at (A : Option Addr) (c m : Nat) (xs : List Int) (n : Int) (w : World) (b : Bool) (hb : hasB xs n = b) (hm : m = xs.length) (h : Ints w A xs) (hl : xs.length ≤ 1048576) :
    Calls Try.prog 19 #[.slice A m c, .int .i64 n] w fun e w' => e = .returned (.bool b) ∧ w = w' := by subst hb; exact hasInt_any A c m xs n w hm h hl
theorem implTourWayM (A A' : Option Addr) (c c' n : Nat) (fs xs : List Int) (a : Int) (w : World) (hn : n = xs.length) (h : Ints w A fs) (h' : Ints w A' xs) (hl : xs.length ≤ 140737488351232) :
    Calls Try.prog 20 #[.slice A fs.length c, .int .i64 a, .slice A' n c'] w fun e w' => e = .returned (.int .i64 (tourB fs a xs)) ∧ Dr w w' := by
  subst hn; exact implTourWay A A' c c' fs xs a w h h' hl
set_option maxRecDepth 100000 in
set_option maxHeartbeats 4000000 in
theorem wShortTour (A : Option Addr) (c : Nat) (bs : List Int) (w : World) (h0 : InRow .u8 w A c bs) :
    Calls Try.prog 5 #[.slice A bs.length c] w fun e w' => e = .returned (.bool true) ∧ Below w.heap.size w w' := by
  have HB := hide h0.byte
  obtain ⟨h, hc, hc2, -⟩ := h0
  have H : Hid (Sl w A (bvs bs)) := h
  clear h
  by_cases hl : ¬ bs.length ≤ 1048576
  · go_enter Try.func5, Try.ntmps5
    go_wp2
    go_ret
    exact ⟨rfl, Below.refl _ _⟩
  have hl : bs.length ≤ 1048576 := by omega
  clear hc2
  go_enter Try.func5, Try.ntmps5
  go_wp2_with fail
  refine (drawShortTour_any A c bs _ H.out HB.out hl hc).mono ?_
  rintro e w1 ⟨A0, c0, fs, a, A1, c1, vs, rfl, l0, l1, lc, f0, f1, b⟩
  have F0 := hide f0.1; have F1 := hide f1.1; have B := hide b
  clear f0 f1 b
  go_wp2_with fail
  refine (implShortTourC A0 A1 c0 c1 fs vs a _ F0.out F1.out (by omega) lc).mono ?_
  rintro e w2 ⟨A2, c2, rfl, hc2, f, b⟩
  replace F0 := hide (F0.out.below b); replace F1 := hide (F1.out.below b); replace B := hide (bthen B.out b); have F2 := hide f.1
  clear f b
  go_wp2_with fail
  refine (specShortTour A0 A1 c0 c1 fs vs a _ F0.out F1.out (by omega) (by omega)).mono ?_
  rintro e w3 ⟨A3, c3, rfl, f, b⟩
  replace F0 := hide (F0.out.below b); replace F1 := hide (F1.out.below b); replace F2 := hide (F2.out.below b); replace B := hide (bthen B.out b); have F3 := hide f.1
  clear f b
  have hsl := shortB_len fs vs a
  obtain ⟨L, hL⟩ : ∃ L, L = shortB fs a vs := ⟨_, rfl⟩
  rw [← hL] at F2 F3 hsl hc2 ⊢
  have HL := hide hL
  clear hL
  have qL := eqL_self L
  go_wp2_with fail
  refine (sameInts_any A2 A3 c2 c3 L L _ F2.out F3.out (by omega)).mono ?_
  rintro e w4 ⟨rfl, D⟩
  replace F0 := hide (F0.out.dr D); replace F1 := hide (F1.out.dr D); replace F2 := hide (F2.out.dr D); replace B := hide (bthen B.out D.below)
  clear D F3
  go_wp2_with fail
  refine (specVisitsOk A0 A1 c0 c1 fs vs _ F0.out F1.out (by omega) (by omega)).mono ?_
  rintro e w5 ⟨rfl, D⟩
  replace F0 := hide (F0.out.dr D); replace F1 := hide (F1.out.dr D); replace F2 := hide (F2.out.dr D); replace B := hide (bthen B.out D.below)
  clear D
  cases hv : visitsB fs vs
  · have hL0 : L = [] := by rw [HL.out]; exact shortB_no (.inl hv)
    subst hL0
    go_wp2_with fail
    refine (alive_any _).mono ?_
    rintro e w9 ⟨rfl, b9⟩
    have B9 := hide b9
    clear b9
    go_wp2
    go_ret
    exact ⟨rfl, bthen B.out B9.out⟩
  by_cases ha : 0 ≤ a ∧ a < fs.length
  rotate_left
  · have hL0 : L = [] := by rw [HL.out]; exact shortB_no (.inr (.inl (inB_n (by omega))))
    subst hL0
    by_cases ha1 : a < 0
    · go_wp2_with fail
      refine (alive_any _).mono ?_
      rintro e w9 ⟨rfl, b9⟩
      have B9 := hide b9
      clear b9
      go_wp2
      go_ret
      exact ⟨rfl, bthen B.out B9.out⟩
    · have ha2 : (fs.length : Int) ≤ a := by omega
      go_wp2_with fail
      refine (alive_any _).mono ?_
      rintro e w9 ⟨rfl, b9⟩
      have B9 := hide b9
      clear b9
      go_wp2
      go_ret
      exact ⟨rfl, bthen B.out B9.out⟩
  by_cases hn : vs.length = 0
  · have hL0 : L = [] := by rw [HL.out]; exact shortB_no (.inr (.inr (List.eq_nil_of_length_eq_zero hn)))
    subst hL0
    have hn' : ((vs.length : Int) == 0) = true := by simp [hn]
    have ha1 := ha.1; have ha2 := ha.2
    clear hn ha
    go_wp2_with fail
    refine (alive_any _).mono ?_
    rintro e w9 ⟨rfl, b9⟩
    have B9 := hide b9
    clear b9
    go_wp2
    go_ret
    exact ⟨rfl, bthen B.out B9.out⟩
  have hn' : ((vs.length : Int) == 0) = false := by simp; intro e; exact hn (by simp [e])
  obtain ⟨m, hm⟩ : ∃ m, vs.length = m + 1 := ⟨vs.length - 1, by omega⟩
  obtain ⟨hfp, hw, hp⟩ := visits_parts hv
  have hfb : floorsB fs = true := (visitsB_iff.1 hv).1
  have hai : inB a 0 ((fs.length : Int) - 1) = true := inB_t (by omega)
  obtain ⟨b1, o1, lo, rfl, hlo, hclo⟩ := F1.out.at (k := 0) (by omega)
  obtain ⟨hi, hhi, hchi⟩ := F1.out.cell (k := m) (by omega)
  simp only [Nat.add_zero] at hclo
  have hlo1 : vs.head? = some lo := by rw [List.head?_eq_getElem?]; exact hlo.out
  have hhi1 : vs.getLast? = some hi := by rw [List.getLast?_eq_getElem?, hm]; exact hhi.out
  have hLs : L = shortL fs a lo hi vs := by rw [HL.out]; exact short_ends hv hai hm hlo.out hhi.out
  have hlen := shortL_len hfp ha hw hp hlo1 hhi1 hfb
  have hpm := shortL_perm fs a lo hi vs
  have hnd := short_nodup (fs := fs) (a := a) (lo := lo) (hi := hi) hp
  rw [← hLs] at hlen hpm hnd
  have hLn : L.length = vs.length := hpm.length_eq
  have HM := hide fun (x : Int) (h : x ∈ L) => hpm.mem_iff.1 h
  have HND := hide hnd
  have hlow := hw lo (List.mem_of_getElem? hlo.out); have hhiw := hw hi (List.mem_of_getElem? hhi.out)
  have hwi : withinB L fs.length = true := within_of fun x hx => hw x (HM.out x hx)
  have HT : Hid (tourB fs a L = hgt fs (max a hi) - hgt fs (min a lo) + min (hgt fs a - hgt fs (min a lo)) (hgt fs (max a hi) - hgt fs a)) := by unfold Hid; rw [tourB_yes hfb hai hwi]; exact hlen
  obtain ⟨kl, hkl⟩ : ∃ kl : Nat, (kl : Int) = min a lo := ⟨(min a lo).toNat, by omega⟩
  obtain ⟨kh, hkh⟩ : ∃ kh : Nat, (kh : Int) = max a hi := ⟨(max a hi).toNat, by omega⟩
  obtain ⟨ka, rfl⟩ : ∃ ka : Nat, a = (ka : Int) := ⟨a.toNat, by omega⟩
  have hkl1 : kl < fs.length := by omega
  have hkh1 : kh < fs.length := by omega
  have hka1 : ka < fs.length := by omega
  obtain ⟨bf, of', xl, rfl, hxl, hcl⟩ := F0.out.at hkl1
  obtain ⟨xh, hxh, hch⟩ := F0.out.cell hkh1
  obtain ⟨xa, hxa, hca⟩ := F0.out.cell hka1
  have e1 := hgt_at hxl.out; have e2 := hgt_at hxh.out; have e3 := hgt_at hxa.out
  rw [← hkl, ← hkh, e1, e2, e3] at HT
  have r1 := hgt_bd hfp (kl : Int); have r2 := hgt_bd hfp (kh : Int); have r3 := hgt_bd hfp (ka : Int)
  rw [e1] at r1; rw [e2] at r2; rw [e3] at r3
  have HLN := hide hLn; have HKL := hide hkl; have HKH := hide hkh; have HM1 := hide hm
  have hLl : L.length ≤ 10 := by omega
  have hm1 : ((vs.length : Int) - 1) = (m : Int) := by omega
  have hm2 : m < vs.length := by omega
  have hm3 : 0 < vs.length := by omega
  have hm4 : IntKind.i64.wrap (m : Int) = (m : Int) := IntWalk.i64_in _ (by omega)
  have ha2 := ha.2
  have ha1 := ha.1
  have HC := hide (And.intro (And.intro hcl hch) hca); have HV := hide (And.intro hclo hchi)
  clear hn hfp hw hp hlo1 hhi1 hLs hlen hpm hnd hLn hwi hkl hkh hm e1 e2 e3 ha HL hcl hch hca hclo hchi
  have qln : ((L.length : Int) == (vs.length : Int)) = true := by have := HLN.out; simp; omega
  clear hsl
  go_wp2_with fail
  go_loopw [7] (fun i wr => ∃ k : Nat, k ≤ L.length ∧ i = .int .i64 (k : Int) ∧ Hid (Dr w5 wr)) (fun i _ => L.length - (intOf i).toNat)
  case atStart => exact ⟨0, by omega, rfl, Dr.refl _⟩
  case round =>
    obtain ⟨k, hk, rfl, D⟩ := hrel
    by_cases hlt : k < L.length
    · obtain ⟨b2, o2, y, rfl, hy, hcy⟩ := (F2.out.dr D.out).at hlt
      have y1 := nodup_has HND.out hy.out
      have y2 := has_yes (HM.out y (List.mem_of_getElem? hy.out))
      have Y1 := hide y1; have Y2 := hide y2
      have hT := hide ((F2.out.dr D.out).take k)
      have n1 : Hid (k = (L.take k).length) := by unfold Hid; simp; omega
      have q1 : (k : Int) ≤ (L.length : Int) := by omega
      have q2 : (0 : Int) ≤ (k : Int) := by omega
      have q3 : (k : Int) < (L.length : Int) := by omega
      clear y1 y2
      have q4 : (k : Int) ≤ (c2 : Int) := by omega
      have q5 : (L.length : Int) ≤ (c2 : Int) := by omega
      go_wp2_with fail
      go_quiet (first | (go_at_call 19; (with_reducible refine quiet_left (hasInt_at (some ⟨b2, o2, none⟩) c2 k (L.take k) y _ false Y1.out n1.out ?_ ?_) ?_); exact hT.out.dr ⟨_, rfl⟩; (simp; omega); exact ⟨_, rfl⟩) | (go_at_call 19; (with_reducible refine quiet_left (hasInt_at (some ⟨b1, o1, none⟩) c1 _ vs y _ true Y2.out rfl ?_ ?_) ?_); exact (F1.out.dr D.out).dr ⟨_, rfl⟩; omega; exact ⟨_, rfl⟩))
      go_wp2_with fail
      go_roundw
      case rel => exact ⟨k + 1, by omega, by go_num, D.out.more _⟩
      case measure => simp [intOf]; omega
    · obtain rfl : k = L.length := by omega
      have hclo := (D.out.cell _).trans HV.out.1; have hchi := (D.out.cell _).trans HV.out.2
      have hcl := (D.out.cell _).trans HC.out.1.1; have hch := (D.out.cell _).trans HC.out.1.2; have hca := (D.out.cell _).trans HC.out.2
      replace F0 := hide (F0.out.dr D.out); replace F2 := hide (F2.out.dr D.out); replace B := hide (bthen B.out D.out.below)
      clear F1 D
      go_upto_region 14 with fail
      go_cut [8] from 12 (fun s wx => s = .int .i64 (kl : Int) ∧ wx = wr)
      case first =>
        by_cases h1 : (ka : Int) ≤ lo
        · have e : (kl : Int) = (ka : Int) := by rw [HKL.out]; omega
          have E := hide e
          clear e
          go_wp2_with fail
          all_goals
            go_meet
            case rel => exact ⟨by rw [E.out]; first | done | (congr 1; omega), rfl⟩
        · have e : (kl : Int) = lo := by rw [HKL.out]; omega
          have E := hide e
          clear e
          go_wp2_with fail
          all_goals
            go_meet
            case rel => exact ⟨by rw [E.out]; first | done | (congr 1; omega), rfl⟩
      case rest =>
        obtain ⟨rfl, rfl⟩ := hcut
        go_upto_region 15 with fail
        go_cut [9] from 12 (fun s wx => s = .int .i64 (kh : Int) ∧ wx = wc)
        case first =>
          by_cases h1 : (ka : Int) ≤ hi
          · have e : (kh : Int) = hi := by rw [HKH.out]; omega
            have E := hide e
            clear e
            go_wp2_with fail
            all_goals
              go_meet
              case rel => exact ⟨by rw [E.out]; first | done | (congr 1; omega), rfl⟩
          · have e : (kh : Int) = (ka : Int) := by rw [HKH.out]; omega
            have E := hide e
            clear e
            go_wp2_with fail
            all_goals
              go_meet
              case rel => exact ⟨by rw [E.out]; first | done | (congr 1; omega), rfl⟩
        case rest =>
          obtain ⟨rfl, hwc⟩ := hcut
          subst hwc
          have w1 : IntKind.i64.wrap (xh - xl) = xh - xl := IntWalk.i64_in _ (by omega)
          have w2 : IntKind.i64.wrap (xa - xl) = xa - xl := IntWalk.i64_in _ (by omega)
          have w3 : IntKind.i64.wrap (xh - xa) = xh - xa := IntWalk.i64_in _ (by omega)
          obtain ⟨T, hT⟩ : ∃ T, T = min (xa - xl) (xh - xa) := ⟨_, rfl⟩
          rw [← hT] at HT
          have HTT := hide hT
          have t1 : -60 ≤ T ∧ T ≤ 60 := by omega
          have w4 : IntKind.i64.wrap (xh - xl + T) = xh - xl + T := IntWalk.i64_in _ (by omega)
          clear hT hclo hchi
          go_wp2_with fail
          go_quiet (fail)
          go_upto_region 17 with fail
          refine code_name fun W9 hW => ?_
          have D9 : Hid (Dr wc W9) := ⟨_, hW⟩
          replace hcl := (D9.out.cell _).trans hcl; replace hch := (D9.out.cell _).trans hch; replace hca := (D9.out.cell _).trans hca
          clear hW
          go_cut [11] from 12 (fun s wx => s = .int .i64 T ∧ Hid (Dr W9 wx))
          case first =>
            by_cases h1 : xa - xl ≤ xh - xa
            · have e : T = xa - xl := by rw [HTT.out]; omega
              have E := hide e
              clear e
              go_quiet (fail)
              go_wp2_with fail
              all_goals
                go_meet
                case rel => exact ⟨by rw [E.out]; first | done | (congr 1; omega), ⟨_, rfl⟩⟩
            · have e : T = xh - xa := by rw [HTT.out]; omega
              have E := hide e
              clear e
              go_quiet (fail)
              go_wp2_with fail
              all_goals
                go_meet
                case rel => exact ⟨by rw [E.out]; first | done | (congr 1; omega), ⟨_, rfl⟩⟩
          case rest =>
            obtain ⟨rfl, D⟩ := hcut
            rename World => W10
            replace D := hide (D9.out.then D.out)
            have exx : (xh - xl + T == xh - xl + T) = true := by simp
            go_wp2_with fail
            refine (implTourWayM _ A2 c0 c2 _ fs L _ _ rfl (F0.out.dr D.out) (F2.out.dr D.out) (by omega)).mono ?_
            rintro e W11 ⟨rfl, D2⟩
            have B2 := hide (bthen (bthen B.out D.out.below) D2.below)
            rw [HT.out]
            clear D2
            go_wp2_with fail
            go_ret
            exact ⟨rfl, B2.out⟩
end Go.Proofs.Ytddlnafkacogiaa
