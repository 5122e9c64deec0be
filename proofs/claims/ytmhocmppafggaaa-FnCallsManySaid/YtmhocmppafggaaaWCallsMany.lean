import Derived.Test.YtmhocmppafggaaaFrameC
import Derived.Test.YtmhocmppafggaaaHeldBy
import Derived.Test.YtmhocmppafggaaaDrawCalls2
import Derived.Test.YtmhocmppafggaaaSetPlain
import Derived.Test.YtmhocmppafggaaaAlive
import Derived.Deep.RegionHeld3
import Derived.Deep.CutRange
import Derived.Deep.DrawnRows
namespace Go.Proofs.Ytmhocmppafggaaa
open Go.RowKit
attribute [local go_sem ↓] Go.wp_at_zero Go.wp_at_succ

theorem manyB_cases {C : Cl} : manyB C = -1 ∨ (callsB C = true ∧ 0 ≤ manyB C ∧ manyB C ≤ 3 * C.car.length - 2 ∧ C.car.length ≤ 8) := by
  cases h : callsB C
  · exact .inl (manyB_no h)
  · right
    obtain ⟨h1, h2, h3, h4, h5, h6⟩ := callsB_iff.1 h
    rw [manyB_yes h]
    have key : ∀ {l : List Bool} {k : Nat}, l[k]? = some false → cnt l ≤ (l.length : Int) - 1 := fun {l k} hk => by
      have e := cnt_set hk true
      have := cnt_bd (l.set k true)
      simp at this e; omega
    have := key h5; have := key h6; have := cnt_bd C.up; have := cnt_bd C.dn; have := cnt_bd C.car
    refine ⟨rfl, by unfold manyC; omega, by unfold manyC; omega, h2⟩
/-- A call more: as many, and the same; or one more, and others. -/
theorem set_count {C : Cl} {k f : Int} (h : (setC C k f true).2 = true) : (manyB (setC C k f true).1 = manyB C ∧ eqC (setC C k f true).1 C = true) ∨ (manyB (setC C k f true).1 = manyB C + 1 ∧ eqC (setC C k f true).1 C = false) := by
  obtain ⟨h1, h2, h3⟩ := setC_parts h
  rw [setC_good h1 h2 h3]
  show (manyB (putC C k f.toNat true) = manyB C ∧ eqC (putC C k f.toNat true) C = true) ∨ (manyB (putC C k f.toNat true) = manyB C + 1 ∧ eqC (putC C k f.toNat true) C = false)
  obtain ⟨b, hb⟩ := row_some (callsB_iff.1 h1) k (f := f.toNat) (by omega)
  have hm := put_many hb true
  cases b
  · right
    have e : manyB (putC C k f.toNat true) = manyB C + 1 := by rw [manyB_yes h3, manyB_yes h1, hm]; simp
    refine ⟨e, ?_⟩
    cases he : eqC (putC C k f.toNat true) C
    · rfl
    · rw [eqC_iff] at he; rw [he] at e; omega
  · left; rw [put_own hb]; exact ⟨rfl, eqC_self C⟩
theorem implCallsMany_at (A0 A1 A2 : Option Addr) (c0 c1 c2 : Nat) (C : Cl) (w : World) (m : Int) (hm : manyB C = m) (h : CR w A0 A1 A2 C) :
    Calls Try.prog 10 #[.agg #[.slice A0 C.up.length c0, .slice A1 C.dn.length c1, .slice A2 C.car.length c2]] w fun e w' => e = .returned (.int .i64 m) ∧ Below w.heap.size w w' := by subst hm; exact implCallsMany A0 A1 A2 c0 c1 c2 C w h
theorem sameCalls_at (A0 A1 A2 : Option Addr) (c0 c1 c2 : Nat) (B0 B1 B2 : Option Addr) (d0 d1 d2 : Nat) (C D : Cl) (w : World) (b : Bool) (hb : eqC C D = b) (h : CR w A0 A1 A2 C) (h' : CR w B0 B1 B2 D) (hl : C.up.length ≤ 140737488351232 ∧ C.dn.length ≤ 140737488351232 ∧ C.car.length ≤ 140737488351232) :
    Calls Try.prog 8 #[.agg #[.slice A0 C.up.length c0, .slice A1 C.dn.length c1, .slice A2 C.car.length c2], .agg #[.slice B0 D.up.length d0, .slice B1 D.dn.length d1, .slice B2 D.car.length d2]] w fun e w' => e = .returned (.bool b) ∧ Below w.heap.size w w' := by
  subst hb; exact sameCalls_any A0 A1 A2 c0 c1 c2 B0 B1 B2 d0 d1 d2 C D w h h' hl
set_option maxRecDepth 100000 in
set_option maxHeartbeats 20000000 in
theorem wCallsMany (A : Option Addr) (c : Nat) (bs : List Int) (w : World) (h0 : InRow .u8 w A c bs) :
    Calls Try.prog 4 #[.slice A bs.length c] w fun e w' => e = .returned (.bool true) ∧ Below w.heap.size w w' := by
  have HB := hide h0.byte
  obtain ⟨h, hc, hc2, -⟩ := h0
  have H : Hid (Sl w A (bvs bs)) := h
  clear h
  by_cases hl : ¬ bs.length ≤ 1048576
  · go_enter Try.func4, Try.ntmps4
    go_wp2
    go_ret
    exact ⟨rfl, Below.refl _ _⟩
  have hl : bs.length ≤ 1048576 := by omega
  clear hc2
  go_enter Try.func4, Try.ntmps4
  go_wp2_with fail
  refine (drawCallsMany_any A c bs _ H.out HB.out hl hc).mono ?_
  rintro e w1 ⟨P0, P1, P2, p0, p1, p2, C, rfl, P, ⟨l0, l1, l2⟩, b⟩
  have BW := hide b; replace P := hide P
  clear b
  go_wp2_with fail
  refine calls_name fun W1 hW => ?_
  have X3 := hide (Box.new' (g := w1.heap.size) hW rfl)
  have b : Below w1.heap.size w1 W1 := by rw [hW]; exact (Below.refl _ _).alloc (Nat.le_refl _) _
  replace P := hide (P.out.below b)
  replace BW := hide (bthen BW.out b)
  have zX3 := X3.out.lt
  clear b hW
  refine (implCallsMany P0 P1 P2 p0 p1 p2 C _ P.out.cr).mono ?_
  rintro e w2 ⟨rfl, b⟩
  replace P := hide (P.out.below b)
  replace X3 := hide (X3.out.below b)
  replace BW := hide (bthen BW.out b)
  clear b
  have X3_lt := X3.out.lt
  have X3_c0 := X3.out.at (i := 0) rfl; have X3_f0 := X3.out.frozen 0
  have X3_c1 := X3.out.at (i := 1) rfl; have X3_f1 := X3.out.frozen 1
  have X3_c2 := X3.out.at (i := 2) rfl; have X3_f2 := X3.out.frozen 2
  go_wp2_with fail
  clear X3_lt X3_c0 X3_f0 X3_c1 X3_f1 X3_c2 X3_f2
  refine (specCallsMany P0 P1 P2 p0 p1 p2 C _ P.out.cr).mono ?_
  rintro e w3 ⟨rfl, b⟩
  replace P := hide (P.out.below b)
  replace X3 := hide (X3.out.below b)
  replace BW := hide (bthen BW.out b)
  clear b
  have hcs := manyB_cases (C := C)
  have hset := hide fun (k f : Int) h => set_count (C := C) (k := k) (f := f) h
  have hslen := hide fun (k f : Int) => setC_len C k f true
  obtain ⟨n, hn⟩ : ∃ n, n = manyB C := ⟨_, rfl⟩
  rw [← hn] at hcs hset ⊢
  have e0 : (n != n) = false := by simp
  have HN := hide hn
  clear hn
  rcases hcs with hm | ⟨-, hn1, hn2, hn3⟩
  · subst hm
    have B := BW
    go_wp2_with fail
    refine (alive_any _).mono ?_
    rintro e w9 ⟨rfl, b9⟩
    have B9 := hide b9
    clear b9
    go_wp2
    go_ret
    exact ⟨rfl, bthen B.out B9.out⟩
  · have BL : Hid (Below w3.heap.size w3 w3) := Below.refl _ _
    have zX := X3.out.lt
    have X3_lt := X3.out.lt
    have X3_c0 := X3.out.at (i := 0) rfl; have X3_f0 := X3.out.frozen 0
    have X3_c1 := X3.out.at (i := 1) rfl; have X3_f1 := X3.out.frozen 1
    have X3_c2 := X3.out.at (i := 2) rfl; have X3_f2 := X3.out.frozen 2
    go_wp2_with fail
    clear X3_lt X3_c0 X3_f0 X3_c1 X3_f1 X3_c2 X3_f2
    go_loopw [5] (fun i wr => ∃ k : Nat, k ≤ 3 ∧ i = .int .i64 (k : Int) ∧ Hid (Below w3.heap.size w3 wr)) (fun i _ => 3 - (intOf i).toNat)
    case atStart => exact ⟨0, by omega, rfl, BL⟩
    case round =>
      clear BL
      obtain ⟨k, hk, rfl, BL⟩ := hrel
      by_cases hlt : k < 3
      · have hlt2 : (k : Int) < 3 := by omega
        go_wp2_with fail
        go_loopw [6] (fun i W => ∃ f : Nat, f ≤ C.car.length ∧ i = .int .i64 (f : Int) ∧ Hid (Below w3.heap.size w3 W)) (fun i _ => C.car.length - (intOf i).toNat)
        case atStart => exact ⟨0, by omega, rfl, BL⟩
        case round =>
          clear BL
          obtain ⟨f, hf, rfl, BL⟩ := hrel
          have XL := hide (X3.out.below BL.out); have PL := hide (P.out.below BL.out)
          have hL := BL.out.size
          by_cases hlf : f < C.car.length
          · have hs1 := hide fun h => hset.out (k : Int) (f : Int) h
            obtain ⟨m0, m1, m2⟩ := hslen.out (k : Int) (f : Int)
            obtain ⟨D, hD⟩ : ∃ D, D = (setC C (k : Int) (f : Int) true).1 := ⟨_, rfl⟩
            obtain ⟨ok, hok⟩ : ∃ ok, ok = (setC C (k : Int) (f : Int) true).2 := ⟨_, rfl⟩
            rw [← hD, ← hok] at hs1
            rw [← hD] at m0 m1 m2
            have XL_lt := XL.out.lt
            have XL_c0 := XL.out.at (i := 0) rfl; have XL_f0 := XL.out.frozen 0
            have XL_c1 := XL.out.at (i := 1) rfl; have XL_f1 := XL.out.frozen 1
            have XL_c2 := XL.out.at (i := 2) rfl; have XL_f2 := XL.out.frozen 2
            go_wp2_with fail
            clear XL_lt XL_c0 XL_f0 XL_c1 XL_f1 XL_c2 XL_f2
            refine (implCallSet P0 P1 P2 p0 p1 p2 C _ _ true _ PL.out.cr).mono ?_
            rw [← hD, ← hok]
            clear hD hok
            rintro e w4 ⟨Q0, Q1, Q2, q0, q1, q2, rfl, Q, b⟩
            replace Q := hide Q
            replace XL := hide (XL.out.below b); replace PL := hide (PL.out.below b); replace BL := hide (BL.out.trans (b.mono hL))
            have hL4 := b.size
            clear b
            cases ok
            · have XL_lt := XL.out.lt
              have XL_c0 := XL.out.at (i := 0) rfl; have XL_f0 := XL.out.frozen 0
              have XL_c1 := XL.out.at (i := 1) rfl; have XL_f1 := XL.out.frozen 1
              have XL_c2 := XL.out.at (i := 2) rfl; have XL_f2 := XL.out.frozen 2
              go_upto_region 16 with fail
              clear XL_lt XL_c0 XL_f0 XL_c1 XL_f1 XL_c2 XL_f2
              refine code_name fun W6 hW => ?_
              have X7 := hide (Box.new' (g := w4.heap.size) hW rfl)
              have b : Below w4.heap.size w4 W6 := by rw [hW]; exact (Below.refl _ _).alloc (Nat.le_refl _) _
              replace Q := hide (Q.out.below b); replace XL := hide (XL.out.below b); replace PL := hide (PL.out.below b); replace BL := hide (BL.out.trans (b.mono (Nat.le_trans hL hL4)))
              have hL6 := b.size
              clear b hW
              go_quiet (fail)
              go_wp2_with fail
              go_roundw
              case rel => exact ⟨f + 1, by omega, by go_num, below_drewN BL.out _⟩
              case measure => simp [intOf]; omega
            · have hcase := hs1.out rfl
              clear hs1
              have XL_lt := XL.out.lt
              have XL_c0 := XL.out.at (i := 0) rfl; have XL_f0 := XL.out.frozen 0
              have XL_c1 := XL.out.at (i := 1) rfl; have XL_f1 := XL.out.frozen 1
              have XL_c2 := XL.out.at (i := 2) rfl; have XL_f2 := XL.out.frozen 2
              go_upto_region 16 with fail
              clear XL_lt XL_c0 XL_f0 XL_c1 XL_f1 XL_c2 XL_f2
              refine code_name fun W6 hW => ?_
              have X7 := hide (Box.new' (g := w4.heap.size) hW rfl)
              have b : Below w4.heap.size w4 W6 := by rw [hW]; exact (Below.refl _ _).alloc (Nat.le_refl _) _
              replace Q := hide (Q.out.below b); replace XL := hide (XL.out.below b); replace PL := hide (PL.out.below b); replace BL := hide (BL.out.trans (b.mono (Nat.le_trans hL hL4)))
              have hL6 := b.size
              clear b hW
              rcases hcase with ⟨hm, he⟩ | ⟨hm, he⟩
              · have HM := hide hm; have HE := hide he
                have e1 : (n == n) = true := by simp
                clear hm he
                have HQ : Hid (CR W6.drew Q0 Q1 Q2 D) := Q.out.cr.below (below_drewN (Below.refl _ _) 1)
                have HP : Hid (CR W6.drew P0 P1 P2 C) := PL.out.cr.below (below_drewN (Below.refl _ _) 1)
                have XA := hide XL.out.drew; have XB := hide X7.out.drew
                have XL_lt := XL.out.lt
                have XL_c0 := XL.out.at (i := 0) rfl; have XL_f0 := XL.out.frozen 0
                have XL_c1 := XL.out.at (i := 1) rfl; have XL_f1 := XL.out.frozen 1
                have XL_c2 := XL.out.at (i := 2) rfl; have XL_f2 := XL.out.frozen 2
                have X7_lt := X7.out.lt
                have X7_c0 := X7.out.at (i := 0) rfl; have X7_f0 := X7.out.frozen 0
                have X7_c1 := X7.out.at (i := 1) rfl; have X7_f1 := X7.out.frozen 1
                have X7_c2 := X7.out.at (i := 2) rfl; have X7_f2 := X7.out.frozen 2
                have KS : Hid (∀ W', Below W6.heap.size W6 W' → (W'.cell? ⟨w1.heap.size, 0, none⟩ = some (.slice P0 C.up.length p0) ∧ W'.cell? ⟨w1.heap.size, 1, none⟩ = some (.slice P1 C.dn.length p1) ∧ W'.cell? ⟨w1.heap.size, 2, none⟩ = some (.slice P2 C.car.length p2)) ∧ W'.cell? ⟨w4.heap.size, 0, none⟩ = some (.slice Q0 D.up.length q0) ∧ W'.cell? ⟨w4.heap.size, 1, none⟩ = some (.slice Q1 D.dn.length q1) ∧ W'.cell? ⟨w4.heap.size, 2, none⟩ = some (.slice Q2 D.car.length q2)) := fun W' bb => ⟨⟨(XL.out.below bb).at rfl, (XL.out.below bb).at rfl, (XL.out.below bb).at rfl⟩, (X7.out.below bb).at rfl, (X7.out.below bb).at rfl, (X7.out.below bb).at rfl⟩
                have KK : Hid (Below W6.heap.size W6 W6.drew) := (Below.refl _ _).drew
                refine wp_region_noPanic ?_
                refine wp_region_held_drew (S := (fun W => (W.cell? ⟨w1.heap.size, 0, none⟩ = some (.slice P0 C.up.length p0) ∧ W.cell? ⟨w1.heap.size, 1, none⟩ = some (.slice P1 C.dn.length p1) ∧ W.cell? ⟨w1.heap.size, 2, none⟩ = some (.slice P2 C.car.length p2)) ∧ W.cell? ⟨w4.heap.size, 0, none⟩ = some (.slice Q0 D.up.length q0) ∧ W.cell? ⟨w4.heap.size, 1, none⟩ = some (.slice Q1 D.dn.length q1) ∧ W.cell? ⟨w4.heap.size, 2, none⟩ = some (.slice Q2 D.car.length q2))) (by kernel_rfl) ?_ (fun hHeld => ?_)
                · exact KS.out _ KK.out
                (refine take_in (i := 0) (v := ?_) rfl (by rfl) (by kernel_rfl) (by kernel_rfl) (by kernel_rfl) (fun _ _ _ h => h) (by rfl) ?_ (by assumption) ?_; rotate_left; (focus ((intro w hSw; (try dsimp only at hSw); go_simp); (try with_reducible rfl); done)); (try simp only [List.setIfInBounds_toArray, List.set_cons_succ, List.set_cons_zero]))
                (refine take_in (i := 1) (v := ?_) rfl (by rfl) (by kernel_rfl) (by kernel_rfl) (by kernel_rfl) (fun _ _ _ h => h) (by rfl) ?_ (by assumption) ?_; rotate_left; (focus ((intro w hSw; (try dsimp only at hSw); go_simp); (try with_reducible rfl); done)); (try simp only [List.setIfInBounds_toArray, List.set_cons_succ, List.set_cons_zero]))
                first | (refine take_in (i := 2) (v := ?_) rfl (by rfl) (by kernel_rfl) (by kernel_rfl) (by kernel_rfl) (fun _ _ _ h => h) (by rfl) ?_ (by assumption) ?_; rotate_left; (focus ((intro w hSw; (try dsimp only at hSw); go_simp); (try with_reducible rfl); done)); (try simp only [List.setIfInBounds_toArray, List.set_cons_succ, List.set_cons_zero])) | (refine take_out (i := 2) rfl (by rfl) (by kernel_rfl) (by kernel_rfl) (by kernel_rfl) (fun _ _ _ h => h) (by rfl) (by assumption) ?_; (try simp only [List.setIfInBounds_toArray, List.set_cons_succ, List.set_cons_zero]))
                first | (refine take_in (i := 4) (v := ?_) rfl (by rfl) (by kernel_rfl) (by kernel_rfl) (by kernel_rfl) (fun _ _ _ h => h) (by rfl) ?_ (by assumption) ?_; rotate_left; (focus ((intro w hSw; (try dsimp only at hSw); go_simp); (try with_reducible rfl); done)); (try simp only [List.setIfInBounds_toArray, List.set_cons_succ, List.set_cons_zero])) | (refine take_out (i := 4) rfl (by rfl) (by kernel_rfl) (by kernel_rfl) (by kernel_rfl) (fun _ _ _ h => h) (by rfl) (by assumption) ?_; (try simp only [List.setIfInBounds_toArray, List.set_cons_succ, List.set_cons_zero]))
                refine wpAnyH_ready (rs := [3]) (by kernel_rfl) (by simp) ?_
                refine AllReadyH.cons rfl (fun K hK => ?_) AllReadyH.nil
                go_simp
                go_at_call 10
                refine (implCallsMany_at Q0 Q1 Q2 q0 q1 q2 D _ n HM.out ?_).mono ?_
                · exact Q.out.cr.below KK.out
                rintro e v ⟨rfl, bb⟩
                replace KK := hide (bthen KK.out bb)
                have zKK := KK.out.size
                clear bb
                go_wp2_with fail
                refine hK.out _ _ ?_ (fun hHeld => ?_)
                · exact KS.out _ KK.out
                clear hK K
                (try simp only [Act.put, List.setIfInBounds_toArray, List.set_cons_zero, List.set_cons_succ])
                first | (refine take_in (i := 5) (v := ?_) rfl (by rfl) (by kernel_rfl) (by kernel_rfl) (by kernel_rfl) (fun _ _ _ h => h) (by rfl) ?_ (by assumption) ?_; rotate_left; (focus ((intro w hSw; (try dsimp only at hSw); go_simp); (try with_reducible rfl); done)); (try simp only [List.setIfInBounds_toArray, List.set_cons_succ, List.set_cons_zero])) | (refine take_out (i := 5) rfl (by rfl) (by kernel_rfl) (by kernel_rfl) (by kernel_rfl) (fun _ _ _ h => h) (by rfl) (by assumption) ?_; (try simp only [List.setIfInBounds_toArray, List.set_cons_succ, List.set_cons_zero]))
                (refine take_in (i := 6) (v := ?_) rfl (by rfl) (by kernel_rfl) (by kernel_rfl) (by kernel_rfl) (fun _ _ _ h => h) (by rfl) ?_ (by assumption) ?_; rotate_left; (focus ((intro w hSw; (try dsimp only at hSw); go_simp); (try with_reducible rfl); done)); (try simp only [List.setIfInBounds_toArray, List.set_cons_succ, List.set_cons_zero]))
                (refine take_in (i := 7) (v := ?_) rfl (by rfl) (by kernel_rfl) (by kernel_rfl) (by kernel_rfl) (fun _ _ _ h => h) (by rfl) ?_ (by assumption) ?_; rotate_left; (focus ((intro w hSw; (try dsimp only at hSw); go_simp); (try with_reducible rfl); done)); (try simp only [List.setIfInBounds_toArray, List.set_cons_succ, List.set_cons_zero]))
                first | (refine take_in (i := 8) (v := ?_) rfl (by rfl) (by kernel_rfl) (by kernel_rfl) (by kernel_rfl) (fun _ _ _ h => h) (by rfl) ?_ (by assumption) ?_; rotate_left; (focus ((intro w hSw; (try dsimp only at hSw); go_simp); (try with_reducible rfl); done)); (try simp only [List.setIfInBounds_toArray, List.set_cons_succ, List.set_cons_zero])) | (refine take_out (i := 8) rfl (by rfl) (by kernel_rfl) (by kernel_rfl) (by kernel_rfl) (fun _ _ _ h => h) (by rfl) (by assumption) ?_; (try simp only [List.setIfInBounds_toArray, List.set_cons_succ, List.set_cons_zero]))
                (refine take_out (i := 9) rfl (by rfl) (by kernel_rfl) (by kernel_rfl) (by kernel_rfl) (fun _ _ _ h => h) (by rfl) (by assumption) ?_; (try simp only [List.setIfInBounds_toArray, List.set_cons_succ, List.set_cons_zero]))
                first | (refine take_in (i := 10) (v := ?_) rfl (by rfl) (by kernel_rfl) (by kernel_rfl) (by kernel_rfl) (fun _ _ _ h => h) (by rfl) ?_ (by assumption) ?_; rotate_left; (focus ((intro w hSw; (try dsimp only at hSw); go_simp); (try with_reducible rfl); done)); (try simp only [List.setIfInBounds_toArray, List.set_cons_succ, List.set_cons_zero])) | (refine take_out (i := 10) rfl (by rfl) (by kernel_rfl) (by kernel_rfl) (by kernel_rfl) (fun _ _ _ h => h) (by rfl) (by assumption) ?_; (try simp only [List.setIfInBounds_toArray, List.set_cons_succ, List.set_cons_zero]))
                first | (refine take_in (i := 11) (v := ?_) rfl (by rfl) (by kernel_rfl) (by kernel_rfl) (by kernel_rfl) (fun _ _ _ h => h) (by rfl) ?_ (by assumption) ?_; rotate_left; (focus ((intro w hSw; (try dsimp only at hSw); go_simp); (try with_reducible rfl); done)); (try simp only [List.setIfInBounds_toArray, List.set_cons_succ, List.set_cons_zero])) | (refine take_out (i := 11) rfl (by rfl) (by kernel_rfl) (by kernel_rfl) (by kernel_rfl) (fun _ _ _ h => h) (by rfl) (by assumption) ?_; (try simp only [List.setIfInBounds_toArray, List.set_cons_succ, List.set_cons_zero]))
                first | (refine take_in (i := 12) (v := ?_) rfl (by rfl) (by kernel_rfl) (by kernel_rfl) (by kernel_rfl) (fun _ _ _ h => h) (by rfl) ?_ (by assumption) ?_; rotate_left; (focus ((intro w hSw; (try dsimp only at hSw); go_simp); (try with_reducible rfl); done)); (try simp only [List.setIfInBounds_toArray, List.set_cons_succ, List.set_cons_zero])) | (refine take_out (i := 12) rfl (by rfl) (by kernel_rfl) (by kernel_rfl) (by kernel_rfl) (fun _ _ _ h => h) (by rfl) (by assumption) ?_; (try simp only [List.setIfInBounds_toArray, List.set_cons_succ, List.set_cons_zero]))
                (refine take_in (i := 13) (v := ?_) rfl (by rfl) (by kernel_rfl) (by kernel_rfl) (by kernel_rfl) (fun _ _ _ h => h) (by rfl) ?_ (by assumption) ?_; rotate_left; (focus ((intro w hSw; (try dsimp only at hSw); go_simp); (try with_reducible rfl); done)); (try simp only [List.setIfInBounds_toArray, List.set_cons_succ, List.set_cons_zero]))
                (refine take_in (i := 14) (v := ?_) rfl (by rfl) (by kernel_rfl) (by kernel_rfl) (by kernel_rfl) (fun _ _ _ h => h) (by rfl) ?_ (by assumption) ?_; rotate_left; (focus ((intro w hSw; (try dsimp only at hSw); go_simp); (try with_reducible rfl); done)); (try simp only [List.setIfInBounds_toArray, List.set_cons_succ, List.set_cons_zero]))
                first | (refine take_in (i := 15) (v := ?_) rfl (by rfl) (by kernel_rfl) (by kernel_rfl) (by kernel_rfl) (fun _ _ _ h => h) (by rfl) ?_ (by assumption) ?_; rotate_left; (focus ((intro w hSw; (try dsimp only at hSw); go_simp); (try with_reducible rfl); done)); (try simp only [List.setIfInBounds_toArray, List.set_cons_succ, List.set_cons_zero])) | (refine take_out (i := 15) rfl (by rfl) (by kernel_rfl) (by kernel_rfl) (by kernel_rfl) (fun _ _ _ h => h) (by rfl) (by assumption) ?_; (try simp only [List.setIfInBounds_toArray, List.set_cons_succ, List.set_cons_zero]))
                first | (refine take_in (i := 16) (v := ?_) rfl (by rfl) (by kernel_rfl) (by kernel_rfl) (by kernel_rfl) (fun _ _ _ h => h) (by rfl) ?_ (by assumption) ?_; rotate_left; (focus ((intro w hSw; (try dsimp only at hSw); go_simp); (try with_reducible rfl); done)); (try simp only [List.setIfInBounds_toArray, List.set_cons_succ, List.set_cons_zero])) | (refine take_out (i := 16) rfl (by rfl) (by kernel_rfl) (by kernel_rfl) (by kernel_rfl) (fun _ _ _ h => h) (by rfl) (by assumption) ?_; (try simp only [List.setIfInBounds_toArray, List.set_cons_succ, List.set_cons_zero]))
                first | (refine take_in (i := 17) (v := ?_) rfl (by rfl) (by kernel_rfl) (by kernel_rfl) (by kernel_rfl) (fun _ _ _ h => h) (by rfl) ?_ (by assumption) ?_; rotate_left; (focus ((intro w hSw; (try dsimp only at hSw); go_simp); (try with_reducible rfl); done)); (try simp only [List.setIfInBounds_toArray, List.set_cons_succ, List.set_cons_zero])) | (refine take_out (i := 17) rfl (by rfl) (by kernel_rfl) (by kernel_rfl) (by kernel_rfl) (fun _ _ _ h => h) (by rfl) (by assumption) ?_; (try simp only [List.setIfInBounds_toArray, List.set_cons_succ, List.set_cons_zero]))
                first | (refine take_in (i := 19) (v := ?_) rfl (by rfl) (by kernel_rfl) (by kernel_rfl) (by kernel_rfl) (fun _ _ _ h => h) (by rfl) ?_ (by assumption) ?_; rotate_left; (focus ((intro w hSw; (try dsimp only at hSw); go_simp); (try with_reducible rfl); done)); (try simp only [List.setIfInBounds_toArray, List.set_cons_succ, List.set_cons_zero])) | (refine take_out (i := 19) rfl (by rfl) (by kernel_rfl) (by kernel_rfl) (by kernel_rfl) (fun _ _ _ h => h) (by rfl) (by assumption) ?_; (try simp only [List.setIfInBounds_toArray, List.set_cons_succ, List.set_cons_zero]))
                first | (refine take_in (i := 21) (v := ?_) rfl (by rfl) (by kernel_rfl) (by kernel_rfl) (by kernel_rfl) (fun _ _ _ h => h) (by rfl) ?_ (by assumption) ?_; rotate_left; (focus ((intro w hSw; (try dsimp only at hSw); go_simp); (try with_reducible rfl); done)); (try simp only [List.setIfInBounds_toArray, List.set_cons_succ, List.set_cons_zero])) | (refine take_out (i := 21) rfl (by rfl) (by kernel_rfl) (by kernel_rfl) (by kernel_rfl) (fun _ _ _ h => h) (by rfl) (by assumption) ?_; (try simp only [List.setIfInBounds_toArray, List.set_cons_succ, List.set_cons_zero]))
                first | (refine take_in (i := 22) (v := ?_) rfl (by rfl) (by kernel_rfl) (by kernel_rfl) (by kernel_rfl) (fun _ _ _ h => h) (by rfl) ?_ (by assumption) ?_; rotate_left; (focus ((intro w hSw; (try dsimp only at hSw); go_simp); (try with_reducible rfl); done)); (try simp only [List.setIfInBounds_toArray, List.set_cons_succ, List.set_cons_zero])) | (refine take_out (i := 22) rfl (by rfl) (by kernel_rfl) (by kernel_rfl) (by kernel_rfl) (fun _ _ _ h => h) (by rfl) (by assumption) ?_; (try simp only [List.setIfInBounds_toArray, List.set_cons_succ, List.set_cons_zero]))
                refine wpAnyH_ready (rs := [18]) (by kernel_rfl) (by simp) ?_
                refine AllReadyH.cons rfl (fun K hK => ?_) AllReadyH.nil
                go_simp
                go_at_call 10
                refine (implCallsMany_at Q0 Q1 Q2 q0 q1 q2 D _ n HM.out ?_).mono ?_
                · exact Q.out.cr.below KK.out
                rintro e v ⟨rfl, bb⟩
                replace KK := hide (bthen KK.out bb)
                have zKK := KK.out.size
                clear bb
                go_wp2_with fail
                refine hK.out _ _ ?_ (fun hHeld => ?_)
                · exact KS.out _ KK.out
                clear hK K
                (try simp only [Act.put, List.setIfInBounds_toArray, List.set_cons_zero, List.set_cons_succ])
                first | (refine take_in (i := 20) (v := ?_) rfl (by rfl) (by kernel_rfl) (by kernel_rfl) (by kernel_rfl) (fun _ _ _ h => h) (by rfl) ?_ (by assumption) ?_; rotate_left; (focus ((intro w hSw; (try dsimp only at hSw); go_simp); (try with_reducible rfl); done)); (try simp only [List.setIfInBounds_toArray, List.set_cons_succ, List.set_cons_zero])) | (refine take_out (i := 20) rfl (by rfl) (by kernel_rfl) (by kernel_rfl) (by kernel_rfl) (fun _ _ _ h => h) (by rfl) (by assumption) ?_; (try simp only [List.setIfInBounds_toArray, List.set_cons_succ, List.set_cons_zero]))
                refine wpAnyH_ready (rs := [23]) (by kernel_rfl) (by simp) ?_
                refine AllReadyH.cons rfl (fun K hK => ?_) AllReadyH.nil
                go_simp
                go_at_call 8
                refine (sameCalls_at Q0 Q1 Q2 q0 q1 q2 P0 P1 P2 p0 p1 p2 D C _ true HE.out ?_ ?_ (by constructor <;> omega)).mono ?_
                · exact Q.out.cr.below KK.out
                · exact PL.out.cr.below KK.out
                rintro e v ⟨rfl, bb⟩
                replace KK := hide (bthen KK.out bb)
                have zKK := KK.out.size
                clear bb
                go_wp2_with fail
                refine hK.out _ _ ?_ (fun hHeld => ?_)
                · exact KS.out _ KK.out
                clear hK K
                (try simp only [Act.put, List.setIfInBounds_toArray, List.set_cons_zero, List.set_cons_succ])
                first | (refine take_in (i := 24) (v := ?_) rfl (by rfl) (by kernel_rfl) (by kernel_rfl) (by kernel_rfl) (fun _ _ _ h => h) (by rfl) ?_ (by assumption) ?_; rotate_left; (focus ((intro w hSw; (try dsimp only at hSw); go_simp); (try with_reducible rfl); done)); (try simp only [List.setIfInBounds_toArray, List.set_cons_succ, List.set_cons_zero])) | (refine take_out (i := 24) rfl (by rfl) (by kernel_rfl) (by kernel_rfl) (by kernel_rfl) (fun _ _ _ h => h) (by rfl) (by assumption) ?_; (try simp only [List.setIfInBounds_toArray, List.set_cons_succ, List.set_cons_zero]))
                first | (refine take_in (i := 25) (v := ?_) rfl (by rfl) (by kernel_rfl) (by kernel_rfl) (by kernel_rfl) (fun _ _ _ h => h) (by rfl) ?_ (by assumption) ?_; rotate_left; (focus ((intro w hSw; (try dsimp only at hSw); go_simp); (try with_reducible rfl); done)); (try simp only [List.setIfInBounds_toArray, List.set_cons_succ, List.set_cons_zero])) | (refine take_out (i := 25) rfl (by rfl) (by kernel_rfl) (by kernel_rfl) (by kernel_rfl) (fun _ _ _ h => h) (by rfl) (by assumption) ?_; (try simp only [List.setIfInBounds_toArray, List.set_cons_succ, List.set_cons_zero]))
                (refine take_in (i := 26) (v := ?_) rfl (by rfl) (by kernel_rfl) (by kernel_rfl) (by kernel_rfl) (fun _ _ _ h => h) (by rfl) ?_ (by assumption) ?_; rotate_left; (focus ((intro w hSw; (try dsimp only at hSw); go_simp); (try with_reducible rfl); done)); (try simp only [List.setIfInBounds_toArray, List.set_cons_succ, List.set_cons_zero]))
                refine wpAnyH_done (by kernel_rfl) ?_ _
                refine NoPanic.normal ?_
                clear KS
                have bE := KK
                clear HQ HP XA XB XL_lt XL_c0 XL_f0 XL_c1 XL_f1 XL_c2 XL_f2 X7_lt X7_c0 X7_f0 X7_c1 X7_f1 X7_c2 X7_f2
                go_wp2_with fail
                go_roundw
                case rel => exact ⟨f + 1, by omega, by go_num, BL.out.trans (bE.out.mono (by omega))⟩
                case measure => simp [intOf]; omega
              · have HM := hide hm; have HE := hide he
                obtain ⟨m, hmm⟩ : ∃ m, m = n + 1 := ⟨_, rfl⟩
                have e1 : (m != n) = true := by simp; omega
                have e2 : (m != m) = false := by simp
                have e3 : (m == n) = false := by simp; omega
                have e4 : IntKind.i64.wrap (n + 1) = m := by rw [hmm]; exact IntWalk.i64_in _ (by omega)
                rw [← hmm] at HM
                have e5 : ¬ m = n := by omega
                have e6 : ¬ n = m := by omega
                clear hmm
                clear hm he
                have HQ : Hid (CR W6.drew Q0 Q1 Q2 D) := Q.out.cr.below (below_drewN (Below.refl _ _) 1)
                have HP : Hid (CR W6.drew P0 P1 P2 C) := PL.out.cr.below (below_drewN (Below.refl _ _) 1)
                have XA := hide XL.out.drew; have XB := hide X7.out.drew
                have XL_lt := XL.out.lt
                have XL_c0 := XL.out.at (i := 0) rfl; have XL_f0 := XL.out.frozen 0
                have XL_c1 := XL.out.at (i := 1) rfl; have XL_f1 := XL.out.frozen 1
                have XL_c2 := XL.out.at (i := 2) rfl; have XL_f2 := XL.out.frozen 2
                have X7_lt := X7.out.lt
                have X7_c0 := X7.out.at (i := 0) rfl; have X7_f0 := X7.out.frozen 0
                have X7_c1 := X7.out.at (i := 1) rfl; have X7_f1 := X7.out.frozen 1
                have X7_c2 := X7.out.at (i := 2) rfl; have X7_f2 := X7.out.frozen 2
                first | (go_region_held3 (fun W => (W.cell? ⟨w1.heap.size, 0, none⟩ = some (.slice P0 C.up.length p0) ∧ W.cell? ⟨w1.heap.size, 1, none⟩ = some (.slice P1 C.dn.length p1) ∧ W.cell? ⟨w1.heap.size, 2, none⟩ = some (.slice P2 C.car.length p2)) ∧ W.cell? ⟨w4.heap.size, 0, none⟩ = some (.slice Q0 D.up.length q0) ∧ W.cell? ⟨w4.heap.size, 1, none⟩ = some (.slice Q1 D.dn.length q1) ∧ W.cell? ⟨w4.heap.size, 2, none⟩ = some (.slice Q2 D.car.length q2)) (first | (go_keep; done) | exact ⟨⟨(XA.out.below b10.out).at rfl, (XA.out.below b10.out).at rfl, (XA.out.below b10.out).at rfl⟩, (XB.out.below b10.out).at rfl, (XB.out.below b10.out).at rfl, (XB.out.below b10.out).at rfl⟩ | exact ⟨⟨(XA.out.below b9.out).at rfl, (XA.out.below b9.out).at rfl, (XA.out.below b9.out).at rfl⟩, (XB.out.below b9.out).at rfl, (XB.out.below b9.out).at rfl, (XB.out.below b9.out).at rfl⟩ | exact ⟨⟨(XA.out.below b8.out).at rfl, (XA.out.below b8.out).at rfl, (XA.out.below b8.out).at rfl⟩, (XB.out.below b8.out).at rfl, (XB.out.below b8.out).at rfl, (XB.out.below b8.out).at rfl⟩ | exact ⟨⟨(XA.out.below b7.out).at rfl, (XA.out.below b7.out).at rfl, (XA.out.below b7.out).at rfl⟩, (XB.out.below b7.out).at rfl, (XB.out.below b7.out).at rfl, (XB.out.below b7.out).at rfl⟩) (first | (go_at_call 10; (with_reducible refine (implCallsMany_at Q0 Q1 Q2 q0 q1 q2 D W6.drew m HM.out HQ.out).mono ?_); rintro e w7 ⟨rfl, b7⟩; replace b7 := hide b7) | (go_at_call 10; (with_reducible refine (implCallsMany_at Q0 Q1 Q2 q0 q1 q2 D w7 m HM.out (HQ.out.below b7.out)).mono ?_); rintro e w8 ⟨rfl, b8⟩; replace b8 := hide (bthen b7.out b8)) | (go_at_call 10; (with_reducible refine (implCallsMany_at Q0 Q1 Q2 q0 q1 q2 D w8 m HM.out (HQ.out.below b8.out)).mono ?_); rintro e w9 ⟨rfl, b9⟩; replace b9 := hide (bthen b8.out b9)) | (go_at_call 8; (with_reducible refine (sameCalls_at Q0 Q1 Q2 q0 q1 q2 P0 P1 P2 p0 p1 p2 D C w9 false HE.out (HQ.out.below b9.out) (HP.out.below b9.out) ?_).mono ?_); (constructor <;> omega); rintro e w10 ⟨rfl, b10⟩; replace b10 := hide (bthen b9.out b10)))) | fail
                all_goals
                  have bE := hide ((below_drewN (Below.refl W6.heap.size W6) 1).trans b10.out)
                  clear HQ HP XA XB XL_lt XL_c0 XL_f0 XL_c1 XL_f1 XL_c2 XL_f2 X7_lt X7_c0 X7_f0 X7_c1 X7_f1 X7_c2 X7_f2
                  go_wp2_with fail
                  go_roundw
                  case rel => exact ⟨f + 1, by omega, by go_num, BL.out.trans (bE.out.mono (by omega))⟩
                  case measure => simp [intOf]; omega
          · obtain rfl : f = C.car.length := by omega
            have XL_lt := XL.out.lt
            have XL_c0 := XL.out.at (i := 0) rfl; have XL_f0 := XL.out.frozen 0
            have XL_c1 := XL.out.at (i := 1) rfl; have XL_f1 := XL.out.frozen 1
            have XL_c2 := XL.out.at (i := 2) rfl; have XL_f2 := XL.out.frozen 2
            go_wp2_with fail
            go_roundw
            case rel => exact ⟨k + 1, by omega, by go_num, BL⟩
            case measure => simp [intOf]; omega
      · have XL := hide (X3.out.below BL.out)
        have BE := hide (bthen BW.out BL.out)
        have XL_lt := XL.out.lt
        have XL_c0 := XL.out.at (i := 0) rfl; have XL_f0 := XL.out.frozen 0
        have XL_c1 := XL.out.at (i := 1) rfl; have XL_f1 := XL.out.frozen 1
        have XL_c2 := XL.out.at (i := 2) rfl; have XL_f2 := XL.out.frozen 2
        go_wp2_with fail
        go_ret
        exact ⟨rfl, BE.out⟩
end Go.Proofs.Ytmhocmppafggaaa
