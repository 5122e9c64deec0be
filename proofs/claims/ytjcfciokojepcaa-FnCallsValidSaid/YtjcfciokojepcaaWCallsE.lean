/- Laws over drawn calls. -/
import Derived.Test.YtjcfciokojepcaaFrame
import Derived.Test.YtjcfciokojepcaaDrawCalls2
import Derived.Test.YtjcfciokojepcaaCallsE
import Derived.Test.YtjcfciokojepcaaAlive
namespace Go.Proofs.Ytjcfciokojepcaa
open Go.RowKit
attribute [local go_sem ↓] Go.wp_at_zero Go.wp_at_succ

theorem noneC_len' (n : Int) : (noneC n).up.length ≤ 8 ∧ (noneC n).dn.length ≤ 8 ∧ (noneC n).car.length ≤ 8 := by
  unfold noneC; split
  · simp [noCalls]; omega
  · simp
theorem noneC_car (n : Int) : ((noneC n).car.length = 0 ∧ (n < 1 ∨ 8 < n)) ∨ (((noneC n).car.length : Int) = n ∧ 1 ≤ n ∧ n ≤ 8) := by
  unfold noneC
  split
  · right; simp [noCalls]; omega
  · left; simp; omega
theorem many_none (n : Int) (h : 1 ≤ n ∧ n ≤ 8) : manyB (noneC n) = 0 := by
  obtain ⟨k, rfl⟩ := Int.eq_ofNat_of_zero_le (a := n) (by omega)
  rw [noneC_yes (by omega) (by omega)]
  rw [manyB_yes (callsB_iff.2 (noCalls_valid (by omega) (by omega)))]
  unfold manyC noCalls; simp [cnt_rep]
theorem wCallsNone (A : Option Addr) (c : Nat) (bs : List Int) (w : World) (h0 : InRow .u8 w A c bs) :
    Calls Try.prog 5 #[.slice A bs.length c] w fun e w' => e = .returned (.bool true) ∧ Below w.heap.size w w' := by
  have HB := hide h0.byte
  obtain ⟨h, hc, hc2, -⟩ := h0
  have H : Hid (Sl w A (bvs bs)) := h
  clear h
  by_cases hl : ¬ bs.length ≤ 1048576
  · go_enter Try.func5, Try.ntmps5
    go_wp2
    go_ret
    exact ⟨rfl, Below.refl _ _⟩
  have hl : bs.length ≤ 1048576 := by omega
  clear hc2
  go_enter Try.func5, Try.ntmps5
  go_wp2_with fail
  refine (drawCallsNone_any A c bs _ H.out HB.out hl hc).mono ?_
  rintro e w1 ⟨n, rfl, n1, n2, b⟩
  have BW := hide b
  clear b
  go_wp2_with fail
  refine (implCallsNone n _).mono ?_
  rintro e w2 ⟨P0, P1, P2, p0, p1, p2, rfl, P, b⟩
  replace BW := hide (bthen BW.out b); replace P := hide P
  clear b
  obtain ⟨l0, l1, l2⟩ := noneC_len' n
  have e0 := eqC_self (noneC n)
  have HC := hide (noneC_car n)
  have HM := hide (many_none n)
  obtain ⟨C, hC⟩ : ∃ C, C = noneC n := ⟨_, rfl⟩
  rw [← hC] at l0 l1 l2 e0 P HC HM ⊢
  have HD := hide hC
  clear hC
  go_wp2_with fail
  refine code_name fun W3 hW => ?_
  have X1 := hide (Box.new' (g := w2.heap.size) hW rfl)
  have b : Below w2.heap.size w2 W3 := by rw [hW]; exact (Below.refl _ _).alloc (Nat.le_refl _) _
  replace P := hide (P.out.below b)
  replace BW := hide (bthen BW.out b)
  clear b hW
  have X1_lt := X1.out.lt
  have X1_c0 := X1.out.at (i := 0) rfl; have X1_f0 := X1.out.frozen 0
  have X1_c1 := X1.out.at (i := 1) rfl; have X1_f1 := X1.out.frozen 1
  have X1_c2 := X1.out.at (i := 2) rfl; have X1_f2 := X1.out.frozen 2
  go_region_held3 (fun W => W.cell? ⟨w2.heap.size, 0, none⟩ = some (.slice P0 C.up.length p0) ∧ W.cell? ⟨w2.heap.size, 1, none⟩ = some (.slice P1 C.dn.length p1) ∧ W.cell? ⟨w2.heap.size, 2, none⟩ = some (.slice P2 C.car.length p2)) (first | (go_keep; done) | (exact ⟨((X1.out.drew.below b7.out).below b8.out).at rfl, ((X1.out.drew.below b7.out).below b8.out).at rfl, ((X1.out.drew.below b7.out).below b8.out).at rfl⟩) | (exact ⟨(X1.out.drew.below b7.out).at rfl, (X1.out.drew.below b7.out).at rfl, (X1.out.drew.below b7.out).at rfl⟩)) (first | (go_at_call 17; refine (show Calls _ _ _ _ (GivesC C _) from by rw [HD.out]; exact specCallsNone n _).mono ?_; rintro e w4 ⟨Q0, Q1, Q2, q0, q1, q2, rfl, Q, b7⟩; replace Q := hide Q; replace b7 := hide b7) | (go_at_call 22; refine (sameCalls_any P0 P1 P2 p0 p1 p2 Q0 Q1 Q2 q0 q1 q2 C C _ (by exact (P.out.below (below_drewN (Below.refl _ _) 1)).cr.below b7.out) Q.out.cr (by omega)).mono ?_; rintro e w5 ⟨rfl, b8⟩; replace b8 := hide b8))
  clear X1_lt X1_c0 X1_f0 X1_c1 X1_f1 X1_c2 X1_f2
  have b : Below W3.heap.size W3 w5 := bthen (bthen (below_drewN (Below.refl _ _) 1) b7.out) b8.out
  replace P := hide (P.out.below b)
  replace X1 := hide (X1.out.below b)
  replace BW := hide (bthen BW.out b)
  clear b b7 b8 Q
  rcases HC.out with ⟨hz, hn⟩ | ⟨hz, hn⟩
  · have hz' : ((C.car.length : Int) == 0) = true := by simp [hz]
    clear hz
    have X1_lt := X1.out.lt
    have X1_c2 := X1.out.at (i := 2) rfl; have X1_f2 := X1.out.frozen 2
    by_cases hn1 : n < 1
    · go_wp2_with fail
      refine (alive_any _).mono ?_
      rintro e w9 ⟨rfl, b9⟩
      have B9 := hide b9
      clear b9
      go_wp2_with fail
      go_ret
      exact ⟨rfl, bthen BW.out B9.out⟩
    · have hn2 : 8 < n := by omega
      go_wp2_with fail
      refine (alive_any _).mono ?_
      rintro e w9 ⟨rfl, b9⟩
      have B9 := hide b9
      clear b9
      go_wp2_with fail
      go_ret
      exact ⟨rfl, bthen BW.out B9.out⟩
  · have hz1 : ((C.car.length : Int) == 0) = false := by simp; intro e; rw [e] at hz; simp at hz; omega
    have hz2 : ((C.car.length : Int) == n) = true := by simpa using hz
    have HZ := hide hz
    clear hz
    have hm := HM.out hn
    have X1_lt := X1.out.lt
    have X1_c0 := X1.out.at (i := 0) rfl; have X1_f0 := X1.out.frozen 0
    have X1_c1 := X1.out.at (i := 1) rfl; have X1_f1 := X1.out.frozen 1
    have X1_c2 := X1.out.at (i := 2) rfl; have X1_f2 := X1.out.frozen 2
    go_wp2_with fail
    refine (implCallsMany P0 P1 P2 p0 p1 p2 C _ P.out.cr).mono ?_
    rintro e w6 ⟨rfl, b⟩
    have B6 := hide b
    clear b
    rw [hm]
    go_wp2_with fail
    go_ret
    exact ⟨rfl, bthen BW.out B6.out⟩
theorem callsB_zero : callsB ⟨[], [], []⟩ = false := callsB_not (by simp)
theorem calls_last {C : Cl} (h : callsP C) : callsB ⟨C.up.set (C.up.length - 1) true, C.dn, C.car⟩ = false := by
  rw [callsB_f]
  rintro ⟨-, -, h3, -, h5, -⟩
  obtain ⟨g1, -, g3, -⟩ := h
  simp only at h5
  rw [List.getElem?_set, if_pos (by omega)] at h5
  split at h5 <;> cases h5
theorem callsB_none {n : Nat} (h1 : 1 ≤ n) (h2 : n ≤ 8) : callsB (noneC n) = true := by rw [noneC_yes h1 h2]; exact callsB_iff.2 (noCalls_valid h1 h2)
theorem wCallsValid (A : Option Addr) (c : Nat) (bs : List Int) (w : World) (h0 : InRow .u8 w A c bs) :
    Calls Try.prog 8 #[.slice A bs.length c] w fun e w' => e = .returned (.bool true) ∧ Below w.heap.size w w' := by
  have HB := hide h0.byte
  obtain ⟨h, hc, hc2, -⟩ := h0
  have H : Hid (Sl w A (bvs bs)) := h
  clear h
  by_cases hl : ¬ bs.length ≤ 1048576
  · go_enter Try.func8, Try.ntmps8
    go_wp2
    go_ret
    exact ⟨rfl, Below.refl _ _⟩
  have hl : bs.length ≤ 1048576 := by omega
  clear hc2
  go_enter Try.func8, Try.ntmps8
  go_wp2_with fail
  refine (drawCallsValid_any A c bs _ H.out HB.out hl hc).mono ?_
  rintro e w1 ⟨P0, P1, P2, p0, p1, p2, C, rfl, P, ⟨l0, l1, l2⟩, b⟩
  have BW := hide b; replace P := hide P
  clear b
  go_wp2_with fail
  refine calls_name fun W2 hW => ?_
  have X1 := hide (Box.new' (g := w1.heap.size) hW rfl)
  have b : Below w1.heap.size w1 W2 := by rw [hW]; exact (Below.refl _ _).alloc (Nat.le_refl _) _
  replace P := hide (P.out.below b)
  replace BW := hide (bthen BW.out b)
  clear b hW
  refine (implCallsValid P0 P1 P2 p0 p1 p2 C _ P.out.cr).mono ?_
  rintro e w3 ⟨rfl, b⟩
  replace P := hide (P.out.below b)
  replace X1 := hide (X1.out.below b)
  replace BW := hide (bthen BW.out b)
  clear b
  have X1_lt := X1.out.lt
  have X1_c0 := X1.out.at (i := 0) rfl; have X1_f0 := X1.out.frozen 0
  have X1_c1 := X1.out.at (i := 1) rfl; have X1_f1 := X1.out.frozen 1
  have X1_c2 := X1.out.at (i := 2) rfl; have X1_f2 := X1.out.frozen 2
  go_wp2_with fail
  clear X1_lt X1_c0 X1_f0 X1_c1 X1_f1 X1_c2 X1_f2
  refine (specCallsValid P0 P1 P2 p0 p1 p2 C _ P.out.cr).mono ?_
  rintro e w4 ⟨rfl, b⟩
  replace P := hide (P.out.below b)
  replace X1 := hide (X1.out.below b)
  replace BW := hide (bthen BW.out b)
  clear b
  cases hv : callsB C
  · go_wp2_with fail
    refine (implCallsValid none none none 0 0 0 ⟨[], [], []⟩ _ ⟨.inl rfl, .inl rfl, .inl rfl⟩).mono ?_
    rintro e w5 ⟨rfl, b⟩
    replace BW := hide (bthen BW.out b)
    clear b
    rw [callsB_zero]
    go_wp2_with fail
    refine (alive_any _).mono ?_
    rintro e w9 ⟨rfl, b9⟩
    have B9 := hide b9
    clear b9
    go_wp2_with fail
    go_ret
    exact ⟨rfl, bthen BW.out B9.out⟩
  · have HV := hide (callsB_iff.1 hv)
    obtain ⟨v1, v2, v3, v4, -, -⟩ := callsB_iff.1 hv
    have u1 : 1 ≤ C.up.length := by omega
    have PA := hide (P.out.below ((Below.refl _ _).alloc (Nat.le_refl _) (.cells #[] 4)))
    have OA := hide (World.ownsRow_lit (base := w4.heap.size) (e := 4) (size := 1) w4 #[] 0 (Nat.le_refl _) (by unfold maxLen; omega) rfl)
    clear v3 v4
    have X1_lt := X1.out.lt
    have X1_c0 := X1.out.at (i := 0) rfl; have X1_f0 := X1.out.frozen 0
    have X1_c1 := X1.out.at (i := 1) rfl; have X1_f1 := X1.out.frozen 1
    have X1_c2 := X1.out.at (i := 2) rfl; have X1_f2 := X1.out.frozen 2
    go_wp2_with (at_builtin; refine wp_appB rfl (.tmp 25) (.tmp 27) rfl w4.heap.size _ (some ⟨w4.heap.size, 0, none⟩) P0 0 C.up.length p0 [] C.up rfl rfl rfl OA.out PA.out.cr.up (by simp; omega) (by simp) ?_; intro A' c' w5 own gr; have ow' : w5.ownsRow w4.heap.size 4 1 (.slice A' C.up.length c') C.up.length (bls C.up) := own; have b5 : Below w4.heap.size w4 w5 := ((Below.refl _ _).alloc (Nat.le_refl _) _).trans (own_below OA.out gr (by simp)); have OW := hide ow'; have B5 := hide b5; obtain ⟨g, cap, e5, g1, g2⟩ := ow'.form (by omega); injection e5 with e51 e52 e53; subst e51; have cu := ow'.cellAt (C.up.length - 1) (by omega); have fu := ow'.frozenAt (C.up.length - 1); have X5 := hide (X1.out.below b5); have P5 := hide (P.out.below b5); have hcu : (bls C.up)[C.up.length - 1]? = some (.bool false) := (by have := HV.out.2.2.2.2.1; have e := HV.out.2.2.1; simp only [bls, List.getElem?_map]; rw [show C.up.length - 1 = C.car.length - 1 from by omega, this]; rfl); rw [hcu] at cu; have k1 := X5.out.at (i := 1) rfl; have k2 := X5.out.at (i := 2) rfl; have k3 : ¬ g = w1.heap.size := (by have := X1.out.lt; omega); clear own gr ow' b5 X1_c0 X1_c1 X1_c2 hcu)
    have U6 : Bools (w5.setCell ⟨g, C.up.length - 1, none⟩ (.bool true)) (some ⟨g, 0, none⟩) (C.up.set (C.up.length - 1) true) := by
      have := (OW.out.stored (C.up.length - 1) (.bool true)).1
      rw [bls_set] at this
      exact owns_sl this
    have o6 := (Only.refl g (g + 1) w5).setCell (p := ⟨g, C.up.length - 1, none⟩) (Nat.le_refl _) (Nat.lt_succ_self _) (.bool true)
    have P6 := P5.out.only o6 (.inl (by have := X1.out.lt; omega))
    have R6 : Hid (CR (w5.setCell ⟨g, C.up.length - 1, none⟩ (.bool true)) (some ⟨g, 0, none⟩) P1 P2 ⟨C.up.set (C.up.length - 1) true, C.dn, C.car⟩) := ⟨U6, P6.cr.dn, P6.cr.car⟩
    have HL := hide (calls_last HV.out)
    have B6 : Hid (Below w.heap.size w (w5.setCell ⟨g, C.up.length - 1, none⟩ (.bool true))) := (bthen BW.out B5.out).setCell (by have := BW.out.size; simp; omega) _
    have X6 := hide (X5.out.only o6 (.inl (by omega)))
    clear U6 o6 P6 k1 k2 cu fu
    refine (implCallsValid_at _ _ _ _ _ _ ⟨C.up.set (C.up.length - 1) true, C.dn, C.car⟩ (by simp) rfl rfl _ R6.out).mono ?_
    rintro e w7 ⟨rfl, b⟩
    rw [HL.out]
    replace B6 := hide (bthen B6.out b)
    replace X6 := hide (X6.out.below b)
    clear b
    have X6_lt := X6.out.lt
    have X6_c2 := X6.out.at (i := 2) rfl; have X6_f2 := X6.out.frozen 2
    go_wp2_with fail
    refine (implCallsNone _ _).mono ?_
    rintro e w8 ⟨Q0, Q1, Q2, q0, q1, q2, rfl, Q, b⟩
    replace B6 := hide (bthen B6.out b); replace Q := hide Q
    clear b
    go_wp2_with fail
    refine (implCallsValid Q0 Q1 Q2 q0 q1 q2 _ _ Q.out.cr).mono ?_
    rintro e w9 ⟨rfl, b⟩
    replace B6 := hide (bthen B6.out b)
    clear b
    rw [callsB_none v1 v2]
    go_wp2_with fail
    go_ret
    exact ⟨rfl, B6.out⟩
end Go.Proofs.Ytjcfciokojepcaa
