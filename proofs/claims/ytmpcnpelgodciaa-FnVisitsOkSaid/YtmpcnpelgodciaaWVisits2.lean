import Derived.Test.YtmpcnpelgodciaaFrame
import Derived.Test.YtmpcnpelgodciaaDrawTwo
import Derived.Test.YtmpcnpelgodciaaAlive
import Derived.Test.YtmpcnpelgodciaaVisits
import Derived.Test.YtmpcnpelgodciaaAppReg
namespace Go.Proofs.Ytmpcnpelgodciaa
open Go.RowKit

theorem visitsB_iff {fs vs : List Int} : visitsB fs vs = true ↔ floorsB fs = true ∧ withinB vs fs.length = true ∧ AscTo vs vs.length := by unfold visitsB ascB; simp [Bool.and_eq_true]
theorem visitsB_tail {fs vs : List Int} (h : visitsB fs vs = true) : visitsB fs (vs.drop 1) = true := by
  obtain ⟨h1, h2, h3⟩ := visitsB_iff.1 h
  refine visitsB_iff.2 ⟨h1, ?_, ?_⟩
  · rw [withinB, List.all_eq_true] at h2 ⊢
    exact fun x hx => h2 x (List.mem_of_mem_drop hx)
  · intro i a b hi ha hb
    rw [List.getElem?_drop] at ha hb
    rw [List.length_drop] at hi
    exact h3 (1 + i) a b (by omega) ha (by rw [← hb]; congr 1)
theorem visitsB_twice {fs vs : List Int} {z : Int} {k : Nat} (hk : vs.length = k + 1) (hz : vs[k]? = some z) : visitsB fs (vs ++ [z]) = false :=
  visitsB_adj (i := k) (a := z) (b := z) (by rw [List.getElem?_append_left (by omega)]; exact hz) (by rw [← hk]; simp) (Int.le_refl _)
theorem visitsB_empty {fs : List Int} (h : floorsB fs = true) : visitsB fs [] = true := visitsB_iff.2 ⟨h, by simp [withinB], fun i _ _ hi => by simp at hi⟩

theorem implVisitsOkN (A A' : Option Addr) (c c' n : Nat) (fs vs : List Int) (w : World) (hn : n = vs.length) (h : Ints w A fs) (h' : Ints w A' vs) (hl : vs.length ≤ 140737488351232) :
    Calls Try.prog 7 #[.slice A fs.length c, .slice A' n c'] w fun e w' => e = .returned (.bool (visitsB fs vs)) ∧ Dr w w' := by subst hn; exact implVisitsOk A A' c c' fs vs w h h' hl
set_option maxHeartbeats 4000000 in
theorem wVisitsOk (A : Option Addr) (c : Nat) (bs : List Int) (w : World) (h0 : InRow .u8 w A c bs) :
    Calls Try.prog 3 #[.slice A bs.length c] w fun e w' => e = .returned (.bool true) ∧ Below w.heap.size w w' := by
  have HB := hide h0.byte
  obtain ⟨h, hc, hc2, -⟩ := h0
  have H : Hid (Sl w A (bvs bs)) := h
  clear h
  by_cases hl : ¬ bs.length ≤ 1048576
  · go_enter Try.func3, Try.ntmps3
    go_wp2
    go_ret
    exact ⟨rfl, Below.refl _ _⟩
  have hl : bs.length ≤ 1048576 := by omega
  clear hc2
  go_enter Try.func3, Try.ntmps3
  go_wp2_with fail
  refine (drawVisitsOk_any A c bs _ H.out HB.out hl hc).mono ?_
  rintro e w1 ⟨A0, c0, fs, A1, c1, vs, rfl, hc0, hc1, f0, f1, ⟨p1, p2⟩, b⟩
  have F0 := hide f0.1; have F1 := hide f1.1; have B := hide b
  clear f0 f1 b
  go_wp2_with fail
  refine (implVisitsOk A0 A1 c0 c1 fs vs _ F0.out F1.out (by omega)).mono ?_
  rintro e w2 ⟨rfl, D⟩
  replace F0 := hide (F0.out.dr D); replace F1 := hide (F1.out.dr D); replace B := hide (bthen B.out D.below); clear D
  go_wp2_with fail
  refine (specVisitsOk A0 A1 c0 c1 fs vs _ F0.out F1.out (by omega) (by omega)).mono ?_
  rintro e w3 ⟨rfl, D⟩
  replace F0 := hide (F0.out.dr D); replace F1 := hide (F1.out.dr D); replace B := hide (bthen B.out D.below); clear D
  cases hv : visitsB fs vs
  · go_wp2_with fail
    refine (implFloorsValid A0 c0 fs _ F0.out).mono ?_
    rintro e w4 ⟨rfl, D⟩
    replace B := hide (bthen B.out D.below); clear D
    cases hf : floorsB fs
    · go_wp2_with fail
      refine (alive_any _).mono ?_
      rintro e w9 ⟨rfl, b9⟩
      have B9 := hide b9
      clear b9
      go_wp2
      go_ret
      exact ⟨rfl, bthen B.out B9.out⟩
    · have hn : 0 < vs.length := by
        rcases Nat.eq_zero_or_pos vs.length with h | h
        · rw [List.eq_nil_of_length_eq_zero h, visitsB_empty hf] at hv; cases hv
        · exact h
      clear hv
      go_wp2_with fail
      refine (alive_any _).mono ?_
      rintro e w9 ⟨rfl, b9⟩
      have B9 := hide b9
      clear b9
      go_wp2
      go_ret
      exact ⟨rfl, bthen B.out B9.out⟩
  · by_cases hn : vs.length = 0
    · have hn' : ((vs.length : Int) == 0) = true := by simp [hn]
      clear hn
      go_wp2_with fail
      refine (alive_any _).mono ?_
      rintro e w9 ⟨rfl, b9⟩
      have B9 := hide b9
      clear b9
      go_wp2
      go_ret
      exact ⟨rfl, bthen B.out B9.out⟩
    · have hn' : ((vs.length : Int) == 0) = false := by simp; intro e; exact hn (by simp [e])
      obtain ⟨k, hk⟩ : ∃ k, vs.length = k + 1 := ⟨vs.length - 1, by omega⟩
      obtain ⟨b, off, z, rfl, hz, hcz⟩ := F1.out.at (k := k) (by omega)
      have hb : b < w3.heap.size := World.block_lt_of_cell? w3 _ hcz
      have T1 := hide (visitsB_tail hv); have T2 := hide (visitsB_twice (fs := fs) hk hz.out); have HK := hide hk
      have hk1 : ((vs.length : Int) - 1) = (k : Int) := by omega
      have hk2 : k < vs.length := by omega
      have hk3 : 1 ≤ vs.length := by omega
      have hcap : ¬ c1 = 1 ∨ c1 = 1 := by omega
      have F2 := hide (F1.out.drop 1)
      have hl2 : Hid (vs.length - 1 = (vs.drop 1).length) := by unfold Hid; simp
      clear hn hk hv
      have hk4 : (1 : Int) ≤ (vs.length : Int) := by omega
      have hk5 : (vs.length : Int) ≤ (c1 : Int) := by omega
      have hk6 : (0 : Int) ≤ (k : Int) := by omega
      have hk7 : (k : Int) < (vs.length : Int) := by omega
      have hk8 : IntKind.i64.wrap (k : Int) = (k : Int) := IntWalk.i64_in _ (by omega)
      rcases hcap with hcap | rfl
      all_goals
        go_wp2_with fail
        go_region_held3 (fun W => W.cell? ⟨b, off + k, none⟩ = some (.int .i64 z)) (first | (go_keep; done) | exact K7.out | exact K6.out | exact K5.out | exact K4.out) (first | (go_at_call 7; (first | (with_reducible refine (implVisitsOkN A0 _ c0 _ (vs.length - 1) fs (vs.drop 1) _ hl2.out ?_ ?_ ?_).mono ?_) | (with_reducible refine (implVisitsOkN A0 _ c0 _ 0 fs (vs.drop 1) _ (by have := hl2.out; omega) ?_ ?_ ?_).mono ?_)); exact F0.out; (first | exact F2.out | (exact Ints.short (by omega))); (simp; omega); rintro e w4 ⟨rfl, D⟩; have b4 := hide ((Below.refl w3.heap.size w3).drew.trans D.below); have z4 := b4.out.size; clear D; rw [T1.out]; have K4 := hide ((World.cell?_of_block (b4.out.block b hb)).trans hcz)) | (refine step_appG (by rfl) (.tmp 49) (.tmp 50) (by rfl) w3.heap.size _ _ [] (some ⟨b, off, none⟩) vs.length _ vs (by rfl) (by rfl) (by rfl) (own_nil_at (by first | exact at_new _ _ | exact at_old _ _ _ | exact at_new1 _ _ _) (by omega)) (by first | exact (F1.out.below b4.out).below ((Below.refl _ _).alloc (Nat.le_refl _) _) | exact (F1.out.below b4.out).below (((Below.refl _ _).alloc (Nat.le_refl _) _).alloc (by simp) _)) (by simp; omega) (by simp; omega) ?_; intro v5 w5 own5 b5 g5; replace own5 := hide own5; replace g5 := hide g5; replace b5 := hide (Below.trans (by first | exact b4.out.alloc (by omega) _ | exact (b4.out.alloc (by omega) _).alloc (by simp; omega) _) b5); have K5 := hide ((World.cell?_of_block (b5.out.block b hb)).trans hcz); have z5 := b5.out.size) | ((first | (refine step_app1 (by rfl) (.tmp 51) (.tmp 58) (by rfl) w3.heap.size _ _ _ z (by rfl) (by rfl) own5.out (by simp; omega) (by omega) ?_; intro v6 w6 own6 b6) | (have Z6 := lit_kept (at_new1 _ _ _) g5.out (by omega); refine step_appG (by rfl) (.tmp 51) (.tmp 58) (by rfl) w3.heap.size _ _ _ _ 1 1 [z] (by rfl) (by rfl) (by rfl) own5.out Z6 (by simp; omega) (by omega) ?_; intro v6 w6 own6 b6 _) | (have Z6 := lit_kept (at_old _ _ _) g5.out (by omega); refine step_appG (by rfl) (.tmp 51) (.tmp 58) (by rfl) w3.heap.size _ _ _ _ 1 1 [z] (by rfl) (by rfl) (by rfl) own5.out Z6 (by simp; omega) (by omega) ?_; intro v6 w6 own6 b6 _)); obtain ⟨A6, c6, rfl, -, f6⟩ := OwnI.form own6; replace f6 := hide f6; replace b6 := hide (b5.out.trans b6); clear own6; have K6 := hide ((World.cell?_of_block (b6.out.block b hb)).trans hcz)) | (go_at_call 7; (with_reducible refine (implVisitsOkN A0 A6 c0 c6 (vs.length + 1) fs (vs ++ [z]) w6 (by simp) ?_ ?_ ?_).mono ?_); exact F0.out.below b6.out; exact f6.out.1; (simp; omega); rintro e w7 ⟨rfl, D⟩; have b7 := hide (b6.out.trans (D.below.mono b6.out.size)); clear D; rw [T2.out]; have K7 := hide ((World.cell?_of_block (b7.out.block b hb)).trans hcz)))
        all_goals
          go_wp2_with fail
          go_ret
          exact ⟨rfl, bthen B.out b7.out⟩
end Go.Proofs.Ytmpcnpelgodciaa
