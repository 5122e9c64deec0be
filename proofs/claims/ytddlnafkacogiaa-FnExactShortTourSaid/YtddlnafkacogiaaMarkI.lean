/- Rows of int in a range of blocks; markIntS and heldIntS. -/
import Derived.Test.YtddlnafkacogiaaIntS
import Derived.Test.YtddlnafkacogiaaMem
namespace Go.Proofs.Ytddlnafkacogiaa
open Go.RowKit

/-- A row of int in blocks lo..hi, which may be written. -/
def IW (lo hi : Nat) (w : World) (A : Option Addr) (xs : List Int) : Prop := OS lo hi w A xs.length (ivs xs)
theorem IW.ints {lo hi : Nat} {w : World} {A : Option Addr} {xs : List Int} (h : IW lo hi w A xs) : Ints w A xs := h.sl
theorem IW.only {lo hi lo' hi' : Nat} {w w' : World} {A : Option Addr} {xs : List Int} (h : IW lo' hi' w A xs) (o : Only lo hi w w') (hd : hi' ≤ lo ∨ hi ≤ lo') : IW lo' hi' w' A xs := OS.only h o hd
theorem IW.below {lo hi : Nat} {w w' : World} {A : Option Addr} {xs : List Int} (h : IW lo hi w A xs) (b : Below w.heap.size w w') : IW lo hi w' A xs := OS.below h b
theorem IW.mono {lo hi lo' hi' : Nat} {w : World} {A : Option Addr} {xs : List Int} (h : IW lo hi w A xs) (h1 : lo' ≤ lo) (h2 : hi ≤ hi') : IW lo' hi' w A xs := OS.mono h h1 h2
theorem iw_of {lo : Nat} {w : World} {A : Option Addr} {xs : List Int} (h : FrI lo w A xs) : IW lo w.heap.size w A xs := by
  refine ⟨h.1, ?_, ?_, fun e => by simp [List.eq_nil_of_length_eq_zero e, ivs]⟩
  · rcases h.2 with h2 | ⟨b, off, e, h1, h2, -⟩
    · exact .inl h2
    · exact .inr ⟨b, off, e, h1, h2⟩
  · rcases h.2 with h2 | ⟨b, off, e, h1, h2, h3⟩
    · intro b off k _ hk; rw [ivs_length] at hk; omega
    · intro b' off' k e' hk
      rw [e] at e'; injection e' with e'; injection e' with e1 e2; subst e1 e2
      rw [ivs_length] at hk; exact h3 k hk
theorem IW.at {lo hi : Nat} {w : World} {A : Option Addr} {xs : List Int} {k : Nat} (h : IW lo hi w A xs) (hk : k < xs.length) :
    ∃ b off x, A = some ⟨b, off, none⟩ ∧ Hid (lo ≤ b ∧ b < hi) ∧ Hid (xs[k]? = some x) ∧ w.cell? ⟨b, off + k, none⟩ = some (.int .i64 x) ∧ w.frozen? ⟨b, off + k, none⟩ = false := by
  obtain ⟨b, off, x, rfl, hx, hc⟩ := h.ints.at hk
  refine ⟨b, off, x, rfl, ?_, hx, hc, h.nf b off k rfl (by rw [ivs_length]; exact hk)⟩
  rcases h.rg with h0 | ⟨b', off', e, h1, h2⟩
  · omega
  · injection e with e; injection e with e1 e2; subst e1 e2; exact ⟨h1, h2⟩
theorem IW.set {lo hi : Nat} {w : World} {b off : Nat} {xs : List Int} (h : IW lo hi w (some ⟨b, off, none⟩) xs) (k : Nat) (x : Int) : IW lo hi (w.setCell ⟨b, off + k, none⟩ (.int .i64 x)) (some ⟨b, off, none⟩) (xs.set k x) := by
  have := OS.set h k (.int .i64 x)
  rw [show (ivs xs).set k (.int .i64 x) = ivs (xs.set k x) from by simp [ivs, iv, List.map_set]] at this
  unfold IW; rw [List.length_set]; exact this

/-- The first j numbers replaced by k, k + 1, .. -/
def mkI (xs : List Int) (k : Int) (j : Nat) : List Int := (List.range j).map (fun i : Nat => k + (i : Int)) ++ xs.drop j
theorem mkI_zero (xs : List Int) (k : Int) : mkI xs k 0 = xs := by simp [mkI]
theorem mkI_len (xs : List Int) (k : Int) {j : Nat} (h : j ≤ xs.length) : (mkI xs k j).length = xs.length := by simp [mkI]; omega
theorem mkI_set {xs : List Int} {k : Int} {j : Nat} (h : j < xs.length) : (mkI xs k j).set j (k + j) = mkI xs k (j + 1) := by
  unfold mkI
  rw [List.set_append_right _ _ (by simp), List.range_succ]
  simp only [List.map_append, List.length_map, List.length_range, Nat.sub_self, List.map_cons, List.map_nil]
  rw [List.drop_eq_getElem_cons h, List.append_assoc]
  rfl
theorem mkI_get {xs : List Int} {k : Int} {j : Nat} (h : j < xs.length) : (mkI xs k xs.length)[j]? = some (k + j) := by
  simp [mkI, h]
theorem markIntS_any (A : Option Addr) (c lo hi : Nat) (xs : List Int) (k : Int) (w : World) (h : IW lo hi w A xs) (hl : xs.length ≤ 1048576) (k0 : 0 ≤ k) (k1 : k ≤ 1000000000) (_hh : hi ≤ w.heap.size) :
    Calls Try.prog 11 #[.slice A xs.length c, .int .i64 k] w fun e w' => e = .returned (.int .i64 (k + xs.length)) ∧ IW lo hi w' A (mkI xs k xs.length) ∧ Only lo hi w w' := by
  have H := hide h; clear h
  go_enter Try.func11, Try.ntmps11
  go_wp2
  go_loopw [1, 5] (fun q i wr => ∃ j : Nat, j ≤ xs.length ∧ i = .int .i64 j ∧ q = .int .i64 (k + j) ∧ Hid (IW lo hi wr A (mkI xs k j)) ∧ Hid (Only lo hi w wr)) (fun _ i _ => xs.length - (intOf i).toNat)
  case atStart => exact ⟨0, by omega, rfl, by go_num, by rw [mkI_zero]; exact H, Only.refl _ _ _⟩
  case round =>
    obtain ⟨j, hj, rfl, rfl, HO, HG⟩ := hrel
    by_cases hlt : j < xs.length
    · obtain ⟨b, off, x, rfl, hb, -, hc, hf⟩ := HO.out.at (k := j) (by rw [mkI_len xs k hj]; exact hlt)
      have HS := hide (HO.out.set j (k + j))
      rw [mkI_set hlt] at HS
      go_wp2
      go_roundw
      case rel => exact ⟨j + 1, by omega, by go_num, by go_num, HS, HG.out.setCell hb.out.1 hb.out.2 _⟩
      case measure => simp [intOf]; omega
    · obtain rfl : j = xs.length := by omega
      go_wp2
      go_ret
      exact ⟨rfl, HO.out, HG.out⟩
theorem heldIntS_any (A : Option Addr) (c : Nat) (xs : List Int) (k : Int) (w : World) (h : Ints w A (mkI xs k xs.length)) (hl : xs.length ≤ 1048576) (k0 : 0 ≤ k) (k1 : k ≤ 1000000000) :
    Calls Try.prog 12 #[.slice A xs.length c, .int .i64 k] w fun e w' => e = .returned (.int .i64 (k + xs.length)) ∧ Dr w w' := by
  have H := hide h; clear h
  go_enter Try.func12, Try.ntmps12
  go_wp2
  go_loopw [1, 5] (fun q i wr => ∃ j : Nat, j ≤ xs.length ∧ i = .int .i64 j ∧ q = .int .i64 (k + j) ∧ Hid (Dr w wr)) (fun _ i _ => xs.length - (intOf i).toNat)
  case atStart => exact ⟨0, by omega, rfl, by go_num, Dr.refl _⟩
  case round =>
    obtain ⟨j, hj, rfl, rfl, hD⟩ := hrel
    by_cases hlt : j < xs.length
    · obtain ⟨b, off, x, rfl, hx, hc⟩ := (H.out.dr hD.out).at (k := j) (by rw [mkI_len xs k (Nat.le_refl _)]; exact hlt)
      obtain rfl : x = k + j := by have := hx.out; rw [mkI_get hlt] at this; injection this with this; exact this.symm
      have e : ((k + (j : Int)) != (k + (j : Int))) = false := by simp
      go_wp2
      go_roundw
      case rel => exact ⟨j + 1, by omega, by go_num, by go_num, hD⟩
      case measure => simp [intOf]; omega
    · obtain rfl : j = xs.length := by omega
      go_wp2
      go_ret
      exact ⟨rfl, hD.out⟩
end Go.Proofs.Ytddlnafkacogiaa
