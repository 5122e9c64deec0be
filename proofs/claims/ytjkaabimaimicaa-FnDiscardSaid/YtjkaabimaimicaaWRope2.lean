import Derived.Test.YtjkaabimaimicaaFrame
import Derived.Test.YtjkaabimaimicaaDrawRope
import Derived.Test.YtjkaabimaimicaaAlive
import Derived.Test.YtjkaabimaimicaaWorst
namespace Go.Proofs.Ytjkaabimaimicaa
open Go.RowKit

theorem ropeB_drop {xs : List Int} (h : ropeB xs = true) (n : Nat) : ropeB (xs.drop n) = true :=
  ropeB_of (by have := ropeB_length h; simp; omega) fun x hx => ropeB_mem h x (List.mem_of_mem_drop hx)
theorem ropeB_take {xs : List Int} (h : ropeB xs = true) (n : Nat) : ropeB (xs.take n) = true :=
  ropeB_of (by have := ropeB_length h; simp; omega) fun x hx => ropeB_mem h x (List.mem_of_mem_take hx)
theorem ropeB_ten (xs : List Int) : ropeB (xs ++ [10]) = false := by
  cases h : ropeB (xs ++ [10])
  · rfl
  · have := ropeB_mem h 10 (by simp); omega
theorem ropeB_rev {xs : List Int} (h : ropeB xs = true) : ropeB xs.reverse = true :=
  ropeB_of (by have := ropeB_length h; simp; omega) fun x hx => ropeB_mem h x (by simpa using hx)
/-- A cut 's[k:]' at k ≤ len. -/
theorem Ints.cut {w : World} {A : Option Addr} {xs : List Int} (h : Ints w A xs) {k c : Nat} (hk : k ≤ xs.length) (hc : xs.length ≤ c) : Ints w (if c = k then A else A.map (·.add k)) (xs.drop k) := by
  by_cases h0 : k = xs.length
  · subst h0; rw [List.drop_length]; exact .inl rfl
  · obtain ⟨b, off, x, rfl, -, -⟩ := h.at (k := 0) (by omega)
    rw [if_neg (by omega)]
    have := h.drop k
    simp only [Option.map_some]
    rwa [show (Addr.add ⟨b, off, none⟩ k : Addr) = ⟨b, off + k, none⟩ from by unfold Addr.add; split <;> simp_all]

theorem wRopeValid (A : Option Addr) (c : Nat) (bs : List Int) (w : World) (h0 : InRow .u8 w A c bs) :
    Calls Try.prog 12 #[.slice A bs.length c] w fun e w' => e = .returned (.bool true) ∧ Below w.heap.size w w' := by
  have HB := hide h0.byte
  obtain ⟨h, hc, hc2, -⟩ := h0
  have H : Hid (Sl w A (bvs bs)) := h
  clear h
  by_cases hl : ¬ bs.length ≤ 1048576
  · go_enter Try.func12, Try.ntmps12
    go_wp2
    go_ret
    exact ⟨rfl, Below.refl _ _⟩
  have hl : bs.length ≤ 1048576 := by omega
  clear hc2
  go_enter Try.func12, Try.ntmps12
  go_wp2_with fail
  refine (drawRopeValid_any A c bs _ H.out HB.out hl hc).mono ?_
  rintro e w1 ⟨A1, c1, xs, rfl, hc1, f, ⟨p1, -⟩, b⟩
  have F := hide f.1; have B := hide b
  clear f b
  have hL := B.out.size
  have h10 := hide (ropeB_ten xs)
  have fa : ∀ o, Ints (w1.alloc o) A1 xs := fun o => F.out.below ((Below.refl _ _).alloc (Nat.le_refl _) o)
  have FA := hide fa
  clear fa
  go_wp2_with fail
  refine (implRopeValid A1 c1 xs _ F.out (by omega)).mono ?_
  rintro e w' ⟨rfl, rfl⟩
  go_wp2_with fail
  refine (specRopeValid A1 c1 xs _ F.out (by omega)).mono ?_
  rintro e w' ⟨rfl, rfl⟩
  cases hr : ropeB xs
  · go_wp2_with (first | (at_builtin; refine wp_app rfl (.tmp 29) (.tmp 30) rfl w1.heap.size _ _ [] A1 xs.length c1 xs rfl rfl rfl (OwnI.lit [] #[] rfl (Nat.le_refl _) (by simp)) (FA.out _) (by simp; omega) (by simp) ?_; intro v1 w2 own1 b1) | (at_builtin; refine wp_app1 rfl (.tmp 31) (.tmp 32) rfl w1.heap.size _ v1 xs 10 rfl rfl own1 (by omega) (by have := b1.size; simp at this; omega) ?_; intro v2 w3 own2 b2))
    obtain ⟨ys, hys⟩ : ∃ ys, ys = xs ++ [10] := ⟨_, rfl⟩
    rw [← hys] at own2
    have hyl : ys.length ≤ 27 := by rw [hys]; simp; omega
    have hy10 : ropeB ys = false := by rw [hys]; exact h10.out
    obtain ⟨A3, c3, rfl, -, f3⟩ := own2.form
    have F3 := hide f3.1
    have B3 := hide (bthen B.out (((Below.refl _ _).alloc (Nat.le_refl _) _).trans (b1.trans b2)))
    clear hys own1 own2 b1 b2 f3
    refine (implRopeValid A3 c3 ys _ F3.out (by omega)).mono ?_
    rintro e w' ⟨rfl, rfl⟩
    go_wp2_with fail
    refine (alive_any _).mono ?_
    rintro e w9 ⟨rfl, b9⟩
    have B9 := hide b9
    clear b9
    go_wp2_with fail
    go_ret
    exact ⟨rfl, bthen B3.out B9.out⟩
  · have hrd := hide (ropeB_drop hr 1)
    by_cases h0 : xs.length = 0
    · have h0' : ((xs.length : Int) == 0) = true := by simp [h0]
      clear h0
      go_wp2_with (first | (at_builtin; refine wp_app rfl (.tmp 29) (.tmp 30) rfl w1.heap.size _ _ [] A1 xs.length c1 xs rfl rfl rfl (OwnI.lit [] #[] rfl (Nat.le_refl _) (by simp)) (FA.out _) (by simp; omega) (by simp) ?_; intro v1 w2 own1 b1) | (at_builtin; refine wp_app1 rfl (.tmp 31) (.tmp 32) rfl w1.heap.size _ v1 xs 10 rfl rfl own1 (by omega) (by have := b1.size; simp at this; omega) ?_; intro v2 w3 own2 b2))
      obtain ⟨ys, hys⟩ : ∃ ys, ys = xs ++ [10] := ⟨_, rfl⟩
      rw [← hys] at own2
      have hyl : ys.length ≤ 27 := by rw [hys]; simp; omega
      have hy10 : ropeB ys = false := by rw [hys]; exact h10.out
      obtain ⟨A3, c3, rfl, -, f3⟩ := own2.form
      have F3 := hide f3.1
      have B3 := hide (bthen B.out (((Below.refl _ _).alloc (Nat.le_refl _) _).trans (b1.trans b2)))
      clear hys own1 own2 b1 b2 f3
      refine (implRopeValid A3 c3 ys _ F3.out (by omega)).mono ?_
      rintro e w' ⟨rfl, rfl⟩
      go_wp2_with fail
      refine (alive_any _).mono ?_
      rintro e w9 ⟨rfl, b9⟩
      have B9 := hide b9
      clear b9
      go_wp2_with fail
      go_ret
      exact ⟨rfl, bthen B3.out B9.out⟩
    · have h0' : ((xs.length : Int) == 0) = false := by simp; intro e; exact h0 (by simp [e])
      have h1 : 1 ≤ xs.length := by omega
      clear h0
      obtain ⟨b, off, x, rfl, -, -⟩ := F.out.at (k := 0) (by omega)
      by_cases hcap : c1 = 1
      · subst hcap
        have K2 := hide (Ints.short (w := w1) (A := some ⟨b, off, none⟩) (xs := xs) (k := 1) (by omega))
        go_wp2_with fail
        refine (calls_len (implRopeValid _ _ (xs.drop 1) _ K2.out (by simp; omega)) (by simp <;> omega)).mono ?_
        rintro e w' ⟨rfl, rfl⟩
        rw [hrd.out]
        go_wp2_with (first | (at_builtin; refine wp_app rfl (.tmp 29) (.tmp 30) rfl w1.heap.size _ _ [] (some ⟨b, off, none⟩) xs.length 1 xs rfl rfl rfl (OwnI.lit [] #[] rfl (Nat.le_refl _) (by simp)) (FA.out _) (by simp; omega) (by simp) ?_; intro v1 w2 own1 b1) | (at_builtin; refine wp_app1 rfl (.tmp 31) (.tmp 32) rfl w1.heap.size _ v1 xs 10 rfl rfl own1 (by omega) (by have := b1.size; simp at this; omega) ?_; intro v2 w3 own2 b2))
        obtain ⟨ys, hys⟩ : ∃ ys, ys = xs ++ [10] := ⟨_, rfl⟩
        rw [← hys] at own2
        have hyl : ys.length ≤ 27 := by rw [hys]; simp; omega
        have hy10 : ropeB ys = false := by rw [hys]; exact h10.out
        obtain ⟨A3, c3, rfl, -, f3⟩ := own2.form
        have F3 := hide f3.1
        have B3 := hide (bthen B.out (((Below.refl _ _).alloc (Nat.le_refl _) _).trans (b1.trans b2)))
        clear hys own1 own2 b1 b2 f3
        refine (implRopeValid A3 c3 ys _ F3.out (by omega)).mono ?_
        rintro e w' ⟨rfl, rfl⟩
        go_wp2_with fail
        refine (alive_any _).mono ?_
        rintro e w9 ⟨rfl, b9⟩
        have B9 := hide b9
        clear b9
        go_wp2_with fail
        go_ret
        exact ⟨rfl, bthen B3.out B9.out⟩
      · have K2 := hide (F.out.drop 1)
        go_wp2_with fail
        refine (calls_len (implRopeValid _ _ (xs.drop 1) _ K2.out (by simp; omega)) (by simp <;> omega)).mono ?_
        rintro e w' ⟨rfl, rfl⟩
        rw [hrd.out]
        go_wp2_with (first | (at_builtin; refine wp_app rfl (.tmp 29) (.tmp 30) rfl w1.heap.size _ _ [] (some ⟨b, off, none⟩) xs.length c1 xs rfl rfl rfl (OwnI.lit [] #[] rfl (Nat.le_refl _) (by simp)) (FA.out _) (by simp; omega) (by simp) ?_; intro v1 w2 own1 b1) | (at_builtin; refine wp_app1 rfl (.tmp 31) (.tmp 32) rfl w1.heap.size _ v1 xs 10 rfl rfl own1 (by omega) (by have := b1.size; simp at this; omega) ?_; intro v2 w3 own2 b2))
        obtain ⟨ys, hys⟩ : ∃ ys, ys = xs ++ [10] := ⟨_, rfl⟩
        rw [← hys] at own2
        have hyl : ys.length ≤ 27 := by rw [hys]; simp; omega
        have hy10 : ropeB ys = false := by rw [hys]; exact h10.out
        obtain ⟨A3, c3, rfl, -, f3⟩ := own2.form
        have F3 := hide f3.1
        have B3 := hide (bthen B.out (((Below.refl _ _).alloc (Nat.le_refl _) _).trans (b1.trans b2)))
        clear hys own1 own2 b1 b2 f3
        refine (implRopeValid A3 c3 ys _ F3.out (by omega)).mono ?_
        rintro e w' ⟨rfl, rfl⟩
        go_wp2_with fail
        refine (alive_any _).mono ?_
        rintro e w9 ⟨rfl, b9⟩
        have B9 := hide b9
        clear b9
        go_wp2_with fail
        go_ret
        exact ⟨rfl, bthen B3.out B9.out⟩
end Go.Proofs.Ytjkaabimaimicaa
