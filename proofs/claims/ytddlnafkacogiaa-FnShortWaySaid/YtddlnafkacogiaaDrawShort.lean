import Derived.Test.YtddlnafkacogiaaDrawTour
namespace Go.Proofs.Ytddlnafkacogiaa
open Go.RowKit

def DrawISV (w : World) (e : Ending) (w' : World) : Prop :=
  ∃ (A : Option Addr) (c : Nat) (fs : List Int) (a : Int) (A' : Option Addr) (c' : Nat) (xs : List Int), e = .returned (.tuple #[.slice A fs.length c, .int .i64 a, .slice A' xs.length c']) ∧ fs.length ≤ 9 ∧ xs.length ≤ 10 ∧ xs.length ≤ c' ∧ FrI w.heap.size w' A fs ∧ FrI w.heap.size w' A' xs ∧ Below w.heap.size w w'
theorem drawShortTour_any (A : Option Addr) (c : Nat) (bs : List Int) (w : World) (h : Sl w A (bvs bs)) (hb : ∀ x ∈ bs, 0 ≤ x ∧ x ≤ 255) (hl : bs.length ≤ 1048576) (hc : bs.length ≤ c) :
    Calls Try.prog 15 #[.slice A bs.length c] w (DrawISV w) := by
  have H := hide h; have HB := hide hb; clear h hb
  go_enter Try.func15, Try.ntmps15
  go_wp2_with fail
  refine (l20Open_any A c bs _ H.out HB.out hl hc).mono ?_
  rintro e w1 ⟨R, rfl, hR, r, b⟩
  replace r := hide r; have B := hide b; clear b
  have hRw := r.out.lt
  go_wp2_with fail
  refine (l20Floors_any R _ _ _ r.out (by omega) (by omega) (by omega)).mono ?_
  rintro e w2 ⟨A', c', fs, rfl, hc', f, hp, r', g⟩
  replace f := hide f; have hp : fs.length ≤ 9 := hp; have hB := B.out.size; replace B := hide (B.out.grown g B.out.size (by simpa using hR))
  have hg := g.size
  replace r := hide r'
  clear g r'
  have h1 : (fs.length : Int) < 1 ∨ ¬ ((fs.length : Int) < 1) := by omega
  rcases h1 with h1 | h1
  all_goals
    go_wp2_with fail
    refine (pick_any R _ _ _ r.out (by omega) (by omega)).mono ?_
    rintro e w2 ⟨y, rfl, ya, yb, r', g, z⟩
    replace f := hide (f.out.grown g (by omega))
    replace r := hide r'; replace B := hide (B.out.grown g B.out.size (by simpa using hR)); clear r' g z
    go_wp2_with fail
    refine (pick_any R _ _ _ r.out (by omega) (by omega)).mono ?_
    rintro e w2 ⟨z, rfl, za, zb, r', g, z⟩
    replace f := hide (f.out.grown g (by omega))
    replace r := hide r'; replace B := hide (B.out.grown g B.out.size (by simpa using hR)); clear r' g z
    go_wp2_with fail
    refine (l20Visits_any R _ A' c' fs.length _ _ r.out hp (by omega) (by omega) (by omega)).mono ?_
    rintro e w3 ⟨A2, c2, ys, rfl, hc2, f2, hp2, -, g⟩
    replace f := hide (f.out.grown g (by omega)); replace f2 := hide f2; have hB2 := B.out.size; replace B := hide (B.out.grown g B.out.size (by simpa using hR))
    clear g r
    go_wp2_with fail
    go_ret3
    exact ⟨A', c', fs, _, A2, c2, ys, rfl, hp, hp2, hc2, f.out.mono hB, f2.out.mono hB2, B.out⟩
theorem drawShortWay_any (A : Option Addr) (c : Nat) (bs : List Int) (w : World) (h : Sl w A (bvs bs)) (hb : ∀ x ∈ bs, 0 ≤ x ∧ x ≤ 255) (hl : bs.length ≤ 1048576) (hc : bs.length ≤ c) :
    Calls Try.prog 21 #[.slice A bs.length c] w (DrawISV w) := by
  have H := hide h; have HB := hide hb; clear h hb
  go_enter Try.func21, Try.ntmps21
  go_wp2_with fail
  refine (drawShortTour_any A c bs _ H.out HB.out hl hc).mono ?_
  rintro e w1 ⟨A0, c0, fs, a, A1, c1, xs, rfl, l0, l1, lc, f0, f1, b⟩
  have F0 := hide f0; have F1 := hide f1; have B := hide b
  clear f0 f1 b
  go_wp2_with fail
  go_ret3
  exact ⟨A0, c0, fs, a, A1, c1, xs, rfl, l0, l1, lc, F0.out, F1.out, B.out⟩
/-- Is a number in a list. -/
def hasB (xs : List Int) (n : Int) : Bool := decide (n ∈ xs)
theorem hasInt_any (A : Option Addr) (c m : Nat) (xs : List Int) (n : Int) (w : World) (hm : m = xs.length) (h : Ints w A xs) (hl : xs.length ≤ 1048576) :
    Calls Try.prog 19 #[.slice A m c, .int .i64 n] w fun e w' => e = .returned (.bool (hasB xs n)) ∧ w = w' := by
  subst hm
  have H := hide h; clear h
  go_enter Try.func19, Try.ntmps19
  go_wp2_with fail
  go_loop [5] (fun i => ∃ k : Nat, k ≤ xs.length ∧ i = .int .i64 (k : Int) ∧ Hid (∀ (j : Nat) x, j < k → xs[j]? = some x → x ≠ n)) (fun i => xs.length - (intOf i).toNat)
  case atStart => exact ⟨0, by omega, rfl, fun j x hj => by omega⟩
  case round =>
    obtain ⟨k, hk, rfl, hA⟩ := hrel
    by_cases hlt : k < xs.length
    · obtain ⟨b, off, x, rfl, hx, hc⟩ := H.out.at hlt
      cases he : (x == n)
      · go_wp2_with fail
        go_round
        case rel => exact ⟨k + 1, by omega, by go_num, fun j y hj hy => by
          rcases Nat.lt_succ_iff_lt_or_eq.1 hj with h | rfl
          · exact hA.out j y h hy
          · rw [hx.out] at hy; injection hy with hy; subst hy; simpa using he⟩
        case measure => simp [intOf]; omega
      · have HE := hide he
        go_wp2_with fail
        go_ret
        exact ⟨ret_bool (by have : x = n := by simpa using HE.out
                            subst this; unfold hasB; exact (decide_eq_true (List.mem_of_getElem? hx.out)).symm), rfl⟩
    · go_wp2_with fail
      go_ret
      exact ⟨ret_bool (by
        unfold hasB; symm; simp only [decide_eq_false_iff_not]
        intro hm; obtain ⟨j, hj⟩ := List.mem_iff_getElem?.1 hm
        exact hA.out j n (by have := getElem?_lt hj; omega) hj rfl), rfl⟩
theorem sameInts_any (A A' : Option Addr) (c c' : Nat) (xs ys : List Int) (w : World) (h : Ints w A xs) (h' : Ints w A' ys) (hl : xs.length ≤ 1048576) :
    Calls Try.prog 16 #[.slice A xs.length c, .slice A' ys.length c'] w fun e w' => e = .returned (.bool (eqL xs ys)) ∧ Dr w w' := by
  have H := hide h; have H' := hide h'; clear h h'
  by_cases hn : xs.length = ys.length
  · have HN := hide hn
    have hn1 : ((xs.length : Int) != (ys.length : Int)) = false := by simp; omega
    clear hn
    go_enter Try.func16, Try.ntmps16
    go_wp2
    go_loopw [5] (fun i wr => ∃ k : Nat, k ≤ xs.length ∧ i = .int .i64 k ∧ Hid (Dr w wr) ∧ Hid (xs.take k = ys.take k)) (fun i _ => xs.length - (intOf i).toNat)
    case atStart => exact ⟨0, by omega, rfl, Dr.refl _, by simp [Hid]⟩
    case round =>
      obtain ⟨k, hk, rfl, hD, HE⟩ := hrel
      by_cases hlt : k < xs.length
      · have hlt' : k < ys.length := by have := HN.out; omega
        obtain ⟨b, off, x, rfl, hx, hc⟩ := (H.out.dr hD.out).at hlt
        obtain ⟨b', off', y, rfl, hy, hc'⟩ := (H'.out.dr hD.out).at hlt'
        go_wp2
        go_quiet (fail)
        go_wp2
        case roundEnd =>
          go_roundw
          case rel =>
            have e : x = y := by rename_i h; simpa using h
            exact ⟨k + 1, by omega, by go_num, hD.out.more _, eqL_step HE hx hy e⟩
          case measure => simp [intOf]; omega
        go_ret
        exact ⟨ret_bool (eqL_bad hx hy (by rename_i h; simpa using h)).symm, hD.out.more _⟩
      · go_wp2
        go_ret
        exact ⟨ret_bool (eqL_done HE (by omega) (by have := HN.out; omega)).symm, hD.out⟩
  · have hn1 : ((xs.length : Int) != (ys.length : Int)) = true := by simp; omega
    go_enter Try.func16, Try.ntmps16
    go_wp2
    go_ret
    exact ⟨ret_bool (eqL_len hn).symm, Dr.refl _⟩
end Go.Proofs.Ytddlnafkacogiaa
