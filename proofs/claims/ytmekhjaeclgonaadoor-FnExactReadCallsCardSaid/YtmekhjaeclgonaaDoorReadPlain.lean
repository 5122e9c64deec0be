/- Texts of calls: plain lists of bytes. -/
import Derived.Test.YtmekhjaeclgonaaDoorCallsE
import Derived.Lib.SplitLaws
namespace Go.Proofs.YtmekhjaeclgonaaDoor
open Go.RowKit

/-- The pieces between slashes. -/
def headPut (p : List UInt8) : List (List UInt8) → List (List UInt8)
  | [] => [p]
  | x :: xs => (p ++ x) :: xs
def cutL : List UInt8 → List (List UInt8)
  | [] => [[]]
  | b :: l => if b = 47 then [] :: cutL l else headPut [b] (cutL l)
theorem headPut_ne (p : List UInt8) (L : List (List UInt8)) : headPut p L ≠ [] := by cases L <;> simp [headPut]
theorem cutL_ne (l : List UInt8) : cutL l ≠ [] := by
  cases l with
  | nil => simp [cutL]
  | cons b l =>
    unfold cutL
    split
    · simp
    · exact headPut_ne _ _
theorem headPut_nil {L : List (List UInt8)} (h : L ≠ []) : headPut [] L = L := by
  cases L with
  | nil => exact absurd rfl h
  | cons x xs => rfl
theorem headPut_put (p q : List UInt8) (L : List (List UInt8)) : headPut p (headPut q L) = headPut (p ++ q) L := by cases L <;> simp [headPut]
theorem cut_slash (l : List UInt8) : cutL (47 :: l) = [] :: cutL l := by rw [cutL, if_pos rfl]
theorem cut_other {b : UInt8} {l : List UInt8} (h : b ≠ 47) : cutL (b :: l) = headPut [b] (cutL l) := by rw [cutL, if_neg h]
theorem cut_app {p : List UInt8} (l : List UInt8) (h : 47 ∉ p) : cutL (p ++ 47 :: l) = p :: cutL l := by
  induction p with
  | nil => exact cut_slash l
  | cons b r ih =>
    rw [List.cons_append, cut_other (fun e => h (by simp [e])), ih (fun e => h (by simp [e]))]; rfl
theorem cut_none {p : List UInt8} (h : 47 ∉ p) : cutL p = [p] := by
  induction p with
  | nil => rfl
  | cons b r ih => rw [cut_other (fun e => h (by simp [e])), ih (fun e => h (by simp [e]))]; rfl
/-- The pieces put together again. -/
def joinL : List (List UInt8) → List UInt8
  | [] => []
  | [x] => x
  | x :: y :: r => x ++ 47 :: joinL (y :: r)
theorem join_put (b : UInt8) (L : List (List UInt8)) (h : L ≠ []) : joinL (headPut [b] L) = b :: joinL L := by
  match L, h with
  | [x], _ => rfl
  | x :: y :: r, _ => rfl
theorem join_cut : ∀ l : List UInt8, joinL (cutL l) = l
  | [] => rfl
  | b :: l => by
    have ih := join_cut l
    by_cases h : b = 47
    · subst h
      rw [cut_slash]
      have hn := cutL_ne l
      cases hc : cutL l with
      | nil => exact absurd hc hn
      | cons x xs => rw [hc] at ih; show 47 :: joinL (x :: xs) = _; rw [ih]
    · rw [cut_other h, join_put b _ (cutL_ne l), ih]
theorem put_app (p : List UInt8) (L M : List (List UInt8)) (h : L ≠ []) : headPut p L ++ M = headPut p (L ++ M) := by
  cases L with
  | nil => exact absurd rfl h
  | cons x xs => rfl
theorem cut_more : ∀ l : List UInt8, cutL (l ++ [47]) = cutL l ++ [[]]
  | [] => rfl
  | b :: l => by
    have ih := cut_more l
    by_cases h : b = 47
    · subst h; rw [List.cons_append, cut_slash, cut_slash, ih]; rfl
    · rw [List.cons_append, cut_other h, cut_other h, ih, put_app _ _ _ (cutL_ne l)]
/-- strings.Split is the same. -/
theorem splitK_other {b : UInt8} (h : b ≠ 47) (k : Nat) (l : List UInt8) : Lib.splitK [47] 0 k (b :: l) = headPut [b] (Lib.splitK [47] 0 k l) := by
  cases k with
  | zero => rfl
  | succ k =>
    have hp : ([47] : List UInt8).isPrefixOf (b :: l) = false := by simp [List.isPrefixOf, Ne.symm h]
    have hix : Lib.index (b :: l) [47] = if Lib.index l [47] == -1 then -1 else Lib.index l [47] + 1 := by rw [Lib.index, hp]; simp
    have hge := Lib.index_ge l [47]
    unfold Lib.splitK
    by_cases hm : Lib.index l [47] = -1
    · rw [if_pos (by rw [hix, if_pos (beq_iff_eq.2 hm)]; rfl), if_pos (beq_iff_eq.2 hm)]; rfl
    · obtain ⟨j, hj⟩ : ∃ j : Nat, Lib.index l [47] = j := ⟨(Lib.index l [47]).toNat, by omega⟩
      have hix' : Lib.index (b :: l) [47] = ((j + 1 : Nat) : Int) := by rw [hix, if_neg (fun e => hm (beq_iff_eq.1 e)), hj]; omega
      rw [if_neg (by rw [hix']; intro e; have := beq_iff_eq.1 e; omega), if_neg (fun e => hm (beq_iff_eq.1 e)), hix', hj]
      simp [headPut]
theorem splitK_cut : ∀ s : List UInt8, Lib.splitK [47] 0 (Lib.count s [47]) s = cutL s
  | [] => by rw [Lib.count_miss (by simp [Lib.index])]; rfl
  | b :: l => by
    have ih := splitK_cut l
    by_cases h : b = 47
    · subst h
      have hix : Lib.index (47 :: l) [47] = 0 := by rw [Lib.index]; simp [List.isPrefixOf]
      rw [Lib.count_cons_eq, Nat.add_comm, cut_slash, ← ih]
      conv => lhs; unfold Lib.splitK
      rw [if_neg (by rw [hix]; decide), hix]
      simp
    · rw [Lib.count_cons_ne b 47 l h, splitK_other h, ih, cut_other h]
theorem str_data (s : ByteArray) : str s.data.toList = s := by apply ByteArray.ext; simp [str]
theorem data_str (l : List UInt8) : (str l).data.toList = l := rfl
theorem split_str (l : List UInt8) : Lib.splitB ⟨#[47]⟩ 0 (Lib.countB (str l) ⟨#[47]⟩) (str l) = (cutL l).map str := by
  have h1 := Lib.splitB_data ⟨#[47]⟩ 0 (Lib.countB (str l) ⟨#[47]⟩) (str l)
  have h2 : Lib.splitK [47] 0 (Lib.count l [47]) l = cutL l := splitK_cut l
  have h3 : (Lib.splitB ⟨#[47]⟩ 0 (Lib.countB (str l) ⟨#[47]⟩) (str l)).map (·.data.toList) = cutL l := h1.trans h2
  rw [← h3, List.map_map]
  conv => lhs; rw [← List.map_id (Lib.splitB _ _ _ _)]
  exact List.map_congr_left fun s _ => (str_data s).symm
theorem count_cut (l : List UInt8) : Lib.countB (str l) ⟨#[47]⟩ + 1 = (cutL l).length := by
  have h := Lib.splitB_all ⟨#[47]⟩ (Nat.le_refl _) 0 _ (str l) rfl
  rw [split_str, List.length_map] at h
  exact h.symm
theorem cut_len : ∀ l : List UInt8, (cutL l).length ≤ l.length + 1
  | [] => by simp [cutL]
  | b :: l => by
    have ih := cut_len l
    by_cases h : b = 47
    · subst h; rw [cut_slash]; simp only [List.length_cons]; omega
    · rw [cut_other h]
      have : (headPut [b] (cutL l)).length = (cutL l).length := by
        have hn := cutL_ne l
        cases hc : cutL l with
        | nil => exact absurd hc hn
        | cons x xs => rfl
      rw [this]; simp only [List.length_cons]; omega
/-- A text of truths. -/
def bitOk (b : UInt8) : Bool := b == 48 || b == 49
def readT (l : List UInt8) : List Bool × Bool := if l.all bitOk then (l.map (· == 49), true) else ([], false)
theorem readT_yes {l : List UInt8} (h : l.all bitOk = true) : readT l = (l.map (· == 49), true) := by unfold readT; rw [h]; rfl
theorem readT_no {l : List UInt8} (h : l.all bitOk = false) : readT l = ([], false) := by unfold readT; rw [h]; rfl
theorem bits_back {l : List UInt8} (h : l.all bitOk = true) : bits (l.map (· == 49)) = l := by
  unfold bits
  rw [List.map_map]
  conv => rhs; rw [← List.map_id l]
  refine List.map_congr_left fun b hb => ?_
  have := List.all_eq_true.1 h b hb
  unfold bitOk at this
  rw [Bool.or_eq_true, beq_iff_eq, beq_iff_eq] at this
  rcases this with rfl | rfl <;> rfl
theorem bits_ok (xs : List Bool) : (bits xs).all bitOk = true := by
  rw [List.all_eq_true]
  intro b hb
  obtain ⟨x, -, rfl⟩ := List.mem_map.1 hb
  cases x <;> rfl
theorem read_bits (xs : List Bool) : readT (bits xs) = (xs, true) := by
  rw [readT_yes (bits_ok xs)]
  congr 1
  unfold bits
  rw [List.map_map]
  conv => rhs; rw [← List.map_id xs]
  exact List.map_congr_left fun x _ => by cases x <;> rfl
theorem bits_no {xs : List Bool} : (47 : UInt8) ∉ bits xs := fun h => by
  obtain ⟨x, -, hx⟩ := List.mem_map.1 h
  cases x <;> simp at hx
theorem readT_len (l : List UInt8) : (readT l).1.length ≤ l.length := by unfold readT; split <;> simp
/-- ReadCalls, for all texts. -/
noncomputable def readP : List (List UInt8) → Cl × Bool
  | [a, b, c] => if (readT a).2 && (readT b).2 && (readT c).2 && callsB ⟨(readT a).1, (readT b).1, (readT c).1⟩ then (⟨(readT a).1, (readT b).1, (readT c).1⟩, true) else (⟨[], [], []⟩, false)
  | _ => (⟨[], [], []⟩, false)
noncomputable def readC (l : List UInt8) : Cl × Bool := readP (cutL l)
theorem readP_other {L : List (List UInt8)} (h : L.length ≠ 3) : readP L = (⟨[], [], []⟩, false) := by
  unfold readP
  split
  · simp at h
  · rfl
theorem readP_no {a b c : List UInt8} (h : ((readT a).2 && (readT b).2 && (readT c).2 && callsB ⟨(readT a).1, (readT b).1, (readT c).1⟩) = false) : readP [a, b, c] = (⟨[], [], []⟩, false) := by
  show (if _ then _ else _) = _
  rw [h]; rfl
theorem readP_yes {a b c : List UInt8} (h : ((readT a).2 && (readT b).2 && (readT c).2 && callsB ⟨(readT a).1, (readT b).1, (readT c).1⟩) = true) : readP [a, b, c] = (⟨(readT a).1, (readT b).1, (readT c).1⟩, true) := by
  show (if _ then _ else _) = _
  rw [h]; rfl
theorem readP_cases (L : List (List UInt8)) : (readP L = (⟨[], [], []⟩, false)) ∨ ∃ a b c, L = [a, b, c] ∧ (readT a).2 = true ∧ (readT b).2 = true ∧ (readT c).2 = true ∧ callsB ⟨(readT a).1, (readT b).1, (readT c).1⟩ = true ∧ readP L = (⟨(readT a).1, (readT b).1, (readT c).1⟩, true) := by
  match L with
  | [a, b, c] =>
    cases h : ((readT a).2 && (readT b).2 && (readT c).2 && callsB ⟨(readT a).1, (readT b).1, (readT c).1⟩)
    · exact .inl (readP_no h)
    · have hy := readP_yes h
      simp only [Bool.and_eq_true] at h
      exact .inr ⟨a, b, c, rfl, h.1.1.1, h.1.1.2, h.1.2, h.2, hy⟩
  | [] => exact .inl rfl
  | [_] => exact .inl rfl
  | [_, _] => exact .inl rfl
  | _ :: _ :: _ :: _ :: _ => exact .inl rfl
theorem readP_lens (L : List (List UInt8)) : (readP L).1.up.length ≤ 8 ∧ (readP L).1.dn.length ≤ 8 ∧ (readP L).1.car.length ≤ 8 := by
  rcases readP_cases L with h | ⟨a, b, c, -, -, -, -, h1, h2⟩
  · rw [h]; simp
  · rw [h2]
    obtain ⟨-, h3, h4, h5, -, -⟩ := callsB_iff.1 h1
    simp only at h3 h4 h5 ⊢
    omega
theorem readT_bits {a : List UInt8} (h : (readT a).2 = true) : bits (readT a).1 = a := by
  cases hb : a.all bitOk
  · rw [readT_no hb] at h; cases h
  · rw [readT_yes hb]; exact bits_back hb
/-- What is read is valid, its text is the text, and with a slash behind it nothing is read. -/
theorem read_good {l : List UInt8} (h : (readC l).2 = true) : callsB (readC l).1 = true ∧ textC (readC l).1 = l ∧ (readC (l ++ [47])).2 = false := by
  unfold readC at h ⊢
  rcases readP_cases (cutL l) with h1 | ⟨a, b, c, h0, ha, hb, hc, h1, h2⟩
  · rw [h1] at h; cases h
  · refine ⟨by rw [h2]; exact h1, ?_, ?_⟩
    · rw [h2]
      show bits (readT a).1 ++ [47] ++ bits (readT b).1 ++ [47] ++ bits (readT c).1 = l
      rw [readT_bits ha, readT_bits hb, readT_bits hc]
      have := join_cut l
      rw [h0] at this
      rw [← this]; simp [joinL]
    · rw [cut_more, h0, readP_other (by simp)]
theorem read_bad {l : List UInt8} (h : (readC l).2 = false) : (readC l).1.car = [] := by
  unfold readC at h ⊢
  rcases readP_cases (cutL l) with h1 | ⟨a, b, c, h0, ha, hb, hc, h1, h2⟩
  · rw [h1]
  · rw [h2] at h; cases h
/-- What CallsText writes is read. -/
theorem read_text {C : Cl} (h : callsB C = true) : readC (textC C) = (C, true) := by
  unfold readC textC
  rw [List.append_assoc, List.append_assoc, List.append_assoc, List.singleton_append, List.singleton_append, cut_app _ bits_no, cut_app _ bits_no, cut_none bits_no, readP_yes]
  · simp only [read_bits]
  · simp only [read_bits]; rw [h]; rfl
end Go.Proofs.YtmekhjaeclgonaaDoor
