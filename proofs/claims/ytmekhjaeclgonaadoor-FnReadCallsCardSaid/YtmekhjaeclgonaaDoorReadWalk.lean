/- Texts of calls: the program's and the reference's readers. -/
import Derived.Test.YtmekhjaeclgonaaDoorSplitLay
import Derived.Test.YtmekhjaeclgonaaDoorCallsD
import Derived.Test.YtmekhjaeclgonaaDoorOwn
namespace Go.Proofs.YtmekhjaeclgonaaDoor
open Go.RowKit

def trT (l : List UInt8) (k : Nat) : List Bool := (l.take k).map (· == 49) ++ List.replicate (l.length - k) false
theorem trT_zero (l : List UInt8) : trT l 0 = List.replicate l.length false := by simp [trT]
theorem trT_all (l : List UInt8) : trT l l.length = l.map (· == 49) := by simp [trT]
theorem trT_len (l : List UInt8) {k : Nat} (hk : k ≤ l.length) : (trT l k).length = l.length := by simp [trT]; omega
theorem trT_set {l : List UInt8} {k : Nat} {b : UInt8} (hb : l[k]? = some b) : (trT l k).set k (b == 49) = trT l (k + 1) := by
  have hk := getElem?_lt hb
  unfold trT
  rw [take_snoc' l k b hb, List.set_append_right _ _ (by simp; omega)]
  have e : l.length - k = (l.length - (k + 1)) + 1 := by omega
  have e2 : k - ((l.take k).map (· == 49)).length = 0 := by simp; omega
  rw [e2, e, List.replicate_succ]
  simp
theorem allT_snoc {l : List UInt8} {k : Nat} {b : UInt8} (hb : l[k]? = some b) (h : (l.take k).all bitOk = true) (hb2 : bitOk b = true) : (l.take (k + 1)).all bitOk = true := by
  rw [take_snoc' l k b hb, List.all_append, h]; simp [hb2]
theorem allT_bad {l : List UInt8} {k : Nat} {b : UInt8} (hb : l[k]? = some b) (hb2 : bitOk b = false) : l.all bitOk = false := by
  rw [List.all_eq_false]; exact ⟨b, List.mem_of_getElem? hb, by simp [hb2]⟩
theorem byte_cases (b : UInt8) : b = 48 ∨ b = 49 ∨ (bitOk b = false ∧ ¬ (b.toNat : Int) = 48 ∧ ¬ (b.toNat : Int) = 49) := by
  by_cases h48 : b = 48
  · exact .inl h48
  · by_cases h49 : b = 49
    · exact .inr (.inl h49)
    · refine .inr (.inr ⟨by simp [bitOk, h48, h49], fun e => h48 (UInt8.toNat_inj.1 ?_), fun e => h49 (UInt8.toNat_inj.1 ?_)⟩)
      · show b.toNat = 48; omega
      · show b.toNat = 49; omega
theorem str_at {l : List UInt8} {k : Nat} (h : k < l.length) : ∃ (b : UInt8) (hs : k < (str l).size), l[k]? = some b ∧ (((str l)[k]'hs).toNat : Int) = (b.toNat : Int) := ⟨l[k], h, List.getElem?_eq_getElem h, rfl⟩
def GivesRB (D : List Bool × Bool) (w : World) (e : Ending) (w' : World) : Prop := ∃ A c, e = .returned (.tuple #[.slice A D.1.length c, .bool D.2]) ∧ BO w.heap.size w'.heap.size w' A D.1 ∧ Below w.heap.size w w'
theorem implReadTruths (l : List UInt8) (w : World) (hl : l.length ≤ 2000000) :
    Calls Tryd.prog 22 #[.string (str l)] w (GivesRB (readT l) w) := by
  have hmk := run_make_bool l.length (by omega) w
  have hsz : (str l).size = l.length := rfl
  go_enter Tryd.func22, Tryd.ntmps22
  go_wp2_with fail
  go_loopw [5] (fun i wr => ∃ k : Nat, k ≤ l.length ∧ i = .int .i64 k ∧ Hid ((l.take k).all bitOk = true) ∧ Hid (BO w.heap.size wr.heap.size wr (some ⟨w.heap.size, 0, none⟩) (trT l k)) ∧ Hid (Below w.heap.size w wr)) (fun i _ => l.length - (intOf i).toNat)
  case atStart => exact ⟨0, Nat.zero_le _, rfl, rfl, by rw [trT_zero]; exact BO.new (heap_alloc_new w _) (Nat.le_refl _), (Below.refl _ _).alloc (Nat.le_refl _) _⟩
  case round =>
    clear hmk
    obtain ⟨k, hk, rfl, HA, HO, HB⟩ := hrel
    by_cases hlt : k < l.length
    · obtain ⟨b, hls, hb, hx⟩ := str_at hlt
      have HBK := hide hb
      clear hb
      obtain ⟨b2, off2, y, e2, -, -, hg, hf⟩ := HO.out.at (k := k) (by rw [trT_len l hk]; exact hlt)
      injection e2 with e2; injection e2 with e3 e4; subst e3; subst e4
      rw [Nat.zero_add] at hg hf
      have HS := hide (HO.out.set k (b == 49))
      rw [trT_set HBK.out, Nat.zero_add] at HS
      rcases byte_cases b with h48 | h49 | ⟨hn, n48, n49⟩
      · subst h48
        have m48 : ((((str l)[k]'hls).toNat : Int) != 48) = false := by rw [hx]; rfl
        have m49 : ((((str l)[k]'hls).toNat : Int) == 49) = false := by rw [hx]; rfl
        clear hx
        have HA2 := hide (allT_snoc HBK.out HA.out rfl)
        go_wp2_with fail
        go_roundw
        case rel => exact ⟨k + 1, by omega, by go_num, HA2, HS.out.mono (Nat.le_refl _) (by simp [World.setCell]), HB.out.setCell (Nat.le_refl _) _⟩
        case measure => simp [intOf]; omega
      · subst h49
        have m48 : ((((str l)[k]'hls).toNat : Int) != 48) = true := by rw [hx]; rfl
        have m49 : ((((str l)[k]'hls).toNat : Int) != 49) = false := by rw [hx]; rfl
        have m50 : ((((str l)[k]'hls).toNat : Int) == 49) = true := by rw [hx]; rfl
        clear hx
        have HA2 := hide (allT_snoc HBK.out HA.out rfl)
        go_wp2_with fail
        go_roundw
        case rel => exact ⟨k + 1, by omega, by go_num, HA2, HS.out.mono (Nat.le_refl _) (by simp [World.setCell]), HB.out.setCell (Nat.le_refl _) _⟩
        case measure => simp [intOf]; omega
      · have HN := hide (allT_bad HBK.out hn)
        rw [← hx] at n48 n49
        have m48 : ((((str l)[k]'hls).toNat : Int) != 48) = true := by simpa using n48
        have m49 : ((((str l)[k]'hls).toNat : Int) != 49) = true := by simpa using n49
        clear hn hx hg hf HS n48 n49
        go_wp2_with fail
        refine bodyPost_ret (by simp [results, Tryd.results22, go_sem]; rfl) rfl ?_
        rw [readT_no HN.out]
        exact ⟨none, 0, rfl, OS.empty _ _ _ _, HB.out⟩
    · obtain rfl : k = l.length := by omega
      have HE : Hid (readT l = (l.map (· == 49), true)) := readT_yes (by have := HA.out; rwa [List.take_of_length_le (Nat.le_refl _)] at this)
      rw [trT_all] at HO
      go_wp2_with fail
      refine bodyPost_ret (by simp [results, Tryd.results22, go_sem]; rfl) rfl ?_
      rw [HE.out]
      exact ⟨_, _, by simp; rfl, HO.out, HB.out⟩
/-- v owns the truths xs, in blocks from LO on. -/
def OwnB (LO : Nat) (w : World) (v : Value) (xs : List Bool) : Prop := w.ownsRow LO 4 1 v xs.length (bls xs)
theorem OwnB.below {LO : Nat} {w w' : World} {v : Value} {xs : List Bool} (h : OwnB LO w v xs) (b : Below w.heap.size w w') : OwnB LO w' v xs := own_after h b
theorem OwnB.lit0 {LO : Nat} {w : World} (h : LO ≤ w.heap.size) : OwnB LO (w.alloc (.cells #[] 4)) (.slice (some ⟨w.heap.size, 0, none⟩) 0 0) [] := by
  have := World.ownsRow_lit (base := LO) (e := 4) (size := 1) w #[] 0 h (by unfold maxLen; omega) (by simp)
  exact this
theorem OwnB.form {LO : Nat} {w : World} {v : Value} {xs : List Bool} (h : OwnB LO w v xs) : ∃ A c, v = .slice A xs.length c ∧ BO LO w.heap.size w A xs := by
  have h' := h
  rcases h'.2 with ⟨rfl, hn⟩ | ⟨g, cap, cur, rfl, _, _, hc, _⟩
  · have : xs = [] := List.eq_nil_of_length_eq_zero hn
    subst this
    exact ⟨none, 0, rfl, OS.empty _ _ _ _⟩
  · exact ⟨_, cap, rfl, own_os h⟩
theorem lit_bool {w : World} (b : Bool) : Bools (w.alloc (.cells #[.bool b] 4)) (some ⟨w.heap.size, 0, none⟩) [b] :=
  .inr ⟨w.heap.size, 0, rfl, by simp, fun k u hu => by rw [Nat.zero_add, cell_of_row _ w.heap.size k _ _ (0, 0) (heap_alloc_new w _)]; rw [← hu]; simp [bls]⟩
theorem wp_appB2 {ops : Array Oper} {rest : List Oper} {o : Oper} {a : Act} {Q : Exit → Act → World → Prop} (hgd : Region.wanted o (yielded ops a.tmps) = true) (s x : Operand)
    (ho : o.op = .call { callee := .builtin .append, args := #[s, x], argTypes := #[24, 24] }) (LO : Nat) (w : World) (v : Value) (xs : List Bool) (A : Option Addr) (m c : Nat) (ys : List Bool) (hm : m = ys.length)
    (hs : a.eval s = v) (hx : a.eval x = .slice A m c) (hown : OwnB LO w v xs) (hr : Bools w A ys) (hl : xs.length + ys.length ≤ 10000000) (hLO : LO ≤ w.heap.size)
    (h : ∀ v' w', OwnB LO w' v' (xs ++ ys) → Below LO w w' → wpList Tryd.prog ops Q rest (a.put o.dst v') w') : wpList Tryd.prog ops Q (o :: rest) a w := by
  obtain ⟨i0, hi, hz0, hz1, hz2⟩ := info_parts info_bool
  subst hm
  refine wpList_app_sl w hgd s x 24 ho LO 4 i0 (.bool false) 1 1 Tryd.underlying24 hi hz0 hz1 hz2 rfl (by omega) v xs.length (bls xs) hs hown A ys.length c (bls ys) hx (by simp [bls]) hr (bls_one ys) (by unfold maxLen; omega) (by omega) hLO ?_
  intro v' w' h1 h2
  refine h v' w' ?_ h2
  unfold OwnB; rw [List.length_append]; unfold bls at h1 ⊢; rw [List.map_append]; exact h1
theorem take_bits {l : List UInt8} {k : Nat} {b : UInt8} (hb : l[k]? = some b) : (l.take (k + 1)).map (· == 49) = (l.take k).map (· == 49) ++ [b == 49] := by rw [take_snoc' l k b hb, List.map_append]; rfl
theorem specRead (l : List UInt8) (w : World) (hl : l.length ≤ 2000000) :
    Calls Tryd.prog 24 #[.string (str l)] w (GivesRB (readT l) w) := by
  have hsz : (str l).size = l.length := rfl
  go_enter Tryd.func24, Tryd.ntmps24
  go_wp2_with fail
  refine code_name fun W hW => ?_
  have X4 : Hid (OwnB w.heap.size W (.slice (some ⟨w.heap.size, 0, none⟩) 0 0) []) := by rw [hW]; exact OwnB.lit0 (Nat.le_refl _)
  have BW : Hid (Below w.heap.size w W) := by rw [hW]; exact (Below.refl _ _).alloc (Nat.le_refl _) _
  clear hW
  go_loopw [4, 5] (fun v i wr => ∃ k : Nat, k ≤ l.length ∧ i = .int .i64 k ∧ Hid ((l.take k).all bitOk = true) ∧ Hid (OwnB w.heap.size wr v ((l.take k).map (· == 49))) ∧ Hid (Below w.heap.size w wr)) (fun _ i _ => l.length - (intOf i).toNat)
  case atStart => exact ⟨0, Nat.zero_le _, rfl, rfl, X4, BW⟩
  case round =>
    clear X4 BW
    obtain ⟨k, hk, rfl, HA, HO, HB⟩ := hrel
    have zr := HB.out.size
    by_cases hlt : k < l.length
    · obtain ⟨b, hls, hb, hx⟩ := str_at hlt
      have HBK := hide hb
      have HT := hide (take_bits hb)
      clear hb
      have lk : ((l.take k).map (· == 49)).length ≤ 2000000 := by simp; omega
      rcases byte_cases b with h48 | h49 | ⟨hn, n48, n49⟩
      · subst h48
        have m48 : ((((str l)[k]'hls).toNat : Int) != 48) = false := by rw [hx]; rfl
        have m49 : ((((str l)[k]'hls).toNat : Int) == 49) = false := by rw [hx]; rfl
        clear hx
        have HA2 := hide (allT_snoc HBK.out HA.out rfl)
        go_wp2_with (at_builtin; refine wp_appB2 rfl (.tmp 24) (.tmp 29) rfl w.heap.size _ u4 ((l.take k).map (· == 49)) (some ⟨wr.heap.size, 0, none⟩) 1 1 [false] rfl rfl rfl (HO.out.below ((Below.refl _ _).alloc (Nat.le_refl _) _)) (lit_bool _) (by simp; omega) (by simp; omega) ?_; intro v' w7 own b7; have OW := hide own; have B7 := hide ((HB.out.alloc zr _).trans b7); clear own b7)
        go_roundw
        case rel => exact ⟨k + 1, by omega, by go_num, HA2, by rw [HT.out]; exact OW, B7⟩
        case measure => simp [intOf]; omega
      · subst h49
        have m48 : ((((str l)[k]'hls).toNat : Int) != 48) = true := by rw [hx]; rfl
        have m49 : ((((str l)[k]'hls).toNat : Int) != 49) = false := by rw [hx]; rfl
        have m50 : ((((str l)[k]'hls).toNat : Int) == 49) = true := by rw [hx]; rfl
        clear hx
        have HA2 := hide (allT_snoc HBK.out HA.out rfl)
        go_wp2_with (at_builtin; refine wp_appB2 rfl (.tmp 24) (.tmp 29) rfl w.heap.size _ u4 ((l.take k).map (· == 49)) (some ⟨wr.heap.size, 0, none⟩) 1 1 [true] rfl rfl rfl (HO.out.below ((Below.refl _ _).alloc (Nat.le_refl _) _)) (lit_bool _) (by simp; omega) (by simp; omega) ?_; intro v' w7 own b7; have OW := hide own; have B7 := hide ((HB.out.alloc zr _).trans b7); clear own b7)
        go_roundw
        case rel => exact ⟨k + 1, by omega, by go_num, HA2, by rw [HT.out]; exact OW, B7⟩
        case measure => simp [intOf]; omega
      · have HN := hide (allT_bad HBK.out hn)
        rw [← hx] at n48 n49
        have m48 : ((((str l)[k]'hls).toNat : Int) != 48) = true := by simpa using n48
        have m49 : ((((str l)[k]'hls).toNat : Int) != 49) = true := by simpa using n49
        clear hn hx n48 n49
        go_wp2_with fail
        refine bodyPost_ret (by simp [results, Tryd.results24, go_sem]; rfl) rfl ?_
        rw [readT_no HN.out]
        exact ⟨some ⟨wr.heap.size, 0, none⟩, 0, rfl, OS.empty _ _ _ _, HB.out.alloc zr _⟩
    · obtain rfl : k = l.length := by omega
      have HE : Hid (readT l = (l.map (· == 49), true)) := readT_yes (by have := HA.out; rwa [List.take_of_length_le (Nat.le_refl _)] at this)
      rw [List.take_of_length_le (Nat.le_refl _)] at HO
      obtain ⟨Q, q, rfl, QR⟩ := OwnB.form HO.out
      have QR := hide QR
      go_wp2_with fail
      refine bodyPost_ret (by simp [results, Tryd.results24, go_sem]; rfl) rfl ?_
      rw [HE.out]
      exact ⟨_, _, by simp; rfl, QR.out, HB.out⟩
theorem info_string : (Tryd.prog.info? 9).map (fun i => (i.zero, i.size, i.bytes)) = some (some (.string ByteArray.empty), 1, 16) := by kernel_rfl
def sts (D : List (List UInt8)) : List Value := D.map fun x => .string (str x)
theorem sts_one (D : List (List UInt8)) : ∀ u ∈ sts D, u.oneCell' = true := by
  intro u hu; simp only [sts, List.mem_map] at hu; obtain ⟨x, -, rfl⟩ := hu; rfl
def Strs (w : World) (A : Option Addr) (D : List (List UInt8)) : Prop := Sl w A (sts D)
theorem Strs.below {w w' : World} {A : Option Addr} {D : List (List UInt8)} (h : Strs w A D) (b : Below w.heap.size w w') : Strs w' A D := Sl.below h b
theorem Strs.at {w : World} {A : Option Addr} {D : List (List UInt8)} {k : Nat} {x : List UInt8} (h : Strs w A D) (hx : D[k]? = some x) : ∃ b off, A = some ⟨b, off, none⟩ ∧ b < w.heap.size ∧ w.cell? ⟨b, off + k, none⟩ = some (.string (str x)) := by
  rcases h with h | ⟨b, off, rfl, hlt, hc⟩
  · have : D = [] := by cases D <;> simp [sts] at h ⊢
    subst this; simp at hx
  · exact ⟨b, off, rfl, hlt, hc k _ (by simp [sts, hx])⟩
/-- v owns the strings D, in blocks from LO on. -/
def OwnS (LO : Nat) (w : World) (v : Value) (D : List (List UInt8)) : Prop := w.ownsRow LO 9 1 v D.length (sts D)
theorem OwnS.below {LO : Nat} {w w' : World} {v : Value} {D : List (List UInt8)} (h : OwnS LO w v D) (b : Below w.heap.size w w') : OwnS LO w' v D := own_after h b
theorem OwnS.lit0 {LO : Nat} {w : World} (h : LO ≤ w.heap.size) : OwnS LO (w.alloc (.cells #[] 9)) (.slice (some ⟨w.heap.size, 0, none⟩) 0 0) [] := by
  have := World.ownsRow_lit (base := LO) (e := 9) (size := 1) w #[] 0 h (by unfold maxLen; omega) (by simp)
  exact this
theorem OwnS.form {LO : Nat} {w : World} {v : Value} {D : List (List UInt8)} (h : OwnS LO w v D) : ∃ A c, v = .slice A D.length c ∧ Strs w A D := by
  have h' := h
  rcases h'.2 with ⟨rfl, hn⟩ | ⟨g, cap, cur, rfl, _, _, hc, _⟩
  · have : D = [] := List.eq_nil_of_length_eq_zero hn
    subst this
    exact ⟨none, 0, rfl, .inl rfl⟩
  · exact ⟨_, cap, rfl, (own_os h).sl⟩
theorem lit_str {w : World} (s : ByteArray) (p : List UInt8) (h : s = str p) : Strs (w.alloc (.cells #[.string s] 9)) (some ⟨w.heap.size, 0, none⟩) [p] :=
  .inr ⟨w.heap.size, 0, rfl, by simp, fun k u hu => by rw [Nat.zero_add, cell_of_row _ w.heap.size k _ _ (0, 0) (heap_alloc_new w _)]; rw [← hu]; simp [sts, h]⟩
theorem wp_appS {ops : Array Oper} {rest : List Oper} {o : Oper} {a : Act} {Q : Exit → Act → World → Prop} (hgd : Region.wanted o (yielded ops a.tmps) = true) (s x : Operand)
    (ho : o.op = .call { callee := .builtin .append, args := #[s, x], argTypes := #[41, 41] }) (LO : Nat) (w : World) (v : Value) (xs : List (List UInt8)) (A : Option Addr) (m c : Nat) (ys : List (List UInt8)) (hm : m = ys.length)
    (hs : a.eval s = v) (hx : a.eval x = .slice A m c) (hown : OwnS LO w v xs) (hr : Strs w A ys) (hl : xs.length + ys.length ≤ 10000000) (hLO : LO ≤ w.heap.size)
    (h : ∀ v' w', OwnS LO w' v' (xs ++ ys) → Below LO w w' → wpList Tryd.prog ops Q rest (a.put o.dst v') w') : wpList Tryd.prog ops Q (o :: rest) a w := by
  obtain ⟨i0, hi, hz0, hz1, hz2⟩ := info_parts info_string
  subst hm
  refine wpList_app_sl w hgd s x 41 ho LO 9 i0 (.string ByteArray.empty) 1 16 Tryd.underlying41 hi hz0 hz1 hz2 rfl (by omega) v xs.length (sts xs) hs hown A ys.length c (sts ys) hx (by simp [sts]) hr (sts_one ys) (by unfold maxLen; omega) (by omega) hLO ?_
  intro v' w' h1 h2
  refine h v' w' ?_ h2
  unfold OwnS; rw [List.length_append]; unfold sts at h1 ⊢; rw [List.map_append]; exact h1
theorem extract_str (l : List UInt8) {f k : Nat} (hf : f ≤ k) : (str l).extract f k = str ((l.take k).drop f) := by
  apply ByteArray.ext
  apply Array.ext'
  simp [str, List.take_drop, List.extract]
  rw [show f + (k - f) = k from by omega]
def CutTo (l : List UInt8) (D : List (List UInt8)) (f k : Nat) : Prop := cutL l = D ++ headPut ((l.take k).drop f) (cutL (l.drop k))
theorem CutTo.start (l : List UInt8) : CutTo l [] 0 0 := by unfold CutTo; simp [headPut_nil (cutL_ne l)]
theorem CutTo.slash {l : List UInt8} {D : List (List UInt8)} {f k : Nat} (h : CutTo l D f k) (hb : l[k]? = some 47) : CutTo l (D ++ [(l.take k).drop f]) (k + 1) (k + 1) := by
  have hk := getElem?_lt hb
  have hg : l[k] = 47 := by rw [List.getElem?_eq_getElem hk] at hb; injection hb
  unfold CutTo at h ⊢
  rw [h, List.drop_eq_getElem_cons hk, hg, cut_slash, List.append_assoc]
  congr 1
  rw [show (l.take (k + 1)).drop (k + 1) = [] from by simp, headPut_nil (cutL_ne _)]
  simp [headPut]
theorem CutTo.other {l : List UInt8} {D : List (List UInt8)} {f k : Nat} {b : UInt8} (h : CutTo l D f k) (hb : l[k]? = some b) (hne : b ≠ 47) (hf : f ≤ k) : CutTo l D f (k + 1) := by
  have hk := getElem?_lt hb
  have hg : l[k] = b := by rw [List.getElem?_eq_getElem hk] at hb; injection hb
  unfold CutTo at h ⊢
  rw [h, List.drop_eq_getElem_cons hk, hg, cut_other hne, headPut_put, take_snoc' l k b hb, List.drop_append_of_le_length (by simp; omega)]
theorem CutTo.done {l : List UInt8} {D : List (List UInt8)} {f : Nat} (h : CutTo l D f l.length) : cutL l = D ++ [(l.take l.length).drop f] := by
  unfold CutTo at h
  rw [h, List.drop_of_length_le (Nat.le_refl _)]
  simp [cutL, headPut]
theorem CutTo.len {l : List UInt8} {D : List (List UInt8)} {f k : Nat} (h : CutTo l D f k) : D.length ≤ l.length := by
  have h1 := cut_len l
  unfold CutTo at h
  rw [h, List.length_append] at h1
  have h2 := List.length_pos_iff.2 (headPut_ne ((l.take k).drop f) (cutL (l.drop k)))
  omega
theorem specCut (l : List UInt8) (w : World) (hl : l.length ≤ 2000000) :
    Calls Tryd.prog 23 #[.string (str l), .int .u8 47] w fun e w' => ∃ A c, e = .returned (.slice A (cutL l).length c) ∧ Strs w' A (cutL l) ∧ Below w.heap.size w w' := by
  have hsz : (str l).size = l.length := rfl
  go_enter Tryd.func23, Tryd.ntmps23
  go_wp2_with fail
  refine code_name fun W hW => ?_
  have X4 : Hid (OwnS w.heap.size W (.slice (some ⟨w.heap.size, 0, none⟩) 0 0) []) := by rw [hW]; exact OwnS.lit0 (Nat.le_refl _)
  have BW : Hid (Below w.heap.size w W) := by rw [hW]; exact (Below.refl _ _).alloc (Nat.le_refl _) _
  clear hW
  go_loopw [5, 6, 7] (fun v j i wr => ∃ (k f : Nat) (D : List (List UInt8)), (k ≤ l.length ∧ f ≤ k ∧ D.length ≤ l.length) ∧ i = .int .i64 (k : Int) ∧ j = .int .i64 (f : Int) ∧ Hid (CutTo l D f k) ∧ Hid (OwnS w.heap.size wr v D) ∧ Hid (Below w.heap.size w wr)) (fun _ _ i _ => l.length - (intOf i).toNat)
  case atStart => exact ⟨0, 0, [], ⟨Nat.zero_le _, Nat.le_refl _, Nat.zero_le _⟩, rfl, rfl, CutTo.start l, X4, BW⟩
  case round =>
    clear X4 BW
    obtain ⟨k, f, D, ⟨hk, hf, hD⟩, rfl, rfl, HC, HO, HB⟩ := hrel
    have zr := HB.out.size
    by_cases hlt : k < l.length
    · obtain ⟨b, hls, hb, hx⟩ := str_at hlt
      have HBK := hide hb
      clear hb
      by_cases h47 : b = 47
      · subst h47
        have m47 : ((((str l)[k]'hls).toNat : Int) == 47) = true := by rw [hx]; rfl
        have HC2 := hide (HC.out.slash HBK.out)
        have hD2 := HC2.out.len
        clear hx
        go_wp2_with (at_builtin; refine wp_appS rfl (.tmp 20) (.tmp 25) rfl w.heap.size _ u5 D (some ⟨wr.heap.size, 0, none⟩) 1 1 [(l.take k).drop f] rfl rfl rfl (HO.out.below ((Below.refl _ _).alloc (Nat.le_refl _) _)) (lit_str _ _ (extract_str l hf)) (by simp; omega) (by simp; omega) ?_; intro v' w7 own b7; have OW := hide own; have B7 := hide ((HB.out.alloc zr _).trans b7); clear own b7)
        go_roundw
        case rel => exact ⟨k + 1, k + 1, _, ⟨by omega, by omega, hD2⟩, by go_num, by go_num, HC2, OW, B7⟩
        case measure => simp [intOf]; omega
      · have HC2 := hide (HC.out.other HBK.out h47 hf)
        have n47 : ¬ (b.toNat : Int) = 47 := fun e => h47 (UInt8.toNat_inj.1 (show b.toNat = 47 by omega))
        rw [← hx] at n47
        have m47 : ((((str l)[k]'hls).toNat : Int) == 47) = false := by simpa using n47
        clear hx n47 h47
        go_wp2_with fail
        go_roundw
        case rel => exact ⟨k + 1, f, D, ⟨by omega, by omega, hD⟩, by go_num, rfl, HC2, HO, HB⟩
        case measure => simp [intOf]; omega
    · obtain rfl : k = l.length := by omega
      have HE := hide HC.out.done
      go_wp2_with (at_builtin; refine wp_appS rfl (.tmp 29) (.tmp 33) rfl w.heap.size _ u5 D (some ⟨wr.heap.size, 0, none⟩) 1 1 [(l.take l.length).drop f] rfl rfl rfl (HO.out.below ((Below.refl _ _).alloc (Nat.le_refl _) _)) (lit_str _ _ (extract_str l hf)) (by simp; omega) (by simp; omega) ?_; intro v' w7 own b7; have OW := hide own; have B7 := hide ((HB.out.alloc zr _).trans b7); clear own b7)
      rw [← HE.out] at OW
      obtain ⟨Q, q, rfl, QR⟩ := OwnS.form OW.out
      have QR := hide QR
      go_ret
      exact ⟨Q, q, rfl, QR.out, B7.out⟩
end Go.Proofs.YtmekhjaeclgonaaDoor
