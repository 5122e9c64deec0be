/- ShortTour, ShortWay. -/
import Derived.Test.YtddlnafkacogiaaWays
import Derived.Test.YtddlnafkacogiaaTurned
import Derived.Test.YtddlnafkacogiaaNewI
import Derived.Test.YtddlnafkacogiaaAppReg
import Derived.Test.YtddlnafkacogiaaDrawTW
namespace Go.Proofs.Ytddlnafkacogiaa
open Go.RowKit

theorem filter_split {p : Int → Bool} {vs : List Int} {k : Nat} (h1 : ∀ (j : Nat) x, j < k → vs[j]? = some x → p x = true) (h2 : ∀ (j : Nat) x, k ≤ j → vs[j]? = some x → p x = false) :
    vs.filter p = vs.take k ∧ vs.filter (fun v => !p v) = vs.drop k := by
  have e1 : (vs.take k).filter p = vs.take k := List.filter_eq_self.2 fun x hx => by
    obtain ⟨j, hj⟩ := List.mem_iff_getElem?.1 hx
    have hjk : j < k := by have := getElem?_lt hj; simp at this; omega
    rw [List.getElem?_take, if_pos hjk] at hj
    exact h1 j x hjk hj
  have e2 : (vs.drop k).filter p = [] := List.filter_eq_nil_iff.2 fun x hx => by
    obtain ⟨j, hj⟩ := List.mem_iff_getElem?.1 hx
    rw [List.getElem?_drop] at hj
    rw [h2 (k + j) x (by omega) hj]; simp
  have e3 : (vs.take k).filter (fun v => !p v) = [] := List.filter_eq_nil_iff.2 fun x hx => by
    have := List.mem_filter.1 (e1 ▸ hx); simp [this.2]
  have e4 : (vs.drop k).filter (fun v => !p v) = vs.drop k := List.filter_eq_self.2 fun x hx => by
    have : ¬ p x = true := fun hp => by
      have : x ∈ (vs.drop k).filter p := List.mem_filter.2 ⟨hx, hp⟩
      rw [e2] at this; cases this
    simpa using this
  constructor
  · conv => lhs; rw [← List.take_append_drop k vs]
    rw [List.filter_append, e1, e2, List.append_nil]
  · conv => lhs; rw [← List.take_append_drop k vs]
    rw [List.filter_append, e3, e4, List.nil_append]
theorem asc_lt {vs : List Int} (h : vs.Pairwise (· < ·)) {i j : Nat} {x y : Int} (hx : vs[i]? = some x) (hy : vs[j]? = some y) (hij : i < j) : x < y := by
  obtain ⟨h1, rfl⟩ := List.getElem?_eq_some_iff.1 hx
  obtain ⟨h2, rfl⟩ := List.getElem?_eq_some_iff.1 hy
  exact List.pairwise_iff_getElem.1 h i j h1 h2 hij
theorem asc_from {vs : List Int} (h : vs.Pairwise (· < ·)) {i j : Nat} {x y : Int} (hx : vs[i]? = some x) (hy : vs[j]? = some y) (hij : i ≤ j) : x ≤ y := by
  rcases Nat.lt_or_eq_of_le hij with h1 | rfl
  · have := asc_lt h hx hy h1; omega
  · rw [hx] at hy; injection hy with hy; omega
theorem short_ends {fs vs : List Int} {a lo hi : Int} {k : Nat} (h : visitsB fs vs = true) (ha : inB a 0 ((fs.length : Int) - 1) = true) (hk : vs.length = k + 1) (hlo : vs[0]? = some lo) (hhi : vs[k]? = some hi) : shortB fs a vs = shortL fs a lo hi vs :=
  shortB_yes h ha (by rw [List.head?_eq_getElem?]; exact hlo) (by rw [List.getLast?_eq_getElem?, hk]; exact hhi)
theorem short_a {fs vs : List Int} {a lo hi : Int} (h : a ≤ lo) : shortL fs a lo hi vs = vs := by unfold shortL; rw [if_pos h]
theorem short_b {fs vs : List Int} {a lo hi : Int} (h : ¬ a ≤ lo) (h2 : hi ≤ a) : shortL fs a lo hi vs = vs.reverse := by unfold shortL; rw [if_neg h, if_pos h2]
theorem short_c {fs vs : List Int} {a lo hi y : Int} {k : Nat} (hp : vs.Pairwise (· < ·)) (h : ¬ a ≤ lo) (h2 : ¬ hi ≤ a) (h3 : wayB fs a lo ≤ wayB fs a hi) (hk : ∀ (j : Nat) x, j < k → vs[j]? = some x → x ≤ a) (hy : vs[k]? = some y) (hya : a < y) : shortL fs a lo hi vs = (vs.take k).reverse ++ vs.drop k := by
  obtain ⟨e1, e2⟩ := filter_split (p := fun v => decide (v ≤ a)) (vs := vs) (k := k) (fun j x hj hx => by simpa using hk j x hj hx) (fun j x hj hx => by have := asc_from hp hy hx hj; simp; omega)
  unfold shortL; rw [if_neg h, if_neg h2, if_pos h3, e1, e2]
theorem short_d {fs vs : List Int} {a lo hi y : Int} {k : Nat} (hp : vs.Pairwise (· < ·)) (h : ¬ a ≤ lo) (h2 : ¬ hi ≤ a) (h3 : ¬ wayB fs a lo ≤ wayB fs a hi) (hk : ∀ (j : Nat) x, j < k → vs[j]? = some x → x < a) (hy : vs[k]? = some y) (hya : a ≤ y) : shortL fs a lo hi vs = vs.drop k ++ (vs.take k).reverse := by
  obtain ⟨e1, e2⟩ := filter_split (p := fun v => decide (v < a)) (vs := vs) (k := k) (fun j x hj hx => by simpa using hk j x hj hx) (fun j x hj hx => by have := asc_from hp hy hx hj; simp; omega)
  unfold shortL; rw [if_neg h, if_neg h2, if_neg h3, e1, e2]
/-- What goes into the part below. -/
def dnP (first : Bool) (a v : Int) : Bool := decide (v < a) || (decide (v = a) && first)
def dnK (first : Bool) (a : Int) (vs : List Int) (k : Nat) : List Int := ((vs.take k).filter (dnP first a)).reverse
def upK (first : Bool) (a : Int) (vs : List Int) (k : Nat) : List Int := (vs.take k).filter (fun v => !dnP first a v)
theorem dnK_len (first : Bool) (a : Int) (vs : List Int) (k : Nat) : (dnK first a vs k).length ≤ k := by
  unfold dnK; rw [List.length_reverse]; exact Nat.le_trans (List.length_filter_le _ _) (by simp; omega)
theorem upK_len (first : Bool) (a : Int) (vs : List Int) (k : Nat) : (upK first a vs k).length ≤ k := Nat.le_trans (List.length_filter_le _ _) (by simp; omega)
theorem dn_yes {first : Bool} {a x : Int} {vs : List Int} {k : Nat} (hx : vs[k]? = some x) (h : dnP first a x = true) : dnK first a vs (k + 1) = x :: dnK first a vs k ∧ upK first a vs (k + 1) = upK first a vs k := by
  unfold dnK upK; rw [take_snoc' vs k x hx, List.filter_append, List.filter_append]; simp [h]
theorem dn_no {first : Bool} {a x : Int} {vs : List Int} {k : Nat} (hx : vs[k]? = some x) (h : dnP first a x = false) : dnK first a vs (k + 1) = dnK first a vs k ∧ upK first a vs (k + 1) = upK first a vs k ++ [x] := by
  unfold dnK upK; rw [take_snoc' vs k x hx, List.filter_append, List.filter_append]; simp [h]
theorem short_up {fs vs : List Int} {a lo hi : Int} {m k : Nat} (hp : vs.Pairwise (· < ·)) (_hm : vs.length = m + 1) (hlo : vs[0]? = some lo) (_hhi : vs[m]? = some hi) (hk : vs.length ≤ k) (h : ¬ (lo < a ∧ (hi ≤ a ∨ wayB fs a lo ≤ wayB fs a hi))) : shortL fs a lo hi vs = upK false a vs k ++ dnK false a vs k := by
  have e0 : ∀ v, dnP false a v = decide (v < a) := fun v => by simp [dnP]
  unfold upK dnK
  rw [List.take_of_length_le hk]
  simp only [show dnP false a = (fun v => decide (v < a)) from funext e0]
  by_cases h1 : a ≤ lo
  · rw [short_a h1]
    obtain ⟨e1, e2⟩ := filter_split (p := fun v => decide (v < a)) (vs := vs) (k := 0) (fun j x hj => by omega) (fun j x hj hx => by have := asc_from hp hlo hx (Nat.zero_le _); simp; omega)
    rw [e1, e2]; simp
  · have h2 : ¬ hi ≤ a := fun h' => h ⟨by omega, .inl h'⟩
    have h3 : ¬ wayB fs a lo ≤ wayB fs a hi := fun h' => h ⟨by omega, .inr h'⟩
    unfold shortL; rw [if_neg h1, if_neg h2, if_neg h3]
theorem short_dn {fs vs : List Int} {a lo hi : Int} {m k : Nat} (hp : vs.Pairwise (· < ·)) (hm : vs.length = m + 1) (_hlo : vs[0]? = some lo) (hhi : vs[m]? = some hi) (hk : vs.length ≤ k) (h : lo < a ∧ (hi ≤ a ∨ wayB fs a lo ≤ wayB fs a hi)) : shortL fs a lo hi vs = dnK true a vs k ++ upK true a vs k := by
  have e0 : ∀ v, dnP true a v = decide (v ≤ a) := fun v => by
    simp only [dnP, Bool.and_true]
    by_cases h1 : v < a
    · simp [h1]; omega
    · by_cases h2 : v = a
      · simp [h2]
      · simp [h1, h2]; omega
  unfold upK dnK
  rw [List.take_of_length_le hk]
  simp only [show dnP true a = (fun v => decide (v ≤ a)) from funext e0]
  have h1 : ¬ a ≤ lo := by omega
  by_cases h2 : hi ≤ a
  · rw [short_b h1 h2]
    obtain ⟨e1, e2⟩ := filter_split (p := fun v => decide (v ≤ a)) (vs := vs) (k := vs.length) (fun j x hj hx => by have := asc_from hp hx hhi (by omega); simp; omega) (fun j x hj hx => by have := getElem?_lt hx; omega)
    rw [e1, e2]; simp
  · have h3 : wayB fs a lo ≤ wayB fs a hi := h.2.resolve_left h2
    unfold shortL; rw [if_neg h1, if_neg h2, if_pos h3]
set_option maxHeartbeats 1000000 in
theorem implShortTourC (A0 A2 : Option Addr) (c0 c2 : Nat) (fs vs : List Int) (a : Int) (w : World) (h0 : Ints w A0 fs) (h2 : Ints w A2 vs) (hl : vs.length ≤ 1048576) (hc : vs.length ≤ c2) :
    Calls Try.prog 9 #[.slice A0 fs.length c0, .int .i64 a, .slice A2 vs.length c2] w (NewC (shortB fs a vs) w) := by
  have H0 := hide h0; have H2 := hide h2; clear h0 h2
  cases hv : visitsB fs vs
  · have HE := hide (shortB_no (a := a) (.inl hv))
    go_enter Try.func9, Try.ntmps9
    go_wp2_with fail
    refine (implVisitsOk A0 A2 c0 c2 fs vs _ H0.out H2.out (by omega)).mono ?_
    rintro e w1 ⟨rfl, D1⟩
    have B := hide D1.below
    clear D1
    rw [hv]
    go_wp2_with fail
    go_ret
    rw [HE.out]
    exact NewC.nil _ _ B.out
  have HV := hide hv
  cases ha : inB a 0 ((fs.length : Int) - 1)
  · have HE := hide (shortB_no (fs := fs) (vs := vs) (.inr (.inl ha)))
    go_enter Try.func9, Try.ntmps9
    go_wp2_with fail
    refine (implVisitsOk A0 A2 c0 c2 fs vs _ H0.out H2.out (by omega)).mono ?_
    rintro e w1 ⟨rfl, D1⟩
    have B := hide D1.below
    clear D1
    go_wp2_with (go_at_call 26; refine (isFloor_any _ _ _).mono ?_; rintro e w' ⟨rfl, rfl⟩)
    go_ret
    rw [HE.out]
    exact NewC.nil _ _ B.out
  have HA := hide ha
  by_cases hn : vs.length = 0
  · have HE := hide (shortB_no (fs := fs) (a := a) (.inr (.inr (List.eq_nil_of_length_eq_zero hn))))
    have hn' : ((vs.length : Int) == 0) = true := by simp [hn]
    clear hn
    go_enter Try.func9, Try.ntmps9
    go_wp2_with fail
    refine (implVisitsOk A0 A2 c0 c2 fs vs _ H0.out H2.out (by omega)).mono ?_
    rintro e w1 ⟨rfl, D1⟩
    have B := hide D1.below
    clear D1
    go_wp2_with (go_at_call 26; refine (isFloor_any _ _ _).mono ?_; rintro e w' ⟨rfl, rfl⟩)
    go_ret
    rw [HE.out]
    exact NewC.nil _ _ B.out
  have hn' : ((vs.length : Int) == 0) = false := by simp; intro e; exact hn (by simp [e])
  obtain ⟨k, hk⟩ : ∃ k, vs.length = k + 1 := ⟨vs.length - 1, by omega⟩
  have HK := hide hk
  clear hk
  obtain ⟨-, -, hp⟩ := visits_parts hv
  have HP := hide hp
  go_enter Try.func9, Try.ntmps9
  go_wp2_with fail
  refine (implVisitsOk A0 A2 c0 c2 fs vs _ H0.out H2.out (by omega)).mono ?_
  rintro e w1 ⟨rfl, D1⟩
  replace H0 := hide (H0.out.dr D1); replace H2 := hide (H2.out.dr D1)
  have B := hide D1.below; have HS := hide D1.size
  obtain ⟨b, off, lo, rfl, hlo, hclo⟩ := H2.out.at (k := 0) (by have := HK.out; omega)
  obtain ⟨hi, hhi, hchi⟩ := H2.out.cell (k := k) (by have := HK.out; omega)
  simp only [Nat.add_zero] at hclo
  have HE := hide (short_ends hv ha HK.out hlo.out hhi.out)
  have hk1 : ((vs.length : Int) - 1) = (k : Int) := by have := HK.out; omega
  have hk2 : k < vs.length := by have := HK.out; omega
  have hk3 : IntKind.i64.wrap (k : Int) = (k : Int) := IntWalk.i64_in _ (by omega)
  have hk4 : 0 < vs.length := by omega
  clear D1 hn hp
  by_cases h1 : a ≤ lo
  · have HR := hide (short_a (fs := fs) (vs := vs) (hi := hi) h1)
    go_wp2_with (go_at_call 26; refine (isFloor_any _ _ _).mono ?_; rintro e w' ⟨rfl, rfl⟩)
    refine (clone_any _ _ _ vs _ rfl H2.out hl).mono ?_
    rintro e w2 ⟨v, rfl, o, b⟩
    have O := hide o; have B2 := hide (bthen B.out b)
    clear o b
    go_wp2_with fail
    go_ret
    rw [HE.out, HR.out]
    exact NewC.own (by rw [← HS.out]; exact O.out) B2.out
  by_cases h2 : hi ≤ a
  · have HR := hide (short_b (fs := fs) (vs := vs) h1 h2)
    go_wp2_with (go_at_call 26; refine (isFloor_any _ _ _).mono ?_; rintro e w' ⟨rfl, rfl⟩)
    refine (turned_any _ _ _ vs _ rfl H2.out hl).mono ?_
    rintro e w2 ⟨v, rfl, o, b⟩
    have O := hide o; have B2 := hide (bthen B.out b)
    clear o b
    go_wp2_with fail
    go_ret
    rw [HE.out, HR.out]
    exact NewC.own (by rw [← HS.out]; exact O.out) B2.out
  go_wp2_with (go_at_call 26; refine (isFloor_any _ _ _).mono ?_; rintro e w' ⟨rfl, rfl⟩)
  refine (implFloorWay A0 c0 fs a lo _ H0.out).mono ?_
  rintro e w2 ⟨rfl, D2⟩
  replace H0 := hide (H0.out.dr D2); replace H2 := hide (H2.out.dr D2); replace B := hide (bthen B.out D2.below); replace HS := hide (D2.size.trans HS.out)
  clear D2 hclo hchi
  go_wp2_with fail
  refine (implFloorWay A0 c0 fs a hi _ H0.out).mono ?_
  rintro e w3 ⟨rfl, D2⟩
  replace H0 := hide (H0.out.dr D2); replace H2 := hide (H2.out.dr D2); replace B := hide (bthen B.out D2.below); replace HS := hide (D2.size.trans HS.out)
  clear D2
  have wb1 := wayB_bd fs a lo; have wb2 := wayB_bd fs a hi
  have H1 := hide h1; have HH2 := hide h2
  by_cases h3 : wayB fs a lo ≤ wayB fs a hi
  · have HR := hide fun (j : Nat) (y : Int) q1 q2 q3 => short_c (fs := fs) (vs := vs) (a := a) (lo := lo) (hi := hi) (k := j) (y := y) HP.out (by omega) (by omega) (by omega) q1 q2 q3
    go_wp2_with fail
    go_loop [9] (fun i => ∃ j : Nat, j ≤ k ∧ i = .int .i64 (j : Int) ∧ Hid (∀ (i : Nat) x, i < j → vs[i]? = some x → x ≤ a)) (fun i => vs.length - (intOf i).toNat)
    case atStart => exact ⟨0, by omega, rfl, fun i x hi => by omega⟩
    case round =>
      obtain ⟨j, hj, rfl, HA2⟩ := hrel
      obtain ⟨y, hy, hcy⟩ := H2.out.cell (k := j) (by omega)
      have hjl : j < vs.length := by omega
      by_cases hya : y ≤ a
      · have hjk : j < k := by
          rcases Nat.lt_or_eq_of_le hj with h | rfl
          · exact h
          · have e := hy.out; rw [hhi.out] at e; injection e with e; omega
        go_wp2_with fail
        go_round
        case rel => exact ⟨j + 1, by omega, by go_num, fun i x hi hx => by
          rcases Nat.lt_succ_iff_lt_or_eq.1 hi with h | rfl
          · exact HA2.out i x h hx
          · rw [hy.out] at hx; injection hx with hx; omega⟩
        case measure => simp [intOf]; omega
      · have HF := hide (HR.out j y HA2.out hy.out (by omega))
        have hT := hide (H2.out.take j); have hD := hide (H2.out.drop j)
        have q1 : (j : Int) ≤ (vs.length : Int) := by omega
        have q2 : (vs.length : Int) ≤ (c2 : Int) := by omega
        have q3 : ¬ c2 = j := by omega
        have q4 : (0 : Int) ≤ (j : Int) := by omega
        have q5 : (j : Int) ≤ (c2 : Int) := by omega
        have n1 : Hid (j = (vs.take j).length) := by unfold Hid; simp; omega
        have n2 : Hid (vs.length - j = (vs.drop j).length) := by unfold Hid; simp
        go_wp2_with fail
        go_region_held3 (fun _ => True) (trivial) (first | (go_at_call 28; (with_reducible refine (turned_any (some ⟨b, off, none⟩) c2 j (vs.take j) _ n1.out ?_ ?_).mono ?_); exact hT.out.dr ⟨_, rfl⟩; (simp; omega); rintro e w4 ⟨v, rfl, o, b4⟩; have O := hide o; have B4 := hide ((below_drewN (Below.refl w3.heap.size w3) 1).trans b4); clear o b4) | (refine step_app (by rfl) (.tmp 66) (.tmp 69) (by rfl) w3.heap.size _ _ _ _ _ _ (vs.drop j) n2.out (by rfl) (by rfl) O.out (hD.out.below B4.out) (by simp; omega) B4.out.size ?_; intro v5 w5 own5 b5; have O5 := hide own5; have B5 := hide (B4.out.trans b5); clear own5 b5))
        go_wp2_with fail
        go_ret
        rw [HE.out, HF.out]
        exact NewC.own (by rw [← HS.out]; exact O5.out) (bthen B.out B5.out)
  · have HR := hide fun (j : Nat) (y : Int) q1 q2 q3 => short_d (fs := fs) (vs := vs) (a := a) (lo := lo) (hi := hi) (k := j) (y := y) HP.out (by omega) (by omega) (by omega) q1 q2 q3
    go_wp2_with fail
    go_loop [10] (fun i => ∃ j : Nat, j ≤ k ∧ i = .int .i64 (j : Int) ∧ Hid (∀ (i : Nat) x, i < j → vs[i]? = some x → x < a)) (fun i => vs.length - (intOf i).toNat)
    case atStart => exact ⟨0, by omega, rfl, fun i x hi => by omega⟩
    case round =>
      obtain ⟨j, hj, rfl, HA2⟩ := hrel
      obtain ⟨y, hy, hcy⟩ := H2.out.cell (k := j) (by omega)
      have hjl : j < vs.length := by omega
      by_cases hya : y < a
      · have hjk : j < k := by
          rcases Nat.lt_or_eq_of_le hj with h | rfl
          · exact h
          · have e := hy.out; rw [hhi.out] at e; injection e with e; omega
        go_wp2_with fail
        go_round
        case rel => exact ⟨j + 1, by omega, by go_num, fun i x hi hx => by
          rcases Nat.lt_succ_iff_lt_or_eq.1 hi with h | rfl
          · exact HA2.out i x h hx
          · rw [hy.out] at hx; injection hx with hx; omega⟩
        case measure => simp [intOf]; omega
      · have HF := hide (HR.out j y HA2.out hy.out (by omega))
        have hT := hide (H2.out.take j); have hD := hide (H2.out.drop j)
        have q1 : (j : Int) ≤ (vs.length : Int) := by omega
        have q2 : (vs.length : Int) ≤ (c2 : Int) := by omega
        have q3 : ¬ c2 = j := by omega
        have q4 : (0 : Int) ≤ (j : Int) := by omega
        have q5 : (j : Int) ≤ (c2 : Int) := by omega
        have n1 : Hid (j = (vs.take j).length) := by unfold Hid; simp; omega
        have n2 : Hid (vs.length - j = (vs.drop j).length) := by unfold Hid; simp
        have n3 : Hid ((vs.take j).reverse.length = j) := by unfold Hid; simp; omega
        go_wp2_with fail
        go_region_held3 (fun _ => True) (trivial) (first | (go_at_call 27; (with_reducible refine (clone_any (some ⟨b, off + j, none⟩) (c2 - j) (vs.length - j) (vs.drop j) _ n2.out ?_ ?_).mono ?_); exact hD.out.dr ⟨_, rfl⟩; (simp; omega); rintro e w4 ⟨v, rfl, o, b4⟩; have O := hide o; have B4 := hide ((below_drewN (Below.refl w3.heap.size w3) 1).trans b4); clear o b4) | (go_at_call 28; (with_reducible refine (turned_any (some ⟨b, off, none⟩) c2 j (vs.take j) _ n1.out ?_ ?_).mono ?_); exact hT.out.below B4.out; (simp; omega); rintro e w5 ⟨v5, rfl, o, b5⟩; obtain ⟨A5, c5, rfl, -, f5⟩ := OwnI.form o; rw [n3.out]; have F5 := hide f5.1; replace O := hide (O.out.below b5); have B5 := hide (B4.out.trans (b5.mono B4.out.size)); clear o b5 f5) | (refine step_app (by rfl) (.tmp 82) (.tmp 86) (by rfl) w3.heap.size _ _ _ A5 j c5 (vs.take j).reverse n3.out.symm (by rfl) (by rfl) O.out F5.out (by simp; omega) B5.out.size ?_; intro v6 w6 own6 b6; have O6 := hide own6; have B6 := hide (B5.out.trans b6); clear own6 b6))
        go_wp2_with fail
        go_ret
        rw [HE.out, HF.out]
        exact NewC.own (by rw [← HS.out]; exact O6.out) (bthen B.out B6.out)
theorem implShortTour (A0 A2 : Option Addr) (c0 c2 : Nat) (fs vs : List Int) (a : Int) (w : World) (h0 : Ints w A0 fs) (h2 : Ints w A2 vs) (hl : vs.length ≤ 1048576) (hc : vs.length ≤ c2) :
    Calls Try.prog 9 #[.slice A0 fs.length c0, .int .i64 a, .slice A2 vs.length c2] w (NewI (shortB fs a vs) w) := (implShortTourC A0 A2 c0 c2 fs vs a w h0 h2 hl hc).mono fun _ _ h => h.weak
end Go.Proofs.Ytddlnafkacogiaa
