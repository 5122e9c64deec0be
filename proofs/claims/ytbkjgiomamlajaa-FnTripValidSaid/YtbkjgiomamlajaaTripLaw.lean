/- Trips: what the laws ask besides. -/
import Derived.Test.YtbkjgiomamlajaaTripPlain
namespace Go.Proofs.Ytbkjgiomamlajaa

/-- All done. -/
def doneR (r : Rr) : Rr := (r.1, r.2.1, 2)
theorem inN_none {s : Int} {rs : List Rr} (h : ∀ r ∈ rs, r.2.2 ≠ s) : inN s rs = 0 := by
  have := inN_bd s rs
  by_cases hp : 0 < inN s rs
  · obtain ⟨r, hr, e⟩ := inN_ex hp; exact absurd e (h r hr)
  · omega
theorem done_valid {t : Tp} (h : tripP t) : tripP ⟨t.n, t.room, t.f, t.d, t.rs.map doneR⟩ := by
  obtain ⟨h1, h2, h3, h4, h5, h6, h7⟩ := h
  refine ⟨h1, h2, h3, h4, by simpa using h5, ?_, ?_⟩
  · intro r hr
    obtain ⟨x, hx, rfl⟩ := List.mem_map.1 hr
    obtain ⟨⟨a, b, c, d⟩, -⟩ := h6 x hx
    exact ⟨⟨a, b, c, by simp [doneR]⟩, fun h => by simp [doneR] at h⟩
  · show inN 1 (t.rs.map doneR) ≤ t.room
    rw [inN_none (fun r hr => by obtain ⟨x, -, rfl⟩ := List.mem_map.1 hr; simp [doneR])]
    omega
theorem none_valid {t : Tp} (h : tripP t) : tripP ⟨t.n, t.room, t.f, t.d, []⟩ := by
  obtain ⟨h1, h2, h3, h4, h5, h6, h7⟩ := h
  exact ⟨h1, h2, h3, h4, Nat.zero_le _, fun r hr => by simp at hr, by show inN 1 [] ≤ t.room; rw [inN_nil]; omega⟩
theorem nowhere_not (t : Tp) : ¬ tripP ⟨t.n, t.room, t.f, t.d, t.rs ++ [(0, 0, 0)]⟩ := fun h => (h.2.2.2.2.2.1 (0, 0, 0) (by simp)).1.2.2.1 rfl
theorem zero_not : ¬ tripP ⟨0, 0, 0, 0, []⟩ := fun h => by have : (1 : Int) ≤ 0 := h.1.1; omega
/-- A full car has no calls from floors. -/
theorem full_none {t : Tp} (h : tripP t) (hf : inN 1 t.rs = t.room) {k : Nat} {x : Bool} : ((tripC t).up[k]? = some x → x = false) ∧ ((tripC t).dn[k]? = some x → x = false) := by
  constructor
  · intro hx
    cases x with
    | false => rfl
    | true =>
      exfalso
      have hg : goB (tripC t) 1 (k : Int) = true := by unfold goB; simp only [show (0 : Int) < 1 from by omega, if_true]; exact bat_at hx
      have := ((tripC_go h (by omega) (.inl rfl)).1 hg).1
      omega
  · intro hx
    cases x with
    | false => rfl
    | true =>
      exfalso
      have hg : goB (tripC t) (-1) (k : Int) = true := by unfold goB; simp only [show ¬ (0 : Int) < -1 from by omega, if_false]; exact bat_at hx
      have := ((tripC_go h (by omega) (.inr rfl)).1 hg).1
      omega
theorem inN_full {s : Int} {rs : List Rr} : inN s rs = rs.length ↔ ∀ r ∈ rs, r.2.2 = s := by
  constructor
  · intro h r hr
    unfold inN at h
    have := List.countP_eq_length (p := fun r : Rr => r.2.2 == s) (l := rs) |>.1 (by omega) r hr
    simpa using this
  · exact inN_all
/-- There are calls exactly if somebody has not arrived. -/
theorem calls_iff {t : Tp} (h : tripP t) : decide (0 < manyC (tripC t)) = decide (inN 2 t.rs < t.rs.length) := by
  have hm := many_done h
  have hn := manyC_nonneg (tripC t)
  have hb := inN_bd 2 t.rs
  have hf := inN_full (s := 2) (rs := t.rs)
  rw [Bool.eq_iff_iff, decide_eq_true_eq, decide_eq_true_eq]
  constructor
  · intro hp
    have : ¬ inN 2 t.rs = t.rs.length := fun e => by have := hm.2 (hf.1 e); omega
    omega
  · intro hp
    have : ¬ manyC (tripC t) = 0 := fun e => by have := hf.2 (hm.1 e); omega
    omega
/-- One of the first k has moved. -/
def mvTo (l m : List Rr) (k : Nat) : Bool := ((l.zip m).take k).any fun p => p.1.2.2 != p.2.2.2
theorem mv_zero (l m : List Rr) : mvTo l m 0 = false := by simp [mvTo]
theorem mv_step {l m : List Rr} {k : Nat} {a b : Rr} (ha : l[k]? = some a) (hb : m[k]? = some b) : mvTo l m (k + 1) = (mvTo l m k || a.2.2 != b.2.2) := by
  have hz : (l.zip m)[k]? = some (a, b) := by rw [List.getElem?_zip_eq_some]; exact ⟨ha, hb⟩
  unfold mvTo
  rw [List.take_add_one, hz]
  simp [List.any_append]
theorem mv_true {l m : List Rr} {k i : Nat} {a b : Rr} (hi : i < k) (ha : l[i]? = some a) (hb : m[i]? = some b) (hne : a.2.2 ≠ b.2.2) : mvTo l m k = true := by
  have hz : (l.zip m)[i]? = some (a, b) := by rw [List.getElem?_zip_eq_some]; exact ⟨ha, hb⟩
  unfold mvTo
  rw [List.any_eq_true]
  exact ⟨(a, b), List.mem_of_getElem? (by rw [List.getElem?_take, if_pos hi]; exact hz), by simpa using hne⟩
/-- What the law sees of one rider at a step. -/
def fineR (f g : Int) (a b : Rr) : Prop := ¬ b.2.2 < a.2.2 ∧ b.1 = a.1 ∧ b.2.1 = a.2.1 ∧ ((0 ≤ a.2.1 ∧ a.2.1 ≤ 7) ∧ (0 ≤ f ∧ f ≤ 7) ∧ (0 ≤ g ∧ g ≤ 7)) ∧ (a.2.2 = 1 → ¬ max (a.2.1 - f) (f - a.2.1) < max (a.2.1 - g) (g - a.2.1))
theorem step_fine {t : Tp} (h : tripP t) {g e : Int} (hn : nextO (tripC t) t.f t.d = some (g, e)) {k : Nat} {a : Rr} (ha : t.rs[k]? = some a) : ∃ b, (stepTo t g e).rs[k]? = some b ∧ fineR t.f g a b := by
  obtain ⟨b, hb, e1, e2, h3⟩ := step_get (g := g) (e := e) ha
  obtain ⟨⟨r1, r2, r3, r4⟩, -⟩ := h.2.2.2.2.2.1 a (List.mem_of_getElem? ha)
  obtain ⟨l1, l2, l3⟩ := tripC_len h
  have hf := h.2.2.1
  have hn8 := h.1
  obtain ⟨g1, g2, -⟩ := next_good (by omega) h.2.2.2.1 hn
  refine ⟨b, hb, ?_, e1, e2, ⟨by omega, by omega, by omega⟩, fun h1 => ?_⟩
  · rcases h3 with ⟨x, -, y⟩ | ⟨x, -, y⟩ | ⟨x, y⟩ | ⟨x, y, -⟩
    · omega
    · omega
    · rw [y]; omega
    · omega
  · obtain ⟨s1, s2, s3⟩ := step_inside h hn (List.mem_of_getElem? ha) h1
    rcases h.2.2.2.1 with hd | hd <;> rw [hd] at s2 s3 <;> omega
theorem step_mv {t : Tp} (h : tripP t) {g e : Int} (hn : nextO (tripC t) t.f t.d = some (g, e)) : mvTo t.rs (stepTo t g e).rs t.rs.length = true := by
  obtain ⟨-, i, a, b, ha, hb, hne⟩ := step_moves h hn
  exact mv_true (getElem?_lt ha) ha hb hne
theorem stop_first {t t' : Tp} (h : tripP t) (hs : stepO t = some t') : tripP t' ∧ 0 < stopsT t ∧ stopsT t' = stopsT t - 1 := by
  obtain ⟨a, b⟩ := stepO_cases h hs
  obtain ⟨-, d⟩ := run_some h hs
  have := (stops_bd t' a).1
  exact ⟨a, by omega, by omega⟩
theorem end_done {t : Tp} (h : tripP t) : inN 2 (endT t).rs = t.rs.length ∧ manyC (tripC (endT t)) = 0 := by
  obtain ⟨a, b, c, -⟩ := end_good t h
  obtain ⟨d, -⟩ := stepO_done a b
  exact ⟨by rw [inN_all d, c], (many_done a).2 d⟩
end Go.Proofs.Ytbkjgiomamlajaa
