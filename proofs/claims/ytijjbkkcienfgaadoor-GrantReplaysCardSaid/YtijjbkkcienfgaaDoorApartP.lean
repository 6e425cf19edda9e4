/- A table's holds: where they lie, in which order, and that no two clients clash: in plain words. No program. -/
import Derived.Test.YtijjbkkcienfgaaDoorParts2
namespace Go.Proofs.YtijjbkkcienfgaaDoor
set_option linter.unusedVariables false
set_option linter.unusedSimpArgs false

theorem mem_holds {t : Nat → Nat → Nat} {lo n : Nat} {p : Nat → Nat → Bool} {h : HoldT} : ∀ {N : Nat}, h ∈ holdsTo t lo n p N ↔ ∃ c r, c < N ∧ r ∈ runsL (t c) lo n ∧ p c r.2.2 = true ∧ h = (r.1, r.2.1, c, r.2.2)
  | 0 => by simp [holdsTo]
  | N + 1 => by
    rw [holdsTo, List.mem_append, mem_holds (N := N)]
    constructor
    · rintro (⟨c, r, h1, h2⟩ | h2)
      · exact ⟨c, r, by omega, h2⟩
      · unfold rowHolds at h2
        rw [List.mem_flatMap] at h2
        obtain ⟨r, hr, hh⟩ := h2
        unfold holdOf at hh
        split at hh
        · rename_i hp
          simp at hh
          exact ⟨N, r, by omega, hr, hp, hh⟩
        · cases hh
    · rintro ⟨c, r, h1, h2, h3, h4⟩
      rcases Nat.lt_or_ge c N with hc | hc
      · exact .inl ⟨c, r, hc, h2, h3, h4⟩
      · obtain rfl : c = N := by omega
        refine .inr ?_
        unfold rowHolds
        rw [List.mem_flatMap]
        exact ⟨r, h2, by unfold holdOf; rw [if_pos h3, h4]; simp⟩
/-- What a hold that is listed is. -/
structure HoldOk (t : Nat → Nat → Nat) (lo n N : Nat) (h : HoldT) : Prop where
  a : lo ≤ h.1
  ab : h.1 < h.2.1
  b : h.2.1 ≤ lo + n
  c : h.2.2.1 < N
  m : h.2.2.2 ≠ 0
  all : ∀ k, h.1 ≤ k → k < h.2.1 → t h.2.2.1 k = h.2.2.2
theorem holds_ok {t : Nat → Nat → Nat} {lo n N : Nat} {p : Nat → Nat → Bool} {h : HoldT} (hh : h ∈ holdsTo t lo n p N) : HoldOk t lo n N h ∧ p h.2.2.1 h.2.2.2 = true := by
  obtain ⟨c, r, h1, h2, h3, rfl⟩ := mem_holds.1 hh
  have k := runsL_ok n r h2
  exact ⟨⟨k.l1, k.l2, k.l3, h1, k.l4, k.l5⟩, h3⟩
/-- Holds come by clients, and a client's by blocks. -/
def Ahead (x y : HoldT) : Prop := x.2.2.1 < y.2.2.1 ∨ (x.2.2.1 = y.2.2.1 ∧ x.2.1 ≤ y.1)
theorem row_ahead {p : Nat → Nat → Bool} {c : Nat} : ∀ (l : List Run), l.Pairwise (fun x y => x.2.1 ≤ y.1) → (rowHolds p c l).Pairwise Ahead
  | [], _ => by simp [rowHolds]
  | r :: l, h => by
    rw [List.pairwise_cons] at h
    have ih := row_ahead (p := p) (c := c) l h.2
    show (holdOf p c r ++ rowHolds p c l).Pairwise Ahead
    rw [List.pairwise_append]
    refine ⟨?_, ih, ?_⟩
    · unfold holdOf
      split <;> simp
    · intro x hx y hy
      unfold holdOf at hx
      split at hx
      · simp at hx
        unfold rowHolds at hy
        rw [List.mem_flatMap] at hy
        obtain ⟨s, hs, hy⟩ := hy
        unfold holdOf at hy
        split at hy
        · simp at hy
          subst hx hy
          exact .inr ⟨rfl, h.1 s hs⟩
        · cases hy
      · cases hx
theorem holds_ahead {t : Nat → Nat → Nat} {lo n : Nat} {p : Nat → Nat → Bool} : ∀ N, (holdsTo t lo n p N).Pairwise Ahead
  | 0 => by simp [holdsTo]
  | N + 1 => by
    rw [holdsTo, List.pairwise_append]
    refine ⟨holds_ahead N, row_ahead _ (runsL_rise n), fun x hx y hy => .inl ?_⟩
    have h1 := (holds_ok hx).1.c
    have h2 : y.2.2.1 = N := by
      unfold rowHolds at hy
      rw [List.mem_flatMap] at hy
      obtain ⟨s, hs, hy⟩ := hy
      unfold holdOf at hy
      split at hy
      · simp at hy; subst hy; rfl
      · cases hy
    omega
/-- No two clients clash. -/
def Apart (t : Nat → Nat → Nat) : Prop := ∀ c d k, c < 8 → d < 8 → k < 256 → c ≠ d → t c k = 2 → t d k = 0
theorem apart_set {t : Nat → Nat → Nat} (h : Apart t) (c a b : Int) {g : Nat → Nat} (g0 : g 0 = 0) (g2 : ∀ m, g m = 2 → m = 2) : Apart (setT t c a b g) := by
  unfold setT
  split
  · intro d e k hd he hk hde h2
    unfold setN at h2 ⊢
    have h3 : t d k = 2 := by
      split at h2
      · exact g2 _ h2
      · exact h2
    have h4 := h d e k hd he hk hde h3
    rw [h4]
    split
    · exact g0
    · rfl
  · exact h
theorem some_nil {t : Nat → Nat → Nat} {lo n N : Nat} {p : Nat → Nat → Bool} (h : holdsTo t lo n p N = []) {c k : Nat} (hc : c < N) (h1 : lo ≤ k) (h2 : k < lo + n) (hk : t c k ≠ 0) : p c (t c k) = false := by
  obtain ⟨r, hr, h3, h4⟩ := runsL_has (f := t c) n k h1 h2 hk
  have ok := runsL_ok n r hr
  have e := ok.l5 k h3 h4
  cases hp : p c (t c k) with
  | false => rfl
  | true =>
    rw [e] at hp
    have : ((r.1, r.2.1, c, r.2.2) : HoldT) ∈ holdsTo t lo n p N := mem_holds.2 ⟨c, r, hc, hr, hp, rfl⟩
    rw [h] at this
    cases this
theorem putE_ok {t : Nat → Nat → Nat} {a b c m : Int} (h : putE t a b c m = 0) : inC8 c = true ∧ (m = 1 ∨ m = 2) ∧ 0 ≤ a ∧ a < b ∧ b ≤ 256 ∧ someL t a b (pAg c m) = [] ∧ (listL (upT t a b c m)).length ≤ 256 := by
  unfold putE at h
  by_cases h1 : inC8 c = false
  · rw [if_pos h1] at h; exact absurd h (by decide)
  rw [if_neg h1] at h
  by_cases h2 : m ≠ 1 ∧ m ≠ 2
  · rw [if_pos h2] at h; exact absurd h (by decide)
  rw [if_neg h2] at h
  by_cases h3 : a < 0
  · rw [if_pos h3] at h; exact absurd h (by decide)
  rw [if_neg h3] at h
  by_cases h4 : b ≤ a
  · rw [if_pos h4] at h; exact absurd h (by decide)
  rw [if_neg h4] at h
  by_cases h5 : 256 < b
  · rw [if_pos h5] at h; exact absurd h (by decide)
  rw [if_neg h5] at h
  by_cases h6 : 0 < (someL t a b (pAg c m)).length
  · rw [if_pos h6] at h; exact absurd h (by decide)
  rw [if_neg h6] at h
  by_cases h7 : 256 < (listL (upT t a b c m)).length
  · rw [if_pos h7] at h; exact absurd h (by decide)
  exact ⟨by simpa using h1, by omega, by omega, by omega, by omega, List.length_eq_zero_iff.1 (by omega), by omega⟩
theorem apart_put {t : Nat → Nat → Nat} (h : Apart t) (hb : ∀ c k, t c k ≤ 2) (a b c m : Int) : Apart (putT t a b c m) := by
  unfold putT
  by_cases he : putE t a b c m = 0
  · rw [if_pos he]
    obtain ⟨h1, h2, h3, h4, h5, h6, _⟩ := putE_ok he
    unfold upT setT
    rw [if_pos h1]
    simp [inC8] at h1
    unfold someL loZ nZ at h6
    have key : ∀ d k, d < 8 → d ≠ c.toNat → (max a 0).toNat ≤ k → k < (min b 256).toNat → t d k = 0 ∨ (t d k ≠ 2 ∧ m = 1) := by
      intro d k hd hdc hk1 hk2
      by_cases e0 : t d k = 0
      · exact .inl e0
      · have := some_nil h6 hd hk1 (by omega) e0
        simp only [pAg, Bool.and_eq_false_iff, Bool.or_eq_false_iff, decide_eq_false_iff_not] at this
        rcases this with h | ⟨h8, h9⟩
        · omega
        · exact .inr ⟨h8, by omega⟩
    intro d e k hd he hk hde h9
    unfold setN at h9 ⊢
    by_cases e1 : d = c.toNat ∧ (max a 0).toNat ≤ k ∧ k < (min b 256).toNat
    · rw [if_pos e1] at h9
      rw [if_neg (fun h => hde (e1.1.trans h.1.symm))]
      have h9' : max (t d k) m.toNat = 2 := h9
      rcases key e k he (fun h => hde (e1.1.trans h.symm)) e1.2.1 e1.2.2 with h10 | ⟨h10, h11⟩
      · exact h10
      · exact h d e k hd he hk hde (by omega)
    · rw [if_neg e1] at h9
      have h10 := h d e k hd he hk hde h9
      by_cases e2 : e = c.toNat ∧ (max a 0).toNat ≤ k ∧ k < (min b 256).toNat
      · exfalso
        rcases key d k hd (fun h => hde (h.trans e2.1.symm)) e2.2.1 e2.2.2 with h11 | ⟨h11, _⟩ <;> omega
      · rw [if_neg e2]; exact h10
  · rw [if_neg he]; exact h
theorem apart_zero : Apart (fun _ _ => 0) := fun _ _ _ _ _ _ _ h => absurd (show (0 : Nat) = 2 from h) (by decide)
/-- Two holds of a table in which no two clients clash. -/
theorem apart_pair {t : Nat → Nat → Nat} (h : Apart t) {x y : HoldT} (hx : x ∈ listL t) (hy : y ∈ listL t) (hxy : Ahead x y) (hm : max (y.1 : Int) x.1 < min (y.2.1 : Int) x.2.1) : y.2.2.1 ≠ x.2.2.1 ∧ y.2.2.2 ≠ 2 ∧ x.2.2.2 ≠ 2 := by
  have kx := (holds_ok hx).1
  have ky := (holds_ok hy).1
  have hb1 := kx.b
  have hb2 := ky.b
  have h1 : x.2.2.1 ≠ y.2.2.1 := by
    intro e
    rcases hxy with h | ⟨_, h⟩ <;> omega
  have ex := kx.all (max x.1 y.1) (by omega) (by omega)
  have ey := ky.all (max x.1 y.1) (by omega) (by omega)
  refine ⟨fun e => h1 e.symm, fun e => ?_, fun e => ?_⟩
  · have := h y.2.2.1 x.2.2.1 (max x.1 y.1) ky.c kx.c (by omega) (fun e => h1 e.symm) (by rw [ey, e])
    rw [ex] at this
    exact kx.m this
  · have := h x.2.2.1 y.2.2.1 (max x.1 y.1) kx.c ky.c (by omega) h1 (by rw [ex, e])
    rw [ey] at this
    exact ky.m this
theorem listL_two {t : Nat → Nat → Nat} (hb : ∀ c k, t c k ≤ 2) {h : HoldT} (hh : h ∈ listL t) : h.2.2.2 = 1 ∨ h.2.2.2 = 2 := by
  have k := (holds_ok hh).1
  have h1 := k.all h.1 (Nat.le_refl _) k.ab
  have h2 := hb h.2.2.1 h.1
  have h3 := k.m
  omega
theorem pair_at {t : Nat → Nat → Nat} {i k : Nat} {x y : HoldT} (hki : k < i) (hx : (listL t)[k]? = some x) (hy : (listL t)[i]? = some y) : Ahead x y := by
  have hp := holds_ahead (t := t) (lo := 0) (n := 256) (p := pAll) 8
  rw [List.pairwise_iff_getElem] at hp
  obtain ⟨h1, rfl⟩ := List.getElem?_eq_some_iff.1 hx
  obtain ⟨h2, rfl⟩ := List.getElem?_eq_some_iff.1 hy
  exact hp k i h1 h2 hki
theorem hcells_get : ∀ (L : List HoldT) (i : Nat) (h : HoldT), L[i]? = some h → ∀ (j : Nat) (v : Value), (hcell h)[j]? = some v → (hcells L)[i * 4 + j]? = some v
  | [], i, h, hi, _, _, _ => by simp at hi
  | x :: L, 0, h, hi, j, v, hv => by
    simp at hi
    subst hi
    have hj : j < (hcell x).length := by
      rcases Nat.lt_or_ge j (hcell x).length with h | h
      · exact h
      · rw [List.getElem?_eq_none h] at hv; cases hv
    show (hcell x ++ hcells L)[0 * 4 + j]? = some v
    rw [Nat.zero_mul, Nat.zero_add, List.getElem?_append_left hj]
    exact hv
  | x :: L, i + 1, h, hi, j, v, hv => by
    show (hcell x ++ hcells L)[(i + 1) * 4 + j]? = some v
    rw [List.getElem?_append_right (by show 4 ≤ _; omega)]
    have : (i + 1) * 4 + j - (hcell x).length = i * 4 + j := by
      have : (hcell x).length = 4 := rfl
      omega
    rw [this]
    exact hcells_get L i h (by simpa using hi) j v hv
/-- The cells of a listed hold, in memory. -/
theorem own_hold {w : World} {base : Nat} {e : TypeId} {v : Value} {L : List HoldT} (h : w.ownsRow base e 4 v L.length (hcells L)) (hn : 0 < L.length) :
    ∃ g cap, v = .slice (some ⟨g, 0, none⟩) L.length cap ∧ base ≤ g ∧ g < w.heap.size ∧ ∀ i x, L[i]? = some x →
      w.cell? ⟨g, i * 4, none⟩ = some (.int .i64 x.1) ∧ w.cell? ⟨g, i * 4 + 1, none⟩ = some (.int .i64 x.2.1) ∧ w.cell? ⟨g, i * 4 + 2, none⟩ = some (.int .i64 x.2.2.1) ∧ w.cell? ⟨g, i * 4 + 3, none⟩ = some (.int .i64 x.2.2.2) := by
  obtain ⟨g, cap, rfl, hg, hc, hm, ha⟩ := own_arr h hn
  refine ⟨g, cap, rfl, hg, ha.lt, fun i x hx => ?_⟩
  have hi : i < L.length := by
    rcases Nat.lt_or_ge i L.length with h | h
    · exact h
    · rw [List.getElem?_eq_none h] at hx; cases hx
  have key : ∀ j v, j < 4 → (hcell x)[j]? = some v → w.cell? ⟨g, i * 4 + j, none⟩ = some v := fun j v hj hv => by
    rw [ha.cell _ (by omega)]
    simp only [List.getD_eq_getElem?_getD, hcells_get L i x hx j v hv, Option.getD_some]
  exact ⟨key 0 _ (by omega) rfl, key 1 _ (by omega) rfl, key 2 _ (by omega) rfl, key 3 _ (by omega) rfl⟩
end Go.Proofs.YtijjbkkcienfgaaDoor
