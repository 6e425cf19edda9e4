/- The document's table as a list of holds, in plain words: the mode of a block, how a row of holds grows, holds clipped. No program. -/
import Derived.Test.YtijjbkkcienfgaaDoorApartP
namespace Go.Proofs.YtijjbkkcienfgaaDoor
set_option linter.unusedVariables false
set_option linter.unusedSimpArgs false

/-- The mode in which somebody has a block. -/
def rmode (t : Nat → Nat → Nat) (c k : Int) : Int := if inC8 c = true ∧ 0 ≤ k ∧ k < 256 then (t c.toNat k.toNat : Nat) else 0
def hits (x : HoldT) (c k : Int) : Prop := (x.2.2.1 : Int) = c ∧ (x.1 : Int) ≤ k ∧ k < (x.2.1 : Int)
theorem rmode_hit {t : Nat → Nat → Nat} {x : HoldT} {c k : Int} (hx : x ∈ listL t) (h : hits x c k) : rmode t c k = (x.2.2.2 : Nat) := by
  obtain ⟨h1, h2, h3⟩ := h
  have ok := (holds_ok hx).1
  have hc := ok.c
  have hb := ok.b
  unfold rmode
  rw [if_pos ⟨by simp [inC8]; omega, by omega, by omega⟩, ← h1, Int.toNat_natCast, ok.all k.toNat (by omega) (by omega)]
theorem rmode_miss {t : Nat → Nat → Nat} {c k : Int} (h : ∀ x ∈ listL t, ¬ hits x c k) : rmode t c k = 0 := by
  unfold rmode
  by_cases e : inC8 c = true ∧ 0 ≤ k ∧ k < 256
  · rw [if_pos e]
    obtain ⟨e1, e2, e3⟩ := e
    simp [inC8] at e1
    by_cases e4 : t c.toNat k.toNat = 0
    · rw [e4]; rfl
    · exfalso
      obtain ⟨r, hr, h3, h4⟩ := runsL_has (f := t c.toNat) (lo := 0) 256 k.toNat (Nat.zero_le _) (by omega) e4
      exact h (r.1, r.2.1, c.toNat, r.2.2) (mem_holds.2 ⟨c.toNat, r, by omega, hr, rfl, rfl⟩) ⟨by show ((c.toNat : Nat) : Int) = c; omega, by show (r.1 : Int) ≤ k; omega, by show k < (r.2.1 : Int); omega⟩
  · rw [if_neg e]
theorem rmode_at {t : Nat → Nat → Nat} {c k : Nat} (hc : c < 8) (hk : k < 256) : rmode t c k = (t c k : Nat) := by
  unfold rmode
  rw [if_pos ⟨by simp [inC8]; omega, by omega, by omega⟩, Int.toNat_natCast, Int.toNat_natCast]
theorem setT_at (t : Nat → Nat → Nat) (cl a b : Int) (g : Nat → Nat) {c k : Nat} (hc : c < 8) (hk : k < 256) : setT t cl a b g c k = if (c : Int) = cl ∧ a ≤ k ∧ (k : Int) < b then g (t c k) else t c k := by
  unfold setT
  by_cases e : inC8 cl = true
  · rw [if_pos e]
    simp [inC8] at e
    unfold setN
    by_cases e1 : c = cl.toNat ∧ (max a 0).toNat ≤ k ∧ k < (min b 256).toNat
    · rw [if_pos e1, if_pos (by omega)]
    · rw [if_neg e1, if_neg (by omega)]
  · rw [if_neg e]
    have e' : ¬ (0 ≤ cl ∧ cl < 8) := by simpa [inC8] using e
    rw [if_neg (by omega)]
theorem setT_bd {t : Nat → Nat → Nat} (hb : ∀ c k, t c k ≤ 2) (cl a b : Int) {g : Nat → Nat} (hg : ∀ m, m ≤ 2 → g m ≤ 2) : ∀ c k, setT t cl a b g c k ≤ 2 := by
  intro c k
  have := hb c k
  unfold setT
  split
  · unfold setN
    split
    · exact hg _ this
    · exact this
  · exact this
/-- The holds of the clients below c, and of c those below block k. -/
def upto (t : Nat → Nat → Nat) (c k : Nat) : List HoldT := holdsTo t 0 256 pAll c ++ rowHolds pAll c (runsL (t c) 0 k)
theorem upto_zero (t : Nat → Nat → Nat) (c : Nat) : upto t c 0 = holdsTo t 0 256 pAll c := by simp [upto, runsL, rowHolds]
theorem upto_all (t : Nat → Nat → Nat) (c : Nat) : upto t c 256 = holdsTo t 0 256 pAll (c + 1) := rfl
theorem upto_len (t : Nat → Nat → Nat) {c k : Nat} (hc : c < 8) (hk : k ≤ 256) : (upto t c k).length ≤ 2048 := by
  unfold upto
  rw [List.length_append]
  have h1 := holdsTo_len t 0 256 pAll c
  have h2 := rowHolds_len pAll c (runsL (t c) 0 k)
  have h3 := runsL_len (f := t c) (lo := 0) k
  have : c * 256 ≤ 7 * 256 := Nat.mul_le_mul_right _ (by omega)
  omega
theorem upto_none {t : Nat → Nat → Nat} {c k : Nat} (h : t c k = 0) : upto t c (k + 1) = upto t c k := by
  unfold upto
  rw [runsL_zero (by rw [Nat.zero_add]; exact h)]
theorem upto_new {t : Nat → Nat → Nat} {c k : Nat} (h : t c k ≠ 0) (h2 : k = 0 ∨ t c (k - 1) ≠ t c k) : upto t c (k + 1) = upto t c k ++ [(k, k + 1, c, t c k)] := by
  unfold upto
  rw [runsL_new (by rw [Nat.zero_add]; exact h) (by rw [Nat.zero_add]; exact h2), Nat.zero_add, rowHolds_snoc, List.append_assoc]
  simp [holdOf, pAll]
theorem upto_more {t : Nat → Nat → Nat} {c k : Nat} (h : t c k ≠ 0) (h1 : k ≠ 0) (h2 : t c (k - 1) = t c k) : ∃ l a, upto t c k = l ++ [(a, k, c, t c k)] ∧ upto t c (k + 1) = l ++ [(a, k + 1, c, t c k)] := by
  obtain ⟨n, rfl⟩ : ∃ n, k = n + 1 := ⟨k - 1, by omega⟩
  rw [Nat.add_sub_cancel] at h2
  obtain ⟨l, a, hl, _⟩ := runsL_last (f := t c) (lo := 0) n (by rw [Nat.zero_add, h2]; exact h)
  simp only [Nat.zero_add] at hl
  rw [h2] at hl
  have hx := runsL_ext (f := t c) (lo := 0) (n := n + 1) (l := l) (a := a) (m := t c (n + 1)) (by rw [Nat.zero_add]; exact h) (by omega) (by simp only [Nat.zero_add, Nat.add_sub_cancel]; exact h2) (by rw [Nat.zero_add]; exact hl)
  simp only [Nat.zero_add] at hx
  refine ⟨holdsTo t 0 256 pAll c ++ rowHolds pAll c l, a, ?_, ?_⟩
  · unfold upto
    rw [hl, rowHolds_snoc, List.append_assoc]
    simp [holdOf, pAll]
  · unfold upto
    rw [hx, rowHolds_snoc, List.append_assoc]
    simp [holdOf, pAll]
theorem hcells_append (l l' : List HoldT) : hcells (l ++ l') = hcells l ++ hcells l' := by simp [hcells]
theorem hcells_len (l : List HoldT) : (hcells l).length = l.length * 4 := by
  induction l with
  | nil => rfl
  | cons x l ih =>
    show (hcell x ++ hcells l).length = _
    rw [List.length_append, ih]
    show 4 + _ = _
    simp
    omega
theorem hcells_set (l : List HoldT) (a b b' c m : Nat) : (hcells (l ++ [(a, b, c, m)])).set (l.length * 4 + 1) (.int .i64 b') = hcells (l ++ [(a, b', c, m)]) := by
  rw [hcells_append, hcells_append, ← hcells_len, List.set_append_right _ _ (by omega), Nat.add_sub_cancel_left]
  rfl
/-- One's own row, with one cell turned. -/
theorem own_set {w : World} {base e size n i g cap : Nat} {xs : List Value} (u : Value) (h : w.ownsRow base e size (.slice (some ⟨g, 0, none⟩) n cap) n xs) (hi : i < n * size) :
    (w.setCell ⟨g, i, none⟩ u).ownsRow base e size (.slice (some ⟨g, 0, none⟩) n cap) n (xs.set i u) := by
  obtain ⟨h1, h2 | ⟨g', cap', cur, he, hg, hh, hc, hm, hs, hx⟩⟩ := h
  · cases h2.1
  · cases he
    refine ⟨by simpa using h1, .inr ⟨g, cap, cur.setIfInBounds i u, rfl, hg, ?_, hc, hm, by simpa using hs, ?_⟩⟩
    · simp [World.setCell, Array.getElem?_modify, hh]
    · rw [← hx, Array.toList_setIfInBounds, List.take_set]
theorem own_cell {w : World} {base e size n i g cap : Nat} {xs : List Value} {u : Value} (h : w.ownsRow base e size (.slice (some ⟨g, 0, none⟩) n cap) n xs) (hi : xs[i]? = some u) : w.cell? ⟨g, i, none⟩ = some u ∧ w.frozen? ⟨g, i, none⟩ = false := by
  have hl := h.1
  have hi' : i < n * size := by
    rw [← hl]
    rcases Nat.lt_or_ge i xs.length with h | h
    · exact h
    · rw [List.getElem?_eq_none h] at hi; cases hi
  obtain ⟨_, h2 | ⟨g', cap', cur, he, hg, hh, hc, hm, hs, hx⟩⟩ := h
  · cases h2.1
  · cases he
    refine ⟨?_, by simp [World.frozen?, hh]⟩
    rw [cell_of_row w g i cur e (0, 0) hh, ← Array.getElem?_toList, ← hi, ← hx, List.getElem?_take, if_pos hi']
theorem own_last {w : World} {base e : Nat} {v : Value} {l : List HoldT} {x : HoldT} (h : w.ownsRow base e 4 v (l ++ [x]).length (hcells (l ++ [x]))) : ∃ g cap, v = .slice (some ⟨g, 0, none⟩) (l.length + 1) cap ∧ base ≤ g ∧ g < w.heap.size ∧ l.length + 1 ≤ cap ∧ cap ≤ maxLen := by
  obtain ⟨_, h2 | ⟨g, cap, cur, rfl, hg, hh, h1, h2, h3, h4⟩⟩ := h
  · have := h2.2
    simp at this
  · rw [List.length_append] at h1 ⊢
    exact ⟨g, cap, rfl, hg, lt_of_block hh, h1, h2⟩

/-! ### holds clipped to a range -/
def clipH (lo hi : Nat) (p : Nat → Nat → Bool) (h : HoldT) : Option HoldT := if p h.2.2.1 h.2.2.2 = true ∧ max h.1 lo < min h.2.1 hi then some (max h.1 lo, min h.2.1 hi, h.2.2.1, h.2.2.2) else none
theorem row_clip (lo hi : Nat) (p : Nat → Nat → Bool) (c : Nat) : ∀ l : List Run, rowHolds p c (l.filterMap (clipR lo hi)) = (rowHolds pAll c l).filterMap (clipH lo hi p)
  | [] => rfl
  | r :: l => by
    have e1 : rowHolds pAll c (r :: l) = (r.1, r.2.1, c, r.2.2) :: rowHolds pAll c l := by simp [rowHolds, holdOf, pAll]
    rw [e1]
    by_cases h : max r.1 lo < min r.2.1 hi
    · have e2 : clipR lo hi r = some (max r.1 lo, min r.2.1 hi, r.2.2) := by unfold clipR; rw [if_pos h]
      rw [List.filterMap_cons_some e2]
      by_cases hp : p c r.2.2 = true
      · rw [List.filterMap_cons_some (b := (max r.1 lo, min r.2.1 hi, c, r.2.2)) (by unfold clipH; rw [if_pos ⟨hp, h⟩]), ← row_clip lo hi p c l]
        simp [rowHolds, holdOf, hp]
      · rw [List.filterMap_cons_none (by unfold clipH; rw [if_neg (fun x => hp x.1)]), ← row_clip lo hi p c l]
        simp [rowHolds, holdOf, hp]
    · rw [List.filterMap_cons_none (by unfold clipR; rw [if_neg h]), List.filterMap_cons_none (by unfold clipH; rw [if_neg (fun x => h x.2)])]
      exact row_clip lo hi p c l
theorem holds_clip {t : Nat → Nat → Nat} {lo hi : Nat} (p : Nat → Nat → Bool) (h : hi ≤ 256) : ∀ N, holdsTo t lo (hi - lo) p N = (holdsTo t 0 256 pAll N).filterMap (clipH lo hi p)
  | 0 => rfl
  | N + 1 => by
    rw [holdsTo, holdsTo, List.filterMap_append, holds_clip p h N, ← row_clip, runsL_clip h]
theorem some_clip (t : Nat → Nat → Nat) (a b : Int) (p : Nat → Nat → Bool) : someL t a b p = (listL t).filterMap (clipH (max a 0).toNat (min b 256).toNat p) := by
  unfold someL loZ nZ
  exact holds_clip p (by omega) 8
/-- A hold of the list, met with a range of any two numbers. -/
theorem meet_of {t : Nat → Nat → Nat} {x : HoldT} (hx : x ∈ listL t) (a b : Int) (h : max (x.1 : Int) a < min (x.2.1 : Int) b) :
    max x.1 (max a 0).toNat < min x.2.1 (min b 256).toNat ∧ max (x.1 : Int) a = (max x.1 (max a 0).toNat : Nat) ∧ min (x.2.1 : Int) b = (min x.2.1 (min b 256).toNat : Nat) := by
  have hb := (holds_ok hx).1.b
  omega
theorem meet_not {t : Nat → Nat → Nat} {x : HoldT} (hx : x ∈ listL t) (a b : Int) (h : ¬ max (x.1 : Int) a < min (x.2.1 : Int) b) : ¬ max x.1 (max a 0).toNat < min x.2.1 (min b 256).toNat := by
  have hb := (holds_ok hx).1.b
  omega
theorem clip_snoc {L : List HoldT} {f : HoldT → Option HoldT} {i : Nat} {x : HoldT} (hx : L[i]? = some x) : (L.take (i + 1)).filterMap f = (L.take i).filterMap f ++ (f x).toList := by
  have h1 : i < L.length := by
    rcases Nat.lt_or_ge i L.length with h | h
    · exact h
    · rw [List.getElem?_eq_none h] at hx; cases hx
  rw [List.take_add_one, hx, List.filterMap_append]
  cases h : f x <;> simp [h]
end Go.Proofs.YtijjbkkcienfgaaDoor
