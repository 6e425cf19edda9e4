/- Plain words on runs: of a function on numbers, the stretches on which it is one number that is not 0. No program, no condition. -/
namespace Go.Proofs.YtijjbkkcienfgaaDoor
set_option linter.unusedVariables false
set_option linter.unusedSimpArgs false

abbrev Run := Nat × Nat × Nat
/-- The runs of f in the n numbers from lo on, built number by number. -/
def runsL (f : Nat → Nat) (lo : Nat) : Nat → List Run
  | 0 => []
  | n + 1 =>
    if f (lo + n) = 0 then runsL f lo n
    else if n ≠ 0 ∧ f (lo + n - 1) = f (lo + n) then (runsL f lo n).dropLast ++ [(match (runsL f lo n).getLast? with | some r => r.1 | none => lo + n, lo + n + 1, f (lo + n))]
    else runsL f lo n ++ [(lo + n, lo + n + 1, f (lo + n))]

theorem runsL_zero {f : Nat → Nat} {lo n : Nat} (h : f (lo + n) = 0) : runsL f lo (n + 1) = runsL f lo n := by rw [runsL, if_pos h]
theorem runsL_new {f : Nat → Nat} {lo n : Nat} (h : f (lo + n) ≠ 0) (h2 : n = 0 ∨ f (lo + n - 1) ≠ f (lo + n)) : runsL f lo (n + 1) = runsL f lo n ++ [(lo + n, lo + n + 1, f (lo + n))] := by
  rw [runsL, if_neg h, if_neg (by omega)]
theorem runsL_ext {f : Nat → Nat} {lo n : Nat} {l : List Run} {a m : Nat} (h : f (lo + n) ≠ 0) (h1 : n ≠ 0) (h2 : f (lo + n - 1) = f (lo + n)) (hl : runsL f lo n = l ++ [(a, lo + n, m)]) :
    runsL f lo (n + 1) = l ++ [(a, lo + n + 1, f (lo + n))] := by
  rw [runsL, if_neg h, if_pos ⟨h1, h2⟩, hl]
  simp

/-- A run that begins at lo + s and goes on for d numbers more. -/
theorem runsL_stretch {f : Nat → Nat} {lo s : Nat} (h0 : s = 0 ∨ f (lo + s - 1) ≠ f (lo + s)) : ∀ d, (∀ i, i ≤ d → f (lo + s + i) = f (lo + s)) →
    runsL f lo (s + d + 1) = if f (lo + s) = 0 then runsL f lo s else runsL f lo s ++ [(lo + s, lo + s + d + 1, f (lo + s))]
  | 0, h => by
    by_cases z : f (lo + s) = 0
    · rw [if_pos z, Nat.add_zero, runsL_zero z]
    · rw [if_neg z, Nat.add_zero, runsL_new z h0]
  | d + 1, h => by
    have ih := runsL_stretch h0 d (fun i hi => h i (by omega))
    have e : f (lo + (s + d + 1)) = f (lo + s) := by rw [← h (d + 1) (Nat.le_refl _)]; congr 1; omega
    have e1 : f (lo + (s + d + 1) - 1) = f (lo + s) := by rw [← h d (by omega)]; congr 1; omega
    rw [show s + (d + 1) + 1 = (s + d + 1) + 1 by omega]
    by_cases z : f (lo + s) = 0
    · rw [if_pos z] at ih ⊢
      rw [runsL_zero (by rw [e]; exact z), ih]
    · rw [if_neg z] at ih ⊢
      rw [runsL_ext (l := runsL f lo s) (a := lo + s) (m := f (lo + s)) (by rw [e]; exact z) (by omega) (by rw [e1, e]) (by rw [ih, show lo + s + d + 1 = lo + (s + d + 1) by omega]), e, show lo + (s + d + 1) + 1 = lo + s + (d + 1) + 1 by omega]

/-- Where the last number is in a run, that run is the last one. -/
theorem runsL_last {f : Nat → Nat} {lo : Nat} : ∀ n, f (lo + n) ≠ 0 → ∃ l a, runsL f lo (n + 1) = l ++ [(a, lo + n + 1, f (lo + n))] ∧ lo ≤ a ∧ a ≤ lo + n ∧ ∀ k, a ≤ k → k ≤ lo + n → f k = f (lo + n)
  | 0, h => ⟨_, _, runsL_new h (.inl rfl), by omega, by omega, fun k h1 h2 => by rw [show k = lo + 0 by omega]⟩
  | n + 1, h => by
    by_cases e : f (lo + n) = f (lo + (n + 1))
    · obtain ⟨l, a, h1, h2, h3, h4⟩ := runsL_last (f := f) (lo := lo) n (by rw [e]; exact h)
      refine ⟨l, a, runsL_ext h (by omega) (by rw [← e]; rfl) h1, h2, by omega, fun k k1 k2 => ?_⟩
      by_cases ek : k = lo + (n + 1)
      · rw [ek]
      · rw [h4 k k1 (by omega), e]
    · exact ⟨_, _, runsL_new h (.inr e), by omega, by omega, fun k h1 h2 => by rw [show k = lo + (n + 1) by omega]⟩

/-- What a run of the list is. -/
structure RunOk (f : Nat → Nat) (lo n : Nat) (r : Run) : Prop where
  l1 : lo ≤ r.1
  l2 : r.1 < r.2.1
  l3 : r.2.1 ≤ lo + n
  l4 : r.2.2 ≠ 0
  l5 : ∀ k, r.1 ≤ k → k < r.2.1 → f k = r.2.2
theorem runsL_step {f : Nat → Nat} {lo n : Nat} : (f (lo + n) = 0 ∧ runsL f lo (n + 1) = runsL f lo n) ∨
    (f (lo + n) ≠ 0 ∧ (n = 0 ∨ f (lo + n - 1) ≠ f (lo + n)) ∧ runsL f lo (n + 1) = runsL f lo n ++ [(lo + n, lo + n + 1, f (lo + n))]) ∨
    (f (lo + n) ≠ 0 ∧ n ≠ 0 ∧ f (lo + n - 1) = f (lo + n) ∧ ∃ l a, runsL f lo n = l ++ [(a, lo + n, f (lo + n))] ∧ runsL f lo (n + 1) = l ++ [(a, lo + n + 1, f (lo + n))] ∧ lo ≤ a ∧ a < lo + n ∧ ∀ k, a ≤ k → k < lo + n → f k = f (lo + n)) := by
  by_cases z : f (lo + n) = 0
  · exact .inl ⟨z, runsL_zero z⟩
  · by_cases e : n = 0 ∨ f (lo + n - 1) ≠ f (lo + n)
    · exact .inr (.inl ⟨z, e, runsL_new z e⟩)
    · obtain ⟨m, rfl⟩ : ∃ m, n = m + 1 := ⟨n - 1, by omega⟩
      have e2 : f (lo + m) = f (lo + (m + 1)) := by
        have : f (lo + (m + 1) - 1) = f (lo + (m + 1)) := by
          rcases Nat.decEq (f (lo + (m + 1) - 1)) (f (lo + (m + 1))) with h | h
          · exact absurd (.inr h) e
          · exact h
        exact this
      obtain ⟨l, a, h1, h2, h3, h4⟩ := runsL_last (f := f) (lo := lo) m (by rw [e2]; exact z)
      refine .inr (.inr ⟨z, by omega, e2, l, a, by rw [h1, e2]; rfl, runsL_ext z (by omega) e2 h1, h2, by omega, fun k k1 k2 => by rw [h4 k k1 (by omega), e2]⟩)
theorem runsL_ok {f : Nat → Nat} {lo : Nat} : ∀ n r, r ∈ runsL f lo n → RunOk f lo n r
  | 0, r, h => by simp [runsL] at h
  | n + 1, r, h => by
    have up : ∀ r, r ∈ runsL f lo n → RunOk f lo (n + 1) r := fun r hr => by
      have k := runsL_ok n r hr
      exact ⟨k.l1, k.l2, by have := k.l3; omega, k.l4, k.l5⟩
    rcases runsL_step (f := f) (lo := lo) (n := n) with ⟨z, e⟩ | ⟨z, _, e⟩ | ⟨z, _, _, l, a, h1, e, h2, h3, h4⟩
    · rw [e] at h; exact up r h
    · rw [e] at h
      rcases List.mem_append.1 h with h | h
      · exact up r h
      · rw [List.mem_singleton.1 h]
        exact ⟨by simp, by simp, by simp; omega, z, fun k k1 k2 => by simp at k1 k2; rw [show k = lo + n by omega]⟩
    · rw [e] at h
      rcases List.mem_append.1 h with h | h
      · exact up r (by rw [h1]; exact List.mem_append_left _ h)
      · rw [List.mem_singleton.1 h]
        exact ⟨h2, by simp; omega, by simp; omega, z, fun k k1 k2 => by
          simp at k1 k2
          by_cases ek : k = lo + n
          · rw [ek]
          · exact h4 k k1 (by omega)⟩
/-- They rise and do not meet. -/
theorem runsL_rise {f : Nat → Nat} {lo : Nat} : ∀ n, (runsL f lo n).Pairwise (fun x y => x.2.1 ≤ y.1)
  | 0 => .nil
  | n + 1 => by
    have ih := runsL_rise (f := f) (lo := lo) n
    rcases runsL_step (f := f) (lo := lo) (n := n) with ⟨z, e⟩ | ⟨z, _, e⟩ | ⟨z, _, _, l, a, h1, e, h2, h3, h4⟩
    · rw [e]; exact ih
    · rw [e, List.pairwise_append]
      exact ⟨ih, by simp, fun x hx y hy => by rw [List.mem_singleton.1 hy]; exact (runsL_ok n x hx).l3⟩
    · rw [h1, List.pairwise_append] at ih
      rw [e, List.pairwise_append]
      exact ⟨ih.1, by simp, fun x hx y hy => by rw [List.mem_singleton.1 hy]; exact ih.2.2 x hx (a, lo + n, f (lo + n)) (List.mem_singleton.2 rfl)⟩
/-- Each number that has a mode is in a run. -/
theorem runsL_has {f : Nat → Nat} {lo : Nat} : ∀ n k, lo ≤ k → k < lo + n → f k ≠ 0 → ∃ r, r ∈ runsL f lo n ∧ r.1 ≤ k ∧ k < r.2.1
  | 0, k, h1, h2, _ => absurd h2 (by omega)
  | n + 1, k, h1, h2, h3 => by
    have ih : k < lo + n → ∃ r, r ∈ runsL f lo n ∧ r.1 ≤ k ∧ k < r.2.1 := fun h => runsL_has n k h1 h h3
    rcases runsL_step (f := f) (lo := lo) (n := n) with ⟨z, e⟩ | ⟨z, _, e⟩ | ⟨z, _, _, l, a, g1, e, g2, g3, g4⟩
    · rw [e]
      exact ih (by rcases Nat.lt_or_ge k (lo + n) with h | h; exact h; exfalso; apply h3; rw [show k = lo + n by omega]; exact z)
    · rw [e]
      rcases Nat.lt_or_ge k (lo + n) with h | h
      · obtain ⟨r, r1, r2⟩ := ih h
        exact ⟨r, List.mem_append_left _ r1, r2⟩
      · exact ⟨_, List.mem_append_right _ (List.mem_singleton.2 rfl), by simp; omega, by simp; omega⟩
    · rw [e]
      rcases Nat.lt_or_ge k (lo + n) with h | h
      · obtain ⟨r, r1, r2⟩ := ih h
        rw [g1] at r1
        rcases List.mem_append.1 r1 with r1 | r1
        · exact ⟨r, List.mem_append_left _ r1, r2⟩
        · rw [List.mem_singleton.1 r1] at r2
          exact ⟨_, List.mem_append_right _ (List.mem_singleton.2 rfl), r2.1, by simp at r2 ⊢; omega⟩
      · exact ⟨_, List.mem_append_right _ (List.mem_singleton.2 rfl), by simp; omega, by simp; omega⟩
theorem runsL_congr {f g : Nat → Nat} {lo : Nat} : ∀ n, (∀ k, lo ≤ k → k < lo + n → f k = g k) → runsL f lo n = runsL g lo n
  | 0, _ => rfl
  | n + 1, h => by
    rw [runsL, runsL, runsL_congr n (fun k h1 h2 => h k h1 (by omega)), h (lo + n) (by omega) (by omega)]
    by_cases e : n = 0
    · simp [e]
    · rw [h (lo + n - 1) (by omega) (by omega)]
theorem runsL_len {f : Nat → Nat} {lo : Nat} : ∀ n, (runsL f lo n).length ≤ n
  | 0 => Nat.le_refl _
  | n + 1 => by
    have ih := runsL_len (f := f) (lo := lo) n
    rcases runsL_step (f := f) (lo := lo) (n := n) with ⟨z, e⟩ | ⟨z, _, e⟩ | ⟨z, _, _, l, a, g1, e, g2, g3, g4⟩
    · rw [e]; omega
    · rw [e]; simp; omega
    · rw [g1] at ih; rw [e]; simp at ih ⊢; omega

/-- A run as far as it lies from lo to hi. -/
def clipR (lo hi : Nat) (r : Run) : Option Run := if max r.1 lo < min r.2.1 hi then some (max r.1 lo, min r.2.1 hi, r.2.2) else none
/-- The runs of a part are the parts of the runs. -/
theorem runsL_clip_hi {f : Nat → Nat} {lo hi : Nat} : ∀ d, (runsL f 0 (hi + d)).filterMap (clipR lo hi) = (runsL f 0 hi).filterMap (clipR lo hi)
  | 0 => rfl
  | d + 1 => by
    have ih := runsL_clip_hi (f := f) (lo := lo) (hi := hi) d
    rw [← Nat.add_assoc]
    rcases runsL_step (f := f) (lo := 0) (n := hi + d) with ⟨z, e⟩ | ⟨z, _, e⟩ | ⟨z, _, _, l, a, g1, e, g2, g3, g4⟩
    · rw [e]; exact ih
    · rw [e, List.filterMap_append, ih]
      simp [clipR]; omega
    · rw [e, List.filterMap_append]
      rw [g1, List.filterMap_append] at ih
      rw [← ih]
      congr 1
      simp only [List.filterMap_cons, List.filterMap_nil, clipR]
      rw [show min (0 + (hi + d) + 1) hi = hi by omega, show min (0 + (hi + d)) hi = hi by omega]
theorem runsL_clip_lo {f : Nat → Nat} {lo : Nat} : ∀ n hi, lo + n ≤ hi → (runsL f 0 (lo + n)).filterMap (clipR lo hi) = runsL f lo n
  | 0, hi, _ => by
    rw [Nat.add_zero, runsL, List.filterMap_eq_nil_iff]
    intro r hr
    have := (runsL_ok _ r hr).l3
    unfold clipR
    rw [if_neg (by omega)]
  | n + 1, hi, h => by
    have ih := runsL_clip_lo (f := f) (lo := lo) n hi (by omega)
    rw [← Nat.add_assoc]
    rcases runsL_step (f := f) (lo := 0) (n := lo + n) with ⟨z, e⟩ | ⟨z, e0, e⟩ | ⟨z, e0, e1, l, a, g1, e, g2, g3, g4⟩
    · rw [Nat.zero_add] at z
      rw [e, ih, runsL_zero z]
    · rw [Nat.zero_add] at z e0 e
      rw [e, List.filterMap_append, ih, runsL_new z (by
        rcases e0 with e0 | e0
        · exact .inl (by omega)
        · exact .inr e0)]
      congr 1
      simp only [List.filterMap_cons, List.filterMap_nil, clipR]
      rw [if_pos (by omega), show max (lo + n) lo = lo + n by omega, show min (lo + n + 1) hi = lo + n + 1 by omega]
    · rw [Nat.zero_add] at z e1 g1 e g3 g4
      rw [e, List.filterMap_append]
      rw [g1, List.filterMap_append] at ih
      by_cases hn : n = 0
      · subst hn
        rw [runsL_new z (.inl rfl)]
        simp only [Nat.add_zero, List.filterMap_cons, List.filterMap_nil, clipR, runsL] at ih ⊢
        rw [if_neg (by omega)] at ih
        rw [if_pos (by omega), show max a lo = lo by omega, show min (lo + 1) hi = lo + 1 by omega]
        simp only [List.append_nil] at ih
        rw [ih]
      · have key : List.filterMap (clipR lo hi) [(a, lo + n, f (lo + n))] = [(max a lo, lo + n, f (lo + n))] := by
          simp only [List.filterMap_cons, List.filterMap_nil, clipR]
          rw [if_pos (by omega), show min (lo + n) hi = lo + n by omega]
        have key2 : List.filterMap (clipR lo hi) [(a, lo + n + 1, f (lo + n))] = [(max a lo, lo + n + 1, f (lo + n))] := by
          simp only [List.filterMap_cons, List.filterMap_nil, clipR]
          rw [if_pos (by omega), show min (lo + n + 1) hi = lo + n + 1 by omega]
        rw [key] at ih
        rw [key2, runsL_ext z hn e1 ih.symm]
theorem runsL_clip {f : Nat → Nat} {lo hi N : Nat} (h : hi ≤ N) : (runsL f 0 N).filterMap (clipR lo hi) = runsL f lo (hi - lo) := by
  obtain ⟨d, rfl⟩ : ∃ d, N = hi + d := ⟨N - hi, by omega⟩
  rw [runsL_clip_hi]
  rcases Nat.lt_or_ge hi lo with e | e
  · rw [show hi - lo = 0 by omega, runsL, List.filterMap_eq_nil_iff]
    intro r hr
    unfold clipR
    rw [if_neg (by omega)]
  · obtain ⟨n, rfl⟩ : ∃ n, hi = lo + n := ⟨hi - lo, by omega⟩
    rw [runsL_clip_lo n _ (Nat.le_refl _)]
    congr 1
    omega
end Go.Proofs.YtijjbkkcienfgaaDoor
