/- Plain words on intervals: the runs of a function made of stretches, and the holds of a table in which one client alone has any. No program. -/
import Derived.Test.YtijjbkkcienfgaaDoorSpan6
namespace Go.Proofs.YtijjbkkcienfgaaDoor
set_option linter.unusedVariables false
set_option linter.unusedSimpArgs false

theorem runs_zero {f : Nat → Nat} {lo s : Nat} : ∀ d, (∀ k, lo + s ≤ k → k < lo + s + d → f k = 0) → runsL f lo (s + d) = runsL f lo s
  | 0, _ => rfl
  | d + 1, h => by
    rw [← Nat.add_assoc, runsL_zero (h _ (by omega) (by omega)), runs_zero d (fun k h1 h2 => h k h1 (by omega))]
theorem runs_piece {f : Nat → Nat} {lo s e v : Nat} (hse : s < e) (hv : v ≠ 0) (h0 : s = 0 ∨ f (lo + s - 1) ≠ v) (h : ∀ k, lo + s ≤ k → k < lo + e → f k = v) : runsL f lo e = runsL f lo s ++ [(lo + s, lo + e, v)] := by
  have e1 : f (lo + s) = v := h _ (by omega) (by omega)
  have := runsL_stretch (f := f) (lo := lo) (s := s) (by rw [e1]; exact h0) (e - s - 1) (fun i hi => by rw [e1]; exact h _ (by omega) (by omega))
  rw [e1, if_neg hv, show s + (e - s - 1) + 1 = e by omega, show lo + s + (e - s - 1) + 1 = lo + e by omega] at this
  exact this
/-- Zero all over. -/
theorem runs_none {f : Nat → Nat} {lo n : Nat} (h : ∀ k, lo ≤ k → k < lo + n → f k = 0) : runsL f lo n = [] := by
  have := runs_zero (f := f) (lo := lo) (s := 0) n (fun k h1 h2 => h k (by omega) (by omega))
  rw [Nat.zero_add] at this
  rw [this, runsL]
/-- One number on [a, b), zero elsewhere. -/
theorem runs_one {f : Nat → Nat} {a b v : Nat} {n : Nat} (hab : a < b) (hb : b ≤ n) (hv : v ≠ 0) (h : ∀ k, k < n → f k = if a ≤ k ∧ k < b then v else 0) : runsL f 0 n = [(a, b, v)] := by
  have e1 := runs_zero (f := f) (lo := 0) (s := b) (n - b) (fun k h1 h2 => by rw [h k (by omega), if_neg (by omega)])
  have e2 := runs_piece (f := f) (lo := 0) (s := a) (e := b) hab hv (by
    rcases Nat.eq_zero_or_pos a with e | e
    · exact .inl e
    · refine .inr ?_
      rw [h _ (by omega), if_neg (by omega)]
      omega) (fun k h1 h2 => by rw [h k (by omega), if_pos (by omega)])
  have e3 := runs_none (f := f) (lo := 0) (n := a) (fun k h1 h2 => by rw [h k (by omega), if_neg (by omega)])
  rw [show b + (n - b) = n by omega] at e1
  rw [e1, e2, e3]
  simp
/-- One number on [a, p) and on [q, b), zero elsewhere. -/
theorem runs_hole {f : Nat → Nat} {a p q b v : Nat} {n : Nat} (hap : a ≤ p) (hpq : p < q) (hqb : q ≤ b) (hb : b ≤ n) (hv : v ≠ 0) (h : ∀ k, k < n → f k = if (a ≤ k ∧ k < p) ∨ (q ≤ k ∧ k < b) then v else 0) :
    runsL f 0 n = (if a < p then [(a, p, v)] else []) ++ (if q < b then [(q, b, v)] else []) := by
  have e1 := runs_zero (f := f) (lo := 0) (s := b) (n - b) (fun k h1 h2 => by rw [h k (by omega), if_neg (by omega)])
  rw [show b + (n - b) = n by omega] at e1
  have e2 : runsL f 0 b = runsL f 0 q ++ (if q < b then [(q, b, v)] else []) := by
    by_cases e : q < b
    · rw [if_pos e]
      have := runs_piece (f := f) (lo := 0) (s := q) (e := b) e hv (.inr (by rw [h _ (by omega), if_neg (by omega)]; omega)) (fun k h1 h2 => by rw [h k (by omega), if_pos (by omega)])
      rw [this]; simp
    · rw [if_neg e, show b = q by omega]; simp
  have e3 := runs_zero (f := f) (lo := 0) (s := p) (q - p) (fun k h1 h2 => by rw [h k (by omega), if_neg (by omega)])
  rw [show p + (q - p) = q by omega] at e3
  have e4 : runsL f 0 p = if a < p then [(a, p, v)] else [] := by
    by_cases e : a < p
    · rw [if_pos e]
      exact runs_one e (Nat.le_refl _) hv (fun k hk => by
        rw [h k (by omega)]
        by_cases e9 : a ≤ k ∧ k < p
        · rw [if_pos e9, if_pos (.inl e9)]
        · rw [if_neg e9, if_neg (by omega)])
    · rw [if_neg e]
      exact runs_none (fun k h1 h2 => by rw [h k (by omega), if_neg (by omega)])
  rw [e1, e2, e3, e4]

/-! ### a table in which one client alone has any -/
theorem holds_none {t : Nat → Nat → Nat} {lo n : Nat} {p : Nat → Nat → Bool} : ∀ N, (∀ c k, c < N → lo ≤ k → k < lo + n → t c k = 0) → holdsTo t lo n p N = []
  | 0, _ => rfl
  | N + 1, h => by
    rw [holdsTo, holds_none N (fun c k h1 => h c k (by omega)), runs_none (fun k h1 h2 => h N k (by omega) h1 h2)]
    rfl
theorem holds_one {t : Nat → Nat → Nat} {lo n : Nat} {p : Nat → Nat → Bool} {c : Nat} : ∀ N, c < N → (∀ d k, d < N → d ≠ c → lo ≤ k → k < lo + n → t d k = 0) → holdsTo t lo n p N = rowHolds p c (runsL (t c) lo n)
  | 0, h, _ => absurd h (by omega)
  | N + 1, h, hz => by
    rw [holdsTo]
    by_cases e : c = N
    · subst e
      rw [holds_none c (fun d k h1 h2 h3 => hz d k (by omega) (by omega) h2 h3)]
      rfl
    · rw [holds_one N (by omega) (fun d k h1 h2 => hz d k (by omega) h2), runs_none (f := t N) (fun k h1 h2 => hz N k (by omega) (by omega) h1 h2)]
      simp [rowHolds]
/-- Where nobody's hold is wished there is none. -/
theorem holds_no {t : Nat → Nat → Nat} {lo n : Nat} {p : Nat → Nat → Bool} : ∀ N, (∀ c k, c < N → lo ≤ k → k < lo + n → t c k ≠ 0 → p c (t c k) = false) → holdsTo t lo n p N = []
  | 0, _ => rfl
  | N + 1, h => by
    rw [holdsTo, holds_no N (fun c k h1 => h c k (by omega))]
    show [] ++ List.flatMap (holdOf p N) _ = []
    rw [List.nil_append, List.flatMap_eq_nil_iff]
    intro r hr
    have k := runsL_ok n r hr
    unfold holdOf
    have e := k.l5 r.1 (Nat.le_refl _) k.l2
    have := h N r.1 (by omega) k.l1 (by have := k.l2; have := k.l3; omega) (by rw [e]; exact k.l4)
    rw [e] at this
    rw [this]
    rfl
end Go.Proofs.YtijjbkkcienfgaaDoor
