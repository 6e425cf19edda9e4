/- How many runs the rows of a table can have: each step adds two at most; and what a step keeps: in plain words. No program. -/
import Derived.Test.YtijjbkkcienfgaaDoorRefBP
namespace Go.Proofs.YtijjbkkcienfgaaDoor
set_option linter.unusedVariables false
set_option linter.unusedSimpArgs false

/-- The value ahead of a block. -/
def prv (f : Nat → Nat) (k : Nat) : Nat := if k = 0 then 0 else f (k - 1)
/-- Where a row turns. -/
def turns (f : Nat → Nat) : Nat → Nat
  | 0 => 0
  | n + 1 => turns f n + if prv f n = f n then 0 else 1
theorem runs_turns (f : Nat → Nat) : ∀ n, (runsL f 0 n).length ≤ turns f n
  | 0 => by simp [runsL, turns]
  | n + 1 => by
    have ih := runs_turns f n
    unfold turns
    by_cases e0 : f n = 0
    · rw [runsL_zero (by rw [Nat.zero_add]; exact e0)]
      omega
    · by_cases e1 : prv f n = f n
      · rw [if_pos e1]
        unfold prv at e1
        by_cases e2 : n = 0
        · rw [if_pos e2] at e1; omega
        · rw [if_neg e2] at e1
          obtain ⟨m, rfl⟩ : ∃ m, n = m + 1 := ⟨n - 1, by omega⟩
          rw [Nat.add_sub_cancel] at e1
          obtain ⟨l, a, hl, _⟩ := runsL_last (f := f) (lo := 0) m (by rw [Nat.zero_add, e1]; exact e0)
          simp only [Nat.zero_add] at hl
          have hx := runsL_ext (f := f) (lo := 0) (n := m + 1) (l := l) (a := a) (m := f m) (by rw [Nat.zero_add]; exact e0) (by omega) (by simp only [Nat.zero_add, Nat.add_sub_cancel]; exact e1) (by rw [Nat.zero_add]; exact hl)
          rw [hx]
          rw [hl] at ih
          simpa using ih
      · rw [if_neg e1]
        have hx := runsL_new (f := f) (lo := 0) (n := n) (by rw [Nat.zero_add]; exact e0) (by
          rw [Nat.zero_add]
          unfold prv at e1
          by_cases e2 : n = 0
          · exact .inl e2
          · rw [if_neg e2] at e1; exact .inr e1)
        rw [hx, List.length_append]
        simp
        exact ih
def cutRow (f : Nat → Nat) (lo hi : Nat) (g : Nat → Nat) : Nat → Nat := fun k => if lo ≤ k ∧ k < hi then g (f k) else f k
theorem turns_cut (f : Nat → Nat) (lo hi : Nat) (g : Nat → Nat) : ∀ n, turns (cutRow f lo hi g) n ≤ turns f n + (if lo < n then 1 else 0) + (if hi < n then 1 else 0)
  | 0 => by simp [turns]
  | n + 1 => by
    have ih := turns_cut f lo hi g n
    unfold turns
    have key : prv (cutRow f lo hi g) n = cutRow f lo hi g n ∨ prv f n ≠ f n ∨ n = lo ∨ n = hi := by
      by_cases e1 : prv f n = f n
      · by_cases e2 : n = lo
        · exact .inr (.inr (.inl e2))
        · by_cases e3 : n = hi
          · exact .inr (.inr (.inr e3))
          · refine .inl ?_
            unfold prv at e1 ⊢
            by_cases e4 : n = 0
            · rw [if_pos e4] at e1 ⊢
              unfold cutRow
              rw [if_neg (by omega)]
              exact e1
            · rw [if_neg e4] at e1 ⊢
              unfold cutRow
              rw [e1]
              by_cases e5 : lo ≤ n ∧ n < hi
              · rw [if_pos (by omega), if_pos e5]
              · rw [if_neg (by omega), if_neg e5]
      · exact .inr (.inl e1)
    have h1 : (if prv (cutRow f lo hi g) n = cutRow f lo hi g n then 0 else 1) ≤ 1 := by split <;> omega
    rcases key with h | h | h | h
    · rw [if_pos h]
      have h2 : (if lo < n then 1 else 0) ≤ (if lo < n + 1 then 1 else 0) := by split <;> split <;> omega
      have h3 : (if hi < n then 1 else 0) ≤ (if hi < n + 1 then 1 else 0) := by split <;> split <;> omega
      omega
    · rw [if_neg (show ¬ prv f n = f n from h)]
      have h2 : (if lo < n then 1 else 0) ≤ (if lo < n + 1 then 1 else 0) := by split <;> split <;> omega
      have h3 : (if hi < n then 1 else 0) ≤ (if hi < n + 1 then 1 else 0) := by split <;> split <;> omega
      omega
    · have h2 : (if lo < n then 1 else 0) + 1 ≤ (if lo < n + 1 then 1 else 0) := by rw [if_neg (by omega), if_pos (by omega)]; omega
      have h3 : (if hi < n then 1 else 0) ≤ (if hi < n + 1 then 1 else 0) := by split <;> split <;> omega
      omega
    · have h2 : (if lo < n then 1 else 0) ≤ (if lo < n + 1 then 1 else 0) := by split <;> split <;> omega
      have h3 : (if hi < n then 1 else 0) + 1 ≤ (if hi < n + 1 then 1 else 0) := by rw [if_neg (by omega), if_pos (by omega)]; omega
      omega
/-- All rows' turns, of the clients below n. -/
def turnsT (t : Nat → Nat → Nat) : Nat → Nat
  | 0 => 0
  | c + 1 => turnsT t c + turns (t c) 256
theorem turnsT_same {t t' : Nat → Nat → Nat} : ∀ n, (∀ c, c < n → t' c = t c) → turnsT t' n = turnsT t n
  | 0, _ => rfl
  | n + 1, h => by rw [turnsT, turnsT, turnsT_same n (fun c hc => h c (by omega)), h n (by omega)]
theorem turnsT_set (t : Nat → Nat → Nat) (c lo hi : Nat) (g : Nat → Nat) : ∀ n, turnsT (setN t c lo hi g) n ≤ turnsT t n + 2
  | 0 => by simp [turnsT]
  | n + 1 => by
    rw [turnsT, turnsT]
    by_cases e : c = n
    · subst e
      rw [turnsT_same c (t := t) (fun d hd => by funext k; unfold setN; rw [if_neg (fun h => by omega)])]
      have h1 : setN t c lo hi g c = cutRow (t c) lo hi g := by
        funext k
        unfold setN cutRow
        by_cases e1 : lo ≤ k ∧ k < hi
        · rw [if_pos ⟨rfl, e1⟩, if_pos e1]
        · rw [if_neg (fun h => e1 h.2), if_neg e1]
      rw [h1]
      have := turns_cut (t c) lo hi g 256
      have h2 : (if lo < 256 then 1 else 0) ≤ 1 := by split <;> omega
      have h3 : (if hi < 256 then 1 else 0) ≤ 1 := by split <;> omega
      omega
    · have h1 : setN t c lo hi g n = t n := by
        funext k
        unfold setN
        rw [if_neg (fun h => e h.1.symm)]
      rw [h1]
      have := turnsT_set t c lo hi g n
      omega
theorem holds_turns (t : Nat → Nat → Nat) : ∀ n, (holdsTo t 0 256 pAll n).length ≤ turnsT t n
  | 0 => by simp [holdsTo]
  | n + 1 => by
    rw [holdsTo, List.length_append, turnsT]
    have h1 := holds_turns t n
    have h2 := rowHolds_len pAll n (runsL (t n) 0 256)
    have h3 := runs_turns (t n) 256
    omega
/-- What a step keeps: no two clients clash; two turns more, at most. -/
def StepR (t t' : Nat → Nat → Nat) : Prop := (Apart t → Apart t') ∧ turnsT t' 8 ≤ turnsT t 8 + 2
theorem StepR.refl (t : Nat → Nat → Nat) : StepR t t := ⟨id, by omega⟩
theorem step_set (t : Nat → Nat → Nat) (c a b : Int) {g : Nat → Nat} (g0 : g 0 = 0) (g2 : ∀ m, g m = 2 → m = 2) : StepR t (setT t c a b g) := by
  refine ⟨fun h => apart_set h c a b g0 g2, ?_⟩
  unfold setT
  split
  · exact turnsT_set t _ _ _ _ 8
  · omega
theorem step_put {t : Nat → Nat → Nat} (hb : ∀ c k, t c k ≤ 2) (a b c m : Int) : StepR t (putT t a b c m) := by
  refine ⟨fun h => apart_put h hb a b c m, ?_⟩
  unfold putT
  split
  · unfold upT setT
    split
    · exact turnsT_set t _ _ _ _ 8
    · omega
  · omega
theorem turns_none : ∀ n, turns (fun _ => 0) n = 0
  | 0 => rfl
  | n + 1 => by
    rw [turns, turns_none n]
    unfold prv
    split <;> simp_all
theorem turnsT_none : ∀ n, turnsT (fun _ _ => 0) n = 0
  | 0 => rfl
  | n + 1 => by rw [turnsT, turnsT_none n, turns_none]
end Go.Proofs.YtijjbkkcienfgaaDoor
