/- The document's list of votes is the program's array of votes, read in order: plain laws; the law's bound. No further condition. -/
import Derived.Test.YtphcoenooinmfaaDoorBal10
namespace Go.Proofs.YtphcoenooinmfaaDoor
open Go.RowKit
set_option linter.unusedVariables false
set_option linter.unusedSimpArgs false
attribute [local go_sem ↓] Go.wp_at_zero Go.wp_at_succ

theorem votesN_succ (g : Nat → Option VoteT) (n : Nat) : votesN g (n + 1) = votesN g n ++ (g n).toList := by
  unfold votesN
  rw [List.range_succ, List.filterMap_append]
  cases h : g n <;> simp [h]
theorem votesN_congr {g h : Nat → Option VoteT} {n : Nat} (e : ∀ i, i < n → g i = h i) : votesN g n = votesN h n := by
  induction n with
  | zero => rfl
  | succ n ih => rw [votesN_succ, votesN_succ, ih (fun i hi => e i (by omega)), e n (by omega)]
def setG (g : Nat → Option VoteT) (x : VoteT) : Nat → Option VoteT := fun i => if (i : Int) = x.s then some x else g i
/-- Nothing from s on: the list with x put at s. -/
theorem votesN_end {g : Nat → Option VoteT} {x : VoteT} {s : Nat} (hs : x.s = (s : Int)) : ∀ n, s < n → (∀ i, s ≤ i → i < n → g i = none) → votesN (setG g x) n = votesN g n ++ [x] := by
  intro n
  induction n with
  | zero => intro h; omega
  | succ n ih =>
    intro h hn
    rw [votesN_succ, votesN_succ, hn n (by omega) (by omega)]
    by_cases e : n = s
    · subst e
      have e1 : setG g x n = some x := by unfold setG; rw [if_pos hs.symm]
      rw [e1, votesN_congr (g := setG g x) (h := g) (fun i hi => by unfold setG; rw [if_neg (by rw [hs]; omega)])]
      simp
    · have e1 : setG g x n = none := by unfold setG; rw [if_neg (by rw [hs]; omega)]; exact hn n (by omega) (by omega)
      rw [e1, ih (by omega) (fun i h1 h2 => hn i h1 (by omega))]
      simp
theorem votesN_low {g : Nat → Option VoteT} {x : VoteT} {s n : Nat} (hs : x.s = (s : Int)) (h : n ≤ s) : votesN (setG g x) n = votesN g n :=
  votesN_congr fun i hi => by unfold setG; rw [if_neg (by rw [hs]; omega)]
theorem fold_votes {g : Nat → Option VoteT} {x : VoteT} {s : Nat} (hs : x.s = (s : Int)) : ∀ n, (∀ i y, i < n → g i = some y → y.s = (i : Int)) →
    ((∃ i, s ≤ i ∧ i < n ∧ g i ≠ none) → (votesN g n).foldl (insS x) ([], false) = (votesN (setG g x) n, true)) ∧
    ((∀ i, s ≤ i → i < n → g i = none) → (votesN g n).foldl (insS x) ([], false) = (votesN g n, false)) := by
  intro n
  induction n with
  | zero => intro _; exact ⟨fun ⟨i, _, h, _⟩ => by omega, fun _ => rfl⟩
  | succ n ih =>
    intro hv
    obtain ⟨ih1, ih2⟩ := ih (fun i y hi hy => hv i y (by omega) hy)
    cases hg : g n with
    | none =>
      have e0 : votesN g (n + 1) = votesN g n := by rw [votesN_succ, hg]; simp
      rw [e0]
      refine ⟨fun ⟨i, h1, h2, h3⟩ => ?_, fun h => ih2 (fun i h1 h2 => h i h1 (by omega))⟩
      have hin : i ≠ n := fun e => h3 (by rw [e, hg])
      rw [ih1 ⟨i, h1, by omega, h3⟩, votesN_succ (setG g x)]
      have e1 : setG g x n = none := by unfold setG; rw [if_neg (by rw [hs]; omega)]; exact hg
      rw [e1]
      simp
    | some y =>
      have hy := hv n y (by omega) hg
      have e0 : votesN g (n + 1) = votesN g n ++ [y] := by rw [votesN_succ, hg]; simp
      rw [e0, List.foldl_append]
      by_cases hseen : ∃ i, s ≤ i ∧ i < n ∧ g i ≠ none
      · rw [ih1 hseen]
        obtain ⟨i, h1, h2, h3⟩ := hseen
        refine ⟨fun _ => ?_, fun h => absurd (h i h1 (by omega)) h3⟩
        have e1 : setG g x n = some y := by unfold setG; rw [if_neg (by rw [hs]; omega)]; exact hg
        rw [votesN_succ (setG g x), e1]
        have e2 : ¬ y.s = x.s := by omega
        simp [insS, e2]
      · have hnone : ∀ i, s ≤ i → i < n → g i = none := fun i h1 h2 => Classical.byContradiction fun h => hseen ⟨i, h1, h2, h⟩
        rw [ih2 hnone]
        by_cases hsn : s ≤ n
        · refine ⟨fun _ => ?_, fun h => by have := h n hsn (by omega); rw [hg] at this; cases this⟩
          have e3 : x.s ≤ y.s := by omega
          by_cases e : n = s
          · subst e
            have e1 : setG g x n = some x := by unfold setG; rw [if_pos hs.symm]
            have e2 : y.s = x.s := by omega
            rw [votesN_succ (setG g x), e1, votesN_low hs (Nat.le_refl _)]
            simp [insS, e2]
          · have e1 : setG g x n = some y := by unfold setG; rw [if_neg (by rw [hs]; omega)]; exact hg
            have e2 : ¬ y.s = x.s := by omega
            rw [votesN_succ (setG g x), e1, votesN_end hs n (by omega) hnone]
            simp [insS, e2, e3]
        · refine ⟨fun ⟨i, h1, h2, _⟩ => by omega, fun _ => ?_⟩
          have e2 : ¬ y.s = x.s := by omega
          have e3 : ¬ x.s ≤ y.s := by omega
          simp [insS, e2, e3]
theorem ins_votes {g : Nat → Option VoteT} {x : VoteT} {s n : Nat} (hs : x.s = (s : Int)) (hn : s < n) (hv : ∀ i y, i < n → g i = some y → y.s = (i : Int)) : insL x (votesN g n) = votesN (setG g x) n := by
  obtain ⟨h1, h2⟩ := fold_votes hs n hv
  unfold insL insR
  rw [List.take_length]
  by_cases hseen : ∃ i, s ≤ i ∧ i < n ∧ g i ≠ none
  · rw [h1 hseen]
    simp
  · have hnone : ∀ i, s ≤ i → i < n → g i = none := fun i h1 h2 => Classical.byContradiction fun h => hseen ⟨i, h1, h2, h⟩
    rw [h2 hnone, votesN_end hs n hn hnone]
    simp
theorem acc_ok {p : Int} {x : VoteT} (h : accE p x = 0) : 0 ≤ x.s ∧ x.s < 4096 ∧ 1 ≤ x.b ∧ x.b ≤ 1099511627776 ∧ x.v.size ≤ 1024 ∧ p ≤ x.b := by
  unfold accE at h
  split at h
  · cases h
  · rename_i h1
    split at h
    · cases h
    · split at h
      · cases h
      · cases hb : balB x.b with
        | false => exact absurd (.inr (.inr hb)) h1
        | true =>
          simp only [balB, decide_eq_true_eq] at hb
          omega
/-- What the two lists come to by one vote. -/
theorem racc_votes {p : Int} {g : Nat → Option VoteT} {x : VoteT} (hv : ∀ i y, i < 4096 → g i = some y → y.s = (i : Int)) : raccL p x (votesN g 4096) = votesN (accG p g x) 4096 := by
  unfold raccL accG
  by_cases h : accE p x = 0
  · rw [if_pos h, if_pos h]
    obtain ⟨h0, h1, _⟩ := acc_ok h
    exact ins_votes (s := x.s.toNat) (by omega) (by omega) hv
  · rw [if_neg h, if_neg h]
theorem setG_len (g : Nat → Option VoteT) (x : VoteT) : ∀ n, (votesN (setG g x) n).length ≤ (votesN g n).length + 1 ∧ ((∀ i, i < n → (i : Int) ≠ x.s) → (votesN (setG g x) n).length = (votesN g n).length) := by
  intro n
  induction n with
  | zero => exact ⟨by simp [votesN], fun _ => rfl⟩
  | succ n ih =>
    rw [votesN_succ, votesN_succ, List.length_append, List.length_append]
    have hs : (if (n : Int) = x.s then some x else g n).toList.length ≤ 1 := by
      cases (if (n : Int) = x.s then some x else g n) <;> simp
    by_cases e : (n : Int) = x.s
    · have := ih.2 (fun i hi h => by omega)
      refine ⟨?_, fun h => absurd e (h n (by omega))⟩
      have e1 : setG g x n = some x := by unfold setG; rw [if_pos e]
      rw [e1, this]
      simp
    · have e1 : setG g x n = g n := by unfold setG; rw [if_neg e]
      rw [e1]
      exact ⟨by have := ih.1; omega, fun h => by rw [ih.2 (fun i hi => h i (by omega))]⟩
theorem accG_len (p : Int) (g : Nat → Option VoteT) (x : VoteT) : (votesN (accG p g x) 4096).length ≤ (votesN g 4096).length + 1 := by
  unfold accG
  split
  · exact (setG_len g x 4096).1
  · omega
/-- An acceptor's votes are ones that it could have: by ballots that it has not overtaken. -/
def okG (p : Int) (g : Nat → Option VoteT) : Prop := 0 ≤ p ∧ p ≤ 1099511627776 ∧ ∀ i y, i < 4096 → g i = some y → y.s = (i : Int) ∧ 1 ≤ y.b ∧ y.b ≤ p ∧ y.v.size ≤ 1024
theorem okG_none : okG 0 (fun _ => none) := ⟨by omega, by omega, fun i y _ h => by cases h⟩
theorem okG_prep {p b : Int} {g : Nat → Option VoteT} (h : okG p g) : okG (prepP p b) g ∧ p ≤ prepP p b := by
  unfold prepP
  split
  · rename_i e
    unfold prepE at e
    split at e
    · cases e
    · split at e
      · cases e
      · rename_i h1 h2
        have hb : balB b = true := by cases hb : balB b <;> simp_all
        simp only [balB, decide_eq_true_eq] at hb
        exact ⟨⟨by omega, by omega, fun i y hi hy => by have := h.2.2 i y hi hy; exact ⟨this.1, this.2.1, by omega, this.2.2.2⟩⟩, by omega⟩
  · exact ⟨h, Int.le_refl _⟩
theorem okG_acc {p : Int} {g : Nat → Option VoteT} {x : VoteT} (h : okG p g) : okG (accP p x) (accG p g x) ∧ p ≤ accP p x := by
  unfold accP accG
  by_cases e : accE p x = 0
  · rw [if_pos e, if_pos e]
    obtain ⟨a0, a1, a2, a3, a4, a5⟩ := acc_ok e
    refine ⟨⟨by omega, a3, fun i y hi hy => ?_⟩, a5⟩
    change (if (i : Int) = x.s then some x else g i) = some y at hy
    by_cases e1 : (i : Int) = x.s
    · rw [if_pos e1] at hy
      cases hy
      exact ⟨e1.symm, a2, Int.le_refl _, a4⟩
    · rw [if_neg e1] at hy
      have := h.2.2 i y hi hy
      exact ⟨this.1, this.2.1, by omega, this.2.2.2⟩
  · rw [if_neg e, if_neg e]
    exact ⟨h, Int.le_refl _⟩
theorem flt_votes (g : Nat → Option VoteT) (s : Int) : votesF g s 4096 = fltL s (votesN g 4096) := rfl
theorem flt_all {g : Nat → Option VoteT} {p : Int} (h : okG p g) : votesF g 0 4096 = votesN g 4096 := by
  unfold votesF
  rw [List.filter_eq_self]
  intro y hy
  unfold votesN at hy
  rw [List.mem_filterMap] at hy
  obtain ⟨i, hi, he⟩ := hy
  have := (h.2.2 i y (by simpa using hi) he).1
  simp
  omega
theorem prep_votes (p b s : Int) (g : Nat → Option VoteT) : prepL p b s g = rprepL p b s (votesN g 4096) := rfl
end Go.Proofs.YtphcoenooinmfaaDoor
