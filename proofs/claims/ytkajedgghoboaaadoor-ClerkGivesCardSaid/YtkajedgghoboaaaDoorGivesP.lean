/- What a clerk that holds one range gives up, and what it may then: in plain words. No program. -/
import Derived.Test.YtkajedgghoboaaaDoorClerkP
import Derived.Test.YtkajedgghoboaaaDoorRefBP
namespace Go.Proofs.YtkajedgghoboaaaDoor
set_option linter.unusedVariables false
set_option linter.unusedSimpArgs false

def gvSome (x y m u v : Int) (weak : Bool) : Bool := decide (max x u < min y v) && (!weak || m == 2)
theorem giveP_at (s : St) (weak : Bool) (m' : Nat) (hid : s.id = 4) : giveP s weak 4 m' = (!weak || ((m' : Int) == 2)) := by
  unfold giveP
  rw [hid]
  cases weak with
  | false => simp [pOf]
  | true =>
    have h9 : ((m' : Int) = 2) ↔ m' = 2 := by omega
    simp only [if_pos]
    by_cases e : m' = 2
    · subst e; simp [pOf2]
    · have e' : ¬ (m' : Int) = 2 := by omega
      simp [pOf2, e, e']
theorem gives_list {x y m : Int} (hm : m = 1 ∨ m = 2) (hb : blk x y = true) (u v : Int) (weak : Bool) (s : St) (hid : s.id = 4) :
    (gvSome x y m u v weak = true → ∃ mx mn m' : Nat, (mx : Int) = max x u ∧ (mn : Int) = min y v ∧ (m' : Int) = m ∧ someL (putT (fun _ _ => 0) x y 4 m) u v (giveP s weak) = [(mx, mn, 4, m')]) ∧
    (gvSome x y m u v weak = false → someL (putT (fun _ _ => 0) x y 4 m) u v (giveP s weak) = []) := by
  obtain ⟨h1, h2, h3⟩ := blk_of hb
  obtain ⟨x1, rfl⟩ : ∃ x1 : Nat, x = x1 := ⟨x.toNat, by omega⟩
  obtain ⟨x2, rfl⟩ : ∃ x2 : Nat, y = x2 := ⟨y.toNat, by omega⟩
  obtain ⟨m', rfl⟩ : ∃ m' : Nat, m = m' := ⟨m.toNat, by omega⟩
  have t : putT (fun _ _ => 0) x1 x2 4 m' = tO 4 x1 x2 m' := (put_first (c := 4) (x1 := x1) (x2 := x2) (m := m') (by omega) (by omega) (by omega) (by omega)).2
  have hl := list_tO (c := 4) (x1 := x1) (x2 := x2) (m := m') (by omega) (by omega) (by omega) (by omega)
  have hmem : ((x1, x2, 4, m') : HoldT) ∈ listL (tO 4 x1 x2 m') := by rw [hl]; simp
  rw [t, some_clip, hl]
  have hp := giveP_at s weak m' hid
  constructor
  · intro h
    unfold gvSome at h
    rw [Bool.and_eq_true, decide_eq_true_eq] at h
    obtain ⟨e5, e6, e7⟩ := meet_of hmem u v h.1
    dsimp only at e5 e6 e7
    refine ⟨_, _, m', e6.symm, e7.symm, rfl, ?_⟩
    simp only [List.filterMap_cons, List.filterMap_nil, clipH]
    rw [if_pos ⟨by rw [hp]; exact h.2, e5⟩]
  · intro h
    unfold gvSome at h
    rw [Bool.and_eq_false_iff, decide_eq_false_iff_not] at h
    simp only [List.filterMap_cons, List.filterMap_nil, clipH]
    rw [if_neg (fun hh => by
      rcases h with h | h
      · exact meet_not hmem u v h hh.2
      · rw [hp, h] at hh; exact absurd hh.1 (by simp))]
def gvH (x y b : Int) : Bool := decide (x ≤ b) && decide (b < y)
theorem gives_has {x y m : Int} (hm : m = 1 ∨ m = 2) (hb : blk x y = true) (u v : Int) (weak : Bool) (b : Int) (b0 : 0 ≤ b) (b1 : b < 256) :
    hasV (setT (putT (fun _ _ => 0) x y 4 m) 4 u v (giveG weak)) 4 b 1 = (gvH x y b && (!gvH u v b || weak)) ∧ hasV (setT (putT (fun _ _ => 0) x y 4 m) 4 u v (giveG weak)) 4 b 2 = ((gvH x y b && m == 2) && !gvH u v b) := by
  obtain ⟨h1, h2, h3⟩ := blk_of hb
  obtain ⟨x1, rfl⟩ : ∃ x1 : Nat, x = x1 := ⟨x.toNat, by omega⟩
  obtain ⟨x2, rfl⟩ : ∃ x2 : Nat, y = x2 := ⟨y.toNat, by omega⟩
  obtain ⟨m', rfl⟩ : ∃ m' : Nat, m = m' := ⟨m.toNat, by omega⟩
  obtain ⟨k, rfl⟩ : ∃ k : Nat, b = k := ⟨b.toNat, by omega⟩
  have t : putT (fun _ _ => 0) x1 x2 4 m' = tO 4 x1 x2 m' := (put_first (c := 4) (x1 := x1) (x2 := x2) (m := m') (by omega) (by omega) (by omega) (by omega)).2
  rw [t]
  have hs := setT_at (tO 4 x1 x2 m') 4 u v (giveG weak) (c := 4) (k := k) (by omega) (by omega)
  have hv : ∀ mo : Int, mo = 1 ∨ mo = 2 → hasV (setT (tO 4 x1 x2 m') 4 u v (giveG weak)) 4 k mo = decide (mo ≤ ((setT (tO 4 x1 x2 m') 4 u v (giveG weak) 4 k : Nat) : Int)) := by
    intro mo hmo
    unfold hasV
    rw [if_neg (by decide), if_neg (by omega), if_neg (by omega), if_neg (by omega), Int.toNat_natCast]
    rfl
  rw [hv 1 (.inl rfl), hv 2 (.inr rfl), hs]
  have ht : tO 4 x1 x2 m' 4 k = if x1 ≤ k ∧ k < x2 then m' else 0 := by
    unfold tO
    by_cases e : x1 ≤ k ∧ k < x2
    · rw [if_pos ⟨rfl, e⟩, if_pos e]
    · rw [if_neg (fun h => e h.2), if_neg e]
  rw [ht]
  have hm' : m' = 1 ∨ m' = 2 := by omega
  by_cases e1 : x1 ≤ k ∧ k < x2
  · have g1 : gvH x1 x2 k = true := by simp [gvH]; omega
    rw [if_pos e1, g1]
    by_cases e2 : u ≤ k ∧ (k : Int) < v
    · have g2 : gvH u v k = true := by simp [gvH]; omega
      rw [if_pos ⟨by decide, e2⟩, g2]
      unfold giveG
      cases weak <;> rcases hm' with rfl | rfl <;> simp
    · have g2 : gvH u v k = false := by
        simp only [gvH, Bool.and_eq_false_iff, decide_eq_false_iff_not]
        omega
      rw [if_neg (fun h => e2 h.2), g2]
      rcases hm' with rfl | rfl <;> simp
  · have g1 : gvH x1 x2 k = false := by
      simp only [gvH, Bool.and_eq_false_iff, decide_eq_false_iff_not]
      omega
    rw [if_neg e1, g1]
    by_cases e2 : u ≤ k ∧ (k : Int) < v
    · rw [if_pos ⟨by decide, e2⟩]
      unfold giveG
      cases weak <;> simp
    · rw [if_neg (fun h => e2 h.2)]
      simp
end Go.Proofs.YtkajedgghoboaaaDoor
