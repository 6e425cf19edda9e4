/- What is put is had; weakened, it is had to be read alone; cut, not any more: in plain words. No program. -/
import Derived.Test.YtkajedgghoboaaaDoorApartP
import Derived.Test.YtkajedgghoboaaaDoorSpan8
namespace Go.Proofs.YtkajedgghoboaaaDoor
set_option linter.unusedVariables false
set_option linter.unusedSimpArgs false

theorem hasV_at {t : Nat → Nat → Nat} {c k : Nat} (hc : c < 8) (hk : k < 256) {m : Int} (hm : m = 1 ∨ m = 2) : hasV t c k m = decide (m ≤ (t c k : Int)) := by
  unfold hasV
  rw [if_neg (by simp [inC8]; omega), if_neg (by omega), if_neg (by omega), if_neg (by omega), Int.toNat_natCast, Int.toNat_natCast]
theorem setT_nat_at (t : Nat → Nat → Nat) {c a b : Nat} (g : Nat → Nat) (hc : c < 8) (hb : b ≤ 256) {k : Nat} (h1 : a ≤ k) (h2 : k < b) : setT t c a b g c k = g (t c k) := by
  rw [setT_nat _ _ _ _ _ hc hb]
  unfold setN
  rw [if_pos ⟨rfl, h1, h2⟩]
theorem put_had {t : Nat → Nat → Nat} {c a b : Nat} {m : Int} (hc : c < 8) (hb : b ≤ 256) (hm : m = 1 ∨ m = 2) (he : putE t a b c m = 0) {k : Nat} (h1 : a ≤ k) (h2 : k < b) : hasV (putT t a b c m) c k m = true := by
  rw [hasV_at hc (by omega) hm]
  unfold putT upT
  rw [if_pos he, setT_nat_at t _ hc hb h1 h2]
  simp
  omega
theorem put_lo {t : Nat → Nat → Nat} {c a b : Nat} {m : Int} (hc : c < 8) (hb : b ≤ 256) (hm : m = 1 ∨ m = 2) (he : putE t a b c m = 0) {k : Nat} (h1 : a ≤ k) (h2 : k < b) : 1 ≤ putT t a b c m c k := by
  unfold putT upT
  rw [if_pos he, setT_nat_at t _ hc hb h1 h2]
  show 1 ≤ max _ _
  omega
theorem weak_two {t : Nat → Nat → Nat} {c a b : Nat} (hc : c < 8) (hb : b ≤ 256) {k : Nat} (h1 : a ≤ k) (h2 : k < b) : hasV (setT t c a b (fun m => min m 1)) c k 2 = false := by
  rw [hasV_at hc (by omega) (.inr rfl), setT_nat_at t _ hc hb h1 h2]
  simp
  omega
theorem weak_one {t : Nat → Nat → Nat} {c a b : Nat} (hc : c < 8) (hb : b ≤ 256) {k : Nat} (h1 : a ≤ k) (h2 : k < b) (ht : 1 ≤ t c k) : hasV (setT t c a b (fun m => min m 1)) c k 1 = true := by
  rw [hasV_at hc (by omega) (.inl rfl), setT_nat_at t _ hc hb h1 h2]
  simp
  omega
theorem cut_had {t : Nat → Nat → Nat} {c a b : Nat} (hc : c < 8) (hb : b ≤ 256) (hab : a < b) : hasV (setT t c a b (fun _ => 0)) c a 1 = false := by
  rw [hasV_at hc (by omega) (.inl rfl), setT_nat_at t _ hc hb (Nat.le_refl _) hab]
  decide
theorem cut_none {t : Nat → Nat → Nat} {c a b : Nat} (hc : c < 8) (hb : b ≤ 256) : someL (setT t c a b (fun _ => 0)) a b (pOf c) = [] := by
  unfold someL
  rw [loZ_nat, nZ_nat _ _ hb]
  refine holds_no 8 (fun d k hd h1 h2 hk => ?_)
  simp only [pOf, decide_eq_false_iff_not]
  intro e
  have e' : d = c := by omega
  subst e'
  rw [setT_nat_at t _ hc hb h1 (by omega)] at hk
  exact hk rfl
/-- Refused for somebody's sake: just then. -/
theorem put_held {t : Nat → Nat → Nat} {a b c m : Int} : putE t a b c m = 150 ↔ 0 < (someL t a b (pAg c m)).length ∧ inC8 c = true ∧ blk a b = true ∧ (m = 1 ∨ m = 2) := by
  unfold putE
  by_cases h1 : inC8 c = false
  · rw [if_pos h1, h1]
    simp
  rw [if_neg h1]
  have h1' : inC8 c = true := by simpa using h1
  by_cases h2 : m ≠ 1 ∧ m ≠ 2
  · rw [if_pos h2]
    constructor
    · intro h; exact absurd h (by decide)
    · rintro ⟨_, _, _, h⟩; omega
  rw [if_neg h2]
  by_cases h3 : blk a b = true
  · have h4 := h3
    simp only [blk, Bool.and_eq_true, decide_eq_true_eq] at h4
    rw [if_neg (by omega), if_neg (by omega), if_neg (by omega)]
    by_cases h5 : 0 < (someL t a b (pAg c m)).length
    · rw [if_pos h5]
      exact ⟨fun _ => ⟨h5, h1', h3, by omega⟩, fun _ => rfl⟩
    · rw [if_neg h5]
      constructor
      · intro h
        split at h <;> exact absurd h (by decide)
      · rintro ⟨h, _⟩; exact absurd h h5
  · have h4 : ¬ (0 ≤ a ∧ a < b ∧ b ≤ 256) := by
      intro h
      exact h3 (by simp [blk]; omega)
    constructor
    · intro h
      exfalso
      by_cases e1 : a < 0
      · rw [if_pos e1] at h; exact absurd h (by decide)
      · rw [if_neg e1] at h
        by_cases e2 : b ≤ a
        · rw [if_pos e2] at h; exact absurd h (by decide)
        · rw [if_neg e2] at h
          by_cases e3 : 256 < b
          · rw [if_pos e3] at h; exact absurd h (by decide)
          · exact h4 ⟨by omega, by omega, by omega⟩
    · rintro ⟨_, _, h, _⟩; exact absurd h h3
end Go.Proofs.YtkajedgghoboaaaDoor
