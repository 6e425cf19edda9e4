/- A range that some clients have in one mode: in plain words. No program. -/
import Derived.Test.YtkajedgghoboaaaDoorParts2
namespace Go.Proofs.YtkajedgghoboaaaDoor
set_option linter.unusedVariables false
set_option linter.unusedSimpArgs false

/-- The range from a on below b: those clients of which q is true have it in mode m. -/
def tS (q : Nat → Bool) (a b m : Nat) : Nat → Nat → Nat := fun d j => if q d = true ∧ a ≤ j ∧ j < b then m else 0
def whoS (q : Nat → Bool) (p : Nat → Nat → Bool) (m : Nat) (N : Nat) : List Nat := (List.range N).filter fun c => q c && p c m
variable {q : Nat → Bool} {p : Nat → Nat → Bool} {a b m : Nat}
theorem row_none {f : Nat → Nat} {lo n c : Nat} (h : ∀ k, lo ≤ k → k < lo + n → f k = 0) : rowHolds p c (runsL f lo n) = [] := by
  rw [runs_none h]; rfl
theorem holds_tS {lo n : Nat} (hm : m ≠ 0) (hr : ∀ c, q c = true → runsL (tS q a b m c) lo n = [(a, b, m)]) : ∀ N, holdsTo (tS q a b m) lo n p N = (whoS q p m N).map fun c => (a, b, c, m)
  | 0 => rfl
  | N + 1 => by
    unfold whoS
    rw [holdsTo, holds_tS hm hr N, List.range_succ, List.filter_append, List.map_append]
    congr 1
    by_cases e : q N = true
    · rw [hr N e]
      by_cases e2 : p N m = true
      · simp [rowHolds, holdOf, e, e2]
      · simp [rowHolds, holdOf, e, e2]
    · rw [row_none (fun k _ _ => by unfold tS; rw [if_neg (fun h => e h.1)])]
      simp [e]
theorem list_tS (hab : a < b) (hb : b ≤ 256) (hm : m ≠ 0) : listL (tS q a b m) = (whoS q pAll m 8).map fun c => (a, b, c, m) :=
  holds_tS hm (fun c hc => runs_one hab hb hm (fun k hk => by unfold tS; simp [hc])) 8
theorem some_tS (hab : a < b) (hb : b ≤ 256) (hm : m ≠ 0) : someL (tS q a b m) a b p = (whoS q p m 8).map fun c => (a, b, c, m) := by
  unfold someL
  rw [loZ_nat, nZ_nat _ _ hb]
  refine holds_tS hm (fun c hc => ?_) 8
  have := runs_piece (f := tS q a b m c) (lo := a) (s := 0) (e := b - a) (v := m) (by omega) hm (.inl rfl) (fun k h1 h2 => by unfold tS; rw [if_pos ⟨hc, by omega, by omega⟩])
  rw [this, show a + (b - a) = b by omega]
  simp [runsL]
theorem who_len (q : Nat → Bool) (p : Nat → Nat → Bool) (m N : Nat) : (whoS q p m N).length ≤ N := by
  unfold whoS
  exact Nat.le_trans (List.length_filter_le _ _) (by simp)
theorem who_congr {q q' : Nat → Bool} {p p' : Nat → Nat → Bool} {m N : Nat} (h : ∀ c, c < N → (q c && p c m) = (q' c && p' c m)) : whoS q p m N = whoS q' p' m N := by
  unfold whoS
  refine List.filter_congr fun c hc => h c (by simpa using hc)
/-- One more reader. -/
theorem put_reader {n : Nat} (hn : n < 8) (hab : a < b) (hb : b ≤ 256) : putE (tS (fun c => decide (c < n)) a b 1) a b n 1 = 0 ∧ putT (tS (fun c => decide (c < n)) a b 1) a b n 1 = tS (fun c => decide (c < n + 1)) a b 1 := by
  refine put_of hn (.inl rfl) hab hb ?_ ?_ ?_
  · rw [some_tS hab hb (by omega), List.map_eq_nil_iff]
    unfold whoS
    rw [List.filter_eq_nil_iff]
    intro c hc
    simp [pAg]
  · unfold upT
    rw [setT_nat _ _ _ _ _ hn hb]
    funext d k
    unfold setN tS
    by_cases e : d = n
    · subst e
      by_cases e1 : a ≤ k ∧ k < b
      · rw [if_pos ⟨rfl, e1⟩, if_neg (fun h => absurd h.1 (by simp)), if_pos ⟨by simp, e1⟩]
        rfl
      · rw [if_neg (fun h => e1 h.2), if_neg (fun h => e1 h.2), if_neg (fun h => e1 h.2)]
    · rw [if_neg (fun h => e h.1)]
      have : decide (d < n) = decide (d < n + 1) := by simp; omega
      simp only [this]
  · rw [list_tS hab hb (by omega), List.length_map]
    have := who_len (fun c => decide (c < n + 1)) pAll 1 8
    omega
/-- Against one that asks to write it. -/
theorem ag_count {n k : Nat} (hn : n ≤ 8) (hk : k < n) (m : Nat) : (whoS (fun c => decide (c < n)) (pAg k 2) m 8).length = n - 1 := by
  have e : whoS (fun c => decide (c < n)) (pAg k 2) m 8 = (List.range 8).filter fun c => decide (c < n) && decide (¬ c = k) := by
    unfold whoS
    refine List.filter_congr fun c hc => ?_
    have : ((c : Int) = (k : Int)) ↔ c = k := by omega
    simp [pAg, this]
  rw [e]
  have key : ∀ n, n < 9 → ∀ k, k < n → ((List.range 8).filter fun c => decide (c < n) && decide (¬ c = k)).length = n - 1 := by decide
  exact key n (by omega) k hk
theorem held_write {n k : Nat} (hn : n ≤ 8) (hk : k < n) (h1 : n ≠ 1) (hab : a < b) (hb : b ≤ 256) : putE (tS (fun c => decide (c < n)) a b 1) a b k 2 = 150 ∧ putT (tS (fun c => decide (c < n)) a b 1) a b k 2 = tS (fun c => decide (c < n)) a b 1 := by
  have e : putE (tS (fun c => decide (c < n)) a b 1) a b k 2 = 150 := by
    unfold putE
    rw [if_neg (by simp [inC8]; omega), if_neg (by omega), if_neg (by omega), if_neg (by omega), if_neg (by omega), some_tS hab hb (by omega), List.length_map, ag_count hn hk, if_pos (by omega)]
  exact ⟨e, by unfold putT; rw [e, if_neg (by decide)]⟩
theorem sole_write {k m : Nat} (hk : k < 8) (hm : m = 1 ∨ m = 2) (hab : a < b) (hb : b ≤ 256) : putE (tS (fun c => decide (c = k)) a b m) a b k 2 = 0 ∧ putT (tS (fun c => decide (c = k)) a b m) a b k 2 = tS (fun c => decide (c = k)) a b 2 := by
  refine put_of hk (.inr rfl) hab hb ?_ ?_ ?_
  · rw [some_tS hab hb (by omega), List.map_eq_nil_iff]
    unfold whoS
    rw [List.filter_eq_nil_iff]
    intro c hc
    simp only [pAg, Bool.and_eq_true, decide_eq_true_eq]
    omega
  · unfold upT
    rw [setT_nat _ _ _ _ _ hk hb]
    funext d j
    unfold setN tS
    by_cases e : d = k
    · subst e
      by_cases e1 : a ≤ j ∧ j < b
      · rw [if_pos ⟨rfl, e1⟩, if_pos ⟨by simp, e1⟩, if_pos ⟨by simp, e1⟩]
        show max m 2 = 2
        omega
      · rw [if_neg (fun h => e1 h.2), if_neg (fun h => e1 h.2), if_neg (fun h => e1 h.2)]
    · rw [if_neg (fun h => e h.1), if_neg (fun h => e (by simpa using h.1)), if_neg (fun h => e (by simpa using h.1))]
  · rw [list_tS hab hb (by omega), List.length_map]
    have := who_len (fun c => decide (c = k)) pAll 2 8
    omega
theorem only_zero {k n : Nat} (h : n = 1) (hk : k < n) : (fun c : Nat => decide (c < n)) = fun c => decide (c = k) := by
  funext c
  simp
  omega
theorem ag_sole {k m : Nat} (hk : k < 8) (hm : m ≠ 0) (hab : a < b) (hb : b ≤ 256) : (someL (tS (fun c => decide (c = k)) a b m) a b (pAg k 2)).length = 0 := by
  rw [some_tS hab hb hm, List.length_map]
  unfold whoS
  rw [List.length_eq_zero_iff, List.filter_eq_nil_iff]
  intro c hc
  simp only [pAg, Bool.and_eq_true, decide_eq_true_eq]
  omega
theorem write_try {n k : Nat} (hn : n ≤ 8) (hk : k < n) (hab : a < b) (hb : b ≤ 256) : ∃ (m : Nat) (e : Int), (m = 1 ∨ m = 2) ∧ putE (tS (fun c => decide (c < n)) a b 1) a b k 2 = e ∧ (e == 0) = ((n : Int) == 1) ∧
    putT (tS (fun c => decide (c < n)) a b 1) a b k 2 = tS (fun c => decide (c < n)) a b m ∧ (someL (tS (fun c => decide (c < n)) a b m) a b (pAg k 2)).length + 1 = n := by
  by_cases h1 : n = 1
  · have := sole_write (a := a) (b := b) (k := k) (m := 1) (by omega) (.inl rfl) hab hb
    rw [← only_zero h1 hk] at this
    have h3 := ag_sole (a := a) (b := b) (k := k) (m := 2) (by omega) (by omega) hab hb
    rw [← only_zero h1 hk] at h3
    exact ⟨2, 0, .inr rfl, this.1, by subst h1; rfl, this.2, by rw [h3, h1]⟩
  · have := held_write (a := a) (b := b) hn hk h1 hab hb
    refine ⟨1, 150, .inl rfl, this.1, ?_, this.2, ?_⟩
    · have : ((n : Int) == 1) = false := by simp; omega
      rw [this]; rfl
    · rw [some_tS hab hb (by omega), List.length_map, ag_count hn hk]
      omega
/-- Those that are left when the clients below c, but for k, are cut. -/
def lefts (n k c d : Nat) : Bool := decide (d < n) && (decide (c ≤ d) || decide (d = k))
theorem lefts_zero (n k : Nat) : lefts n k 0 = fun d => decide (d < n) := by funext d; simp [lefts]
theorem lefts_all {n k : Nat} (hk : k < n) : lefts n k n = fun d => decide (d = k) := by
  funext d
  unfold lefts
  by_cases e : d = k
  · simp [e, hk]
  · simp [e]
theorem lefts_skip {n k : Nat} (hk : k < n) : lefts n k (k + 1) = lefts n k k := by
  funext d
  unfold lefts
  by_cases e : d = k
  · simp [e]
  · have : (k + 1 ≤ d) = (k ≤ d) := by simp; omega
    simp [this]
theorem cut_one {n k c : Nat} (hn : n ≤ 8) (hc : c < n) (hck : c ≠ k) (hm : m ≠ 0) (hab : a < b) (hb : b ≤ 256) :
    (someL (tS (lefts n k c) a b m) a b (pOf c)).length = 1 ∧ setT (tS (lefts n k c) a b m) c a b (fun _ => 0) = tS (lefts n k (c + 1)) a b m := by
  constructor
  · rw [some_tS hab hb hm, List.length_map]
    have e : whoS (lefts n k c) (pOf c) m 8 = (List.range 8).filter fun d => decide (d = c) := by
      unfold whoS
      refine List.filter_congr fun d hd => ?_
      have : ((d : Int) = (c : Int)) ↔ d = c := by omega
      by_cases e : d = c
      · subst e
        simp [lefts, pOf, hc]
      · simp [lefts, pOf, this, e]
    rw [e]
    have key : ∀ c, c < 8 → ((List.range 8).filter fun d => decide (d = c)).length = 1 := by decide
    exact key c (by omega)
  · rw [setT_nat _ _ _ _ _ (by omega) hb]
    funext d j
    unfold setN tS
    by_cases e : d = c
    · subst e
      by_cases e1 : a ≤ j ∧ j < b
      · have e9 : lefts n k (d + 1) d = false := by simp [lefts, hck]
        have e8 : lefts n k d d = true := by simp [lefts, hc]
        rw [if_pos ⟨rfl, e1⟩, if_pos ⟨e8, e1⟩, if_neg (fun h => by rw [e9] at h; exact absurd h.1 (by simp))]
      · rw [if_neg (fun h => e1 h.2), if_neg (fun h => e1 h.2), if_neg (fun h => e1 h.2)]
    · rw [if_neg (fun h => e h.1)]
      have : lefts n k c d = lefts n k (c + 1) d := by
        unfold lefts
        have : (c ≤ d) = (c + 1 ≤ d) := by simp; omega
        simp [this]
      simp only [this]
theorem list_sole {k : Nat} (hk : k < 8) (hm : m ≠ 0) (hab : a < b) (hb : b ≤ 256) : listL (tS (fun c => decide (c = k)) a b m) = [(a, b, k, m)] := by
  rw [list_tS hab hb hm]
  have e : whoS (fun c => decide (c = k)) pAll m 8 = (List.range 8).filter fun d => decide (d = k) := by
    unfold whoS
    refine List.filter_congr fun d hd => ?_
    simp [pAll]
  rw [e]
  have key : ∀ k, k < 8 → ((List.range 8).filter fun d => decide (d = k)) = [k] := by decide
  rw [key k hk]
  rfl
theorem has_sole {k : Nat} (hk : k < 8) (hab : a < b) (hb : b ≤ 256) : hasV (tS (fun c => decide (c = k)) a b 2) k a 2 = true := by
  unfold hasV
  rw [if_neg (by simp [inC8]; omega), if_neg (by omega), if_neg (by omega), if_neg (by omega), Int.toNat_natCast, Int.toNat_natCast]
  unfold tS
  rw [if_pos ⟨by simp, by omega, hab⟩]
  rfl
theorem tS_none (a b m : Nat) : tS (fun c => decide (c < 0)) a b m = fun _ _ => 0 := by
  funext d j
  unfold tS
  simp
end Go.Proofs.YtkajedgghoboaaaDoor
