/- Plain words on histories of clocks: ways, windows, which window is not fair. No program, no condition. -/
namespace Go.Proofs.Ytdaapkbgfabmaaa
set_option linter.unusedVariables false
set_option linter.unusedSimpArgs false

def clampI (n most : Int) : Int := max 0 (min n most)
/-- The way of clock j in the rows a, a + 1, .. (n of them). -/
def sumW (rw : Nat → Nat → Int) (a : Nat) : Nat → Nat → Int
  | 0, _ => 0
  | n + 1, j => sumW rw a n j + rw (a + n) j
theorem sumW_head (rw : Nat → Nat → Int) (a j : Nat) : ∀ n, sumW rw a (n + 1) j = sumW rw (a + 1) n j + rw a j
  | 0 => by simp [sumW]
  | n + 1 => by
    have := sumW_head rw a j n
    simp only [sumW] at this ⊢
    rw [show a + 1 + n = a + (n + 1) by omega]
    omega
def RwOk (rw : Nat → Nat → Int) : Prop := ∀ i j, 0 ≤ rw i j ∧ rw i j ≤ 1048576
theorem sumW_bd {rw : Nat → Nat → Int} (h : RwOk rw) (a j : Nat) : ∀ n, 0 ≤ sumW rw a n j ∧ sumW rw a n j ≤ n * 1048576
  | 0 => by simp [sumW]
  | n + 1 => by
    have := sumW_bd h a j n
    have := h (a + n) j
    simp only [sumW]
    omega
theorem sumW_shift (rw : Nat → Nat → Int) (c a j : Nat) : ∀ n, sumW (fun i => rw (c + i)) a n j = sumW rw (c + a) n j
  | 0 => rfl
  | n + 1 => by simp only [sumW]; rw [sumW_shift rw c a j n, Nat.add_assoc]
theorem sumW_congr {rw rw' : Nat → Nat → Int} (a j : Nat) : ∀ n, (∀ i, i < n → rw (a + i) j = rw' (a + i) j) → sumW rw a n j = sumW rw' a n j
  | 0, _ => rfl
  | n + 1, h => by
    simp only [sumW]
    rw [sumW_congr a j n (fun i hi => h i (by omega)), h n (by omega)]

/-- Does a clock outrun another one in the rows a to b? -/
def outr (rw : Nat → Nat → Int) (n : Nat) (num slack : Int) (a b : Nat) : Prop :=
  ∃ i j, i < n ∧ j < n ∧ 100 * sumW rw a (b + 1 - a) i > (100 + num) * sumW rw a (b + 1 - a) j + 100 * slack
open Classical in
noncomputable def badB (rw : Nat → Nat → Int) (n : Nat) (num slack : Int) (a b : Nat) : Bool := decide (outr rw n num slack a b)
theorem badB_yes {rw : Nat → Nat → Int} {n : Nat} {num slack : Int} {a b : Nat} : badB rw n num slack a b = true ↔ outr rw n num slack a b := by unfold badB; simp
theorem badB_no {rw : Nat → Nat → Int} {n : Nat} {num slack : Int} {a b : Nat} : badB rw n num slack a b = false ↔ ¬ outr rw n num slack a b := by unfold badB; simp

/-- What a look at all windows comes to: those that end first come first, of these those that begin last. -/
def FairIs (bad : Nat → Nat → Bool) (m : Nat) (x y : Int) (z : Bool) : Prop :=
  (x = 0 ∧ y = 0 ∧ z = true ∧ ∀ t a, t < m → a ≤ t → bad a t = false) ∨
  (∃ a t : Nat, t < m ∧ a ≤ t ∧ bad a t = true ∧ x = a ∧ y = t ∧ z = false ∧ (∀ t' a', t' < t → a' ≤ t' → bad a' t' = false) ∧ ∀ a', a < a' → a' ≤ t → bad a' t = false)
theorem FairIs.eq {bad : Nat → Nat → Bool} {m : Nat} {x y x' y' : Int} {z z' : Bool} (h : FairIs bad m x y z) (k : FairIs bad m x' y' z') : x = x' ∧ y = y' ∧ z = z' := by
  rcases h with ⟨rfl, rfl, rfl, h⟩ | ⟨a, t, h1, h2, h3, rfl, rfl, rfl, h4, h5⟩ <;> rcases k with ⟨rfl, rfl, rfl, k⟩ | ⟨a', t', k1, k2, k3, rfl, rfl, rfl, k4, k5⟩
  · exact ⟨rfl, rfl, rfl⟩
  · rw [h _ _ k1 k2] at k3; cases k3
  · rw [k _ _ h1 h2] at h3; cases h3
  · have e : t = t' := by
      rcases Nat.lt_trichotomy t t' with e | e | e
      · rw [k4 _ _ e h2] at h3; cases h3
      · exact e
      · rw [h4 _ _ e k2] at k3; cases k3
    subst e
    have e : a = a' := by
      rcases Nat.lt_trichotomy a a' with e | e | e
      · rw [h5 _ e k2] at k3; cases k3
      · exact e
      · rw [k5 _ e h2] at h3; cases h3
    subst e
    exact ⟨rfl, rfl, rfl⟩
theorem FairIs.fair {bad : Nat → Nat → Bool} {m : Nat} {x y : Int} {z : Bool} (h : FairIs bad m x y z) : (z = true ↔ ∀ t a, t < m → a ≤ t → bad a t = false) := by
  rcases h with ⟨rfl, rfl, rfl, h⟩ | ⟨a, t, h1, h2, h3, rfl, rfl, rfl, h4, h5⟩
  · exact ⟨fun _ => h, fun _ => rfl⟩
  · exact ⟨fun h => (by cases h), fun h => by rw [h _ _ h1 h2] at h3; cases h3⟩

/-- The longest way and the shortest one tell whether a clock outruns another one. -/
theorem outr_of {rw : Nat → Nat → Int} {n a b : Nat} {num slack long short : Int} (hnum : 0 ≤ num)
    (l1 : ∃ i, i < n ∧ sumW rw a (b + 1 - a) i = long) (l2 : ∀ i, i < n → sumW rw a (b + 1 - a) i ≤ long)
    (s1 : ∃ i, i < n ∧ sumW rw a (b + 1 - a) i = short) (s2 : ∀ i, i < n → short ≤ sumW rw a (b + 1 - a) i) :
    outr rw n num slack a b ↔ 100 * long > (100 + num) * short + 100 * slack := by
  constructor
  · rintro ⟨i, j, hi, hj, h⟩
    have h1 := l2 i hi
    have h2 := s2 j hj
    have h3 : (100 + num) * short ≤ (100 + num) * sumW rw a (b + 1 - a) j := Int.mul_le_mul_of_nonneg_left h2 (by omega)
    omega
  · intro h
    obtain ⟨i, hi, rfl⟩ := l1
    obtain ⟨j, hj, rfl⟩ := s1
    exact ⟨i, j, hi, hj, h⟩

theorem outr_more {rw : Nat → Nat → Int} {n a b : Nat} {num slack num' slack' : Int} (hw : RwOk rw) (h1 : num ≤ num') (h2 : slack ≤ slack') (h : outr rw n num' slack' a b) : outr rw n num slack a b := by
  obtain ⟨i, j, hi, hj, h⟩ := h
  refine ⟨i, j, hi, hj, ?_⟩
  have h3 : (100 + num) * sumW rw a (b + 1 - a) j ≤ (100 + num') * sumW rw a (b + 1 - a) j := Int.mul_le_mul_of_nonneg_right (by omega) (sumW_bd hw _ _ _).1
  omega
theorem outr_shift {rw : Nat → Nat → Int} {n a b c : Nat} {num slack : Int} : outr (fun i => rw (c + i)) n num slack a b ↔ outr rw n num slack (c + a) (c + b) := by
  unfold outr
  rw [show c + b + 1 - (c + a) = b + 1 - a by omega]
  simp only [sumW_shift]
theorem outr_congr {rw rw' : Nat → Nat → Int} {n a b : Nat} {num slack : Int} (e : ∀ i j, a ≤ i → i ≤ b → j < n → rw i j = rw' i j) : outr rw n num slack a b ↔ outr rw' n num slack a b := by
  have key : ∀ j, j < n → sumW rw a (b + 1 - a) j = sumW rw' a (b + 1 - a) j := fun j hj => sumW_congr a j _ (fun i hi => e _ _ (by omega) (by omega) hj)
  constructor
  · rintro ⟨i, j, hi, hj, h⟩
    exact ⟨i, j, hi, hj, by rw [← key i hi, ← key j hj]; exact h⟩
  · rintro ⟨i, j, hi, hj, h⟩
    exact ⟨i, j, hi, hj, by rw [key i hi, key j hj]; exact h⟩

/-- All windows of m rows, in their order. -/
def wins : Nat → List (Nat × Nat)
  | 0 => []
  | t + 1 => wins t ++ (List.range (t + 1)).map fun k => (t - k, t)
theorem mem_wins {m : Nat} {x : Nat × Nat} : x ∈ wins m ↔ x.2 < m ∧ x.1 ≤ x.2 := by
  induction m with
  | zero => simp [wins]
  | succ t ih =>
    simp only [wins, List.mem_append, ih, List.mem_map, List.mem_range]
    constructor
    · rintro (⟨h1, h2⟩ | ⟨k, hk, rfl⟩)
      · exact ⟨by omega, h2⟩
      · exact ⟨by simp, by simp⟩
    · rintro ⟨h1, h2⟩
      by_cases e : x.2 = t
      · exact .inr ⟨t - x.1, by omega, by
          obtain ⟨p, q⟩ := x
          simp at e h2 ⊢
          omega⟩
      · exact .inl ⟨by omega, h2⟩
def before (x y : Nat × Nat) : Prop := x.2 < y.2 ∨ (x.2 = y.2 ∧ y.1 < x.1)
theorem wins_before : ∀ m, (wins m).Pairwise before
  | 0 => .nil
  | t + 1 => by
    rw [wins, List.pairwise_append]
    refine ⟨wins_before t, ?_, ?_⟩
    · rw [List.pairwise_map]
      refine List.Pairwise.imp_of_mem ?_ List.pairwise_lt_range
      intro a b ha hb hab
      have := List.mem_range.1 hb
      exact .inr ⟨rfl, by simp; omega⟩
    · intro x hx y hy
      obtain ⟨k, hk, rfl⟩ := List.mem_map.1 hy
      exact .inl (mem_wins.1 hx).1
theorem fairIs_done {bad : Nat → Nat → Bool} {m : Nat} (h : ∀ x ∈ wins m, bad x.1 x.2 = false) : FairIs bad m 0 0 true :=
  .inl ⟨rfl, rfl, rfl, fun t a ht ha => h (a, t) (mem_wins.2 ⟨ht, ha⟩)⟩
theorem fairIs_stop {bad : Nat → Nat → Bool} {m : Nat} {pre : List (Nat × Nat)} {x : Nat × Nat} (hp : pre ++ [x] <+: wins m) (hx : bad x.1 x.2 = true) (h : ∀ y ∈ pre, bad y.1 y.2 = false) : FairIs bad m x.1 x.2 false := by
  obtain ⟨rest, hr⟩ := hp
  have hm : x ∈ wins m := by rw [← hr]; simp
  have hpw := wins_before m
  rw [← hr, List.pairwise_append] at hpw
  have key : ∀ y, y.2 < m → y.1 ≤ y.2 → before y x → bad y.1 y.2 = false := by
    intro y h1 h2 hb
    have hy : y ∈ wins m := mem_wins.2 ⟨h1, h2⟩
    rw [← hr] at hy
    rcases List.mem_append.1 hy with hy | hy
    · rcases List.mem_append.1 hy with hy | hy
      · exact h y hy
      · simp at hy
        subst hy
        unfold before at hb
        omega
    · have := hpw.2.2 x (by simp) y hy
      unfold before at hb this
      omega
  obtain ⟨h1, h2⟩ := mem_wins.1 hm
  exact .inr ⟨x.1, x.2, h1, h2, hx, rfl, rfl, rfl, fun t' a' ht ha => key (a', t') (by simp; omega) ha (.inl ht), fun a' ha ha' => key (a', x.2) h1 ha' (.inr ⟨rfl, ha⟩)⟩
end Go.Proofs.Ytdaapkbgfabmaaa
