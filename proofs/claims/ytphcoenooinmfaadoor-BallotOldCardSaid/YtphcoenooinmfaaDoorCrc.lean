/- The sum of a text, in plain numbers: half a byte at a time is four times a bit; one byte that is changed changes the sum. No program, no condition. -/
import Derived.Test.YtphcoenooinmfaaDoorProg
namespace Go.Proofs.YtphcoenooinmfaaDoor
set_option linter.unusedVariables false
set_option linter.unusedSimpArgs false

/-- One bit is taken. -/
def stepN (c : Nat) : Nat := (c / 2) ^^^ (if c % 2 = 1 then 3988292384 else 0)
def iterN : Nat → Nat → Nat
  | 0, c => c
  | k + 1, c => stepN (iterN k c)
def tabL : List Nat := [0, 498536548, 997073096, 651767980, 1994146192, 1802195444, 1303535960, 1342533948, 3988292384, 4027552580, 3604390888, 3412177804, 2607071920, 2262029012, 2685067896, 3183342108]
def tabN (i : Nat) : Nat := tabL.getD i 0
/-- Half a byte is taken. -/
def nibN (c : Nat) : Nat := (c / 16) ^^^ tabN (c % 16)

theorem xor_zero_eq {a b : Nat} (h : a ^^^ b = 0) : a = b := by
  have e : a ^^^ (a ^^^ b) = a ^^^ 0 := by rw [h]
  rw [← Nat.xor_assoc, Nat.xor_self, Nat.zero_xor, Nat.xor_zero] at e
  exact e.symm
theorem xor_mod2 (a b : Nat) : (a ^^^ b) % 2 = (a % 2) ^^^ (b % 2) := Nat.xor_mod_two_pow (n := 1)
theorem step_xor (a b : Nat) : stepN (a ^^^ b) = stepN a ^^^ stepN b := by
  unfold stepN
  rw [Nat.xor_div_two, xor_mod2]
  rcases Nat.mod_two_eq_zero_or_one a with ha | ha <;> rcases Nat.mod_two_eq_zero_or_one b with hb | hb
  all_goals
    rw [ha, hb]
    simp
  · ac_rfl
  · ac_rfl
  · rw [show a / 2 ^^^ 3988292384 ^^^ (b / 2 ^^^ 3988292384) = (a / 2 ^^^ b / 2) ^^^ (3988292384 ^^^ 3988292384) by ac_rfl]
    simp
theorem iter_xor (k a b : Nat) : iterN k (a ^^^ b) = iterN k a ^^^ iterN k b := by
  induction k with
  | zero => rfl
  | succ k ih => rw [iterN, ih, step_xor]; rfl
theorem step_two (x : Nat) : stepN (2 * x) = x := by
  unfold stepN
  rw [if_neg (by omega)]
  simp
theorem iter4_16 (q : Nat) : iterN 4 (16 * q) = q := by
  show stepN (stepN (stepN (stepN (16 * q)))) = q
  rw [show 16 * q = 2 * (2 * (2 * (2 * q))) by omega, step_two, step_two, step_two, step_two]
theorem split16 (c : Nat) : (16 * (c / 16)) ^^^ (c % 16) = c := by
  apply Nat.eq_of_testBit_eq
  intro i
  rw [Nat.testBit_xor, show (16 : Nat) = 2 ^ 4 by decide, Nat.testBit_two_pow_mul, Nat.testBit_mod_two_pow, Nat.testBit_div_two_pow]
  by_cases h : i < 4
  · have : ¬ (4 ≤ i) := by omega
    simp [h, this]
  · have h4 : 4 ≤ i := by omega
    rw [show i - 4 + 4 = i by omega]
    simp [h, h4]
theorem iter4_small : ∀ r, r < 16 → iterN 4 r = tabN r := by decide
theorem nib_eq (c : Nat) : nibN c = iterN 4 c := by
  have h := iter_xor 4 (16 * (c / 16)) (c % 16)
  rw [split16, iter4_16, iter4_small _ (Nat.mod_lt _ (by omega))] at h
  exact h.symm
theorem step_lt {c : Nat} (h : c < 4294967296) : stepN c < 4294967296 := by
  unfold stepN
  refine Nat.xor_lt_two_pow (n := 32) (by omega) ?_
  split <;> omega
theorem iter_lt {c : Nat} (h : c < 4294967296) (k : Nat) : iterN k c < 4294967296 := by
  induction k with
  | zero => exact h
  | succ k ih => exact step_lt ih
theorem step_zero {c : Nat} (h : c < 4294967296) (h0 : stepN c = 0) : c = 0 := by
  unfold stepN at h0
  have e := xor_zero_eq h0
  split at e <;> omega
theorem iter_zero {c : Nat} (h : c < 4294967296) (k : Nat) (h0 : iterN k c = 0) : c = 0 := by
  induction k with
  | zero => exact h0
  | succ k ih => exact ih (step_zero (iter_lt h k) h0)
theorem iter_inj {a b : Nat} (ha : a < 4294967296) (hb : b < 4294967296) (k : Nat) (h : iterN k a = iterN k b) : a = b := by
  have h1 : iterN k (a ^^^ b) = 0 := by rw [iter_xor, h, Nat.xor_self]
  exact xor_zero_eq (iter_zero (Nat.xor_lt_two_pow (n := 32) ha hb) k h1)

/-- A byte is taken. -/
def takeN (c b : Nat) : Nat := iterN 8 (c ^^^ b)
theorem take_nib (c b : Nat) : nibN (nibN (c ^^^ b)) = takeN c b := by
  rw [nib_eq, nib_eq]
  rfl
theorem take_lt {c b : Nat} (hc : c < 4294967296) (hb : b < 256) : takeN c b < 4294967296 := iter_lt (Nat.xor_lt_two_pow (n := 32) hc (by omega)) 8
theorem take_inj {a b x : Nat} (ha : a < 4294967296) (hb : b < 4294967296) (hx : x < 256) (h : takeN a x = takeN b x) : a = b := by
  have := iter_inj (Nat.xor_lt_two_pow (n := 32) ha (by omega)) (Nat.xor_lt_two_pow (n := 32) hb (by omega)) 8 h
  have e : (a ^^^ x) ^^^ x = (b ^^^ x) ^^^ x := by rw [this]
  simpa [Nat.xor_assoc] using e
theorem take_byte {a x y : Nat} (ha : a < 4294967296) (hx : x < 256) (hy : y < 256) (h : takeN a x = takeN a y) : x = y := by
  have := iter_inj (Nat.xor_lt_two_pow (n := 32) ha (by omega)) (Nat.xor_lt_two_pow (n := 32) ha (by omega)) 8 h
  have e : a ^^^ (a ^^^ x) = a ^^^ (a ^^^ y) := by rw [this]
  simpa [← Nat.xor_assoc] using e

/-- What the first k of the bytes f come to. -/
def crcTo (f : Nat → Nat) : Nat → Nat
  | 0 => 4294967295
  | k + 1 => takeN (crcTo f k) (f k)
theorem crc_lt (f : Nat → Nat) (k : Nat) (hf : ∀ i, i < k → f i < 256) : crcTo f k < 4294967296 := by
  induction k with
  | zero => simp [crcTo]
  | succ k ih => exact take_lt (ih fun i hi => hf i (by omega)) (hf k (by omega))
theorem crc_congr {f g : Nat → Nat} {k : Nat} (h : ∀ i, i < k → f i = g i) : crcTo f k = crcTo g k := by
  induction k with
  | zero => rfl
  | succ k ih => rw [crcTo, crcTo, ih fun i hi => h i (by omega), h k (by omega)]
/-- One byte that is another one: another sum. -/
theorem crc_one {f g : Nat → Nat} {n k : Nat} (hf : ∀ i, i < n → f i < 256) (hg : ∀ i, i < n → g i < 256) (hk : k < n) (hne : f k ≠ g k) (hs : ∀ i, i < n → i ≠ k → f i = g i) : crcTo f n ≠ crcTo g n := by
  induction n with
  | zero => omega
  | succ n ih =>
    intro e
    simp only [crcTo] at e
    by_cases h : k = n
    · subst h
      rw [crc_congr (f := f) (g := g) (k := k) fun i hi => hs i (by omega) (by omega)] at e
      exact hne (take_byte (crc_lt g k fun i hi => hg i (by omega)) (hf k (by omega)) (hg k (by omega)) e)
    · rw [hs n (by omega) (fun x => h x.symm)] at e
      exact ih (fun i hi => hf i (by omega)) (fun i hi => hg i (by omega)) (by omega) (fun i hi => hs i (by omega))
        (take_inj (crc_lt f n fun i hi => hf i (by omega)) (crc_lt g n fun i hi => hg i (by omega)) (hg n (by omega)) e)
end Go.Proofs.YtphcoenooinmfaaDoor
