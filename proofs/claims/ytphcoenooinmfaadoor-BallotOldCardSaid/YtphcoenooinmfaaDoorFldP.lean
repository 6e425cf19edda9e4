/- Numbers as bytes, the lowest first; texts as lists of bytes: plain laws. No program, no condition. -/
import Derived.Test.YtphcoenooinmfaaDoorLib
import Derived.Lib.AppendStr
namespace Go.Proofs.YtphcoenooinmfaaDoor
open Go.RowKit
set_option linter.unusedVariables false
set_option linter.unusedSimpArgs false

def u8V (b : UInt8) : Value := .int .u8 b.toNat
/-- The k lowest bytes of n. -/
def leB (n k : Nat) : List UInt8 := (List.range k).map fun i => UInt8.ofNat (n / 256 ^ i % 256)
theorem leB_length (n k : Nat) : (leB n k).length = k := by simp [leB]
theorem leB_succ (n k : Nat) : leB n (k + 1) = leB n k ++ [UInt8.ofNat (n / 256 ^ k % 256)] := by simp [leB, List.range_succ]
theorem leB_zero (n : Nat) : leB n 0 = [] := rfl
theorem u8_ofNat (m : Nat) : u8V (UInt8.ofNat (m % 256)) = .int .u8 ((m : Int) % 256) := by
  unfold u8V
  have : (UInt8.ofNat (m % 256)).toNat = m % 256 := by simp
  rw [this]
  congr 1
/-- The bytes of a text, as numbers. -/
def byS (s : ByteArray) (i : Nat) : Nat := (s.data[i]?.getD 0).toNat
theorem byS_lt (s : ByteArray) (i : Nat) : byS s i < 256 := UInt8.toNat_lt _
theorem byS_eq (s : ByteArray) (k : Nat) (h : k < s.size) : (s[k]'h).toNat = byS s k := by
  have h' : k < s.data.size := h
  unfold byS
  rw [Array.getElem?_eq_getElem h']
  rfl
/-- The number that the k bytes of f from a on are, the lowest first. -/
def leN (f : Nat → Nat) (a : Nat) : Nat → Nat
  | 0 => 0
  | k + 1 => leN f a k + f (a + k) * 256 ^ k
theorem leN_lt (f : Nat → Nat) (a k : Nat) (hf : ∀ i, f i < 256) : leN f a k < 256 ^ k := by
  induction k with
  | zero => simp [leN]
  | succ k ih =>
    rw [leN, Nat.pow_succ]
    have h1 := hf (a + k)
    have h2 : f (a + k) * 256 ^ k ≤ 255 * 256 ^ k := Nat.mul_le_mul_right _ (by omega)
    omega
theorem leN_head (f : Nat → Nat) (a k : Nat) : leN f a (k + 1) = f a + 256 * leN f (a + 1) k := by
  induction k with
  | zero => simp [leN]
  | succ k ih =>
    rw [leN, ih, leN, Nat.mul_add, Nat.pow_succ, show a + 1 + k = a + (k + 1) by omega]
    have : f (a + (k + 1)) * (256 ^ k * 256) = 256 * (f (a + (k + 1)) * 256 ^ k) := by
      rw [← Nat.mul_assoc, Nat.mul_comm]
    omega
theorem or_disj {a b k : Nat} (h : a < 2 ^ k) : a ||| (b * 2 ^ k) = a + b * 2 ^ k := by
  rw [Nat.mul_comm b, Nat.or_comm, ← Nat.two_pow_add_eq_or_of_lt h b, Nat.add_comm]
/-- The bytes of n, read back. -/
theorem leN_leB (n k a : Nat) (f : Nat → Nat) (h : ∀ i, i < k → f (a + i) = n / 256 ^ i % 256) : leN f a k = n % 256 ^ k := by
  induction k with
  | zero => simp [leN, Nat.mod_one]
  | succ k ih =>
    rw [leN, ih fun i hi => h i (by omega), h k (by omega), Nat.pow_succ, Nat.mod_mul, Nat.mul_comm]
theorem strCells_u8 (s : ByteArray) : Lib.strCells s = s.data.toList.map u8V := rfl

/-- Is a number of so many bytes one that can be written? -/
def wideB (k : Int) : Bool := decide (k = 1 ∨ k = 2 ∨ k = 4 ∨ k = 8)
def fitB (n k : Int) : Bool := wideB k && decide (0 ≤ n ∧ (k = 8 ∨ n < 2 ^ (8 * k.toNat)))
def numL (n k : Int) : List Int := if fitB n k then [] else [1]
def numB (bs : List UInt8) (n k : Int) : List UInt8 := if fitB n k then bs ++ leB n.toNat k.toNat else bs
def textL (s : ByteArray) : List Int := if s.size ≤ 1024 then [] else [11]
def textB (bs : List UInt8) (s : ByteArray) : List UInt8 := if s.size ≤ 1024 then bs ++ leB s.size 2 ++ s.data.toList else bs
theorem numB_len (bs : List UInt8) (n k : Int) : (numB bs n k).length ≤ bs.length + 8 := by
  unfold numB
  split
  · rename_i h
    simp only [fitB, wideB, Bool.and_eq_true, decide_eq_true_eq] at h
    simp [leB_length]; omega
  · omega
theorem textB_len (bs : List UInt8) (s : ByteArray) : (textB bs s).length ≤ bs.length + 2 + s.size := by
  unfold textB
  have hz : s.data.toList.length = s.size := rfl
  split
  · rw [List.length_append, List.length_append, leB_length, hz]; omega
  · omega
/-- What a reader's number is. -/
def rdN (s : ByteArray) (a : Nat) (k : Int) : Int :=
  if wideB k = false then 0 else if (s.size : Int) - a < k then 0 else if 2 ^ 63 ≤ leN (byS s) a k.toNat then 0 else (leN (byS s) a k.toNat : Nat)
def rdL (s : ByteArray) (a : Nat) (k : Int) : List Int :=
  if wideB k = false then [1] else if (s.size : Int) - a < k then [10] else if 2 ^ 63 ≤ leN (byS s) a k.toNat then [11] else []
def rdA (s : ByteArray) (a : Nat) (k : Int) : Nat := if rdL s a k = [] then a + k.toNat else a
/-- What a reader's text is. -/
def rtL (s : ByteArray) (a : Nat) : List Int :=
  if rdL s a 2 ≠ [] then rdL s a 2 ++ rdL s a 2 else if 1024 < rdN s a 2 then [11] else if (s.size : Int) - a - 2 < rdN s a 2 then [10] else []
def rtA (s : ByteArray) (a : Nat) : Nat := if rtL s a = [] then a + 2 + (rdN s a 2).toNat else a
def rtS (s : ByteArray) (a : Nat) : ByteArray := if rtL s a = [] then s.extract (a + 2) (a + 2 + (rdN s a 2).toNat) else ⟨#[]⟩
def endL (s : ByteArray) (a : Nat) : List Int := if a < s.size then [11] else []
end Go.Proofs.YtphcoenooinmfaaDoor
