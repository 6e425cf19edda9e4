/- Messages, their bytes, and what bytes are: plain definitions and laws. No program, no condition. -/
import Derived.Test.YtphcoenooinmfaaDoorNr
import Derived.Test.YtphcoenooinmfaaDoorSeal
namespace Go.Proofs.YtphcoenooinmfaaDoor
open Go.RowKit
set_option linter.unusedVariables false
set_option linter.unusedSimpArgs false

/-- A message's numbers are the first seven; its text. -/
structure Msg where
  x : Nat → Int
  d : ByteArray
def inB (n most : Int) : Bool := decide (0 ≤ n) && decide (n ≤ most)
def Msg.numsOk (m : Msg) : Bool := inB (m.x 0) 255 && (inB (m.x 1) 7 && inB (m.x 2) 7) && (inB (m.x 3) 1099511627776 && inB (m.x 4) 1099511627776) && (inB (m.x 5) 256 && inB (m.x 6) 256)
/-- What a check answers. -/
def Msg.chk (m : Msg) : Int := if m.numsOk = false then 1 else if 1024 < m.d.size then 11 else 0
def wid (j : Nat) : Int := if j < 3 then 1 else if j < 5 then 8 else 2
/-- Its bytes, the first j numbers. -/
def Msg.enc (m : Msg) : Nat → List UInt8
  | 0 => []
  | j + 1 => numB (m.enc j) (m.x j) (wid j)
def Msg.bytes (m : Msg) : List UInt8 := textB (m.enc 7) m.d
def Msg.sealed (m : Msg) : ByteArray := if m.chk = 0 then sealB (txt m.bytes) else ⟨#[]⟩
def Msg.errL (m : Msg) : List Int := if m.chk = 0 then [] else [m.chk]
theorem Msg.enc_len (m : Msg) (j : Nat) : (m.enc j).length ≤ 8 * j := by
  induction j with
  | zero => simp [Msg.enc]
  | succ j ih =>
    have := numB_len (m.enc j) (m.x j) (wid j)
    simp only [Msg.enc]; omega
/-- A message's cells. -/
def Msg.cellF (m : Msg) (i : Nat) : Value := if i = 7 then .string m.d else .int .i64 (m.x i)
def Msg.arr (m : Msg) : Array Value := #[.int .i64 (m.x 0), .int .i64 (m.x 1), .int .i64 (m.x 2), .int .i64 (m.x 3), .int .i64 (m.x 4), .int .i64 (m.x 5), .int .i64 (m.x 6), .string m.d]
def Msg.zero : Msg := ⟨fun _ => 0, ⟨#[]⟩⟩
def Msg.Bd (m : Msg) : Prop := (∀ j, j < 7 → -9223372036854775808 ≤ m.x j ∧ m.x j ≤ 9223372036854775807) ∧ m.d.size ≤ 140737488351232
theorem Msg.get (m : Msg) : ∀ i, i < 8 → m.arr[i]? = some (m.cellF i) := by
  intro i hi
  match i, hi with
  | 0, _ | 1, _ | 2, _ | 3, _ | 4, _ | 5, _ | 6, _ | 7, _ => rfl
theorem msg_inv {W : World} {s : Array Value} (c : CellsOk W [.int .i64, .int .i64, .int .i64, .int .i64, .int .i64, .int .i64, .int .i64, .str] s.toList) :
    ∃ m : Msg, s = m.arr ∧ (∀ j, j < 7 → -9223372036854775808 ≤ m.x j ∧ m.x j ≤ 9223372036854775807) ∧ m.d.size ≤ 9223372036854775807 := by
  obtain ⟨hl, hc⟩ := c
  obtain ⟨xs⟩ := s
  simp only at hl hc
  match xs, hl with
  | [x0, x1, x2, x3, x4, x5, x6, x7], _ =>
    obtain ⟨k, rfl, w0⟩ := (hc 0 _ _ rfl rfl).int_inv
    obtain ⟨f, rfl, w1⟩ := (hc 1 _ _ rfl rfl).int_inv
    obtain ⟨t, rfl, w2⟩ := (hc 2 _ _ rfl rfl).int_inv
    obtain ⟨e, rfl, w3⟩ := (hc 3 _ _ rfl rfl).int_inv
    obtain ⟨q, rfl, w4⟩ := (hc 4 _ _ rfl rfl).int_inv
    obtain ⟨o, rfl, w5⟩ := (hc 5 _ _ rfl rfl).int_inv
    obtain ⟨l, rfl, w6⟩ := (hc 6 _ _ rfl rfl).int_inv
    obtain ⟨d, rfl, w7⟩ := (hc 7 _ _ rfl rfl).str_inv
    refine ⟨⟨fun j => if j = 0 then k else if j = 1 then f else if j = 2 then t else if j = 3 then e else if j = 4 then q else if j = 5 then o else l, d⟩, rfl, ?_, w7⟩
    intro j hj
    match j, hj with
    | 0, _ => exact bd_i64 w0
    | 1, _ => exact bd_i64 w1
    | 2, _ => exact bd_i64 w2
    | 3, _ => exact bd_i64 w3
    | 4, _ => exact bd_i64 w4
    | 5, _ => exact bd_i64 w5
    | 6, _ => exact bd_i64 w6
/-- Where a decoder is behind the first j numbers. -/
def decA (t : ByteArray) : Nat → Nat
  | 0 => 0
  | j + 1 => rdA t (decA t j) (wid j)
def decN (t : ByteArray) (j : Nat) : Int := rdN t (decA t j) (wid j)
def decE (t : ByteArray) (j : Nat) : List Int := rdL t (decA t j) (wid j)
def decM (t : ByteArray) : Msg := ⟨fun j => decN t j, rtS t (decA t 7)⟩
/-- The errors behind the numbers. -/
def decTail (t : ByteArray) : List Int :=
  if rtL t (decA t 7) ≠ [] then 30 :: rtL t (decA t 7) else if endL t (rtA t (decA t 7)) ≠ [] then 30 :: endL t (rtA t (decA t 7)) else if (decM t).chk ≠ 0 then [30, (decM t).chk] else []
/-- The errors from number j on, of which n are left. -/
def decFrom (t : ByteArray) : Nat → Nat → List Int
  | 0, _ => decTail t
  | n + 1, j => if decE t j ≠ [] then 30 :: decE t j else decFrom t n (j + 1)
def decL (s : ByteArray) : List Int := if okB s = false then [20] else decFrom (bodyB s) 7 0
def decR (s : ByteArray) : Msg := if decL s = [] then decM (bodyB s) else Msg.zero
theorem decA_le (t : ByteArray) (j : Nat) : decA t j ≤ t.size := by
  induction j with
  | zero => exact Nat.zero_le _
  | succ j ih => exact rdA_le _ ih
theorem decFrom_bad {t : ByteArray} {n j : Nat} (h : decE t j ≠ []) : decFrom t (n + 1) j = 30 :: decE t j := by simp only [decFrom]; rw [if_pos h]
theorem decFrom_ok {t : ByteArray} {n j : Nat} (h : decE t j = []) : decFrom t (n + 1) j = decFrom t n (j + 1) := by simp only [decFrom]; rw [if_neg (by simp [h])]
end Go.Proofs.YtphcoenooinmfaaDoor
