/- What the calls of package check, and of the document's answer for it, come to. The premise: the table of steps holds what its initialiser lays. -/
import Derived.Test.YtphcoenooinmfaaDoorProg
import Derived.Test.YtphcoenooinmfaaDoorLib
import Derived.Test.YtphcoenooinmfaaDoorCrc
namespace Go.Proofs.YtphcoenooinmfaaDoor
open Go.RowKit
set_option linter.unusedVariables false
set_option linter.unusedSimpArgs false
attribute [local go_sem ↓] Go.wp_at_zero Go.wp_at_succ

/-- The table of steps, variable 0, as it is laid. -/
def Steps (w : World) : Prop := ∀ i : Nat, i < 16 → w.cell? ⟨1, i, none⟩ = some (.int .u32 (tabN i : Nat))
theorem Steps.mod {S : List Nat} {w w' : World} (h : Steps w) (m : Mod S w w') (h0 : 1 ∉ S) : Steps w' := fun i hi => m.cell' (h i hi) h0

def nibs (c : Nat) : Nat → Nat
  | 0 => c
  | k + 1 => nibN (nibs c k)
theorem nibs_lt {c : Nat} (h : c < 4294967296) (k : Nat) : nibs c k < 4294967296 := by
  induction k with
  | zero => exact h
  | succ k ih => rw [nibs, nib_eq]; exact iter_lt ih 4

theorem xor32 {a b : Nat} (ha : a < 4294967296) (hb : b < 4294967296) : bits .xor .u32 (a : Int) (b : Int) = ((a ^^^ b : Nat) : Int) := by
  have ha' : a % 2 ^ IntKind.u32.bits = a := Nat.mod_eq_of_lt ha
  have hb' : b % 2 ^ IntKind.u32.bits = b := Nat.mod_eq_of_lt hb
  have hx : a ^^^ b < 4294967296 := Nat.xor_lt_two_pow (n := 32) ha hb
  simp only [bits, BitVec.ofInt_natCast, BitVec.toNat_xor, BitVec.toNat_ofNat, ha', hb']
  rw [IntKind.wrap_u32]
  omega
theorem tab_lt : ∀ r, r < 16 → tabN r < 4294967296 := by decide
theorem nib_bits {n : Nat} (hn : n < 4294967296) : bits .xor .u32 ((n : Int) / 16) (tabN (n % 16) : Int) = ((nibN n : Nat) : Int) := by
  rw [show (n : Int) / 16 = ((n / 16 : Nat) : Int) by omega]
  exact xor32 (by omega) (tab_lt _ (by omega))

set_option maxHeartbeats 1000000 in
theorem take_calls (w : World) (b c x : Nat) (hT : Steps w) (hA : Arr w b 189 1 (fun _ => .int .u32 (c : Int))) (hb : b ≠ 1) (hc : c < 4294967296) (hx : x < 256) :
    Calls Tryd.prog 96 #[.pointer (some ⟨b, 0, none⟩), .int .u8 (x : Int)] w fun e w' => e = .returned (.tuple #[]) ∧ Arr w' b 189 1 (fun _ => .int .u32 (takeN c x : Nat)) ∧ Mod [b] w w' := by
  have c0 := hA.cell 0 (by omega)
  have f0 := hA.free 0
  have bx := xor32 hc (show x < 4294967296 by omega)
  have hA0 : Arr (w.setCell ⟨b, 0, none⟩ (.int .u32 (nibs (c ^^^ x) 0 : Nat))) b 189 1 (fun _ => .int .u32 (nibs (c ^^^ x) 0 : Nat)) := (hA.set 0 _).congr fun j hj => by simp [show j = 0 by omega]
  have hM0 : Mod [b] w (w.setCell ⟨b, 0, none⟩ (.int .u32 (nibs (c ^^^ x) 0 : Nat))) := (Mod.refl _ _).setCell (by simp) _
  go_enter Tryd.func96, Tryd.ntmps96
  go_wp2
  go_loopw [11] (fun i wr => ∃ k : Nat, k ≤ 2 ∧ i = .int .i64 k ∧ Arr wr b 189 1 (fun _ => .int .u32 (nibs (c ^^^ x) k : Nat)) ∧ Mod [b] w wr) (fun i _ => 2 - (intOf i).toNat)
  case atStart => exact ⟨0, by omega, rfl, hA0, hM0⟩
  case round =>
    obtain ⟨k, hk, rfl, hR, hM⟩ := hrel
    clear hA0 hM0 bx
    by_cases hlt : k < 2
    · have cR := hR.cell 0 (by omega)
      have fR := hR.free 0
      have hn := nibs_lt (c := c ^^^ x) (Nat.xor_lt_two_pow (n := 32) hc (by omega)) k
      have hnext : nibs (c ^^^ x) (k + 1) = nibN (nibs (c ^^^ x) k) := rfl
      generalize nibs (c ^^^ x) k = n at *
      have tR := (hT.mod hM (by simpa using hb.symm)) (n % 16) (by omega)
      have i0 : (0 : Int) ≤ ((n % 16 : Nat) : Int) := by omega
      have i1 : ((n % 16 : Nat) : Int) < 16 := by omega
      have a1 : bits .and .u32 (n : Int) 15 = ((n % 16 : Nat) : Int) := by
        have h0 : ∀ n : Int, 0 ≤ n → n < 2 ^ 32 → IntKind.u32.wrap n = n := fun n h h' => by rw [IntKind.wrap_u32]; omega
        have := bits_mask .u32 32 (by decide) h0 4 (by decide) (n : Int) (by omega) (by omega)
        simpa using this
      have a2 := nib_bits hn
      have i2 : (k : Int) < 2 := by omega
      have hR2 : Arr (wr.setCell ⟨b, 0, none⟩ (.int .u32 (nibN n : Nat))).drew b 189 1 (fun _ => .int .u32 (nibN n : Nat)) := ((hR.set 0 _).congr fun j hj => by simp [show j = 0 by omega])
      have hM2 : Mod [b] w (wr.setCell ⟨b, 0, none⟩ (.int .u32 (nibN n : Nat))).drew := (hM.setCell (by simp) _).drew
      go_wp2_with fail
      go_region
      try rw [a2]
      go_wp2
      go_roundw
      case rel => exact ⟨k + 1, by omega, by go_num, by rw [hnext]; exact hR2, hM2⟩
      case measure => simp [intOf]; omega
    · have i2 : ¬ (k : Int) < 2 := by omega
      go_wp2
      go_end0
      obtain rfl : k = 2 := by omega
      refine ⟨rfl, ?_, hM⟩
      have e : nibs (c ^^^ x) 2 = takeN c x := take_nib c x
      rw [← e]
      exact hR
/-- The bytes of a text. -/
def byteN (s : ByteArray) (i : Nat) : Nat := (s.data[i]?.getD 0).toNat
def crcS (s : ByteArray) : Nat := crcTo (byteN s) s.size ^^^ 4294967295
theorem byte_eq (s : ByteArray) (k : Nat) (h : k < s.size) : (s[k]'h).toNat = byteN s k := by
  have h' : k < s.data.size := h
  unfold byteN
  rw [Array.getElem?_eq_getElem h']
  rfl
theorem byte_lt (s : ByteArray) (i : Nat) : byteN s i < 256 := UInt8.toNat_lt _
set_option maxHeartbeats 1000000 in
theorem each_calls (w : World) (b : Nat) (s : ByteArray) (hs : s.size ≤ 140737488351232) (hT : Steps w) (hA : Arr w b 189 1 (fun _ => .int .u32 (4294967295 : Nat))) (hb : b ≠ 1) :
    Calls Tryd.prog 95 #[.string s, .func (.func 96) #[.pointer (some ⟨b, 0, none⟩)] #[]] w fun e w' => e = .returned (.tuple #[]) ∧ Arr w' b 189 1 (fun _ => .int .u32 (crcTo (byteN s) s.size : Nat)) ∧ Mod [b] w w' := by
  have hb0 := hA.lt
  go_enter Tryd.func95, Tryd.ntmps95
  go_wp2
  go_loopw [7] (fun i wr => ∃ k : Nat, k ≤ s.size ∧ i = .int .i64 k ∧ Arr wr b 189 1 (fun _ => .int .u32 (crcTo (byteN s) k : Nat)) ∧ Mod [b] w wr) (fun i _ => s.size - (intOf i).toNat)
  case atStart => exact ⟨0, by omega, rfl, hA, Mod.refl _ _⟩
  case round =>
    obtain ⟨k, hk, rfl, hR, hM⟩ := hrel
    by_cases hlt : k < s.size
    · have i0 : (0 : Int) ≤ (k : Int) := by omega
      have i2 : (k : Int) < (s.size : Int) := by omega
      have C := Lib.hid (take_calls wr b (crcTo (byteN s) k) (byteN s k) (hT.mod hM (by simpa using hb.symm)) hR hb (crc_lt _ _ fun i _ => byte_lt s i) (byte_lt s k))
      have eb := byte_eq s k hlt
      go_wp2_with fail
      refine C.out.mono ?_
      rintro e w' ⟨rfl, hA', hM'⟩
      go_wp2
      go_roundw
      case rel => exact ⟨k + 1, by omega, by go_num, hA', hM.trans hM'⟩
      case measure => simp [intOf]; omega
    · have i2 : ¬ (k : Int) < (s.size : Int) := by omega
      obtain rfl : k = s.size := by omega
      go_wp2
      go_end0
      exact ⟨rfl, hR, hM⟩
theorem crcS_lt (s : ByteArray) : crcS s < 4294967296 := Nat.xor_lt_two_pow (n := 32) (crc_lt _ _ fun i _ => byte_lt s i) (by omega)
set_option maxHeartbeats 1000000 in
theorem sum_calls (w : World) (s : ByteArray) (hs : s.size ≤ 140737488351232) (hT : Steps w) :
    Calls Tryd.prog 91 #[.string s] w fun e w' => e = .returned (.int .u32 (crcS s : Nat)) ∧ Mod [] w w' := by
  have h0 : w.heap.size ≠ 1 := by
    have := World.block_lt_of_cell? w _ (hT 0 (by omega))
    simp at this; omega
  have A := Arr.new' w #[.int .u32 (4294967295 : Nat)] 189 1 (fun _ => .int .u32 (4294967295 : Nat)) rfl (fun i hi => by
    obtain rfl : i = 0 := by omega
    rfl)
  have M : Mod [] w (w.alloc (.cells #[.int .u32 (4294967295 : Nat)] 189)) := (Mod.refl _ _).alloc _
  have C := Lib.hid (each_calls _ _ s hs (hT.mod M (by simp)) A h0)
  have cr := xor32 (crc_lt (byteN s) s.size fun i _ => byte_lt s i) (show 4294967295 < 4294967296 by omega)
  clear A
  go_enter Tryd.func91, Tryd.ntmps91
  go_wp2_with fail
  refine C.out.mono ?_
  rintro e w' ⟨rfl, hA', hM'⟩
  have c0 := hA'.cell 0 (by omega)
  go_wp2
  all_goals first | (exfalso; rename_i hsg; revert hsg; decide) | skip
  go_ret
  refine ⟨?_, (M.fresh hM' (by simp))⟩
  show Ending.returned (.int .u32 (bits .xor .u32 ((4294967295 : Nat) : Int) (crcTo (byteN s) s.size : Nat))) = _
  rw [xor32 (by omega) (crc_lt (byteN s) s.size fun i _ => byte_lt s i), Nat.xor_comm]
  rfl
theorem step_even {n : Nat} (h : n % 2 = 0) : ((n : Int) / 2) = ((stepN n : Nat) : Int) := by
  unfold stepN
  rw [if_neg (by omega), Nat.xor_zero]
  omega
theorem step_odd {n : Nat} (hn : n < 4294967296) (h : n % 2 = 1) : bits .xor .u32 ((n : Int) / 2) 3988292384 = ((stepN n : Nat) : Int) := by
  unfold stepN
  rw [if_pos h, show (n : Int) / 2 = ((n / 2 : Nat) : Int) by omega]
  exact xor32 (b := 3988292384) (by omega) (by omega)
set_option maxHeartbeats 1000000 in
theorem rsum_calls (w : World) (s : ByteArray) (hs : s.size ≤ 140737488351232) :
    Calls Tryd.prog 77 #[.string s] w fun e w' => e = .returned (.int .u32 (crcS s : Nat)) ∧ w = w' := by
  go_enter Tryd.func77, Tryd.ntmps77
  go_wp2
  go_loop [3, 4] (fun c i => ∃ k : Nat, k ≤ s.size ∧ i = .int .i64 k ∧ c = .int .u32 (crcTo (byteN s) k : Nat)) (fun _ i => s.size - (intOf i).toNat)
  case atStart => exact ⟨0, by omega, rfl, rfl⟩
  case round =>
    obtain ⟨k, hk, rfl, rfl⟩ := hrel
    by_cases hlt : k < s.size
    · have i0 : (0 : Int) ≤ (k : Int) := by omega
      have i2 : (k : Int) < (s.size : Int) := by omega
      have eb := byte_eq s k hlt
      have cl := crc_lt (byteN s) k fun i _ => byte_lt s i
      have cx := xor32 cl (show byteN s k < 4294967296 by have := byte_lt s k; omega)
      have cl2 : crcTo (byteN s) k ^^^ byteN s k < 4294967296 := Nat.xor_lt_two_pow (n := 32) cl (by have := byte_lt s k; omega)
      have em : (byteN s k : Int) % 4294967296 = (byteN s k : Int) := by have := byte_lt s k; omega
      have hnext : crcTo (byteN s) (k + 1) = iterN 8 (crcTo (byteN s) k ^^^ byteN s k) := rfl
      go_wp2
      generalize crcTo (byteN s) k ^^^ byteN s k = c0 at *
      go_loop [3, 5] (fun c i => ∃ j : Nat, j ≤ 8 ∧ i = .int .i64 j ∧ c = .int .u32 (iterN j c0 : Nat)) (fun _ i => 8 - (intOf i).toNat)
      case atStart => exact ⟨0, by omega, rfl, rfl⟩
      case round =>
        obtain ⟨j, hj, rfl, rfl⟩ := hrel
        have il := iter_lt cl2 j
        have hn2 : iterN (j + 1) c0 = stepN (iterN j c0) := rfl
        by_cases hlt2 : j < 8
        · have i3 : (j : Int) < 8 := by omega
          clear cx cl hnext
          generalize iterN j c0 = n at *
          rcases Nat.mod_two_eq_zero_or_one n with h2 | h2
          · have e1 : ((n : Int) % 2 == 1) = false := by simp; omega
            have e2 := step_even h2
            go_wp2
            go_round
            case rel => exact ⟨j + 1, by omega, by go_num, by rw [hn2, ← e2]⟩
            case measure => simp [intOf]; omega
          · have e1 : ((n : Int) % 2 == 1) = true := by simp; omega
            have e2 := step_odd il h2
            go_wp2
            go_round
            case rel => exact ⟨j + 1, by omega, by go_num, by rw [hn2, ← e2]⟩
            case measure => simp [intOf]; omega
        · have i3 : ¬ (j : Int) < 8 := by omega
          obtain rfl : j = 8 := by omega
          go_wp2
          go_round
          case rel => exact ⟨k + 1, by omega, by go_num, by rw [hnext]⟩
          case measure => simp [intOf]; omega
    · have i2 : ¬ (k : Int) < (s.size : Int) := by omega
      obtain rfl : k = s.size := by omega
      have cx := xor32 (crc_lt (byteN s) s.size fun i _ => byte_lt s i) (show 4294967295 < 4294967296 by omega)
      go_wp2
      go_ret
      refine ⟨?_, rfl⟩
      show Ending.returned (.int .u32 _) = _
      exact congrArg (fun z => Ending.returned (.int .u32 z)) cx
end Go.Proofs.YtphcoenooinmfaaDoor
