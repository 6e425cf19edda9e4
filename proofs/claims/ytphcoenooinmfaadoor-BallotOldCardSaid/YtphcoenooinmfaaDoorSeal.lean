/- What the seals of package check, and of the document's answer for it, come to. -/
import Derived.Test.YtphcoenooinmfaaDoorProg
import Derived.Test.YtphcoenooinmfaaDoorChk
namespace Go.Proofs.YtphcoenooinmfaaDoor
open Go.RowKit
set_option linter.unusedVariables false
set_option linter.unusedSimpArgs false
attribute [local go_sem ↓] Go.wp_at_zero Go.wp_at_succ

/-- The i-th byte of a number. -/
def byteOf (c i : Nat) : Nat := c / 256 ^ i % 256
def lastB (c : Nat) : ByteArray := ⟨#[UInt8.ofNat (byteOf c 0), UInt8.ofNat (byteOf c 1), UInt8.ofNat (byteOf c 2), UInt8.ofNat (byteOf c 3)]⟩
def lastF (c k j : Nat) : Value := .int .u8 (if j < k then (byteOf c j : Int) else 0)
theorem byteOf_lt (c i : Nat) : byteOf c i < 256 := Nat.mod_lt _ (by omega)
theorem byte_toNat {n : Nat} (h : n < 256) : (UInt8.ofNat n).toNat = n := by simp; omega
/-- The four bytes that lie at g, as a text. -/
theorem conv4 (w : World) (g c : Nat) (h : ∀ j, j < 4 → w.cell? ⟨g, j, none⟩ = some (.int .u8 (byteOf c j : Int))) :
    (convert 80 9 (.slice (some ⟨g, 0, none⟩) 4 4)).run Tryd.prog w = .ok (.string (lastB c)) w := by
  refine run_convert_bytes_back w 80 9 5 ⟨g, 0, none⟩ 4 [UInt8.ofNat (byteOf c 0), UInt8.ofNat (byteOf c 1), UInt8.ofNat (byteOf c 2), UInt8.ofNat (byteOf c 3)] Tryd.underlying80 Tryd.underlying5 Tryd.underlying9 ?_
  intro j hj
  have e : (⟨g, 0, none⟩ : Addr).add j = ⟨g, j, none⟩ := by
    unfold Addr.add
    by_cases z : j = 0 <;> simp [z]
  rw [e, h j hj]
  match j, hj with
  | 0, _ | 1, _ | 2, _ | 3, _ => simp only [List.getElem_cons_zero, List.getElem_cons_succ]; rw [byte_toNat (byteOf_lt _ _)]
  | n + 4, hj => exact absurd hj (by simp)
set_option maxRecDepth 100000 in
set_option maxHeartbeats 1000000 in
theorem last_calls (w : World) (s : ByteArray) (hs : s.size ≤ 140737488351232) (hT : Steps w) :
    Calls Tryd.prog 73 #[.string s] w fun e w' => e = .returned (.string (lastB (crcS s))) ∧ Mod [] w w' := by
  have h0 : w.heap.size ≠ 1 := by
    have := World.block_lt_of_cell? w _ (hT 0 (by omega))
    simp at this; omega
  have A := Arr.new' w #[.int .u8 0, .int .u8 0, .int .u8 0, .int .u8 0] 174 4 (lastF (crcS s) 0) rfl (fun i hi => by
    match i, hi with
    | 0, _ | 1, _ | 2, _ | 3, _ => rfl
    | n + 4, h => exact absurd h (by omega))
  have M : Mod [] w (w.alloc (.cells #[.int .u8 0, .int .u8 0, .int .u8 0, .int .u8 0] 174)) := (Mod.refl _ _).alloc _
  have C := Lib.hid (sum_calls _ s hs (hT.mod M (by simp)))
  have hc := crcS_lt s
  go_enter Tryd.func73, Tryd.ntmps73
  go_wp2_with fail
  refine C.out.mono ?_
  rintro e w1 ⟨rfl, m1⟩
  have A1 := A.mod m1 (by simp)
  have M1 := M.trans m1
  clear A M C m1
  generalize ec : crcS s = c at *
  go_wp2
  go_loopw [8] (fun i wr => ∃ k : Nat, k ≤ 4 ∧ i = .int .i64 k ∧ Arr wr w.heap.size 174 4 (lastF c k) ∧ Mod [] w wr) (fun i _ => 4 - (intOf i).toNat)
  case atStart => exact ⟨0, by omega, rfl, A1, M1⟩
  case round =>
    obtain ⟨k, hk, rfl, hR, hM⟩ := hrel
    clear A1 M1
    by_cases hlt : k < 4
    · have i3 : (k : Int) < 4 := by omega
      have i0 : (0 : Int) ≤ (k : Int) := by omega
      have cR := hR.cell k hlt
      have fR := hR.free k
      have ev : (c : Int) / 2 ^ (8 * k) % 256 = (byteOf c k : Int) := by
        have hk4 : k = 0 ∨ k = 1 ∨ k = 2 ∨ k = 3 := by omega
        unfold byteOf
        rcases hk4 with rfl | rfl | rfl | rfl
        all_goals
          simp only [Nat.mul_zero, Nat.reduceMul, Nat.reducePow, Int.reducePow, Int.pow_zero, Nat.pow_zero]
          omega
      have hR2 := (hR.set k (.int .u8 (byteOf c k : Int))).congr (g := lastF c (k + 1)) fun j hj => by
        by_cases e : j = k
        · subst e; simp [lastF]
        · have : (j < k + 1) = (j < k) := by simp; omega
          simp [lastF, e, this]
      have hM2 : Mod [] w (wr.setCell ⟨w.heap.size, k, none⟩ (.int .u8 (byteOf c k : Int))) := hM.setCell (.inr (Nat.le_refl _)) _
      go_wp2
      go_roundw
      case rel => exact ⟨k + 1, by omega, by go_num, hR2, hM2⟩
      case measure => simp [intOf]; omega
    · have i3 : ¬ (k : Int) < 4 := by omega
      obtain rfl : k = 4 := by omega
      have cv := conv4 wr w.heap.size c fun j hj => by
        rw [hR.cell j hj]
        simp [lastF, hj]
      go_wp2
      go_ret
      exact ⟨rfl, hM⟩
def sealB (s : ByteArray) : ByteArray := s ++ lastB (crcS s)
theorem last_size (c : Nat) : (lastB c).size = 4 := rfl
theorem seal_size (s : ByteArray) : (sealB s).size = s.size + 4 := by rw [sealB, ByteArray.size_append]; rfl
theorem seal_calls (w : World) (s : ByteArray) (hs : s.size ≤ 1000000) (hT : Steps w) :
    Calls Tryd.prog 51 #[.string s] w fun e w' => e = .returned (.string (sealB s)) ∧ Mod [] w w' := by
  have C := Lib.hid (last_calls w s (by omega) hT)
  have hz := last_size (crcS s)
  go_enter Tryd.func51, Tryd.ntmps51
  go_wp2_with fail
  refine C.out.mono ?_
  rintro e w1 ⟨rfl, m1⟩
  go_wp2
  go_ret
  exact ⟨rfl, m1⟩
set_option maxRecDepth 100000 in
theorem rseal_calls (w : World) (s : ByteArray) (hs : s.size ≤ 1000000) :
    Calls Tryd.prog 56 #[.string s] w fun e w' => e = .returned (.string (sealB s)) ∧ Mod [] w w' := by
  have C := Lib.hid (rsum_calls w s (by omega))
  have hz := last_size (crcS s)
  have hc := crcS_lt s
  have M : Mod [] w (w.alloc (.cells #[.int .u8 (byteOf (crcS s) 0 : Int), .int .u8 (byteOf (crcS s) 1 : Int), .int .u8 (byteOf (crcS s) 2 : Int), .int .u8 (byteOf (crcS s) 3 : Int)] 5)) := (Mod.refl _ _).alloc _
  have A := Arr.new' w #[.int .u8 (byteOf (crcS s) 0 : Int), .int .u8 (byteOf (crcS s) 1 : Int), .int .u8 (byteOf (crcS s) 2 : Int), .int .u8 (byteOf (crcS s) 3 : Int)] 5 4 (fun j => .int .u8 (byteOf (crcS s) j : Int)) rfl (fun i hi => by
    match i, hi with
    | 0, _ | 1, _ | 2, _ | 3, _ => rfl
    | n + 4, h => exact absurd h (by omega))
  have cv := conv4 _ w.heap.size (crcS s) fun j hj => A.cell j hj
  have e0 : (byteOf (crcS s) 0 : Int) = (crcS s : Int) % 256 := by simp [byteOf]
  have e1 : (byteOf (crcS s) 1 : Int) = (crcS s : Int) / 256 % 256 := by simp [byteOf]
  have e2 : (byteOf (crcS s) 2 : Int) = (crcS s : Int) / 65536 % 256 := by simp [byteOf]
  have e3 : (byteOf (crcS s) 3 : Int) = (crcS s : Int) / 16777216 := by simp [byteOf]; omega
  rw [e0, e1, e2, e3] at cv
  have ec : sealB s = s ++ lastB (crcS s) := rfl
  generalize crcS s = c at *
  go_enter Tryd.func56, Tryd.ntmps56
  go_wp2_with fail
  refine C.out.mono ?_
  rintro e w1 ⟨rfl, rfl⟩
  rw [e0, e1, e2, e3] at M
  clear e0 e1 e2 e3
  go_wp2
  go_ret
  exact ⟨by rw [ec]; rfl, M⟩

theorem split_at (s : ByteArray) (n m : Nat) (hn : n ≤ m) (h : s.size = m) : s.extract 0 n ++ s.extract n m = s := by
  apply ByteArray.ext
  rw [ByteArray.data_append, ByteArray.data_extract, ByteArray.data_extract, Array.extract_append_extract]
  have : s.data.size = m := h
  rw [show min 0 n = 0 by omega, show max n m = s.data.size by omega, Array.extract_size]
def eqB (a b : ByteArray) : Bool := a.toList == b.toList
theorem eqB_iff (a b : ByteArray) : eqB a b = true ↔ a = b := by
  unfold eqB
  rw [ByteArray.toList_eq, ByteArray.toList_eq]
  constructor
  · intro h
    apply ByteArray.ext
    have : a.data.toList = b.data.toList := by simpa using h
    exact Array.toList_inj.1 this
  · rintro rfl; simp
theorem append_cancel {x a b : ByteArray} (h : x ++ a = x ++ b) : a = b := by
  have := congrArg ByteArray.data h
  rw [ByteArray.data_append, ByteArray.data_append] at this
  exact ByteArray.ext (Array.append_right_inj x.data |>.1 this)
/-- Is it sealed? -/
def okB (s : ByteArray) : Bool := if s.size < 4 then false else eqB (s.extract (s.size - 4) s.size) (lastB (crcS (s.extract 0 (s.size - 4))))
/-- What is opened. -/
def bodyB (s : ByteArray) : ByteArray := if okB s = true then s.extract 0 (s.size - 4) else ⟨#[]⟩
theorem ok_seal (s : ByteArray) (n : Nat) (h : s.size = n + 4) : eqB (sealB (s.extract 0 n)) s = okB s := by
  rw [Bool.eq_iff_iff, eqB_iff]
  have hs := split_at s n (n + 4) (by omega) h
  unfold okB
  rw [if_neg (by omega), eqB_iff, h, show n + 4 - 4 = n by omega]
  constructor
  · intro e
    unfold sealB at e
    exact (append_cancel (hs.trans e.symm))
  · intro e
    unfold sealB
    rw [← e, hs]
theorem seal_head (s : ByteArray) : (sealB s).extract 0 s.size = s := by
  unfold sealB
  apply ByteArray.ext
  simp
theorem ok_sealed (s : ByteArray) : okB (sealB s) = true := by
  rw [← ok_seal (sealB s) s.size (seal_size s), seal_head, eqB_iff]
theorem body_sealed (s : ByteArray) : bodyB (sealB s) = s := by
  unfold bodyB
  rw [if_pos (ok_sealed s), seal_size, show s.size + 4 - 4 = s.size by omega, seal_head]
def OpenPost (w : World) (s : ByteArray) (e : Ending) (w' : World) : Prop := e = .returned (.tuple #[.string (bodyB s), .bool (okB s)]) ∧ Mod [] w w'
theorem open_no {w w' : World} {s : ByteArray} (h : okB s = false) (m : Mod [] w w') : OpenPost w s (.returned (.tuple #[.string ⟨#[]⟩, .bool false])) w' := by
  refine ⟨?_, m⟩
  simp [bodyB, h]
theorem open_yes {w w' : World} {s : ByteArray} {n : Nat} (hn : s.size = n + 4) (h : okB s = true) (m : Mod [] w w') : OpenPost w s (.returned (.tuple #[.string (s.extract 0 n), .bool true])) w' := by
  refine ⟨?_, m⟩
  simp [bodyB, h, hn]
set_option maxRecDepth 100000 in
set_option maxHeartbeats 1000000 in
theorem open_calls (w : World) (s : ByteArray) (hs : s.size ≤ 1000000) (hT : Steps w) :
    Calls Tryd.prog 61 #[.string s] w (OpenPost w s) := by
  by_cases h4 : s.size < 4
  · have E := Lib.hid (open_no (s := s) (by simp [okB, h4]) ((Mod.refl [] w).drew))
    have i1 : (s.size : Int) - 4 < 0 := by omega
    have i2 : (s.size : Int) < 4 := by omega
    go_enter Tryd.func61, Tryd.ntmps61
    go_wp2
    go_region
    go_wp2
    go_ret2
    exact E.out
  · obtain ⟨n, hn⟩ : ∃ n, s.size = n + 4 := ⟨s.size - 4, by omega⟩
    have C := Lib.hid (last_calls w.drew (s.extract 0 n) (by simp; omega) (hT.mod ((Mod.refl [] _).drew) (by simp)))
    have E1 := fun w' => Lib.hid (open_no (w := w) (w' := w') (s := s))
    have E2 := fun w' => Lib.hid (open_yes (w := w) (w' := w') hn)
    have ok : okB s = eqB (s.extract n s.size) (lastB (crcS (s.extract 0 n))) := by
      unfold okB
      rw [if_neg h4, show s.size - 4 = n by omega]
    have i1 : ¬ (s.size : Int) - 4 < 0 := by omega
    have i2 : (s.size : Int) - 4 = (n : Int) := by omega
    have i3 : ¬ (s.size : Int) < 4 := by omega
    have i4 : (0 : Int) ≤ (n : Int) := by omega
    have i5 : (n : Int) ≤ (s.size : Int) := by omega
    have i6 : ¬ (n : Int) < 0 := by omega
    have i7 : decide ((n : Int) < 0) = false := by simp
    cases hd : eqB (s.extract n s.size) (lastB (crcS (s.extract 0 n)))
    all_goals
      rw [hd] at ok
      have OK := Lib.hid ok
      unfold eqB at hd
      clear ok hn h4
      go_enter Tryd.func61, Tryd.ntmps61
      go_wp2
      go_region_held3 (fun _ => True) (first | trivial | exact trivial) (first | (go_at_call 73; refine C.out.mono ?_; rintro e w1 ⟨rfl, m1⟩))
      all_goals
        go_wp2
        go_ret2
        first
          | exact (E1 _).out OK.out m1.of_drew
          | exact (E2 _).out OK.out m1.of_drew
set_option maxRecDepth 100000 in
set_option maxHeartbeats 1000000 in
theorem ropen_calls (w : World) (s : ByteArray) (hs : s.size ≤ 1000000) :
    Calls Tryd.prog 65 #[.string s] w (OpenPost w s) := by
  by_cases h4 : s.size < 4
  · have E := Lib.hid (open_no (s := s) (by simp [okB, h4]) (Mod.refl [] w))
    have i1 : (s.size : Int) - 4 < 0 := by omega
    have i2 : (s.size : Int) < 4 := by omega
    go_enter Tryd.func65, Tryd.ntmps65
    go_wp2
    go_ret2
    exact E.out
  · obtain ⟨n, hn⟩ : ∃ n, s.size = n + 4 := ⟨s.size - 4, by omega⟩
    have C := Lib.hid (rseal_calls w (s.extract 0 n) (by simp; omega))
    have E1 := fun w' => Lib.hid (open_no (w := w) (w' := w') (s := s))
    have E2 := fun w' => Lib.hid (open_yes (w := w) (w' := w') hn)
    have ok := ok_seal s n hn
    have i1 : ¬ (s.size : Int) - 4 < 0 := by omega
    have i2 : (s.size : Int) - 4 = (n : Int) := by omega
    have i3 : ¬ (s.size : Int) < 4 := by omega
    have i4 : (0 : Int) ≤ (n : Int) := by omega
    have i5 : (n : Int) ≤ (s.size : Int) := by omega
    have i6 : ¬ (n : Int) < 0 := by omega
    cases hd : eqB (sealB (s.extract 0 n)) s
    all_goals
      rw [hd] at ok
      have OK := Lib.hid ok
      unfold eqB at hd
      clear ok
      go_enter Tryd.func65, Tryd.ntmps65
      go_wp2_with (first | (go_at_call 56; refine C.out.mono ?_; rintro e w1 ⟨rfl, m1⟩))
      go_ret2
      first
        | exact (E1 _).out OK.out.symm m1
        | exact (E2 _).out OK.out.symm m1
end Go.Proofs.YtphcoenooinmfaaDoor
