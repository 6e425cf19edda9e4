/- A text of which one byte is another one: what the seal says; one byte as a text. No condition. -/
import Derived.Test.YtphcoenooinmfaaDoorSeal
namespace Go.Proofs.YtphcoenooinmfaaDoor
open Go.RowKit
set_option linter.unusedVariables false
set_option linter.unusedSimpArgs false

theorem byte_seal_lo (s : ByteArray) (i : Nat) (h : i < s.size) : byteN (sealB s) i = byteN s i := by
  have h' : i < s.data.size := h
  unfold byteN sealB
  rw [ByteArray.data_append, Array.getElem?_append_left h']
theorem byte_seal_hi (s : ByteArray) (j : Nat) (h : j < 4) : byteN (sealB s) (s.size + j) = byteOf (crcS s) j := by
  unfold byteN sealB
  rw [ByteArray.data_append, Array.getElem?_append_right (by show s.data.size ≤ _; exact Nat.le_add_right _ _)]
  rw [show s.size + j - s.data.size = j by show s.data.size + j - s.data.size = j; omega]
  match j, h with
  | 0, _ | 1, _ | 2, _ | 3, _ => exact byte_toNat (byteOf_lt _ _)
  | n + 4, h => exact absurd h (by omega)
theorem byteOf_inj {a b : Nat} (ha : a < 4294967296) (hb : b < 4294967296) (h : ∀ j, j < 4 → byteOf a j = byteOf b j) : a = b := by
  have h0 := h 0 (by omega)
  have h1 := h 1 (by omega)
  have h2 := h 2 (by omega)
  have h3 := h 3 (by omega)
  simp [byteOf] at h0 h1 h2 h3
  omega
/-- The text in which the k-th byte is another one. -/
def chB (t : ByteArray) (k : Nat) (y : UInt8) : ByteArray := t.extract 0 k ++ ⟨#[y]⟩ ++ t.extract (k + 1) t.size
theorem ch_size (t : ByteArray) (k : Nat) (y : UInt8) (h : k < t.size) : (chB t k y).size = t.size := by
  unfold chB
  rw [ByteArray.size_append, ByteArray.size_append, ByteArray.size_extract, ByteArray.size_extract]
  show min k t.size - 0 + 1 + (min t.size t.size - (k + 1)) = t.size
  omega
theorem byte_ch (t : ByteArray) (k : Nat) (y : UInt8) (h : k < t.size) (i : Nat) (hi : i < t.size) : byteN (chB t k y) i = if i = k then y.toNat else byteN t i := by
  have h' : k < t.data.size := h
  have hi' : i < t.data.size := hi
  unfold byteN chB
  rw [ByteArray.data_append, ByteArray.data_append, ByteArray.data_extract, ByteArray.data_extract]
  have hl : (t.data.extract 0 k).size = k := by simp; omega
  by_cases e : i = k
  · subst e
    rw [Array.getElem?_append_left (by rw [Array.size_append, hl]; simp), Array.getElem?_append_right (by omega), hl]
    simp
  · rw [if_neg e]
    rcases Nat.lt_or_gt_of_ne e with hlt | hgt
    · rw [Array.getElem?_append_left (by rw [Array.size_append, hl]; simp; omega), Array.getElem?_append_left (by omega), Array.getElem?_extract]
      rw [if_pos (by omega), Nat.zero_add]
    · rw [Array.getElem?_append_right (by rw [Array.size_append, hl]; simp; omega), Array.size_append, hl, Array.getElem?_extract]
      have ht : t.size = t.data.size := rfl
      have e2 : i - (k + (#[y] : Array UInt8).size) = i - (k + 1) := rfl
      rw [e2, if_pos (by omega), show k + 1 + (i - (k + 1)) = i by omega]
theorem byte_ext {a b : ByteArray} (hs : a.size = b.size) (h : ∀ i, i < a.size → byteN a i = byteN b i) : a = b := by
  apply ByteArray.ext
  apply Array.ext hs
  intro i h1 h2
  have := h i h1
  unfold byteN at this
  rw [Array.getElem?_eq_getElem h1, Array.getElem?_eq_getElem h2] at this
  exact UInt8.toNat_inj.1 this
theorem ch_same (t : ByteArray) (k : Nat) (y : UInt8) (h : k < t.size) (hy : y.toNat = byteN t k) : chB t k y = t := by
  apply byte_ext (ch_size t k y h)
  intro i hi
  rw [ch_size t k y h] at hi
  rw [byte_ch t k y h i hi]
  split
  · rename_i e; rw [hy, e]
  · rfl
theorem xor_cancel {a b c : Nat} (h : a ^^^ c = b ^^^ c) : a = b := by
  have e : (a ^^^ c) ^^^ c = (b ^^^ c) ^^^ c := by rw [h]
  simpa [Nat.xor_assoc] using e
theorem ch_other (s : ByteArray) (k : Nat) (y : UInt8) (h : k < s.size + 4) (hy : y.toNat ≠ byteN (sealB s) k) : okB (chB (sealB s) k y) = false := by
  have hk : k < (sealB s).size := by rw [seal_size]; exact h
  have hcs : (chB (sealB s) k y).size = s.size + 4 := by rw [ch_size _ _ _ hk, seal_size]
  rw [← ok_seal _ s.size hcs]
  cases hd : eqB (sealB ((chB (sealB s) k y).extract 0 s.size)) (chB (sealB s) k y)
  · rfl
  · exfalso
    rw [eqB_iff] at hd
    generalize hx : (chB (sealB s) k y).extract 0 s.size = x at hd
    have hxs : x.size = s.size := by
      have := congrArg ByteArray.size hd
      rw [seal_size, hcs] at this
      omega
    have lo : ∀ i, i < s.size → byteN x i = if i = k then y.toNat else byteN s i := by
      intro i hi
      rw [← byte_seal_lo x i (by omega), hd, byte_ch _ _ _ hk i (by rw [seal_size]; omega), byte_seal_lo s i hi]
    have hi4 : ∀ j, j < 4 → byteOf (crcS x) j = if s.size + j = k then y.toNat else byteOf (crcS s) j := by
      intro j hj
      rw [← byte_seal_hi x j hj, hd, hxs, byte_ch _ _ _ hk _ (by rw [seal_size]; omega), byte_seal_hi s j hj]
    by_cases hkn : k < s.size
    · have ec : crcS x = crcS s := byteOf_inj (crcS_lt x) (crcS_lt s) fun j hj => by rw [hi4 j hj, if_neg (by omega)]
      unfold crcS at ec
      have ec' := xor_cancel ec
      rw [hxs] at ec'
      refine crc_one (fun i _ => byte_lt x i) (fun i _ => byte_lt s i) hkn ?_ (fun i hi hne => by rw [lo i hi, if_neg hne]) ec'
      rw [lo k hkn, if_pos rfl]
      rwa [byte_seal_lo s k hkn] at hy
    · have ec : crcS x = crcS s := by
        unfold crcS
        rw [hxs, crc_congr (f := byteN x) (g := byteN s) fun i hi => by rw [lo i hi, if_neg (by omega)]]
      have := hi4 (k - s.size) (by omega)
      rw [ec, if_pos (by omega), ← byte_seal_hi s (k - s.size) (by omega), show s.size + (k - s.size) = k by omega] at this
      exact hy this.symm

/-- One byte that lies at g, as a text. -/
theorem conv1 (w : World) (g : Nat) (x : Int) (h0 : 0 ≤ x) (h1 : x ≤ 255) (h : w.cell? ⟨g, 0, none⟩ = some (.int .u8 x)) :
    (convert 80 9 (.slice (some ⟨g, 0, none⟩) 1 1)).run Tryd.prog w = .ok (.string ⟨#[UInt8.ofNat x.toNat]⟩) w := by
  refine run_convert_bytes_back w 80 9 5 ⟨g, 0, none⟩ 1 [UInt8.ofNat x.toNat] Tryd.underlying80 Tryd.underlying5 Tryd.underlying9 ?_
  intro j hj
  obtain rfl : j = 0 := by simpa using hj
  rw [show (⟨g, 0, none⟩ : Addr).add 0 = ⟨g, 0, none⟩ by simp [Addr.add], h]
  simp only [List.getElem_cons_zero]
  rw [byte_toNat (by omega)]
  congr 2
  omega
end Go.Proofs.YtphcoenooinmfaaDoor
