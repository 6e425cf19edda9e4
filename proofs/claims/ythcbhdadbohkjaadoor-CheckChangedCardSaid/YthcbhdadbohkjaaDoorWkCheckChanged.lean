/- The walk of the law CheckChanged: sealed bytes of which one is another one are not opened; the premise: the table of steps holds what its initialiser lays. -/
import Derived.Test.YthcbhdadbohkjaaDoorProg
import Derived.Test.YthcbhdadbohkjaaDoorRow
import Derived.Test.YthcbhdadbohkjaaDoorSeal
namespace Go.Proofs.YthcbhdadbohkjaaDoor
open Go.RowKit
set_option linter.unusedVariables false
set_option linter.unusedSimpArgs false
attribute [local go_sem ↓] Go.wp_at_zero Go.wp_at_succ

theorem byte_seal_lo (s : ByteArray) (i : Nat) (h : i < s.size) : byteN (sealB s) i = byteN s i := by
  have h' : i < s.data.size := h
  unfold byteN sealB
  rw [ByteArray.data_append, Array.getElem?_append_left h']
theorem byte_seal_hi (s : ByteArray) (j : Nat) (h : j < 4) : byteN (sealB s) (s.size + j) = byteOf (crcS s) j := by
  unfold byteN sealB
  rw [ByteArray.data_append, Array.getElem?_append_right (by show s.data.size ≤ _; exact Nat.le_add_right _ _)]
  rw [show s.size + j - s.data.size = j by show s.data.size + j - s.data.size = j; omega]
  match j, h with
  | 0, _ | 1, _ | 2, _ | 3, _ => exact byte_toNat (byteOf_lt _ _)
  | n + 4, h => exact absurd h (by omega)
theorem byteOf_inj {a b : Nat} (ha : a < 4294967296) (hb : b < 4294967296) (h : ∀ j, j < 4 → byteOf a j = byteOf b j) : a = b := by
  have h0 := h 0 (by omega)
  have h1 := h 1 (by omega)
  have h2 := h 2 (by omega)
  have h3 := h 3 (by omega)
  simp [byteOf] at h0 h1 h2 h3
  omega
/-- The text in which the k-th byte is another one. -/
def chB (t : ByteArray) (k : Nat) (y : UInt8) : ByteArray := t.extract 0 k ++ ⟨#[y]⟩ ++ t.extract (k + 1) t.size
theorem ch_size (t : ByteArray) (k : Nat) (y : UInt8) (h : k < t.size) : (chB t k y).size = t.size := by
  unfold chB
  rw [ByteArray.size_append, ByteArray.size_append, ByteArray.size_extract, ByteArray.size_extract]
  show min k t.size - 0 + 1 + (min t.size t.size - (k + 1)) = t.size
  omega
theorem byte_ch (t : ByteArray) (k : Nat) (y : UInt8) (h : k < t.size) (i : Nat) (hi : i < t.size) : byteN (chB t k y) i = if i = k then y.toNat else byteN t i := by
  have h' : k < t.data.size := h
  have hi' : i < t.data.size := hi
  unfold byteN chB
  rw [ByteArray.data_append, ByteArray.data_append, ByteArray.data_extract, ByteArray.data_extract]
  have hl : (t.data.extract 0 k).size = k := by simp; omega
  by_cases e : i = k
  · subst e
    rw [Array.getElem?_append_left (by rw [Array.size_append, hl]; simp), Array.getElem?_append_right (by omega), hl]
    simp
  · rw [if_neg e]
    rcases Nat.lt_or_gt_of_ne e with hlt | hgt
    · rw [Array.getElem?_append_left (by rw [Array.size_append, hl]; simp; omega), Array.getElem?_append_left (by omega), Array.getElem?_extract]
      rw [if_pos (by omega), Nat.zero_add]
    · rw [Array.getElem?_append_right (by rw [Array.size_append, hl]; simp; omega), Array.size_append, hl, Array.getElem?_extract]
      have ht : t.size = t.data.size := rfl
      have e2 : i - (k + (#[y] : Array UInt8).size) = i - (k + 1) := rfl
      rw [e2, if_pos (by omega), show k + 1 + (i - (k + 1)) = i by omega]
theorem byte_ext {a b : ByteArray} (hs : a.size = b.size) (h : ∀ i, i < a.size → byteN a i = byteN b i) : a = b := by
  apply ByteArray.ext
  apply Array.ext hs
  intro i h1 h2
  have := h i h1
  unfold byteN at this
  rw [Array.getElem?_eq_getElem h1, Array.getElem?_eq_getElem h2] at this
  exact UInt8.toNat_inj.1 this
theorem ch_same (t : ByteArray) (k : Nat) (y : UInt8) (h : k < t.size) (hy : y.toNat = byteN t k) : chB t k y = t := by
  apply byte_ext (ch_size t k y h)
  intro i hi
  rw [ch_size t k y h] at hi
  rw [byte_ch t k y h i hi]
  split
  · rename_i e; rw [hy, e]
  · rfl
theorem xor_cancel {a b c : Nat} (h : a ^^^ c = b ^^^ c) : a = b := by
  have e : (a ^^^ c) ^^^ c = (b ^^^ c) ^^^ c := by rw [h]
  simpa [Nat.xor_assoc] using e
theorem ch_other (s : ByteArray) (k : Nat) (y : UInt8) (h : k < s.size + 4) (hy : y.toNat ≠ byteN (sealB s) k) : okB (chB (sealB s) k y) = false := by
  have hk : k < (sealB s).size := by rw [seal_size]; exact h
  have hcs : (chB (sealB s) k y).size = s.size + 4 := by rw [ch_size _ _ _ hk, seal_size]
  rw [← ok_seal _ s.size hcs]
  cases hd : eqB (sealB ((chB (sealB s) k y).extract 0 s.size)) (chB (sealB s) k y)
  · rfl
  · exfalso
    rw [eqB_iff] at hd
    generalize hx : (chB (sealB s) k y).extract 0 s.size = x at hd
    have hxs : x.size = s.size := by
      have := congrArg ByteArray.size hd
      rw [seal_size, hcs] at this
      omega
    have lo : ∀ i, i < s.size → byteN x i = if i = k then y.toNat else byteN s i := by
      intro i hi
      rw [← byte_seal_lo x i (by omega), hd, byte_ch _ _ _ hk i (by rw [seal_size]; omega), byte_seal_lo s i hi]
    have hi4 : ∀ j, j < 4 → byteOf (crcS x) j = if s.size + j = k then y.toNat else byteOf (crcS s) j := by
      intro j hj
      rw [← byte_seal_hi x j hj, hd, hxs, byte_ch _ _ _ hk _ (by rw [seal_size]; omega), byte_seal_hi s j hj]
    by_cases hkn : k < s.size
    · have ec : crcS x = crcS s := byteOf_inj (crcS_lt x) (crcS_lt s) fun j hj => by rw [hi4 j hj, if_neg (by omega)]
      unfold crcS at ec
      have ec' := xor_cancel ec
      rw [hxs] at ec'
      refine crc_one (fun i _ => byte_lt x i) (fun i _ => byte_lt s i) hkn ?_ (fun i hi hne => by rw [lo i hi, if_neg hne]) ec'
      rw [lo k hkn, if_pos rfl]
      rwa [byte_seal_lo s k hkn] at hy
    · have ec : crcS x = crcS s := by
        unfold crcS
        rw [hxs, crc_congr (f := byteN x) (g := byteN s) fun i hi => by rw [lo i hi, if_neg (by omega)]]
      have := hi4 (k - s.size) (by omega)
      rw [ec, if_pos (by omega), ← byte_seal_hi s (k - s.size) (by omega), show s.size + (k - s.size) = k by omega] at this
      exact hy this.symm

/-- One byte that lies at g, as a text. -/
theorem conv1 (w : World) (g : Nat) (x : Int) (h0 : 0 ≤ x) (h1 : x ≤ 255) (h : w.cell? ⟨g, 0, none⟩ = some (.int .u8 x)) :
    (convert 29 9 (.slice (some ⟨g, 0, none⟩) 1 1)).run Tryd.prog w = .ok (.string ⟨#[UInt8.ofNat x.toNat]⟩) w := by
  refine run_convert_bytes_back w 29 9 5 ⟨g, 0, none⟩ 1 [UInt8.ofNat x.toNat] Tryd.underlying29 Tryd.underlying5 Tryd.underlying9 ?_
  intro j hj
  obtain rfl : j = 0 := by simpa using hj
  rw [show (⟨g, 0, none⟩ : Addr).add 0 = ⟨g, 0, none⟩ by simp [Addr.add], h]
  simp only [List.getElem_cons_zero]
  rw [byte_toNat (by omega)]
  congr 2
  omega
set_option maxRecDepth 100000 in
set_option maxHeartbeats 2000000 in
theorem checkChanged_walk (W : World) (t0 : Steps W) (a0 : ByteArray) (w0 : a0.size ≤ 140737488351232)
    (a1 : Int) (w1 : (Lit.int .i64 a1).wf = true)
    (a2 : Int) (w2 : (Lit.int .u8 a2).wf = true) :
    Calls Tryd.prog 6 #[.string a0, .int .i64 a1, .int .u8 a2] W fun e w' => e = .returned (.bool true) ∧ Below W.heap.size W w' := by
  by_cases hbig : 2048 < a0.size
  · have hi : (2048 : Int) < (a0.size : Int) := by omega
    go_enter Tryd.func6, Tryd.ntmps6
    go_wp2
    go_ret
    exact ⟨rfl, Below.refl _ _⟩
  have hi : ¬ (2048 : Int) < (a0.size : Int) := by omega
  have b1 := bd_u8 w2
  have b20 := b1.1
  have b21 := b1.2
  have z1 := seal_size a0
  have CO := ch_other a0
  have CS := ch_same (sealB a0)
  have o1 := ok_sealed a0
  have bs1 := body_sealed a0
  have S1 := Lib.hid (seal_calls W a0 (by omega) t0)
  have S2 := fun w => Lib.hid (rseal_calls w a0 (by omega))
  generalize sealB a0 = t at *
  have T0 : (0 : Int) < (t.size : Int) := by omega
  have T1 : (t.size : Int) ≤ 2052 := by omega
  have T2 : ((t.size : Int) == 0) = false := beq_eq_false_iff_ne.2 (by omega)
  obtain ⟨z, hz⟩ : ∃ z, a1.tmod (t.size : Int) = z := ⟨_, rfl⟩
  have hz1 : z < (t.size : Int) := by rw [← hz]; exact Int.tmod_lt_of_pos _ T0
  have hz0 : -(t.size : Int) < z := by
    have := Int.lt_tmod_of_pos a1 T0
    rw [hz] at this; exact this
  obtain ⟨k, hk, hkt⟩ : ∃ k : Nat, (z + (t.size : Int)).tmod (t.size : Int) = (k : Int) ∧ k < t.size := ⟨((z + (t.size : Int)) % (t.size : Int)).toNat, by
    rw [Int.tmod_eq_emod_of_nonneg (by omega)]
    have := Int.emod_nonneg (z + (t.size : Int)) (show (t.size : Int) ≠ 0 by omega)
    omega, by
    have := Int.emod_lt_of_pos (z + (t.size : Int)) T0
    have := Int.emod_nonneg (z + (t.size : Int)) (show (t.size : Int) ≠ 0 by omega)
    omega⟩
  have k0 : (0 : Int) ≤ (k : Int) := by omega
  have k1 : (k : Int) < (t.size : Int) := by omega
  have k2 : (k : Int) + 1 ≤ (t.size : Int) := by omega
  have k3 : (k : Int) ≤ (t.size : Int) := by omega
  have eb := byte_eq t k hkt
  have bl := byte_lt t k
  obtain ⟨y, hy⟩ : ∃ y : Int, ((byteN t k : Int) + a2) % 256 = y := ⟨_, rfl⟩
  have hy0 : 0 ≤ y := by omega
  have hy1 : y ≤ 255 := by omega
  obtain ⟨u, hu⟩ : ∃ u : ByteArray, u = ⟨#[UInt8.ofNat y.toNat]⟩ := ⟨_, rfl⟩
  have hus : u.size = 1 := by rw [hu]; rfl
  have ech : t.extract 0 k ++ u ++ t.extract (k + 1) t.size = chB t k (UInt8.ofNat y.toNat) := by rw [hu]; rfl
  have cz := ch_size t k (UInt8.ofNat y.toNat) hkt
  have yN : (UInt8.ofNat y.toNat).toNat = y.toNat := byte_toNat (by omega)
  have hres : (okB (chB t k (UInt8.ofNat y.toNat)) = (a2 == 0)) ∧ bodyB (chB t k (UInt8.ofNat y.toNat)) = if a2 = 0 then a0 else ⟨#[]⟩ := by
    by_cases h0 : a2 = 0
    · have := CS k (UInt8.ofNat y.toNat) hkt (by rw [yN]; omega)
      rw [this, o1, bs1]
      simp [h0]
    · have := CO k (UInt8.ofNat y.toNat) (by omega) (by rw [yN]; omega)
      refine ⟨by rw [this]; simp [h0], ?_⟩
      unfold bodyB
      rw [if_neg (by rw [this]; simp), if_neg h0]
  generalize chB t k (UInt8.ofNat y.toNat) = ch at *
  have e1 := hres.1
  have e2 := hres.2
  have cv := fun (w : World) => conv1 (w.alloc (.cells #[.int .u8 y] 5)).drew w.heap.size y hy0 hy1 (by simp)
  rw [← hu] at cv
  have hwu : IntKind.u8.wrap ((byteN t k : Int) + a2) = y := by rw [IntKind.wrap_u8]; exact hy
  have hwk : IntKind.i64.wrap ((k : Int) + 1) = (k : Int) + 1 := by rw [IntKind.wrap_i64]; omega
  have chs : ch.size ≤ 100000 := by omega
  clear hres CO CS o1 bs1 hu yN w1 w2 b1 z1 cz
  obtain ⟨ok, bd, hok, hbd, hfin⟩ : ∃ ok bd, okB ch = ok ∧ bodyB ch = bd ∧ ((a2 == 0) = true ∧ ok = true ∧ bd = a0 ∨ (a2 == 0) = false ∧ ok = false ∧ bd = ⟨#[]⟩) := ⟨_, _, rfl, rfl, by
    rw [e1, e2]
    by_cases h0 : a2 = 0
    · simp [h0]
    · right; simp [h0]⟩
  clear e1 e2
  go_enter Tryd.func6, Tryd.ntmps6
  go_wp2_with fail
  refine S1.out.mono ?_
  rintro e w1 ⟨rfl, m1⟩
  have t1 := t0.mod m1 (by simp)
  go_wp2_with fail
  refine (S2 _).out.mono ?_
  rintro e w2 ⟨rfl, m2⟩
  have t2 := t1.mod m2 (by simp)
  have cv2 := cv w2
  have n2 : Mod [] w2 (w2.alloc (.cells #[.int .u8 y] 5)).drew := ((Mod.refl _ _).alloc _).drew
  have C := Lib.hid (open_calls _ ch chs (t2.mod n2 (by simp)))
  clear hy
  go_wp2_with fail
  go_region_with (first | (go_at_call 17; refine C.out.mono ?_; rintro e w3 ⟨rfl, m3⟩; rw [hok, hbd]))
  all_goals
    have M := (((m1.trans m2).trans n2).trans m3).below (Nat.le_refl _) (by simp)
    rcases hfin with ⟨q1, rfl, rfl⟩ | ⟨q1, rfl, rfl⟩
    · go_wp2
      go_ret
      exact ⟨rfl, M⟩
    · go_wp2
      go_ret
      exact ⟨rfl, M⟩
end Go.Proofs.YthcbhdadbohkjaaDoor
