/- What was read is what would be written: plain laws on bytes. No program, no condition. -/
import Derived.Test.YtphcoenooinmfaaDoorNr
import Derived.Test.YtphcoenooinmfaaDoorSeal
namespace Go.Proofs.YtphcoenooinmfaaDoor
open Go.RowKit
set_option linter.unusedVariables false
set_option linter.unusedSimpArgs false

theorem digit (f : Nat → Nat) (hf : ∀ i, f i < 256) : ∀ i k a, i < k → leN f a k / 256 ^ i % 256 = f (a + i) := by
  intro i
  induction i with
  | zero =>
    intro k a hk
    obtain ⟨k, rfl⟩ : ∃ q, k = q + 1 := ⟨k - 1, by omega⟩
    rw [leN_head]
    have := hf a
    simp
    omega
  | succ i ih =>
    intro k a hk
    obtain ⟨k, rfl⟩ : ∃ q, k = q + 1 := ⟨k - 1, by omega⟩
    rw [leN_head, Nat.pow_succ, Nat.mul_comm (256 ^ i) 256, ← Nat.div_div_eq_div_mul]
    have := hf a
    rw [show (f a + 256 * leN f (a + 1) k) / 256 = leN f (a + 1) k by omega, ih k (a + 1) (by omega)]
    congr 1; omega
theorem leB_leN (s : ByteArray) (a k : Nat) (h : a + k ≤ s.size) : leB (leN (byS s) a k) k = (s.data.toList.drop a).take k := by
  have hl : s.data.toList.length = s.size := rfl
  apply List.ext_getElem
  · rw [leB_length, List.length_take, List.length_drop, hl]; omega
  · intro i h1 h2
    rw [leB_length] at h1
    have e0 : (leB (leN (byS s) a k) k)[i] = UInt8.ofNat (leN (byS s) a k / 256 ^ i % 256) := by simp [leB]
    rw [e0, digit _ (byS_lt s) i k a h1, List.getElem_take, List.getElem_drop]
    unfold byS
    have h3 : a + i < s.data.size := by have : s.data.size = s.size := rfl; omega
    rw [Array.getElem?_eq_getElem h3]
    simp
theorem rd_back {s : ByteArray} {a k : Nat} (h : rdL s a k = []) : wideB k = true ∧ a + k ≤ s.size ∧ rdA s a k = a + k ∧ rdN s a k = (leN (byS s) a k : Nat) := by
  obtain ⟨h1, h2, h3, h4, h5⟩ := rd_good h
  refine ⟨h1, by omega, by rw [h3]; omega, ?_⟩
  unfold rdL at h
  unfold rdN
  rw [if_neg (by rw [h1]; simp), if_neg (by omega)] at h ⊢
  rw [Int.toNat_natCast] at h ⊢
  split at h
  · cases h
  · rename_i h6; rw [if_neg h6]
theorem fit_back {s : ByteArray} {a k : Nat} (h : rdL s a k = []) : fitB (rdN s a k) k = true := by
  obtain ⟨h1, h2, h3, h4⟩ := rd_back h
  unfold fitB
  rw [h1, h4]
  have := leN_lt (byS s) a k (byS_lt s)
  simp only [Bool.true_and, decide_eq_true_eq]
  refine ⟨by omega, .inr ?_⟩
  rw [Int.toNat_natCast]
  have e2 : ((2 : Int) ^ (8 * k)) = ((2 ^ (8 * k) : Nat) : Int) := by simp
  rw [pow256 k] at this
  rw [e2]
  exact Int.ofNat_lt.2 this
theorem seal_back {s : ByteArray} (h : okB s = true) : sealB (bodyB s) = s := by
  have h4 : ¬ s.size < 4 := by
    intro h4
    unfold okB at h
    rw [if_pos h4] at h
    cases h
  have e := ok_seal s (s.size - 4) (by omega)
  rw [h, eqB_iff] at e
  unfold bodyB
  rw [if_pos h, e]
/-- A number that was read, written behind what was ahead of it. -/
theorem num_back {t : ByteArray} {a k : Nat} (h : rdL t a k = []) (k0 : 0 < k) : numB (t.data.toList.take a) (rdN t a k) k = t.data.toList.take (a + k) ∧ rdA t a k = a + k ∧ a + k ≤ t.size := by
  obtain ⟨b1, b2, b3, b4⟩ := rd_back h
  refine ⟨?_, b3, b2⟩
  unfold numB
  rw [if_pos (fit_back h), b4, Int.toNat_natCast, Int.toNat_natCast, leB_leN t _ k b2, List.take_add]
/-- A text that was read, written behind what was ahead of it. -/
theorem text_back {t : ByteArray} {a : Nat} (h : rtL t a = []) (ha : a ≤ t.size) (hs : (rtS t a).size ≤ 1024) : textB (t.data.toList.take a) (rtS t a) = t.data.toList.take (rtA t a) ∧ a + 2 ≤ rtA t a ∧ rtA t a ≤ t.size := by
  have l2 : rdL t a 2 = [] := by
    unfold rtL at h
    by_cases q : rdL t a 2 = []
    · exact q
    · rw [if_pos q] at h
      simp at h
      exact absurd h q
  obtain ⟨b1, b2, b3, b4⟩ := rd_back (k := 2) l2
  have eA : rtA t a = a + 2 + (rdN t a 2).toNat := by unfold rtA; rw [if_pos h]
  have b4' : rdN t a 2 = (leN (byS t) a 2 : Nat) := b4
  have hle : a + 2 + (rdN t a 2).toNat ≤ t.size := by rw [← eA]; exact rtA_le ha
  have eS : rtS t a = t.extract (a + 2) (a + 2 + (rdN t a 2).toNat) := by unfold rtS; rw [if_pos h]
  refine ⟨?_, by omega, by omega⟩
  unfold textB
  rw [if_pos hs]
  rw [eS, b4', Int.toNat_natCast]
  rw [b4', Int.toNat_natCast] at hle eA
  have hsz : (t.extract (a + 2) (a + 2 + leN (byS t) a 2)).size = leN (byS t) a 2 := by
    rw [ByteArray.size_extract]; omega
  rw [hsz, leB_leN t a 2 (by omega), ← List.take_add]
  have e3 : (t.extract (a + 2) (a + 2 + leN (byS t) a 2)).data.toList = (t.data.toList.drop (a + 2)).take (leN (byS t) a 2) := by
    rw [ByteArray.data_extract, Array.toList_extract]
    simp [List.extract, List.drop_take]
  rw [e3, ← List.take_add, eA]
end Go.Proofs.YtphcoenooinmfaaDoor
