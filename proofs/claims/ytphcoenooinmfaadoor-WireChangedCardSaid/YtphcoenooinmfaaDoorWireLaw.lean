/- A message that was encoded is decoded; what decodes is what encodes: plain laws. No program, no condition. -/
import Derived.Test.YtphcoenooinmfaaDoorWire6
namespace Go.Proofs.YtphcoenooinmfaaDoor
open Go.RowKit
set_option linter.unusedVariables false
set_option linter.unusedSimpArgs false

theorem chk_zero {m : Msg} (h : m.chk = 0) : m.numsOk = true ∧ m.d.size ≤ 1024 := by
  unfold Msg.chk at h
  cases hn : m.numsOk
  · rw [hn] at h; simp at h
  · rw [hn] at h
    refine ⟨rfl, ?_⟩
    by_cases hd : 1024 < m.d.size
    · simp [hd] at h
    · omega
theorem nums_bd {m : Msg} (h : m.numsOk = true) (j : Nat) (hj : j < 7) : 0 ≤ m.x j ∧ m.x j ≤ 1099511627776 ∧ (j < 3 → m.x j ≤ 255) ∧ (5 ≤ j → m.x j ≤ 256) := by
  unfold Msg.numsOk inB at h
  simp only [Bool.and_eq_true, decide_eq_true_eq] at h
  obtain ⟨⟨⟨⟨a0, a1⟩, ⟨b0, b1⟩, c0, c1⟩, ⟨d0, d1⟩, e0, e1⟩, ⟨f0, f1⟩, g0, g1⟩ := h
  match j, hj with
  | 0, _ | 1, _ | 2, _ | 3, _ | 4, _ | 5, _ | 6, _ => refine ⟨?_, ?_, ?_, ?_⟩ <;> omega
theorem enc_step {m : Msg} (h : m.numsOk = true) (j : Nat) (hj : j < 7) : ∃ k : Nat, wid j = (k : Int) ∧ wideB k = true ∧ (m.x j).toNat < 256 ^ k ∧ (m.x j).toNat < 9223372036854775808 ∧ m.enc (j + 1) = m.enc j ++ leB (m.x j).toNat k := by
  obtain ⟨h0, h1, h2, h3⟩ := nums_bd h j hj
  simp only [Msg.enc]
  unfold numB fitB
  by_cases a : j < 3
  · have e : wid j = 1 := by unfold wid; rw [if_pos a]
    have h4 := h2 a
    refine ⟨1, by rw [e]; rfl, by decide, by omega, by omega, ?_⟩
    rw [e, if_pos (by simp [wideB]; omega)]
    rfl
  · by_cases b : j < 5
    · have e : wid j = 8 := by unfold wid; rw [if_neg a, if_pos b]
      refine ⟨8, by rw [e]; rfl, by decide, by omega, by omega, ?_⟩
      rw [e, if_pos (by simp [wideB]; omega)]
      rfl
    · have e : wid j = 2 := by unfold wid; rw [if_neg a, if_neg b]
      have h4 := h3 (by omega)
      refine ⟨2, by rw [e]; rfl, by decide, by omega, by omega, ?_⟩
      rw [e, if_pos (by simp [wideB]; omega)]
      rfl
theorem bytes_split {m : Msg} (h : m.numsOk = true) (hd : m.d.size ≤ 1024) : ∀ n j, j + n = 7 → ∃ rest, m.bytes = m.enc j ++ rest := by
  intro n
  induction n with
  | zero =>
    intro j hj
    obtain rfl : j = 7 := by omega
    unfold Msg.bytes textB
    rw [if_pos hd]
    exact ⟨_, List.append_assoc _ _ _⟩
  | succ n ih =>
    intro j hj
    obtain ⟨rest, hr⟩ := ih (j + 1) (by omega)
    obtain ⟨k, _, _, _, _, he⟩ := enc_step h j (by omega)
    rw [he] at hr
    exact ⟨_, by rw [hr, List.append_assoc]⟩
theorem dec_step {m : Msg} (h : m.numsOk = true) (hd : m.d.size ≤ 1024) (j : Nat) (hj : j < 7) (hA : decA (txt m.bytes) j = (m.enc j).length) :
    decE (txt m.bytes) j = [] ∧ decN (txt m.bytes) j = m.x j ∧ decA (txt m.bytes) (j + 1) = (m.enc (j + 1)).length := by
  obtain ⟨k, hk, hw, hn, h63, he⟩ := enc_step h j hj
  obtain ⟨rest, hr⟩ := bytes_split h hd (7 - (j + 1)) (j + 1) (by omega)
  obtain ⟨e1, e2, e3⟩ := rd_at (m.enc j) rest _ k hw hn h63
  obtain ⟨h0, _⟩ := nums_bd h j hj
  rw [← he, ← hr] at e1 e2 e3
  have hz : (m.enc (j + 1)).length = (m.enc j).length + k := by rw [he, List.length_append, leB_length]
  unfold decE decN
  simp only [decA]
  rw [hA, hk]
  refine ⟨e1, by rw [e2]; omega, by rw [e3, hz]⟩
theorem dec_len {m : Msg} (h : m.numsOk = true) (hd : m.d.size ≤ 1024) : ∀ j, j ≤ 7 → decA (txt m.bytes) j = (m.enc j).length := by
  intro j
  induction j with
  | zero => intro _; rfl
  | succ j ih => intro hj; exact (dec_step h hd j (by omega) (ih (by omega))).2.2
theorem decFrom_all {t : ByteArray} (h : ∀ j, j < 7 → decE t j = []) : decFrom t 7 0 = decTail t := by
  rw [decFrom_ok (h 0 (by omega)), decFrom_ok (h 1 (by omega)), decFrom_ok (h 2 (by omega)), decFrom_ok (h 3 (by omega)), decFrom_ok (h 4 (by omega)), decFrom_ok (h 5 (by omega)), decFrom_ok (h 6 (by omega))]
  rfl
theorem chk_congr {a b : Msg} (h : ∀ j, j < 7 → a.x j = b.x j) (hd : a.d.size = b.d.size) : a.chk = b.chk := by
  unfold Msg.chk Msg.numsOk
  rw [h 0 (by omega), h 1 (by omega), h 2 (by omega), h 3 (by omega), h 4 (by omega), h 5 (by omega), h 6 (by omega), hd]
theorem arr_congr {a b : Msg} (h : ∀ j, j < 7 → a.x j = b.x j) (hd : a.d = b.d) : a.arr = b.arr := by
  unfold Msg.arr
  rw [h 0 (by omega), h 1 (by omega), h 2 (by omega), h 3 (by omega), h 4 (by omega), h 5 (by omega), h 6 (by omega), hd]
/-- What was encoded is decoded. -/
theorem dec_sealed {m : Msg} (h : m.chk = 0) : decL m.sealed = [] ∧ (decR m.sealed).arr = m.arr := by
  obtain ⟨hn, hd⟩ := chk_zero h
  have es : m.sealed = sealB (txt m.bytes) := by unfold Msg.sealed; rw [if_pos h]
  have hl := dec_len hn hd
  have hs := fun j hj => dec_step hn hd j hj (hl j (by omega))
  have hby : m.bytes = m.enc 7 ++ leB m.d.size 2 ++ m.d.data.toList ++ [] := by unfold Msg.bytes textB; rw [if_pos hd, List.append_nil]
  obtain ⟨e1, e2, e3⟩ := rt_at (m.enc 7) [] m.d hd
  rw [← hby] at e1 e2 e3
  have hz : (txt m.bytes).size = (m.enc 7).length + 2 + m.d.size := by
    rw [txt_size, hby, List.length_append, List.length_append, List.length_append, leB_length]
    show _ + _ + m.d.data.size + _ = _ + _ + m.d.data.size
    simp
  have hx : ∀ j, j < 7 → (decM (txt m.bytes)).x j = m.x j := fun j hj => (hs j hj).2.1
  have hdd : (decM (txt m.bytes)).d = m.d := by unfold decM; simp only; rw [hl 7 (by omega), e2]
  have ht : decTail (txt m.bytes) = [] := by
    unfold decTail
    rw [hl 7 (by omega), e1, if_neg (by simp), e3, show endL (txt m.bytes) ((m.enc 7).length + 2 + m.d.size) = [] by unfold endL; rw [hz, if_neg (by omega)], if_neg (by simp), if_neg]
    rw [chk_congr hx (by rw [hdd]), h]
    simp
  have hL : decL m.sealed = [] := by
    rw [es]
    unfold decL
    rw [ok_sealed, if_neg (by simp), body_sealed, decFrom_all (fun j hj => (hs j hj).1), ht]
  refine ⟨hL, ?_⟩
  unfold decR
  rw [if_pos hL, es, body_sealed]
  exact arr_congr hx hdd
theorem sealed_size {m : Msg} (h : m.chk = 0) : 4 < m.sealed.size ∧ m.sealed.size ≤ 2000 := by
  obtain ⟨hn, hd⟩ := chk_zero h
  have es : m.sealed = sealB (txt m.bytes) := by unfold Msg.sealed; rw [if_pos h]
  rw [es, seal_size, txt_size]
  have h1 := textB_len (m.enc 7) m.d
  have h2 := m.enc_len 7
  have h3 : m.bytes = m.enc 7 ++ leB m.d.size 2 ++ m.d.data.toList := by unfold Msg.bytes textB; rw [if_pos hd]
  have h4 : 2 ≤ m.bytes.length := by rw [h3, List.length_append, List.length_append, leB_length]; omega
  have h5 : m.bytes.length ≤ (m.enc 7).length + 2 + m.d.size := h1
  omega
theorem sealed_bad {m : Msg} (h : m.chk ≠ 0) : m.sealed = ⟨#[]⟩ := by unfold Msg.sealed; rw [if_neg h]
theorem errL_ok {m : Msg} (h : m.chk = 0) : m.errL = [] := by unfold Msg.errL; rw [if_pos h]
theorem errL_bad {m : Msg} (h : m.chk ≠ 0) : m.errL = [m.chk] := by unfold Msg.errL; rw [if_neg h]
theorem dec_none : decL ⟨#[]⟩ = [20] := by
  unfold decL okB
  rw [if_pos]
  simp [ByteArray.size]
/-- Messages whose bytes are equal are equal. -/
theorem sealed_inj {a b : Msg} (ha : a.chk = 0) (hb : b.chk = 0) (h : a.sealed = b.sealed) : a.arr = b.arr := by
  rw [← (dec_sealed ha).2, ← (dec_sealed hb).2, h]
theorem enc_congr {a b : Msg} : ∀ j, (∀ i, i < j → a.x i = b.x i) → a.enc j = b.enc j := by
  intro j
  induction j with
  | zero => intro _; rfl
  | succ j ih =>
    intro h
    simp only [Msg.enc]
    rw [ih (fun i hi => h i (by omega)), h j (by omega)]
theorem arr_inv {a b : Msg} (h : a.arr = b.arr) : (∀ j, j < 7 → a.x j = b.x j) ∧ a.d = b.d := by
  unfold Msg.arr at h
  simp only [Array.mk.injEq, List.cons.injEq, Value.int.injEq, Value.string.injEq, true_and, and_true] at h
  obtain ⟨h0, h1, h2, h3, h4, h5, h6, h7⟩ := h
  refine ⟨fun j hj => ?_, h7⟩
  match j, hj with
  | 0, _ => exact h0
  | 1, _ => exact h1
  | 2, _ => exact h2
  | 3, _ => exact h3
  | 4, _ => exact h4
  | 5, _ => exact h5
  | 6, _ => exact h6
theorem sealed_congr {a b : Msg} (h : a.arr = b.arr) : a.sealed = b.sealed := by
  obtain ⟨hx, hd⟩ := arr_inv h
  unfold Msg.sealed Msg.bytes
  rw [chk_congr hx (by rw [hd]), enc_congr 7 hx, hd]
/-- The bytes of the number that bytes are. -/
theorem digit (f : Nat → Nat) (hf : ∀ i, f i < 256) : ∀ i k a, i < k → leN f a k / 256 ^ i % 256 = f (a + i) := by
  intro i
  induction i with
  | zero =>
    intro k a hk
    obtain ⟨k, rfl⟩ : ∃ q, k = q + 1 := ⟨k - 1, by omega⟩
    rw [leN_head]
    have := hf a
    simp
    omega
  | succ i ih =>
    intro k a hk
    obtain ⟨k, rfl⟩ : ∃ q, k = q + 1 := ⟨k - 1, by omega⟩
    rw [leN_head, Nat.pow_succ, Nat.mul_comm (256 ^ i) 256, ← Nat.div_div_eq_div_mul]
    have := hf a
    rw [show (f a + 256 * leN f (a + 1) k) / 256 = leN f (a + 1) k by omega, ih k (a + 1) (by omega)]
    congr 1; omega
theorem leB_leN (s : ByteArray) (a k : Nat) (h : a + k ≤ s.size) : leB (leN (byS s) a k) k = (s.data.toList.drop a).take k := by
  have hl : s.data.toList.length = s.size := rfl
  apply List.ext_getElem
  · rw [leB_length, List.length_take, List.length_drop, hl]; omega
  · intro i h1 h2
    rw [leB_length] at h1
    have e0 : (leB (leN (byS s) a k) k)[i] = UInt8.ofNat (leN (byS s) a k / 256 ^ i % 256) := by simp [leB]
    rw [e0, digit _ (byS_lt s) i k a h1, List.getElem_take, List.getElem_drop]
    unfold byS
    have h3 : a + i < s.data.size := by have : s.data.size = s.size := rfl; omega
    rw [Array.getElem?_eq_getElem h3]
    simp
theorem rd_back {s : ByteArray} {a k : Nat} (h : rdL s a k = []) : wideB k = true ∧ a + k ≤ s.size ∧ rdA s a k = a + k ∧ rdN s a k = (leN (byS s) a k : Nat) := by
  obtain ⟨h1, h2, h3, h4, h5⟩ := rd_good h
  refine ⟨h1, by omega, by rw [h3]; omega, ?_⟩
  unfold rdL at h
  unfold rdN
  rw [if_neg (by rw [h1]; simp), if_neg (by omega)] at h ⊢
  rw [Int.toNat_natCast] at h ⊢
  split at h
  · cases h
  · rename_i h6; rw [if_neg h6]
theorem fit_back {s : ByteArray} {a k : Nat} (h : rdL s a k = []) : fitB (rdN s a k) k = true := by
  obtain ⟨h1, h2, h3, h4⟩ := rd_back h
  unfold fitB
  rw [h1, h4]
  have := leN_lt (byS s) a k (byS_lt s)
  simp only [Bool.true_and, decide_eq_true_eq]
  refine ⟨by omega, .inr ?_⟩
  rw [Int.toNat_natCast]
  have e2 : ((2 : Int) ^ (8 * k)) = ((2 ^ (8 * k) : Nat) : Int) := by simp
  rw [pow256 k] at this
  rw [e2]
  exact Int.ofNat_lt.2 this
theorem decFrom_nil {t : ByteArray} : ∀ n j, decFrom t n j = [] → (∀ i, j ≤ i → i < j + n → decE t i = []) ∧ decTail t = [] := by
  intro n
  induction n with
  | zero => intro j h; exact ⟨fun i h1 h2 => by omega, h⟩
  | succ n ih =>
    intro j h
    by_cases he : decE t j = []
    · rw [decFrom_ok he] at h
      obtain ⟨h1, h2⟩ := ih (j + 1) h
      refine ⟨fun i a b => ?_, h2⟩
      by_cases e : i = j
      · rw [e, he]
      · exact h1 i (by omega) (by omega)
    · rw [decFrom_bad he] at h
      cases h
theorem enc_back {t : ByteArray} (h : ∀ i, i < 7 → decE t i = []) : ∀ j, j ≤ 7 → (decM t).enc j = t.data.toList.take (decA t j) ∧ decA t j ≤ t.size := by
  intro j
  induction j with
  | zero => intro _; exact ⟨by simp [Msg.enc, decA], Nat.zero_le _⟩
  | succ j ih =>
    intro hj
    obtain ⟨i1, i2⟩ := ih (by omega)
    have he := h j (by omega)
    obtain ⟨hk0, hk1⟩ := wid_bd j
    obtain ⟨k, hk⟩ : ∃ k : Nat, wid j = (k : Int) := ⟨(wid j).toNat, by omega⟩
    unfold decE at he
    rw [hk] at he
    obtain ⟨b1, b2, b3, b4⟩ := rd_back he
    simp only [Msg.enc, decA]
    rw [hk, b3]
    refine ⟨?_, b2⟩
    have e1 : (decM t).x j = rdN t (decA t j) k := by show decN t j = _; unfold decN; rw [hk]
    unfold numB
    rw [e1, if_pos (fit_back he), i1, b4, Int.toNat_natCast, Int.toNat_natCast, leB_leN t _ k b2, List.take_add]
theorem seal_back {s : ByteArray} (h : okB s = true) : sealB (bodyB s) = s := by
  have h4 : ¬ s.size < 4 := by
    intro h4
    unfold okB at h
    rw [if_pos h4] at h
    cases h
  have e := ok_seal s (s.size - 4) (by omega)
  rw [h, eqB_iff] at e
  unfold bodyB
  rw [if_pos h, e]
/-- What decodes is what encodes. -/
theorem sealed_dec {s : ByteArray} (h : decL s = []) : (decR s).chk = 0 ∧ (decR s).sealed = s := by
  have hr : decR s = decM (bodyB s) := by unfold decR; rw [if_pos h]
  rw [hr]
  unfold decL at h
  cases hk : okB s
  · rw [hk] at h; simp at h
  rw [hk, if_neg (by simp)] at h
  have hs := seal_back hk
  generalize bodyB s = t at *
  obtain ⟨h1, h2⟩ := decFrom_nil 7 0 h
  have hE : ∀ i, i < 7 → decE t i = [] := fun i hi => h1 i (by omega) (by omega)
  obtain ⟨i1, i2⟩ := enc_back hE 7 (by omega)
  unfold decTail at h2
  by_cases r1 : rtL t (decA t 7) = []
  · by_cases r2 : endL t (rtA t (decA t 7)) = []
    · by_cases r3 : (decM t).chk = 0
      · refine ⟨r3, ?_⟩
        obtain ⟨c1, c2⟩ := chk_zero r3
        unfold Msg.sealed
        rw [if_pos r3, ← hs]
        congr 1
        unfold Msg.bytes textB
        rw [if_pos c2, i1]
        have ed : (decM t).d = rtS t (decA t 7) := rfl
        rw [ed]
        generalize decA t 7 = a at *
        have l2 : rdL t a 2 = [] := by
          unfold rtL at r1
          by_cases q : rdL t a 2 = []
          · exact q
          · rw [if_pos q] at r1
            simp at r1
            exact absurd r1 q
        obtain ⟨b1, b2, b3, b4⟩ := rd_back (k := 2) l2
        have hend : ¬ rtA t a < t.size := by
          intro q
          unfold endL at r2
          rw [if_pos q] at r2
          cases r2
        have eA : rtA t a = a + 2 + (rdN t a 2).toNat := by unfold rtA; rw [if_pos r1]
        have b4' : rdN t a 2 = (leN (byS t) a 2 : Nat) := b4
        have hle : a + 2 + (rdN t a 2).toNat ≤ t.size := by rw [← eA]; exact rtA_le i2
        have eS : rtS t a = t.extract (a + 2) (a + 2 + (rdN t a 2).toNat) := by unfold rtS; rw [if_pos r1]
        rw [eS, b4', Int.toNat_natCast]
        rw [b4', Int.toNat_natCast] at hle eA
        have hsz : (t.extract (a + 2) (a + 2 + leN (byS t) a 2)).size = leN (byS t) a 2 := by
          rw [ByteArray.size_extract]; omega
        rw [hsz, leB_leN t a 2 (by omega), ← List.take_add]
        have e3 : (t.extract (a + 2) (a + 2 + leN (byS t) a 2)).data.toList = (t.data.toList.drop (a + 2)).take (leN (byS t) a 2) := by
          rw [ByteArray.data_extract, Array.toList_extract]
          simp [List.extract, List.drop_take]
        rw [e3, ← List.take_add, List.take_of_length_le (by show t.data.size ≤ _; have : t.data.size = t.size := rfl; omega), txt_toList]
      · rw [if_neg (by simp [r1]), if_neg (by simp [r2]), if_pos r3] at h2
        cases h2
    · rw [if_neg (by simp [r1]), if_pos r2] at h2
      cases h2
  · rw [if_pos r1] at h2
    cases h2
end Go.Proofs.YtphcoenooinmfaaDoor
