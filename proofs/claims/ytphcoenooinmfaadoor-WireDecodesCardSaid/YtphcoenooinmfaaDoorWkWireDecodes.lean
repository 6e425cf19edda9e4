/- The walk of the law WireDecodes: bytes are decoded as the document says, and what decodes encodes to the same bytes; premises: the table of steps and errors' own type lie as laid. (Written by wip/tools/genWireDec.py.) -/
import Derived.Test.YtphcoenooinmfaaDoorProg
import Derived.Test.YtphcoenooinmfaaDoorWireLaw2
namespace Go.Proofs.YtphcoenooinmfaaDoor
open Go.RowKit
set_option linter.unusedVariables false
set_option linter.unusedSimpArgs false
attribute [local go_sem ↓] Go.wp_at_zero Go.wp_at_succ

set_option maxRecDepth 100000 in
set_option maxHeartbeats 2000000 in
theorem wireDecodes_walk (W : World) (t0 : Steps W) (t1 : ErrT W) (a0 : ByteArray) (w0 : a0.size ≤ 140737488351232) :
    Calls Tryd.prog 7 #[.string a0] W fun e w' => e = .returned (.bool true) ∧ Below W.heap.size W w' := by
  by_cases hbig : 4096 < a0.size
  · have hi : (4096 : Int) < (a0.size : Int) := by omega
    go_enter Tryd.func7, Tryd.ntmps7
    go_wp2
    go_ret
    exact ⟨rfl, Below.refl _ _⟩
  have hi : ¬ (4096 : Int) < (a0.size : Int) := by omega
  have hs : a0.size ≤ 100000 := by omega
  clear w0 hbig
  have P1 := Lib.hid (decode_calls W a0 hs t0 t1)
  have P2 := fun w => Lib.hid (rdecode_calls w a0 hs)
  obtain ⟨R, hR⟩ : ∃ R, R = decR a0 := ⟨_, rfl⟩
  obtain ⟨l, hl⟩ : ∃ l, l = decL a0 := ⟨_, rfl⟩
  have hBd : R.Bd := by rw [hR]; exact decR_bd a0
  have hl9 : l.length ≤ 1000 := by rw [hl]; exact decL_len a0
  have hOk : l = [] → R.chk = 0 ∧ R.sealed = a0 := fun h => by rw [hR]; exact sealed_dec (by rw [← hl]; exact h)
  have HOK := Lib.hid hOk
  unfold DecPost at P1
  unfold RDecPost at P2
  rw [← hR, ← hl] at P1
  simp only [← hR, ← hl] at P2
  obtain ⟨x, d⟩ := R
  unfold Msg.arr at P1 P2
  simp only at P1 P2
  have HB := Lib.hid hBd
  have T0 := Lib.hid (And.intro t0 t1)
  clear hR hl hBd hOk t0 t1
  go_enter Tryd.func7, Tryd.ntmps7
  go_wp2_with fail
  (with_reducible refine P1.out.mono ?_)
  rintro r w1 ⟨v1, E1, rfl, hE1, m1⟩
  obtain ⟨w2, hw2⟩ : ∃ w2, w2 = w1.alloc (.cells #[.int .i64 (x 0), .int .i64 (x 1), .int .i64 (x 2), .int .i64 (x 3), .int .i64 (x 4), .int .i64 (x 5), .int .i64 (x 6), .string d] 62) := ⟨_, rfl⟩
  have m2 : Mod [] w1 w2 := by rw [hw2]; exact (Mod.refl _ _).alloc _
  have B2 : Arr w2 w1.heap.size 62 8 (msgF x d) := by rw [hw2]; exact msg_new w1 x d
  have HB2 := Lib.hid B2
  have M2 := Lib.hid (m1.trans m2)
  have X2 := Lib.hid (hE1.mod0 m2)
  have HW2 := Lib.hid hw2
  have P2' := P2 w2
  have hb2 := B2.lt
  obtain ⟨b3, hb3⟩ : ∃ b3, b3 = w1.heap.size := ⟨_, rfl⟩
  have hz1 := m1.size
  rw [← hb3] at HB2 hb2 hz1
  have HB3 := Lib.hid hb3
  clear hE1 m1 m2 B2 hw2 P2 hb3
  go_wp2_with fail
  rw [← HW2.out, ← HB3.out]
  (with_reducible refine P2'.out.mono ?_)
  rintro r w3 ⟨vl, rfl, hO3, m3⟩
  obtain ⟨A3, c3, rfl, _⟩ := (own_slA hO3).ex
  obtain ⟨w4, hw4⟩ : ∃ w4, w4 = w3.alloc (.cells #[.int .i64 (x 0), .int .i64 (x 1), .int .i64 (x 2), .int .i64 (x 3), .int .i64 (x 4), .int .i64 (x 5), .int .i64 (x 6), .string d] 62) := ⟨_, rfl⟩
  have m4 : Mod [] w3 w4 := by rw [hw4]; exact (Mod.refl _ _).alloc _
  have B4 : Arr w4 w3.heap.size 62 8 (msgF x d) := by rw [hw4]; exact msg_new w3 x d
  have HB4 := Lib.hid B4
  have HB2' := Lib.hid (HB2.out.mod (m3.trans m4) (by simp))
  have M4 := Lib.hid (M2.out.trans (m3.trans m4))
  have X4 := Lib.hid (X2.out.mod0 (m3.trans m4))
  have O4 := Lib.hid (own_mod hO3 m4 (by simp))
  have HW4 := Lib.hid hw4
  have P3 := Lib.hid (decode_calls w4 ⟨#[]⟩ (by simp [ByteArray.size]) (T0.out.1.mod M4.out (by simp)) (T0.out.2.mod M4.out (by simp)))
  unfold DecPost at P3
  rw [dec_none, decR_none] at P3
  unfold Msg.arr Msg.zero at P3
  simp only at P3
  obtain ⟨b5, hb5⟩ : ∃ b5, b5 = w3.heap.size := ⟨_, rfl⟩
  rw [← hb5] at HB4
  have HB5 := Lib.hid hb5
  clear hO3 m3 m4 B4 hw4 hb5 HB2 M2 X2
  go_wp2_with fail
  rw [← HW4.out, ← HB5.out]
  (with_reducible refine P3.out.mono ?_)
  rintro r w5 ⟨v5, E5, rfl, hE5, m5⟩
  obtain ⟨w6, hw6⟩ : ∃ w6, w6 = w5.alloc (.cells #[.int .i64 0, .int .i64 0, .int .i64 0, .int .i64 0, .int .i64 0, .int .i64 0, .int .i64 0, .string ⟨#[]⟩] 62) := ⟨_, rfl⟩
  have m6 : Mod [] w5 w6 := by rw [hw6]; exact (Mod.refl _ _).alloc _
  have HB2 := Lib.hid (HB2'.out.mod (m5.trans m6) (by simp))
  have HB6 := Lib.hid (HB4.out.mod (m5.trans m6) (by simp))
  have M6 := Lib.hid (M4.out.trans (m5.trans m6))
  have X6 := Lib.hid (X4.out.mod0 (m5.trans m6))
  have Y6 := Lib.hid (hE5.mod0 m6)
  have O6 := Lib.hid (own_mod O4.out (m5.trans m6) (by simp))
  have P4 := Lib.hid (chain_calls w6 v1 l E1 X6.out (T0.out.2.mod M6.out (by simp)) hl9)
  have HW6 := Lib.hid hw6
  clear hE5 m5 m6 hw6 HB2' HB4 M4 X4 O4
  have q0 := HB2.out.cell 0 (by omega)
  have q1 := HB2.out.cell 1 (by omega)
  have q2 := HB2.out.cell 2 (by omega)
  have q3 := HB2.out.cell 3 (by omega)
  have q4 := HB2.out.cell 4 (by omega)
  have q5 := HB2.out.cell 5 (by omega)
  have q6 := HB2.out.cell 6 (by omega)
  have q7 := HB2.out.cell 7 (by omega)
  have y0 := HB6.out.cell 0 (by omega)
  have y1 := HB6.out.cell 1 (by omega)
  have y2 := HB6.out.cell 2 (by omega)
  have y3 := HB6.out.cell 3 (by omega)
  have y4 := HB6.out.cell 4 (by omega)
  have y5 := HB6.out.cell 5 (by omega)
  have y6 := HB6.out.cell 6 (by omega)
  have y7 := HB6.out.cell 7 (by omega)
  unfold msgF at q0 q1 q2 q3 q4 q5 q6 q7 y0 y1 y2 y3 y4 y5 y6 y7
  simp only [if_true, if_false, Nat.reduceEqDiff] at q0 q1 q2 q3 q4 q5 q6 q7 y0 y1 y2 y3 y4 y5 y6 y7
  rw [HW6.out] at q0 q1 q2 q3 q4 q5 q6 q7 y0 y1 y2 y3 y4 y5 y6 y7
  go_wp2_with fail
  rw [← HW6.out]
  (with_reducible refine P4.out.mono ?_)
  rintro r w7 ⟨vl7, rfl, hO7, m7⟩
  obtain ⟨A7, c7, rfl, _⟩ := (own_slA hO7).ex
  have HB7 := Lib.hid (HB2.out.mod m7 (by simp))
  have M7 := Lib.hid (M6.out.trans m7)
  have Y7 := Lib.hid (Y6.out.mod0 m7)
  have X7 := Lib.hid (X6.out.mod0 m7)
  have O7 := Lib.hid (own_mod O6.out m7 (by simp))
  have P5 := Lib.hid (same_calls w7 _ _ l _ _ hO7 O7.out hl9)
  clear hO7 m7 HB2 HB6 M6 Y6 X6 O6 q0 q1 q2 q3 q4 q5 q6 q7 y0 y1 y2 y3 y4 y5 y6 y7
  go_wp2_with fail
  refine P5.out.mono ?_
  rintro r w8 ⟨rfl, m8⟩
  have HB8 := Lib.hid (HB7.out.mod m8 (by simp))
  have M8 := Lib.hid (M7.out.trans m8)
  have P6 := Lib.hid (code_calls w8 v5 [20] E5 (Y7.out.mod0 m8) (T0.out.2.mod M8.out (by simp)) (by simp))
  simp only [List.headD_cons] at P6
  clear m8 HB7 M7 Y7 X7 O7
  go_wp2_with fail
  refine P6.out.mono ?_
  rintro r w9 ⟨rfl, m9⟩
  have HB9 := Lib.hid (HB8.out.mod m9 (by simp))
  have M9 := Lib.hid (M8.out.trans m9)
  have P7 := Lib.hid (encode_calls w9 x d HB.out (T0.out.1.mod M9.out (by simp)))
  unfold EncPost at P7
  clear m9 HB8 M8
  have q0 := HB9.out.cell 0 (by omega)
  have q1 := HB9.out.cell 1 (by omega)
  have q2 := HB9.out.cell 2 (by omega)
  have q3 := HB9.out.cell 3 (by omega)
  have q4 := HB9.out.cell 4 (by omega)
  have q5 := HB9.out.cell 5 (by omega)
  have q6 := HB9.out.cell 6 (by omega)
  have q7 := HB9.out.cell 7 (by omega)
  unfold msgF at q0 q1 q2 q3 q4 q5 q6 q7
  simp only [if_true, if_false, Nat.reduceEqDiff] at q0 q1 q2 q3 q4 q5 q6 q7
  by_cases hl : l = []
  · obtain ⟨k1, k2⟩ := HOK.out hl
    rw [errL_ok k1, k2] at P7
    subst hl
    clear k1 k2
    go_wp2_with fail
    (with_reducible refine P7.out.mono ?_)
    rintro r w10 ⟨v10, E10, rfl, hE10, m10⟩
    have M10 := Lib.hid (M9.out.trans m10)
    have P8 := Lib.hid (code_calls w10 v10 [] E10 hE10 (T0.out.2.mod M10.out (by simp)) (by simp))
    simp only [List.headD_nil] at P8
    clear hE10 m10 M9
    go_wp2_with fail
    refine P8.out.mono ?_
    rintro r w11 ⟨rfl, m11⟩
    have M11 := Lib.hid (M10.out.trans m11)
    clear m11
    go_wp2
    go_ret
    exact ⟨rfl, M11.out.below (Nat.le_refl _) (by simp)⟩
  · have hn : 0 < l.length := List.length_pos_iff.2 hl
    have hn' : (0 : Int) < (l.length : Int) := by omega
    have HLN := Lib.hid hl
    obtain ⟨S, hS⟩ : ∃ S, S = Msg.sealed ⟨x, d⟩ := ⟨_, rfl⟩
    rw [← hS] at P7
    clear hS
    go_wp2_with fail
    (with_reducible refine P7.out.mono ?_)
    rintro r w10 ⟨v10, E10, rfl, -, m10⟩
    have M10 := Lib.hid (M9.out.trans m10)
    clear m10 M9
    go_wp2
    go_ret
    exact ⟨rfl, M10.out.below (Nat.le_refl _) (by simp)⟩
end Go.Proofs.YtphcoenooinmfaaDoor

