/- The walk of the law WireEncodes: a message is encoded, or refused, as the document says; premises: the table of steps and errors' own type lie as laid. (Written by wip/tools/genWireEnc.py.) -/
import Derived.Test.YtphcoenooinmfaaDoorProg
import Derived.Test.YtphcoenooinmfaaDoorWireLaw
namespace Go.Proofs.YtphcoenooinmfaaDoor
open Go.RowKit
set_option linter.unusedVariables false
set_option linter.unusedSimpArgs false
attribute [local go_sem ↓] Go.wp_at_zero Go.wp_at_succ

def msgF (x : Nat → Int) (d : ByteArray) (i : Nat) : Value := if i = 7 then .string d else .int .i64 (x i)
theorem msg_new (w : World) (x : Nat → Int) (d : ByteArray) : Arr (w.alloc (.cells #[.int .i64 (x 0), .int .i64 (x 1), .int .i64 (x 2), .int .i64 (x 3), .int .i64 (x 4), .int .i64 (x 5), .int .i64 (x 6), .string d] 62)) w.heap.size 62 8 (msgF x d) :=
  Arr.new' w _ _ 8 _ rfl (fun i hi => by
    match i, hi with
    | 0, _ | 1, _ | 2, _ | 3, _ | 4, _ | 5, _ | 6, _ | 7, _ => rfl)
set_option maxRecDepth 100000 in
set_option maxHeartbeats 2000000 in
theorem wireEncodes_walk (W : World) (t0 : Steps W) (t1 : ErrT W) (s0 : Array Value) (c0 : CellsOk W [.int .i64, .int .i64, .int .i64, .int .i64, .int .i64, .int .i64, .int .i64, .str] s0.toList) :
    Calls Tryd.prog 6 #[.agg s0] W fun e w' => e = .returned (.bool true) ∧ Below W.heap.size W w' := by
  obtain ⟨m, rfl, hb, -⟩ := msg_inv c0
  clear c0
  obtain ⟨x, d⟩ := m
  unfold Msg.arr
  simp only at hb ⊢
  obtain ⟨w0, hw0⟩ : ∃ w0, w0 = W.alloc (.cells #[.int .i64 (x 0), .int .i64 (x 1), .int .i64 (x 2), .int .i64 (x 3), .int .i64 (x 4), .int .i64 (x 5), .int .i64 (x 6), .string d] 62) := ⟨_, rfl⟩
  have m0 : Mod [] W w0 := by rw [hw0]; exact (Mod.refl _ _).alloc _
  have A0 : Arr w0 W.heap.size 62 8 (msgF x d) := by rw [hw0]; exact msg_new W x d
  have HZ := Lib.hid hw0
  have M0 := Lib.hid m0
  have HA0 := Lib.hid A0
  by_cases hbig : 4096 < d.size
  · have hi : (4096 : Int) < (d.size : Int) := by omega
    clear hw0 m0 A0
    go_enter Tryd.func6, Tryd.ntmps6
    go_wp2
    go_ret
    exact ⟨rfl, by rw [← HZ.out]; exact M0.out.below (Nat.le_refl _) (by simp)⟩
  have hi : ¬ (4096 : Int) < (d.size : Int) := by omega
  have hB : Msg.Bd ⟨x, d⟩ := ⟨hb, by show d.size ≤ _; omega⟩
  have HB := Lib.hid hB
  have T0 := Lib.hid (t0.mod m0 (by simp))
  have E0 := Lib.hid (t1.mod m0 (by simp))
  have P1 := Lib.hid (encode_calls w0 x d hB T0.out)
  unfold EncPost at P1
  obtain ⟨S, hS⟩ : ∃ S, S = Msg.sealed ⟨x, d⟩ := ⟨_, rfl⟩
  obtain ⟨l, hl⟩ : ∃ l, l = Msg.errL ⟨x, d⟩ := ⟨_, rfl⟩
  obtain ⟨c, hc⟩ : ∃ c, c = Msg.chk ⟨x, d⟩ := ⟨_, rfl⟩
  have HS := Lib.hid hS
  have HL := Lib.hid hl
  have HC := Lib.hid hc
  have hl9 : l.length ≤ 1000 := by rw [hl]; unfold Msg.errL; split <;> simp
  have hlc : l.headD 0 = c := by
    rw [hl, hc]
    unfold Msg.errL
    split
    · rename_i h; exact h.symm
    · rfl
  rw [← hS, ← hl] at P1
  clear hw0 hb t0 t1 hbig hB hS hl hc
  have m00 := m0.size
  have hzl := A0.lt
  have q0 := A0.cell 0 (by omega)
  have q1 := A0.cell 1 (by omega)
  have q2 := A0.cell 2 (by omega)
  have q3 := A0.cell 3 (by omega)
  have q4 := A0.cell 4 (by omega)
  have q5 := A0.cell 5 (by omega)
  have q6 := A0.cell 6 (by omega)
  have q7 := A0.cell 7 (by omega)
  clear A0 m0
  go_enter Tryd.func6, Tryd.ntmps6
  unfold msgF at q0 q1 q2 q3 q4 q5 q6 q7
  simp only [if_true, if_false, Nat.reduceEqDiff] at q0 q1 q2 q3 q4 q5 q6 q7
  go_wp2_with fail
  rw [← HZ.out]
  (with_reducible refine P1.out.mono ?_)
  rintro r w1 ⟨v, E, rfl, hE1, m1⟩
  have A1 := Lib.hid (HA0.out.mod m1 (by simp))
  have M1 := Lib.hid (M0.out.trans m1)
  have T1 := Lib.hid (And.intro (T0.out.mod m1 (by simp)) (E0.out.mod m1 (by simp)))
  have X1 := Lib.hid hE1
  have P2 := Lib.hid (rencode_calls w1 x d HB.out)
  unfold REncPost at P2
  rw [← HS.out, ← HC.out] at P2
  clear m1 hE1 T0 E0 HA0 q0 q1 q2 q3 q4 q5 q6 q7
  have q0 := A1.out.cell 0 (by omega)
  have q1 := A1.out.cell 1 (by omega)
  have q2 := A1.out.cell 2 (by omega)
  have q3 := A1.out.cell 3 (by omega)
  have q4 := A1.out.cell 4 (by omega)
  have q5 := A1.out.cell 5 (by omega)
  have q6 := A1.out.cell 6 (by omega)
  have q7 := A1.out.cell 7 (by omega)
  unfold msgF at q0 q1 q2 q3 q4 q5 q6 q7
  simp only [if_true, if_false, Nat.reduceEqDiff] at q0 q1 q2 q3 q4 q5 q6 q7
  go_wp2_with fail
  (with_reducible refine P2.out.mono ?_)
  rintro r w2 ⟨rfl, m2⟩
  have A2 := Lib.hid (A1.out.mod m2 (by simp))
  have M2 := Lib.hid (M1.out.trans m2)
  have T2 := Lib.hid (And.intro (T1.out.1.mod m2 (by simp)) (T1.out.2.mod m2 (by simp)))
  have X2 := Lib.hid (X1.out.mod0 m2)
  have P3 := Lib.hid (code_calls w2 v l E X2.out T2.out.2 hl9)
  rw [hlc] at P3
  clear m2 A1 M1 T1 X1 q0 q1 q2 q3 q4 q5 q6 q7
  go_wp2_with fail
  refine P3.out.mono ?_
  rintro r w3 ⟨rfl, m3⟩
  have A3 := Lib.hid (A2.out.mod m3 (by simp))
  have M3 := Lib.hid (M2.out.trans m3)
  have T3 := Lib.hid (And.intro (T2.out.1.mod m3 (by simp)) (T2.out.2.mod m3 (by simp)))
  have X3 := Lib.hid (X2.out.mod0 m3)
  have P4 := Lib.hid (wcheck_calls w3 ⟨x, d⟩)
  unfold Msg.arr at P4
  rw [← HC.out] at P4
  simp only at P4
  clear m3 A2 M2 T2 X2
  have q0 := A3.out.cell 0 (by omega)
  have q1 := A3.out.cell 1 (by omega)
  have q2 := A3.out.cell 2 (by omega)
  have q3 := A3.out.cell 3 (by omega)
  have q4 := A3.out.cell 4 (by omega)
  have q5 := A3.out.cell 5 (by omega)
  have q6 := A3.out.cell 6 (by omega)
  have q7 := A3.out.cell 7 (by omega)
  unfold msgF at q0 q1 q2 q3 q4 q5 q6 q7
  simp only [if_true, if_false, Nat.reduceEqDiff] at q0 q1 q2 q3 q4 q5 q6 q7
  go_wp2_with fail
  refine P4.out.mono ?_
  rintro r w4 ⟨rfl, m4⟩
  have A4 := Lib.hid (A3.out.mod m4 (by simp))
  have M4 := Lib.hid (M3.out.trans m4)
  have T4 := Lib.hid (And.intro (T3.out.1.mod m4 (by simp)) (T3.out.2.mod m4 (by simp)))
  have X4 := Lib.hid (X3.out.mod0 m4)
  clear m4 A3 M3 T3 X3 q0 q1 q2 q3 q4 q5 q6 q7
  by_cases hc0 : c = 0
  · have h0 := HC.out
    rw [hc0] at h0
    have eL : l = [] := by rw [HL.out, errL_ok h0.symm]
    obtain ⟨d1, d2⟩ := dec_sealed h0.symm
    obtain ⟨z1, z2⟩ := sealed_size h0.symm
    rw [← HS.out] at d1 d2 z1 z2
    unfold Msg.arr at d2
    have P5 := Lib.hid (decode_calls w4 S (by omega) T4.out.1 T4.out.2)
    unfold DecPost at P5
    unfold Msg.arr at P5
    rw [d1, d2] at P5
    simp only at P5
    have i4 : (4 : Int) < (S.size : Int) := by omega
    subst hc0
    clear h0 eL d1 d2 z1 z2
    go_wp2_with fail
    (with_reducible refine P5.out.mono ?_)
    rintro r w5 ⟨v5, E5, rfl, hE5, m5⟩
    obtain ⟨w6, hw6⟩ : ∃ w6, w6 = w5.alloc (.cells #[.int .i64 (x 0), .int .i64 (x 1), .int .i64 (x 2), .int .i64 (x 3), .int .i64 (x 4), .int .i64 (x 5), .int .i64 (x 6), .string d] 62) := ⟨_, rfl⟩
    have m6 : Mod [] w5 w6 := by rw [hw6]; exact (Mod.refl _ _).alloc _
    have B6 : Arr w6 w5.heap.size 62 8 (msgF x d) := by rw [hw6]; exact msg_new w5 x d
    have A6 := Lib.hid ((A4.out.mod m5 (by simp)).mod m6 (by simp))
    have M6 := Lib.hid ((M4.out.trans m5).trans m6)
    have T6 := Lib.hid ((T4.out.2.mod m5 (by simp)).mod m6 (by simp))
    have X6 := Lib.hid (hE5.mod0 m6)
    have P6 := Lib.hid (code_calls w6 v5 [] E5 X6.out T6.out (by simp))
    have HB6 := Lib.hid B6
    have HW6 := Lib.hid hw6
    simp only [List.headD_nil] at P6
    clear hE5 m5 hw6 m6 B6 A4 M4 T4 X4
    go_wp2_with fail
    rw [← HW6.out]
    refine P6.out.mono ?_
    rintro r w7 ⟨rfl, m7⟩
    have A7 := A6.out.mod m7 (by simp)
    have B7 := HB6.out.mod m7 (by simp)
    have M7 := Lib.hid (M6.out.trans m7)
    clear m7
    have q0 := A7.cell 0 (by omega)
    have q1 := A7.cell 1 (by omega)
    have q2 := A7.cell 2 (by omega)
    have q3 := A7.cell 3 (by omega)
    have q4 := A7.cell 4 (by omega)
    have q5 := A7.cell 5 (by omega)
    have q6 := A7.cell 6 (by omega)
    have q7 := A7.cell 7 (by omega)
    have y0 := B7.cell 0 (by omega)
    have y1 := B7.cell 1 (by omega)
    have y2 := B7.cell 2 (by omega)
    have y3 := B7.cell 3 (by omega)
    have y4 := B7.cell 4 (by omega)
    have y5 := B7.cell 5 (by omega)
    have y6 := B7.cell 6 (by omega)
    have y7 := B7.cell 7 (by omega)
    unfold msgF at q0 q1 q2 q3 q4 q5 q6 q7 y0 y1 y2 y3 y4 y5 y6 y7
    simp only [if_true, if_false, Nat.reduceEqDiff] at q0 q1 q2 q3 q4 q5 q6 q7 y0 y1 y2 y3 y4 y5 y6 y7
    clear A7 B7
    go_wp2
    go_ret
    exact ⟨rfl, M7.out.below (Nat.le_refl _) (by simp)⟩
  · have hc1 : (c == 0) = false := by simpa using hc0
    have eL : l = [c] := by rw [HL.out, errL_bad (by rw [← HC.out]; exact hc0), ← HC.out]
    rw [eL] at X4
    have P5 := Lib.hid (chain_calls w4 v [c] E X4.out T4.out.2 (by simp))
    simp only [List.length_singleton] at P5
    clear eL hc0
    go_wp2_with fail
    (with_reducible refine P5.out.mono ?_)
    rintro r w5 ⟨vl, rfl, ho5, m5⟩
    obtain ⟨Al, capl, rfl, _⟩ := (own_slA ho5).ex
    have M5 := Lib.hid (M4.out.trans m5)
    clear ho5 m5
    go_wp2
    go_ret
    exact ⟨rfl, M5.out.below (Nat.le_refl _) (by simp)⟩
end Go.Proofs.YtphcoenooinmfaaDoor

