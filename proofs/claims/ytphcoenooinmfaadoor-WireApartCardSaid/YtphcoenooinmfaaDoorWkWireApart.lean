/- The walk of the law WireApart: two messages have the same bytes only if they are the same; bytes with one byte more are decoded as the document says; premises: the table of steps and errors' own type lie as laid. (Written by wip/tools/genWireApart.py.) -/
import Derived.Test.YtphcoenooinmfaaDoorProg
import Derived.Test.YtphcoenooinmfaaDoorWireLaw2
import Derived.Test.YtphcoenooinmfaaDoorChB
namespace Go.Proofs.YtphcoenooinmfaaDoor
open Go.RowKit
set_option linter.unusedVariables false
set_option linter.unusedSimpArgs false
attribute [local go_sem ↓] Go.wp_at_zero Go.wp_at_succ

theorem toList_none : (⟨#[]⟩ : ByteArray).toList = [] := by
  first
    | rfl
    | decide
    | decide +kernel
    | (unfold ByteArray.toList; unfold ByteArray.toList.loop; rfl)
theorem errL_head {m : Msg} : m.errL.headD 0 = m.chk := by
  unfold Msg.errL
  split
  · rename_i h; exact h.symm
  · rfl
theorem errL_len (m : Msg) : m.errL.length ≤ 1000 := by unfold Msg.errL; split <;> simp
set_option maxRecDepth 100000 in
set_option maxHeartbeats 2000000 in
theorem wireApart_walk (W : World) (t0 : Steps W) (t1 : ErrT W) (s0 : Array Value) (c0 : CellsOk W [.int .i64, .int .i64, .int .i64, .int .i64, .int .i64, .int .i64, .int .i64, .str] s0.toList)
    (s1 : Array Value) (c1 : CellsOk W [.int .i64, .int .i64, .int .i64, .int .i64, .int .i64, .int .i64, .int .i64, .str] s1.toList)
    (a2 : Int) (w2 : (Lit.int .u8 a2).wf = true) :
    Calls Tryd.prog 8 #[.agg s0, .agg s1, .int .u8 a2] W fun e w' => e = .returned (.bool true) ∧ Below W.heap.size W w' := by
  obtain ⟨m, rfl, hb, -⟩ := msg_inv c0
  obtain ⟨m', rfl, hb', -⟩ := msg_inv c1
  obtain ⟨b20, b21⟩ := bd_u8 w2
  clear c0 c1 w2
  obtain ⟨x, d⟩ := m
  obtain ⟨y, e⟩ := m'
  unfold Msg.arr
  simp only at hb hb' ⊢
  obtain ⟨w0', hw0'⟩ : ∃ w0', w0' = W.alloc (.cells #[.int .i64 (x 0), .int .i64 (x 1), .int .i64 (x 2), .int .i64 (x 3), .int .i64 (x 4), .int .i64 (x 5), .int .i64 (x 6), .string d] 62) := ⟨_, rfl⟩
  obtain ⟨w0, hw0⟩ : ∃ w0, w0 = w0'.alloc (.cells #[.int .i64 (y 0), .int .i64 (y 1), .int .i64 (y 2), .int .i64 (y 3), .int .i64 (y 4), .int .i64 (y 5), .int .i64 (y 6), .string e] 62) := ⟨_, rfl⟩
  have m0' : Mod [] W w0' := by rw [hw0']; exact (Mod.refl _ _).alloc _
  have m00 : Mod [] w0' w0 := by rw [hw0]; exact (Mod.refl _ _).alloc _
  have m0 : Mod [] W w0 := m0'.trans m00
  have hz0 : w0'.heap.size = W.heap.size + 1 := by rw [hw0']; simp
  have A0 : Arr w0 W.heap.size 62 8 (msgF x d) := by
    have : Arr w0' W.heap.size 62 8 (msgF x d) := by rw [hw0']; exact msg_new W x d
    exact this.mod m00 (by simp)
  have B0 : Arr w0 (W.heap.size + 1) 62 8 (msgF y e) := by rw [← hz0, hw0]; exact msg_new w0' y e
  rw [hw0'] at hw0
  have HZ := Lib.hid hw0
  have M0 := Lib.hid m0
  have HAB := Lib.hid (And.intro A0 B0)
  have q0 := A0.cell 0 (by omega)
  have q1 := A0.cell 1 (by omega)
  have q2 := A0.cell 2 (by omega)
  have q3 := A0.cell 3 (by omega)
  have q4 := A0.cell 4 (by omega)
  have q5 := A0.cell 5 (by omega)
  have q6 := A0.cell 6 (by omega)
  have q7 := A0.cell 7 (by omega)
  have p0 := B0.cell 0 (by omega)
  have p1 := B0.cell 1 (by omega)
  have p2 := B0.cell 2 (by omega)
  have p3 := B0.cell 3 (by omega)
  have p4 := B0.cell 4 (by omega)
  have p5 := B0.cell 5 (by omega)
  have p6 := B0.cell 6 (by omega)
  have p7 := B0.cell 7 (by omega)
  unfold msgF at q0 q1 q2 q3 q4 q5 q6 q7 p0 p1 p2 p3 p4 p5 p6 p7
  simp only [if_true, if_false, Nat.reduceEqDiff] at q0 q1 q2 q3 q4 q5 q6 q7 p0 p1 p2 p3 p4 p5 p6 p7
  rw [hw0] at q0 q1 q2 q3 q4 q5 q6 q7 p0 p1 p2 p3 p4 p5 p6 p7
  by_cases hbig : 2048 < d.size
  · have hi : (2048 : Int) < (d.size : Int) := by omega
    clear hw0 m0 A0 B0 hw0' m0' m00
    go_enter Tryd.func8, Tryd.ntmps8
    go_wp2
    go_ret
    exact ⟨rfl, by rw [← HZ.out]; exact M0.out.below (Nat.le_refl _) (by simp)⟩
  have hi : ¬ (2048 : Int) < (d.size : Int) := by omega
  by_cases hbig' : 2048 < e.size
  · have hi' : (2048 : Int) < (e.size : Int) := by omega
    clear hw0 m0 A0 B0 hw0' m0' m00
    go_enter Tryd.func8, Tryd.ntmps8
    go_wp2
    go_ret
    exact ⟨rfl, by rw [← HZ.out]; exact M0.out.below (Nat.le_refl _) (by simp)⟩
  have hi' : ¬ (2048 : Int) < (e.size : Int) := by omega
  have hB : Msg.Bd ⟨x, d⟩ := ⟨hb, by show d.size ≤ _; omega⟩
  have hB' : Msg.Bd ⟨y, e⟩ := ⟨hb', by show e.size ≤ _; omega⟩
  have HB := Lib.hid (And.intro hB hB')
  have T0 := Lib.hid (And.intro t0 t1)
  have P1 := Lib.hid (encode_calls w0 x d hB (t0.mod m0 (by simp)))
  unfold EncPost at P1
  obtain ⟨S, hS⟩ : ∃ S, S = Msg.sealed ⟨x, d⟩ := ⟨_, rfl⟩
  obtain ⟨S', hS'⟩ : ∃ S', S' = Msg.sealed ⟨y, e⟩ := ⟨_, rfl⟩
  obtain ⟨l, hl⟩ : ∃ l, l = Msg.errL ⟨x, d⟩ := ⟨_, rfl⟩
  obtain ⟨l', hl'⟩ : ∃ l', l' = Msg.errL ⟨y, e⟩ := ⟨_, rfl⟩
  obtain ⟨c, hc⟩ : ∃ c, c = Msg.chk ⟨x, d⟩ := ⟨_, rfl⟩
  obtain ⟨c', hc'⟩ : ∃ c', c' = Msg.chk ⟨y, e⟩ := ⟨_, rfl⟩
  have HS := Lib.hid (And.intro hS hS')
  have HC := Lib.hid (And.intro hc hc')
  have hl9 : l.length ≤ 1000 := by rw [hl]; exact errL_len _
  have hl9' : l'.length ≤ 1000 := by rw [hl']; exact errL_len _
  have hlc : l.headD 0 = c := by rw [hl, hc]; exact errL_head
  have hlc' : l'.headD 0 = c' := by rw [hl', hc']; exact errL_head
  have HLC := Lib.hid (And.intro hlc hlc')
  rw [← hS, ← hl] at P1
  clear hw0 hb hb' hbig hbig' hB hB' hS hS' hl hl' hc hc' hw0' m0' m00 m0 A0 B0 hz0 t0 t1 hlc hlc'
  go_enter Tryd.func8, Tryd.ntmps8
  go_wp2_with fail
  rw [← HZ.out]
  (with_reducible refine P1.out.mono ?_)
  rintro r w1 ⟨v1, E1, rfl, hE1, m1⟩
  have AB1 := Lib.hid (And.intro (HAB.out.1.mod m1 (by simp)) (HAB.out.2.mod m1 (by simp)))
  have M1 := Lib.hid (M0.out.trans m1)
  have X1 := Lib.hid hE1
  have P2 := Lib.hid (encode_calls w1 y e HB.out.2 (T0.out.1.mod M1.out (by simp)))
  unfold EncPost at P2
  rw [← HS.out.2] at P2
  obtain ⟨l', hl'⟩ : ∃ l', l' = Msg.errL ⟨y, e⟩ := ⟨_, rfl⟩
  rw [← hl'] at P2
  have hl9' : l'.length ≤ 1000 := by rw [hl']; exact errL_len _
  have hlc' : l'.headD 0 = c' := by rw [hl', HC.out.2]; exact errL_head
  have HLC' := Lib.hid hlc'
  clear m1 hE1 HAB q0 q1 q2 q3 q4 q5 q6 q7 p0 p1 p2 p3 p4 p5 p6 p7 hl' hlc'
  have p0 := AB1.out.2.cell 0 (by omega)
  have p1 := AB1.out.2.cell 1 (by omega)
  have p2 := AB1.out.2.cell 2 (by omega)
  have p3 := AB1.out.2.cell 3 (by omega)
  have p4 := AB1.out.2.cell 4 (by omega)
  have p5 := AB1.out.2.cell 5 (by omega)
  have p6 := AB1.out.2.cell 6 (by omega)
  have p7 := AB1.out.2.cell 7 (by omega)
  unfold msgF at p0 p1 p2 p3 p4 p5 p6 p7
  simp only [if_true, if_false, Nat.reduceEqDiff] at p0 p1 p2 p3 p4 p5 p6 p7
  go_wp2_with fail
  (with_reducible refine P2.out.mono ?_)
  rintro r w2 ⟨v2, E2, rfl, hE2, m2⟩
  have AB2 := Lib.hid (And.intro (AB1.out.1.mod m2 (by simp)) (AB1.out.2.mod m2 (by simp)))
  have M2 := Lib.hid (M1.out.trans m2)
  have X2 := Lib.hid (X1.out.mod0 m2)
  have Y2 := Lib.hid hE2
  have P3 := Lib.hid (rencode_calls w2 x d HB.out.1)
  unfold REncPost at P3
  rw [← HS.out.1, ← HC.out.1] at P3
  clear m2 hE2 AB1 X1 p0 p1 p2 p3 p4 p5 p6 p7
  have q0 := AB2.out.1.cell 0 (by omega)
  have q1 := AB2.out.1.cell 1 (by omega)
  have q2 := AB2.out.1.cell 2 (by omega)
  have q3 := AB2.out.1.cell 3 (by omega)
  have q4 := AB2.out.1.cell 4 (by omega)
  have q5 := AB2.out.1.cell 5 (by omega)
  have q6 := AB2.out.1.cell 6 (by omega)
  have q7 := AB2.out.1.cell 7 (by omega)
  unfold msgF at q0 q1 q2 q3 q4 q5 q6 q7
  simp only [if_true, if_false, Nat.reduceEqDiff] at q0 q1 q2 q3 q4 q5 q6 q7
  go_wp2_with fail
  (with_reducible refine P3.out.mono ?_)
  rintro r w3 ⟨rfl, m3⟩
  have AB3 := Lib.hid (And.intro (AB2.out.1.mod m3 (by simp)) (AB2.out.2.mod m3 (by simp)))
  have M3 := Lib.hid (M2.out.trans m3)
  have X3 := Lib.hid (X2.out.mod0 m3)
  have Y3 := Lib.hid (Y2.out.mod0 m3)
  have P4 := Lib.hid (code_calls w3 v1 l E1 X3.out (T0.out.2.mod M3.out (by simp)) hl9)
  rw [HLC.out.1] at P4
  clear m3 AB2 X2 Y2 q0 q1 q2 q3 q4 q5 q6 q7
  go_wp2_with fail
  refine P4.out.mono ?_
  rintro r w4 ⟨rfl, m4⟩
  have AB4 := Lib.hid (And.intro (AB3.out.1.mod m4 (by simp)) (AB3.out.2.mod m4 (by simp)))
  have M4 := Lib.hid (M3.out.trans m4)
  have X4 := Lib.hid (X3.out.mod0 m4)
  have Y4 := Lib.hid (Y3.out.mod0 m4)
  have P5 := Lib.hid (code_calls w4 v1 l E1 X4.out (T0.out.2.mod M4.out (by simp)) hl9)
  rw [HLC.out.1] at P5
  clear m4 AB3 X3 Y3
  go_wp2_with fail
  refine P5.out.mono ?_
  rintro r w5 ⟨rfl, m5⟩
  have AB5 := Lib.hid (And.intro (AB4.out.1.mod m5 (by simp)) (AB4.out.2.mod m5 (by simp)))
  have M5 := Lib.hid (M4.out.trans m5)
  have X5 := Lib.hid (X4.out.mod0 m5)
  have Y5 := Lib.hid (Y4.out.mod0 m5)
  clear m5 AB4 X4 Y4
  by_cases hc0 : c = 0
  rotate_left
  · have hcb : (c == 0) = false := by simpa using hc0
    have hcn : (c != 0) = true := by simpa using hc0
    have eS : S = ⟨#[]⟩ := by rw [HS.out.1]; exact sealed_bad (by rw [← HC.out.1]; exact hc0)
    subst eS
    clear hc0
    go_wp2
    go_ret
    exact ⟨rfl, M5.out.below (Nat.le_refl _) (by simp)⟩
  have P6 := Lib.hid (code_calls w5 v2 l' E2 Y5.out (T0.out.2.mod M5.out (by simp)) hl9')
  rw [HLC'.out] at P6
  have h0 : Msg.chk ⟨x, d⟩ = 0 := by rw [← HC.out.1]; exact hc0
  subst hc0
  go_wp2_with fail
  refine P6.out.mono ?_
  rintro r w6 ⟨rfl, m6⟩
  have AB6 := Lib.hid (And.intro (AB5.out.1.mod m6 (by simp)) (AB5.out.2.mod m6 (by simp)))
  have M6 := Lib.hid (M5.out.trans m6)
  clear m6 AB5 X5 Y5
  by_cases hc0 : c' = 0
  rotate_left
  · have hcb : (c' == 0) = false := by simpa using hc0
    have hcn : (c' != 0) = true := by simpa using hc0
    have eS : S' = ⟨#[]⟩ := by rw [HS.out.2]; exact sealed_bad (by rw [← HC.out.2]; exact hc0)
    subst eS
    have hSn : S ≠ ⟨#[]⟩ := by
      intro h
      have := (sealed_size h0).1
      rw [← HS.out.1, h] at this
      simp [ByteArray.size] at this
    have hSl : ¬ S.toList = [] := fun h => hSn ((eqB_iff S ⟨#[]⟩).1 (by unfold eqB; rw [h, toList_none]; rfl))
    clear hc0
    go_wp2
    go_ret
    exact ⟨rfl, M6.out.below (Nat.le_refl _) (by simp)⟩
  have h0' : Msg.chk ⟨y, e⟩ = 0 := by rw [← HC.out.2]; exact hc0
  subst hc0
  have hsz := sealed_size h0
  rw [← HS.out.1] at hsz
  obtain ⟨sz1, sz2⟩ := hsz
  have cv := fun w : World => conv1 (w.alloc (.cells #[.int .u8 a2] 5)) w.heap.size a2 b20 b21 (by simp)
  obtain ⟨u, hu⟩ : ∃ u : ByteArray, u = ⟨#[UInt8.ofNat a2.toNat]⟩ := ⟨_, rfl⟩
  rw [← hu] at cv
  have hus : u.size = 1 := by rw [hu]; rfl
  obtain ⟨T, hT⟩ : ∃ T, T = S ++ u := ⟨_, rfl⟩
  have hT9 : T.size ≤ 100000 := by rw [hT, ByteArray.size_append]; omega
  obtain ⟨R, hR⟩ : ∃ R, R = decR T := ⟨_, rfl⟩
  obtain ⟨lt, hlt⟩ : ∃ lt, lt = decL T := ⟨_, rfl⟩
  have hlt9 : lt.length ≤ 1000 := by rw [hlt]; exact decL_len _
  obtain ⟨w7, hw7⟩ : ∃ w7, w7 = w6.alloc (.cells #[.int .u8 a2] 5) := ⟨_, rfl⟩
  have m7 : Mod [] w6 w7 := by rw [hw7]; exact (Mod.refl _ _).alloc _
  have P7 := Lib.hid (rdecode_calls w7 T hT9)
  have P8 := fun w (h : Steps w) (h' : ErrT w) => Lib.hid (decode_calls w T hT9 h h')
  unfold RDecPost at P7
  unfold DecPost at P8
  rw [← hR, ← hlt] at P7
  simp only [← hR, ← hlt] at P8
  obtain ⟨z, f⟩ := R
  unfold Msg.arr at P7 P8
  simp only at P7 P8
  have HW7 := Lib.hid hw7
  have HT := Lib.hid hT
  have AB7 := Lib.hid (And.intro (AB6.out.1.mod m7 (by simp)) (AB6.out.2.mod m7 (by simp)))
  have M7 := Lib.hid (M6.out.trans m7)
  have cv6 := cv w6
  have HCV := Lib.hid cv
  have HSZ := Lib.hid (And.intro h0 h0')
  clear hu hT hR hlt hw7 m7 AB6 cv h0 h0'
  go_wp2_with fail
  rw [← HW7.out, ← HT.out]
  (with_reducible refine P7.out.mono ?_)
  rintro r w8 ⟨vl, rfl, hO8, m8⟩
  obtain ⟨A8, c8, rfl, _⟩ := (own_slA hO8).ex
  obtain ⟨w9, hw9⟩ : ∃ w9, w9 = w8.alloc (.cells #[.int .i64 (z 0), .int .i64 (z 1), .int .i64 (z 2), .int .i64 (z 3), .int .i64 (z 4), .int .i64 (z 5), .int .i64 (z 6), .string f] 62) := ⟨_, rfl⟩
  have m9 : Mod [] w8 w9 := by rw [hw9]; exact (Mod.refl _ _).alloc _
  have C9 : Arr w9 w8.heap.size 62 8 (msgF z f) := by rw [hw9]; exact msg_new w8 z f
  have O9 := own_mod hO8 m9 (by simp)
  obtain ⟨b13, hb13⟩ : ∃ b13, b13 = w8.heap.size := ⟨_, rfl⟩
  rw [← hb13] at C9
  obtain ⟨w10, hw10⟩ : ∃ w10, w10 = w9.alloc (.cells #[.int .u8 a2] 5) := ⟨_, rfl⟩
  have m10 : Mod [] w9 w10 := by rw [hw10]; exact (Mod.refl _ _).alloc _
  have cv9 := HCV.out w9
  rw [← hw10] at cv9
  have AB10 := Lib.hid (And.intro ((AB7.out.1.mod (m8.trans m9) (by simp)).mod m10 (by simp)) ((AB7.out.2.mod (m8.trans m9) (by simp)).mod m10 (by simp)))
  have M10 := Lib.hid (M7.out.trans ((m8.trans m9).trans m10))
  have C10 := Lib.hid (C9.mod m10 (by simp))
  have O10 := Lib.hid (own_mod O9 m10 (by simp))
  have P8' := P8 w10 (T0.out.1.mod M10.out (by simp)) (T0.out.2.mod M10.out (by simp))
  have HW10 := Lib.hid hw10
  have HW9 := Lib.hid hw9
  have HB13 := Lib.hid hb13
  have hz9 : w9.heap.size = w8.heap.size + 1 := by rw [hw9]; simp
  rw [hz9, hw10, hw9] at cv9
  clear hz9 hO8 m8 hw9 m9 C9 O9 hb13 hw10 m10 AB7 M7 P8 cv6 P7
  go_wp2_with fail
  rw [← HW9.out, ← HW10.out, ← HB13.out, ← HT.out]
  (with_reducible refine P8'.out.mono ?_)
  rintro r w11 ⟨v11, E11, rfl, hE11, m11⟩
  obtain ⟨w12, hw12⟩ : ∃ w12, w12 = w11.alloc (.cells #[.int .i64 (z 0), .int .i64 (z 1), .int .i64 (z 2), .int .i64 (z 3), .int .i64 (z 4), .int .i64 (z 5), .int .i64 (z 6), .string f] 62) := ⟨_, rfl⟩
  have m12 : Mod [] w11 w12 := by rw [hw12]; exact (Mod.refl _ _).alloc _
  have D12 : Arr w12 w11.heap.size 62 8 (msgF z f) := by rw [hw12]; exact msg_new w11 z f
  have HW12 := Lib.hid hw12
  have AB12 := Lib.hid (And.intro (AB10.out.1.mod (m11.trans m12) (by simp)) (AB10.out.2.mod (m11.trans m12) (by simp)))
  have M12 := Lib.hid (M10.out.trans (m11.trans m12))
  have C12 := Lib.hid (C10.out.mod (m11.trans m12) (by simp))
  have O12 := Lib.hid (own_mod O10.out (m11.trans m12) (by simp))
  have X12 := Lib.hid (hE11.mod0 m12)
  have HD12 := Lib.hid D12
  have P9 := Lib.hid (chain_calls w12 v11 lt E11 X12.out (T0.out.2.mod M12.out (by simp)) hlt9)
  clear hE11 m11 hw12 m12 D12 AB10 M10 C10 O10 cv9 P8'
  have q0 := C12.out.cell 0 (by omega)
  have q1 := C12.out.cell 1 (by omega)
  have q2 := C12.out.cell 2 (by omega)
  have q3 := C12.out.cell 3 (by omega)
  have q4 := C12.out.cell 4 (by omega)
  have q5 := C12.out.cell 5 (by omega)
  have q6 := C12.out.cell 6 (by omega)
  have q7 := C12.out.cell 7 (by omega)
  have p0 := HD12.out.cell 0 (by omega)
  have p1 := HD12.out.cell 1 (by omega)
  have p2 := HD12.out.cell 2 (by omega)
  have p3 := HD12.out.cell 3 (by omega)
  have p4 := HD12.out.cell 4 (by omega)
  have p5 := HD12.out.cell 5 (by omega)
  have p6 := HD12.out.cell 6 (by omega)
  have p7 := HD12.out.cell 7 (by omega)
  unfold msgF at q0 q1 q2 q3 q4 q5 q6 q7 p0 p1 p2 p3 p4 p5 p6 p7
  simp only [if_true, if_false, Nat.reduceEqDiff] at q0 q1 q2 q3 q4 q5 q6 q7 p0 p1 p2 p3 p4 p5 p6 p7
  rw [HW12.out] at q0 q1 q2 q3 q4 q5 q6 q7 p0 p1 p2 p3 p4 p5 p6 p7
  by_cases hSS : S = S'
  · have ea : (Msg.arr ⟨x, d⟩) = (Msg.arr ⟨y, e⟩) := sealed_inj HSZ.out.1 HSZ.out.2 (by rw [← HS.out.1, ← HS.out.2, hSS])
    obtain ⟨ex, ed⟩ := arr_inv ea
    have B12 : Arr w12 (W.heap.size + 1) 62 8 (msgF x d) := AB12.out.2.congr fun i hi => by
      unfold msgF
      by_cases h7 : i = 7
      · rw [if_pos h7, if_pos h7]; exact congrArg _ ed.symm
      · rw [if_neg h7, if_neg h7]; exact congrArg _ (ex i (by omega)).symm
    have HSE := Lib.hid hSS
    subst hSS
    have h0 := AB12.out.1.cell 0 (by omega)
    have h1 := AB12.out.1.cell 1 (by omega)
    have h2 := AB12.out.1.cell 2 (by omega)
    have h3 := AB12.out.1.cell 3 (by omega)
    have h4 := AB12.out.1.cell 4 (by omega)
    have h5 := AB12.out.1.cell 5 (by omega)
    have h6 := AB12.out.1.cell 6 (by omega)
    have h7 := AB12.out.1.cell 7 (by omega)
    have k0 := B12.cell 0 (by omega)
    have k1 := B12.cell 1 (by omega)
    have k2 := B12.cell 2 (by omega)
    have k3 := B12.cell 3 (by omega)
    have k4 := B12.cell 4 (by omega)
    have k5 := B12.cell 5 (by omega)
    have k6 := B12.cell 6 (by omega)
    have k7 := B12.cell 7 (by omega)
    unfold msgF at h0 h1 h2 h3 h4 h5 h6 h7 k0 k1 k2 k3 k4 k5 k6 k7
    simp only [if_true, if_false, Nat.reduceEqDiff] at h0 h1 h2 h3 h4 h5 h6 h7 k0 k1 k2 k3 k4 k5 k6 k7
    rw [HW12.out] at h0 h1 h2 h3 h4 h5 h6 h7 k0 k1 k2 k3 k4 k5 k6 k7
    clear ex ed ea B12
    go_wp2_with fail
    rw [← HW12.out]
    (with_reducible refine P9.out.mono ?_)
    rintro r w13 ⟨vl13, rfl, hO13, m13⟩
    obtain ⟨A13, c13, rfl, _⟩ := (own_slA hO13).ex
    have M13 := Lib.hid (M12.out.trans m13)
    have O13 := Lib.hid (own_mod O12.out m13 (by simp))
    have P10 := Lib.hid (same_calls w13 _ _ lt _ _ hO13 O13.out hlt9)
    clear hO13 m13
    go_wp2_with fail
    refine P10.out.mono ?_
    rintro r w14 ⟨rfl, m14⟩
    have M14 := Lib.hid (M13.out.trans m14)
    clear m14
    go_wp2
    go_ret
    exact ⟨rfl, M14.out.below (Nat.le_refl _) (by simp)⟩
  · have hne : ¬ ((∀ j, j < 7 → x j = y j) ∧ d = e) := fun h => hSS (by rw [HS.out.1, HS.out.2]; exact sealed_congr (arr_congr h.1 h.2))
    have h0 := AB12.out.1.cell 0 (by omega)
    have h1 := AB12.out.1.cell 1 (by omega)
    have h2 := AB12.out.1.cell 2 (by omega)
    have h3 := AB12.out.1.cell 3 (by omega)
    have h4 := AB12.out.1.cell 4 (by omega)
    have h5 := AB12.out.1.cell 5 (by omega)
    have h6 := AB12.out.1.cell 6 (by omega)
    have h7 := AB12.out.1.cell 7 (by omega)
    have k0 := AB12.out.2.cell 0 (by omega)
    have k1 := AB12.out.2.cell 1 (by omega)
    have k2 := AB12.out.2.cell 2 (by omega)
    have k3 := AB12.out.2.cell 3 (by omega)
    have k4 := AB12.out.2.cell 4 (by omega)
    have k5 := AB12.out.2.cell 5 (by omega)
    have k6 := AB12.out.2.cell 6 (by omega)
    have k7 := AB12.out.2.cell 7 (by omega)
    unfold msgF at h0 h1 h2 h3 h4 h5 h6 h7 k0 k1 k2 k3 k4 k5 k6 k7
    simp only [if_true, if_false, Nat.reduceEqDiff] at h0 h1 h2 h3 h4 h5 h6 h7 k0 k1 k2 k3 k4 k5 k6 k7
    rw [HW12.out] at h0 h1 h2 h3 h4 h5 h6 h7 k0 k1 k2 k3 k4 k5 k6 k7
    have hSl : ¬ S.toList = S'.toList := fun h => hSS ((eqB_iff S S').1 (by unfold eqB; rw [h]; simp))
    have hd : (¬ x 0 = y 0) ∨ (x 0 = y 0 ∧ ¬ x 1 = y 1) ∨ (x 0 = y 0 ∧ x 1 = y 1 ∧ ¬ x 2 = y 2) ∨ (x 0 = y 0 ∧ x 1 = y 1 ∧ x 2 = y 2 ∧ ¬ x 3 = y 3) ∨ (x 0 = y 0 ∧ x 1 = y 1 ∧ x 2 = y 2 ∧ x 3 = y 3 ∧ ¬ x 4 = y 4) ∨ (x 0 = y 0 ∧ x 1 = y 1 ∧ x 2 = y 2 ∧ x 3 = y 3 ∧ x 4 = y 4 ∧ ¬ x 5 = y 5) ∨ (x 0 = y 0 ∧ x 1 = y 1 ∧ x 2 = y 2 ∧ x 3 = y 3 ∧ x 4 = y 4 ∧ x 5 = y 5 ∧ ¬ x 6 = y 6) ∨ (x 0 = y 0 ∧ x 1 = y 1 ∧ x 2 = y 2 ∧ x 3 = y 3 ∧ x 4 = y 4 ∧ x 5 = y 5 ∧ x 6 = y 6 ∧ ¬ d.toList = e.toList) := by
      refine Classical.byContradiction fun h => hne ?_
      simp only [not_or, not_and, Classical.not_not] at h
      obtain ⟨h0, h1, h2, h3, h4, h5, h6, h7⟩ := h
      have g0 := h0; have g1 := h1 g0; have g2 := h2 g0 g1; have g3 := h3 g0 g1 g2; have g4 := h4 g0 g1 g2 g3; have g5 := h5 g0 g1 g2 g3 g4; have g6 := h6 g0 g1 g2 g3 g4 g5; have g7 := h7 g0 g1 g2 g3 g4 g5 g6
      refine ⟨fun j hj => ?_, (eqB_iff d e).1 (by unfold eqB; rw [g7]; simp)⟩
      match j, hj with
      | 0, _ => exact g0
      | 1, _ => exact g1
      | 2, _ => exact g2
      | 3, _ => exact g3
      | 4, _ => exact g4
      | 5, _ => exact g5
      | 6, _ => exact g6
    have HSB : Hid ((S.toList == S'.toList) = false) := Lib.hid (by simpa using hSl)
    clear hne hSS
    rcases hd with j0 | ⟨e0, j1⟩ | ⟨e0, e1, j2⟩ | ⟨e0, e1, e2, j3⟩ | ⟨e0, e1, e2, e3, j4⟩ | ⟨e0, e1, e2, e3, e4, j5⟩ | ⟨e0, e1, e2, e3, e4, e5, j6⟩ | ⟨e0, e1, e2, e3, e4, e5, e6, j7⟩
    all_goals
      go_wp2_with fail
      rw [← HW12.out]
      (with_reducible refine P9.out.mono ?_)
      rintro r w13 ⟨vl13, rfl, hO13, m13⟩
      obtain ⟨A13, c13, rfl, _⟩ := (own_slA hO13).ex
      have M13 := Lib.hid (M12.out.trans m13)
      have O13 := Lib.hid (own_mod O12.out m13 (by simp))
      have P10 := Lib.hid (same_calls w13 _ _ lt _ _ hO13 O13.out hlt9)
      clear hO13 m13
      go_wp2_with fail
      refine P10.out.mono ?_
      rintro r w14 ⟨rfl, m14⟩
      have M14 := Lib.hid (M13.out.trans m14)
      clear m14
      go_wp2
      go_ret
      exact ⟨by first | rfl | (show Ending.returned (Value.bool (!(S.toList == S'.toList))) = _; rw [HSB.out]; rfl), M14.out.below (Nat.le_refl _) (by simp)⟩
end Go.Proofs.YtphcoenooinmfaaDoor

