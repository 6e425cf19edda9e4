/- The walk of the law FieldJoined: fields that two writers wrote, one behind the other, are read as one writer's. Premise: the library's variable of the type error is as laid. (Written by wip/tools/genJoined.py.) -/
import Derived.Test.YthcbhdadbohkjaaDoorPair
namespace Go.Proofs.YthcbhdadbohkjaaDoor
open Go.RowKit
set_option linter.unusedVariables false
set_option linter.unusedSimpArgs false
attribute [local go_sem ↓] Go.wp_at_zero Go.wp_at_succ
theorem rd_at' {S : ByteArray} {L pre rest : List UInt8} {p : Nat} (n k : Nat) (hS : S = txt L) (hL : L = pre ++ leB n k ++ rest) (hp : p = pre.length) (hw : wideB k = true) (hn : n < 256 ^ k) (h63 : n < 9223372036854775808) :
    rdN S p k = n ∧ rdL S p k = [] ∧ rdA S p k = p + k := by
  subst hS
  subst hL
  subst hp
  obtain ⟨h1, h2, h3⟩ := rd_at pre rest n k hw hn h63
  exact ⟨h2, h1, h3⟩
theorem rt_at' {S : ByteArray} {L pre rest : List UInt8} {p : Nat} (s : ByteArray) (hS : S = txt L) (hL : L = pre ++ leB s.size 2 ++ s.data.toList ++ rest) (hp : p = pre.length) (hs : s.size ≤ 1024) :
    rtS S p = s ∧ rtL S p = [] ∧ rtA S p = p + 2 + s.size := by
  subst hS
  subst hL
  subst hp
  obtain ⟨h1, h2, h3⟩ := rt_at pre rest s hs
  exact ⟨h2, h1, h3⟩
theorem len_s (s : ByteArray) : s.data.toList.length = s.size := rfl
set_option maxRecDepth 100000 in
set_option maxHeartbeats 4000000 in
theorem fieldJoined_walk (W : World) (t0 : ErrT W) (a0 : Int) (w0 : (Lit.int .i64 a0).wf = true)
    (a1 : Int) (w1 : (Lit.int .i64 a1).wf = true)
    (a2 : ByteArray) (w2 : a2.size ≤ 140737488351232)
    (a3 : ByteArray) (w3 : a3.size ≤ 140737488351232) :
    Calls Tryd.prog 13 #[.int .i64 a0, .int .i64 a1, .string a2, .string a3] W fun e w' => e = .returned (.bool true) ∧ Below W.heap.size W w' := by
  obtain ⟨b0, b1⟩ := bd_i64 w0
  obtain ⟨b2, b3⟩ := bd_i64 w1
  have N0 := Lib.hid (Nw.refl t0)
  clear w0 w1 t0
  by_cases hs2 : 1024 < a2.size
  · have i1 : decide ((1024 : Int) < (a2.size : Int)) = true := by simp; omega
    go_enter Tryd.func13, Tryd.ntmps13
    go_wp2
    go_ret
    exact ⟨rfl, N0.out.bel⟩
  have i1 : decide ((1024 : Int) < (a2.size : Int)) = false := by simp; omega
  by_cases hs3 : 1024 < a3.size
  · have i2 : decide ((1024 : Int) < (a3.size : Int)) = true := by simp; omega
    go_enter Tryd.func13, Tryd.ntmps13
    go_wp2
    go_ret
    exact ⟨rfl, N0.out.bel⟩
  have i2 : decide ((1024 : Int) < (a3.size : Int)) = false := by simp; omega
  have hT2 := Lib.hid (text_yes (show a2.size ≤ 1024 by omega))
  have hT3 := Lib.hid (text_yes (show a3.size ≤ 1024 by omega))

  by_cases ha : 0 ≤ a0
  · obtain ⟨n, rfl⟩ : ∃ n : Nat, a0 = (n : Int) := ⟨a0.toNat, by omega⟩
    have HA := Lib.hid (fit_yes (show fitB (n : Int) 8 = true by simp [fitB, wideB]))
    by_cases hb : 0 ≤ a1 ∧ a1 < 4294967296
    · obtain ⟨m, rfl⟩ : ∃ m : Nat, a1 = (m : Int) := ⟨a1.toNat, by omega⟩
      have HB := Lib.hid (fit_yes (show fitB (m : Int) 4 = true by simp [fitB, wideB]; omega))
      have q1 : decide (0 ≤ (n : Int)) = true := by simp
      have q2 : decide (0 ≤ (m : Int)) = true := by simp
      have q3 : decide ((m : Int) < 4294967296) = true := by simp; omega
      obtain ⟨L1, hL1⟩ : ∃ L1, L1 = (leB n 8) ++ leB a2.size 2 ++ a2.data.toList := ⟨_, rfl⟩
      obtain ⟨L2, hL2⟩ : ∃ L2, L2 = (leB m 4) ++ leB a3.size 2 ++ a3.data.toList := ⟨_, rfl⟩
      obtain ⟨S1, hS1⟩ : ∃ S1, S1 = txt L1 := ⟨_, rfl⟩
      obtain ⟨S2, hS2⟩ : ∃ S2, S2 = txt L2 := ⟨_, rfl⟩
      obtain ⟨S, hS⟩ : ∃ S, S = S1 ++ S2 := ⟨_, rfl⟩
      have hSL : S = txt (L1 ++ L2) := by rw [hS, hS1, hS2, txt_append]
      have z1 : S1.size = 8 + 2 + a2.size := by rw [hS1, txt_size, hL1, List.length_append, List.length_append, len_s, leB_length, leB_length]
      have z2 : S2.size = 4 + 2 + a3.size := by rw [hS2, txt_size, hL2, List.length_append, List.length_append, len_s, leB_length, leB_length]
      have zS : S.size = S1.size + S2.size := by rw [hS, ByteArray.size_append]
      have zb : S.size ≤ 1000000 := by omega
      have R1 := Lib.hid (rd_at' (S := S) (L := L1 ++ L2) (pre := []) (rest := leB a2.size 2 ++ a2.data.toList ++ L2) (p := 0) n 8 hSL (by rw [hL1]; simp [List.append_assoc]) rfl (by decide) (by simp; omega) (by omega))
      have R2 := Lib.hid (rt_at' (S := S) (L := L1 ++ L2) (pre := (leB n 8)) (rest := L2) (p := 8) a2 hSL (by rw [hL1]) (by simp [leB_length]) (by omega))
      have R3 := Lib.hid (rd_at' (S := S) (L := L1 ++ L2) (pre := L1) (rest := leB a3.size 2 ++ a3.data.toList) (p := 8 + 2 + a2.size) m 4 hSL (by rw [hL2]; simp [List.append_assoc]) (by rw [← z1, hS1, txt_size]) (by decide) (by simp; omega) (by omega))
      have R4 := Lib.hid (rt_at' (S := S) (L := L1 ++ L2) (pre := L1 ++ (leB m 4)) (rest := []) (p := 8 + 2 + a2.size + 4) a3 hSL (by rw [hL2]; simp [List.append_assoc]) (by rw [List.length_append, ← txt_size L1, ← hS1, z1]; simp [leB_length]) (by omega))
      have R5 := Lib.hid (show endL S (8 + 2 + a2.size + 4 + 2 + a3.size) = [] by unfold endL; rw [if_neg (by omega)])
      have HS := Lib.hid hS
      have HS1 := Lib.hid hS1
      have HS2 := Lib.hid hS2
      have HL1 := Lib.hid hL1
      have HL2 := Lib.hid hL2
      have HZ := Lib.hid (And.intro z1 (And.intro z2 zS))
      have zi1 : (S1.size : Int) ≤ 100000 := by omega
      have zi2 : (S2.size : Int) ≤ 100000 := by omega
      clear hS hS1 hS2 hL1 hL2 hSL z1 z2 zS
      go_enter Tryd.func13, Tryd.ntmps13
      go_wp2_with fail
      refine (newWriterN N0.out).mono ?_
      rintro e w1 ⟨c1, rfl, -, hW1, -, hN1⟩
      have X1 := Lib.hid (And.intro hN1 hW1)
      clear hW1 hN1
      go_wp2_with fail
      refine (newWriterN X1.out.1).mono ?_
      rintro e w2 ⟨c2, rfl, hc2, hW2, m2, hN2⟩
      have P := Lib.hid (show PairW W w2 c1 [] [c1] 82 c2 [] [c2] from ⟨hN2, X1.out.2.mod0 m2, hW2, fun x hx hy => by have := X1.out.2.h.lt c1 (by simp); simp at hx hy; omega⟩)
      clear hc2 hW2 m2 hN2
      go_wp2_with fail
      refine (wnumL (n : Int) 8 P.out (by omega) (by omega) (by omega) (by omega) (by simp)).mono ?_
      rintro e w3 ⟨v3, E3, F3, rfl, hE3, hP3⟩
      rw [HA.out.1] at hE3
      rw [HA.out.2] at hP3
      simp only [List.nil_append, Int.toNat_natCast, Int.reduceToNat] at hP3
      have E3 := Lib.hid hE3
      have P3 := Lib.hid hP3
      clear hE3 hP3
      go_wp2_with fail
      refine (codeW P3.out E3.out (by simp)).mono ?_
      rintro e w4 ⟨rfl, hP⟩
      have P3' := Lib.hid hP
      clear hP
      simp only [List.headD_cons, List.headD_nil]
      go_wp2_with fail
      refine (wtextL a2 P3'.out (by omega) (by simp [leB_length])).mono ?_
      rintro e w5 ⟨v5, E5, F5, rfl, hE5, hP5⟩
      rw [hT2.out.1] at hE5
      rw [hT2.out.2, ← HL1.out] at hP5
      have E5 := Lib.hid hE5
      have P5 := Lib.hid hP5
      clear hE5 hP5
      go_wp2_with fail
      refine (codeW P5.out E5.out (by simp)).mono ?_
      rintro e w6 ⟨rfl, hP⟩
      have P5' := Lib.hid hP
      clear hP
      simp only [List.headD_cons, List.headD_nil]
      go_wp2_with fail
      refine (wnumR (m : Int) 4 P5'.out (by omega) (by omega) (by omega) (by omega) (by simp)).mono ?_
      rintro e w7 ⟨v7, E7, F7, rfl, hE7, hP7⟩
      rw [HB.out.1] at hE7
      rw [HB.out.2] at hP7
      simp only [List.nil_append, Int.toNat_natCast, Int.reduceToNat] at hP7
      have E7 := Lib.hid hE7
      have P7 := Lib.hid hP7
      clear hE7 hP7
      go_wp2_with fail
      refine (codeW P7.out E7.out (by simp)).mono ?_
      rintro e w8 ⟨rfl, hP⟩
      have P7' := Lib.hid hP
      clear hP
      simp only [List.headD_cons, List.headD_nil]
      go_wp2_with fail
      refine (wtextR a3 P7'.out (by omega) (by simp [leB_length])).mono ?_
      rintro e w9 ⟨v9, E9, F9, rfl, hE9, hP9⟩
      rw [hT3.out.1] at hE9
      rw [hT3.out.2, ← HL2.out] at hP9
      have E9 := Lib.hid hE9
      have P9 := Lib.hid hP9
      clear hE9 hP9
      go_wp2_with fail
      refine (codeW P9.out E9.out (by simp)).mono ?_
      rintro e w10 ⟨rfl, hP⟩
      have P9' := Lib.hid hP
      clear hP
      simp only [List.headD_cons, List.headD_nil]
      go_wp2_with fail
      refine (wbytesT w10 c1 L1 F5 P9'.out.p.h S1 HS1.out).mono ?_
      rintro e w11 ⟨rfl, rfl⟩
      go_wp2_with fail
      refine (wbytesT w10 c2 L2 F9 P9'.out.q.h S2 HS2.out).mono ?_
      rintro e w11 ⟨rfl, rfl⟩
      go_wp2_with fail
      rw [← HS.out]
      refine (newReaderRW S P9'.out).mono ?_
      rintro e w12 ⟨br, rfl, hR⟩
      have Q0 := Lib.hid hR
      clear hR
      go_wp2_with fail
      refine (rnumRW 8 Q0.out zb (by omega) (by omega) n [] R1.out.1 R1.out.2.1 R1.out.2.2).mono ?_
      rintro e w13 ⟨v13, E13, rfl, hE13, hQ1⟩
      have Q1 := Lib.hid hQ1
      have E13 := Lib.hid hE13
      clear hQ1 hE13
      go_wp2_with fail
      refine (codeRW Q1.out E13.out (by simp)).mono ?_
      rintro e w14 ⟨rfl, hQ⟩
      have Q1' := Lib.hid hQ
      clear hQ
      simp only [List.headD_cons, List.headD_nil]
      go_wp2_with fail
      refine (rtextRW Q1'.out zb a2 [] R2.out.1 R2.out.2.1 R2.out.2.2).mono ?_
      rintro e w15 ⟨v15, E15, rfl, hE15, hQ2⟩
      have Q2 := Lib.hid hQ2
      have E15 := Lib.hid hE15
      clear hQ2 hE15
      go_wp2_with fail
      refine (codeRW Q2.out E15.out (by simp)).mono ?_
      rintro e w16 ⟨rfl, hQ⟩
      have Q2' := Lib.hid hQ
      clear hQ
      simp only [List.headD_cons, List.headD_nil]
      go_wp2_with fail
      refine (rnumRW 4 Q2'.out zb (by omega) (by omega) m [] R3.out.1 R3.out.2.1 R3.out.2.2).mono ?_
      rintro e w17 ⟨v17, E17, rfl, hE17, hQ3⟩
      have Q3 := Lib.hid hQ3
      have E17 := Lib.hid hE17
      clear hQ3 hE17
      go_wp2_with fail
      refine (codeRW Q3.out E17.out (by simp)).mono ?_
      rintro e w18 ⟨rfl, hQ⟩
      have Q3' := Lib.hid hQ
      clear hQ
      simp only [List.headD_cons, List.headD_nil]
      go_wp2_with fail
      refine (rtextRW Q3'.out zb a3 [] R4.out.1 R4.out.2.1 R4.out.2.2).mono ?_
      rintro e w19 ⟨v19, E19, rfl, hE19, hQ4⟩
      have Q4 := Lib.hid hQ4
      have E19 := Lib.hid hE19
      clear hQ4 hE19
      go_wp2_with fail
      refine (codeRW Q4.out E19.out (by simp)).mono ?_
      rintro e w20 ⟨rfl, hQ⟩
      have Q4' := Lib.hid hQ
      clear hQ
      simp only [List.headD_cons, List.headD_nil]
      go_wp2_with fail
      refine (rendRW Q4'.out zb [] R5.out).mono ?_
      rintro e w21 ⟨v21, E21, rfl, hE21, hQ5⟩
      have Q5 := Lib.hid hQ5
      have E21 := Lib.hid hE21
      clear hQ5 hE21
      go_wp2_with fail
      refine (codeRW Q5.out E21.out (by simp)).mono ?_
      rintro e w22 ⟨rfl, hQ⟩
      have Q5' := Lib.hid hQ
      clear hQ
      simp only [List.headD_cons, List.headD_nil]
      go_wp2_with fail
      refine (wnumL 1 3 Q5'.out.pw (by omega) (by omega) (by omega) (by omega) (by rw [← txt_size, ← HS1.out]; omega)).mono ?_
      rintro e w23 ⟨v23, E23, F23, rfl, hE23, hP23⟩
      rw [fit13] at hE23
      have E23 := Lib.hid hE23
      have P23 := Lib.hid hP23
      clear hE23 hP23
      go_wp2_with fail
      refine (codeW P23.out E23.out (by simp)).mono ?_
      rintro e w24 ⟨rfl, hP24⟩
      have P24 := Lib.hid hP24
      clear hP24
      simp only [List.headD_cons]
      go_wp2
      go_ret
      exact ⟨rfl, P24.out.n.bel⟩
    · have HB := Lib.hid (fit_no (show fitB a1 4 = false by simp [fitB, wideB]; omega))
      have q1 : decide (0 ≤ (n : Int)) = true := by simp
      have q23 : decide (0 ≤ a1) = false ∨ (decide (0 ≤ a1) = true ∧ decide (a1 < 4294967296) = false) := by by_cases h : 0 ≤ a1 <;> simp [h] <;> omega
      obtain ⟨L1, hL1⟩ : ∃ L1, L1 = (leB n 8) ++ leB a2.size 2 ++ a2.data.toList := ⟨_, rfl⟩
      obtain ⟨L2, hL2⟩ : ∃ L2, L2 = [] ++ leB a3.size 2 ++ a3.data.toList := ⟨_, rfl⟩
      obtain ⟨S1, hS1⟩ : ∃ S1, S1 = txt L1 := ⟨_, rfl⟩
      obtain ⟨S2, hS2⟩ : ∃ S2, S2 = txt L2 := ⟨_, rfl⟩
      obtain ⟨S, hS⟩ : ∃ S, S = S1 ++ S2 := ⟨_, rfl⟩
      have hSL : S = txt (L1 ++ L2) := by rw [hS, hS1, hS2, txt_append]
      have z1 : S1.size = 8 + 2 + a2.size := by rw [hS1, txt_size, hL1, List.length_append, List.length_append, len_s, leB_length, leB_length]
      have z2 : S2.size = 0 + 2 + a3.size := by rw [hS2, txt_size, hL2, List.length_append, List.length_append, len_s, leB_length]; rfl
      have zS : S.size = S1.size + S2.size := by rw [hS, ByteArray.size_append]
      have zb : S.size ≤ 1000000 := by omega
      have R1 := Lib.hid (rd_at' (S := S) (L := L1 ++ L2) (pre := []) (rest := leB a2.size 2 ++ a2.data.toList ++ L2) (p := 0) n 8 hSL (by rw [hL1]; simp [List.append_assoc]) rfl (by decide) (by simp; omega) (by omega))
      have R2 := Lib.hid (rt_at' (S := S) (L := L1 ++ L2) (pre := (leB n 8)) (rest := L2) (p := 8) a2 hSL (by rw [hL1]) (by simp [leB_length]) (by omega))
      have R4 := Lib.hid (rt_at' (S := S) (L := L1 ++ L2) (pre := L1 ++ []) (rest := []) (p := 8 + 2 + a2.size + 0) a3 hSL (by rw [hL2]; simp [List.append_assoc]) (by rw [List.length_append, ← txt_size L1, ← hS1, z1]; simp [leB_length]) (by omega))
      have R5 := Lib.hid (show endL S (8 + 2 + a2.size + 0 + 2 + a3.size) = [] by unfold endL; rw [if_neg (by omega)])
      have HS := Lib.hid hS
      have HS1 := Lib.hid hS1
      have HS2 := Lib.hid hS2
      have HL1 := Lib.hid hL1
      have HL2 := Lib.hid hL2
      have HZ := Lib.hid (And.intro z1 (And.intro z2 zS))
      have zi1 : (S1.size : Int) ≤ 100000 := by omega
      have zi2 : (S2.size : Int) ≤ 100000 := by omega
      clear hS hS1 hS2 hL1 hL2 hSL z1 z2 zS
      rcases q23 with q2 | ⟨q2, q3⟩
      · go_enter Tryd.func13, Tryd.ntmps13
        go_wp2_with fail
        refine (newWriterN N0.out).mono ?_
        rintro e w1 ⟨c1, rfl, -, hW1, -, hN1⟩
        have X1 := Lib.hid (And.intro hN1 hW1)
        clear hW1 hN1
        go_wp2_with fail
        refine (newWriterN X1.out.1).mono ?_
        rintro e w2 ⟨c2, rfl, hc2, hW2, m2, hN2⟩
        have P := Lib.hid (show PairW W w2 c1 [] [c1] 82 c2 [] [c2] from ⟨hN2, X1.out.2.mod0 m2, hW2, fun x hx hy => by have := X1.out.2.h.lt c1 (by simp); simp at hx hy; omega⟩)
        clear hc2 hW2 m2 hN2
        go_wp2_with fail
        refine (wnumL (n : Int) 8 P.out (by omega) (by omega) (by omega) (by omega) (by simp)).mono ?_
        rintro e w3 ⟨v3, E3, F3, rfl, hE3, hP3⟩
        rw [HA.out.1] at hE3
        rw [HA.out.2] at hP3
        simp only [List.nil_append, Int.toNat_natCast, Int.reduceToNat] at hP3
        have E3 := Lib.hid hE3
        have P3 := Lib.hid hP3
        clear hE3 hP3
        go_wp2_with fail
        refine (codeW P3.out E3.out (by simp)).mono ?_
        rintro e w4 ⟨rfl, hP⟩
        have P3' := Lib.hid hP
        clear hP
        simp only [List.headD_cons, List.headD_nil]
        go_wp2_with fail
        refine (wtextL a2 P3'.out (by omega) (by simp [leB_length])).mono ?_
        rintro e w5 ⟨v5, E5, F5, rfl, hE5, hP5⟩
        rw [hT2.out.1] at hE5
        rw [hT2.out.2, ← HL1.out] at hP5
        have E5 := Lib.hid hE5
        have P5 := Lib.hid hP5
        clear hE5 hP5
        go_wp2_with fail
        refine (codeW P5.out E5.out (by simp)).mono ?_
        rintro e w6 ⟨rfl, hP⟩
        have P5' := Lib.hid hP
        clear hP
        simp only [List.headD_cons, List.headD_nil]
        go_wp2_with fail
        refine (wnumR a1 4 P5'.out (by omega) (by omega) (by omega) (by omega) (by simp)).mono ?_
        rintro e w7 ⟨v7, E7, F7, rfl, hE7, hP7⟩
        rw [HB.out.1] at hE7
        rw [HB.out.2] at hP7
        have E7 := Lib.hid hE7
        have P7 := Lib.hid hP7
        clear hE7 hP7
        go_wp2_with fail
        refine (codeW P7.out E7.out (by simp)).mono ?_
        rintro e w8 ⟨rfl, hP⟩
        have P7' := Lib.hid hP
        clear hP
        simp only [List.headD_cons, List.headD_nil]
        go_wp2_with fail
        refine (wtextR a3 P7'.out (by omega) (by simp [leB_length])).mono ?_
        rintro e w9 ⟨v9, E9, F9, rfl, hE9, hP9⟩
        rw [hT3.out.1] at hE9
        rw [hT3.out.2, ← HL2.out] at hP9
        have E9 := Lib.hid hE9
        have P9 := Lib.hid hP9
        clear hE9 hP9
        go_wp2_with fail
        refine (codeW P9.out E9.out (by simp)).mono ?_
        rintro e w10 ⟨rfl, hP⟩
        have P9' := Lib.hid hP
        clear hP
        simp only [List.headD_cons, List.headD_nil]
        go_wp2_with fail
        refine (wbytesT w10 c1 L1 F5 P9'.out.p.h S1 HS1.out).mono ?_
        rintro e w11 ⟨rfl, rfl⟩
        go_wp2_with fail
        refine (wbytesT w10 c2 L2 F9 P9'.out.q.h S2 HS2.out).mono ?_
        rintro e w11 ⟨rfl, rfl⟩
        go_wp2_with fail
        rw [← HS.out]
        refine (newReaderRW S P9'.out).mono ?_
        rintro e w12 ⟨br, rfl, hR⟩
        have Q0 := Lib.hid hR
        clear hR
        go_wp2_with fail
        refine (rnumRW 8 Q0.out zb (by omega) (by omega) n [] R1.out.1 R1.out.2.1 R1.out.2.2).mono ?_
        rintro e w13 ⟨v13, E13, rfl, hE13, hQ1⟩
        have Q1 := Lib.hid hQ1
        have E13 := Lib.hid hE13
        clear hQ1 hE13
        go_wp2_with fail
        refine (codeRW Q1.out E13.out (by simp)).mono ?_
        rintro e w14 ⟨rfl, hQ⟩
        have Q1' := Lib.hid hQ
        clear hQ
        simp only [List.headD_cons, List.headD_nil]
        go_wp2_with fail
        refine (rtextRW Q1'.out zb a2 [] R2.out.1 R2.out.2.1 R2.out.2.2).mono ?_
        rintro e w15 ⟨v15, E15, rfl, hE15, hQ2⟩
        have Q2 := Lib.hid hQ2
        have E15 := Lib.hid hE15
        clear hQ2 hE15
        go_wp2_with fail
        refine (codeRW Q2.out E15.out (by simp)).mono ?_
        rintro e w16 ⟨rfl, hQ⟩
        have Q2' := Lib.hid hQ
        clear hQ
        simp only [List.headD_cons, List.headD_nil]
        go_wp2_with fail
        refine (rtextRW Q2'.out zb a3 [] R4.out.1 R4.out.2.1 R4.out.2.2).mono ?_
        rintro e w19 ⟨v19, E19, rfl, hE19, hQ4⟩
        have Q4 := Lib.hid hQ4
        have E19 := Lib.hid hE19
        clear hQ4 hE19
        go_wp2_with fail
        refine (codeRW Q4.out E19.out (by simp)).mono ?_
        rintro e w20 ⟨rfl, hQ⟩
        have Q4' := Lib.hid hQ
        clear hQ
        simp only [List.headD_cons, List.headD_nil]
        go_wp2_with fail
        refine (rendRW Q4'.out zb [] R5.out).mono ?_
        rintro e w21 ⟨v21, E21, rfl, hE21, hQ5⟩
        have Q5 := Lib.hid hQ5
        have E21 := Lib.hid hE21
        clear hQ5 hE21
        go_wp2_with fail
        refine (codeRW Q5.out E21.out (by simp)).mono ?_
        rintro e w22 ⟨rfl, hQ⟩
        have Q5' := Lib.hid hQ
        clear hQ
        simp only [List.headD_cons, List.headD_nil]
        go_wp2_with fail
        refine (wnumL 1 3 Q5'.out.pw (by omega) (by omega) (by omega) (by omega) (by rw [← txt_size, ← HS1.out]; omega)).mono ?_
        rintro e w23 ⟨v23, E23, F23, rfl, hE23, hP23⟩
        rw [fit13] at hE23
        have E23 := Lib.hid hE23
        have P23 := Lib.hid hP23
        clear hE23 hP23
        go_wp2_with fail
        refine (codeW P23.out E23.out (by simp)).mono ?_
        rintro e w24 ⟨rfl, hP24⟩
        have P24 := Lib.hid hP24
        clear hP24
        simp only [List.headD_cons]
        go_wp2
        go_ret
        exact ⟨rfl, P24.out.n.bel⟩
      · go_enter Tryd.func13, Tryd.ntmps13
        go_wp2_with fail
        refine (newWriterN N0.out).mono ?_
        rintro e w1 ⟨c1, rfl, -, hW1, -, hN1⟩
        have X1 := Lib.hid (And.intro hN1 hW1)
        clear hW1 hN1
        go_wp2_with fail
        refine (newWriterN X1.out.1).mono ?_
        rintro e w2 ⟨c2, rfl, hc2, hW2, m2, hN2⟩
        have P := Lib.hid (show PairW W w2 c1 [] [c1] 82 c2 [] [c2] from ⟨hN2, X1.out.2.mod0 m2, hW2, fun x hx hy => by have := X1.out.2.h.lt c1 (by simp); simp at hx hy; omega⟩)
        clear hc2 hW2 m2 hN2
        go_wp2_with fail
        refine (wnumL (n : Int) 8 P.out (by omega) (by omega) (by omega) (by omega) (by simp)).mono ?_
        rintro e w3 ⟨v3, E3, F3, rfl, hE3, hP3⟩
        rw [HA.out.1] at hE3
        rw [HA.out.2] at hP3
        simp only [List.nil_append, Int.toNat_natCast, Int.reduceToNat] at hP3
        have E3 := Lib.hid hE3
        have P3 := Lib.hid hP3
        clear hE3 hP3
        go_wp2_with fail
        refine (codeW P3.out E3.out (by simp)).mono ?_
        rintro e w4 ⟨rfl, hP⟩
        have P3' := Lib.hid hP
        clear hP
        simp only [List.headD_cons, List.headD_nil]
        go_wp2_with fail
        refine (wtextL a2 P3'.out (by omega) (by simp [leB_length])).mono ?_
        rintro e w5 ⟨v5, E5, F5, rfl, hE5, hP5⟩
        rw [hT2.out.1] at hE5
        rw [hT2.out.2, ← HL1.out] at hP5
        have E5 := Lib.hid hE5
        have P5 := Lib.hid hP5
        clear hE5 hP5
        go_wp2_with fail
        refine (codeW P5.out E5.out (by simp)).mono ?_
        rintro e w6 ⟨rfl, hP⟩
        have P5' := Lib.hid hP
        clear hP
        simp only [List.headD_cons, List.headD_nil]
        go_wp2_with fail
        refine (wnumR a1 4 P5'.out (by omega) (by omega) (by omega) (by omega) (by simp)).mono ?_
        rintro e w7 ⟨v7, E7, F7, rfl, hE7, hP7⟩
        rw [HB.out.1] at hE7
        rw [HB.out.2] at hP7
        have E7 := Lib.hid hE7
        have P7 := Lib.hid hP7
        clear hE7 hP7
        go_wp2_with fail
        refine (codeW P7.out E7.out (by simp)).mono ?_
        rintro e w8 ⟨rfl, hP⟩
        have P7' := Lib.hid hP
        clear hP
        simp only [List.headD_cons, List.headD_nil]
        go_wp2_with fail
        refine (wtextR a3 P7'.out (by omega) (by simp [leB_length])).mono ?_
        rintro e w9 ⟨v9, E9, F9, rfl, hE9, hP9⟩
        rw [hT3.out.1] at hE9
        rw [hT3.out.2, ← HL2.out] at hP9
        have E9 := Lib.hid hE9
        have P9 := Lib.hid hP9
        clear hE9 hP9
        go_wp2_with fail
        refine (codeW P9.out E9.out (by simp)).mono ?_
        rintro e w10 ⟨rfl, hP⟩
        have P9' := Lib.hid hP
        clear hP
        simp only [List.headD_cons, List.headD_nil]
        go_wp2_with fail
        refine (wbytesT w10 c1 L1 F5 P9'.out.p.h S1 HS1.out).mono ?_
        rintro e w11 ⟨rfl, rfl⟩
        go_wp2_with fail
        refine (wbytesT w10 c2 L2 F9 P9'.out.q.h S2 HS2.out).mono ?_
        rintro e w11 ⟨rfl, rfl⟩
        go_wp2_with fail
        rw [← HS.out]
        refine (newReaderRW S P9'.out).mono ?_
        rintro e w12 ⟨br, rfl, hR⟩
        have Q0 := Lib.hid hR
        clear hR
        go_wp2_with fail
        refine (rnumRW 8 Q0.out zb (by omega) (by omega) n [] R1.out.1 R1.out.2.1 R1.out.2.2).mono ?_
        rintro e w13 ⟨v13, E13, rfl, hE13, hQ1⟩
        have Q1 := Lib.hid hQ1
        have E13 := Lib.hid hE13
        clear hQ1 hE13
        go_wp2_with fail
        refine (codeRW Q1.out E13.out (by simp)).mono ?_
        rintro e w14 ⟨rfl, hQ⟩
        have Q1' := Lib.hid hQ
        clear hQ
        simp only [List.headD_cons, List.headD_nil]
        go_wp2_with fail
        refine (rtextRW Q1'.out zb a2 [] R2.out.1 R2.out.2.1 R2.out.2.2).mono ?_
        rintro e w15 ⟨v15, E15, rfl, hE15, hQ2⟩
        have Q2 := Lib.hid hQ2
        have E15 := Lib.hid hE15
        clear hQ2 hE15
        go_wp2_with fail
        refine (codeRW Q2.out E15.out (by simp)).mono ?_
        rintro e w16 ⟨rfl, hQ⟩
        have Q2' := Lib.hid hQ
        clear hQ
        simp only [List.headD_cons, List.headD_nil]
        go_wp2_with fail
        refine (rtextRW Q2'.out zb a3 [] R4.out.1 R4.out.2.1 R4.out.2.2).mono ?_
        rintro e w19 ⟨v19, E19, rfl, hE19, hQ4⟩
        have Q4 := Lib.hid hQ4
        have E19 := Lib.hid hE19
        clear hQ4 hE19
        go_wp2_with fail
        refine (codeRW Q4.out E19.out (by simp)).mono ?_
        rintro e w20 ⟨rfl, hQ⟩
        have Q4' := Lib.hid hQ
        clear hQ
        simp only [List.headD_cons, List.headD_nil]
        go_wp2_with fail
        refine (rendRW Q4'.out zb [] R5.out).mono ?_
        rintro e w21 ⟨v21, E21, rfl, hE21, hQ5⟩
        have Q5 := Lib.hid hQ5
        have E21 := Lib.hid hE21
        clear hQ5 hE21
        go_wp2_with fail
        refine (codeRW Q5.out E21.out (by simp)).mono ?_
        rintro e w22 ⟨rfl, hQ⟩
        have Q5' := Lib.hid hQ
        clear hQ
        simp only [List.headD_cons, List.headD_nil]
        go_wp2_with fail
        refine (wnumL 1 3 Q5'.out.pw (by omega) (by omega) (by omega) (by omega) (by rw [← txt_size, ← HS1.out]; omega)).mono ?_
        rintro e w23 ⟨v23, E23, F23, rfl, hE23, hP23⟩
        rw [fit13] at hE23
        have E23 := Lib.hid hE23
        have P23 := Lib.hid hP23
        clear hE23 hP23
        go_wp2_with fail
        refine (codeW P23.out E23.out (by simp)).mono ?_
        rintro e w24 ⟨rfl, hP24⟩
        have P24 := Lib.hid hP24
        clear hP24
        simp only [List.headD_cons]
        go_wp2
        go_ret
        exact ⟨rfl, P24.out.n.bel⟩
  · have HA := Lib.hid (fit_no (show fitB a0 8 = false by simp [fitB, wideB]; omega))
    by_cases hb : 0 ≤ a1 ∧ a1 < 4294967296
    · obtain ⟨m, rfl⟩ : ∃ m : Nat, a1 = (m : Int) := ⟨a1.toNat, by omega⟩
      have HB := Lib.hid (fit_yes (show fitB (m : Int) 4 = true by simp [fitB, wideB]; omega))
      have q1 : decide (0 ≤ a0) = false := by simp; omega
      have q2 : decide (0 ≤ (m : Int)) = true := by simp
      have q3 : decide ((m : Int) < 4294967296) = true := by simp; omega
      obtain ⟨L1, hL1⟩ : ∃ L1, L1 = [] ++ leB a2.size 2 ++ a2.data.toList := ⟨_, rfl⟩
      obtain ⟨L2, hL2⟩ : ∃ L2, L2 = (leB m 4) ++ leB a3.size 2 ++ a3.data.toList := ⟨_, rfl⟩
      obtain ⟨S1, hS1⟩ : ∃ S1, S1 = txt L1 := ⟨_, rfl⟩
      obtain ⟨S2, hS2⟩ : ∃ S2, S2 = txt L2 := ⟨_, rfl⟩
      obtain ⟨S, hS⟩ : ∃ S, S = S1 ++ S2 := ⟨_, rfl⟩
      have hSL : S = txt (L1 ++ L2) := by rw [hS, hS1, hS2, txt_append]
      have z1 : S1.size = 0 + 2 + a2.size := by rw [hS1, txt_size, hL1, List.length_append, List.length_append, len_s, leB_length]; rfl
      have z2 : S2.size = 4 + 2 + a3.size := by rw [hS2, txt_size, hL2, List.length_append, List.length_append, len_s, leB_length, leB_length]
      have zS : S.size = S1.size + S2.size := by rw [hS, ByteArray.size_append]
      have zb : S.size ≤ 1000000 := by omega
      have R2 := Lib.hid (rt_at' (S := S) (L := L1 ++ L2) (pre := []) (rest := L2) (p := 0) a2 hSL (by rw [hL1]) (by simp [leB_length]) (by omega))
      have R3 := Lib.hid (rd_at' (S := S) (L := L1 ++ L2) (pre := L1) (rest := leB a3.size 2 ++ a3.data.toList) (p := 0 + 2 + a2.size) m 4 hSL (by rw [hL2]; simp [List.append_assoc]) (by rw [← z1, hS1, txt_size]) (by decide) (by simp; omega) (by omega))
      have R4 := Lib.hid (rt_at' (S := S) (L := L1 ++ L2) (pre := L1 ++ (leB m 4)) (rest := []) (p := 0 + 2 + a2.size + 4) a3 hSL (by rw [hL2]; simp [List.append_assoc]) (by rw [List.length_append, ← txt_size L1, ← hS1, z1]; simp [leB_length]) (by omega))
      have R5 := Lib.hid (show endL S (0 + 2 + a2.size + 4 + 2 + a3.size) = [] by unfold endL; rw [if_neg (by omega)])
      have HS := Lib.hid hS
      have HS1 := Lib.hid hS1
      have HS2 := Lib.hid hS2
      have HL1 := Lib.hid hL1
      have HL2 := Lib.hid hL2
      have HZ := Lib.hid (And.intro z1 (And.intro z2 zS))
      have zi1 : (S1.size : Int) ≤ 100000 := by omega
      have zi2 : (S2.size : Int) ≤ 100000 := by omega
      clear hS hS1 hS2 hL1 hL2 hSL z1 z2 zS
      go_enter Tryd.func13, Tryd.ntmps13
      go_wp2_with fail
      refine (newWriterN N0.out).mono ?_
      rintro e w1 ⟨c1, rfl, -, hW1, -, hN1⟩
      have X1 := Lib.hid (And.intro hN1 hW1)
      clear hW1 hN1
      go_wp2_with fail
      refine (newWriterN X1.out.1).mono ?_
      rintro e w2 ⟨c2, rfl, hc2, hW2, m2, hN2⟩
      have P := Lib.hid (show PairW W w2 c1 [] [c1] 82 c2 [] [c2] from ⟨hN2, X1.out.2.mod0 m2, hW2, fun x hx hy => by have := X1.out.2.h.lt c1 (by simp); simp at hx hy; omega⟩)
      clear hc2 hW2 m2 hN2
      go_wp2_with fail
      refine (wnumL a0 8 P.out (by omega) (by omega) (by omega) (by omega) (by simp)).mono ?_
      rintro e w3 ⟨v3, E3, F3, rfl, hE3, hP3⟩
      rw [HA.out.1] at hE3
      rw [HA.out.2] at hP3
      have E3 := Lib.hid hE3
      have P3 := Lib.hid hP3
      clear hE3 hP3
      go_wp2_with fail
      refine (codeW P3.out E3.out (by simp)).mono ?_
      rintro e w4 ⟨rfl, hP⟩
      have P3' := Lib.hid hP
      clear hP
      simp only [List.headD_cons, List.headD_nil]
      go_wp2_with fail
      refine (wtextL a2 P3'.out (by omega) (by simp [leB_length])).mono ?_
      rintro e w5 ⟨v5, E5, F5, rfl, hE5, hP5⟩
      rw [hT2.out.1] at hE5
      rw [hT2.out.2, ← HL1.out] at hP5
      have E5 := Lib.hid hE5
      have P5 := Lib.hid hP5
      clear hE5 hP5
      go_wp2_with fail
      refine (codeW P5.out E5.out (by simp)).mono ?_
      rintro e w6 ⟨rfl, hP⟩
      have P5' := Lib.hid hP
      clear hP
      simp only [List.headD_cons, List.headD_nil]
      go_wp2_with fail
      refine (wnumR (m : Int) 4 P5'.out (by omega) (by omega) (by omega) (by omega) (by simp)).mono ?_
      rintro e w7 ⟨v7, E7, F7, rfl, hE7, hP7⟩
      rw [HB.out.1] at hE7
      rw [HB.out.2] at hP7
      simp only [List.nil_append, Int.toNat_natCast, Int.reduceToNat] at hP7
      have E7 := Lib.hid hE7
      have P7 := Lib.hid hP7
      clear hE7 hP7
      go_wp2_with fail
      refine (codeW P7.out E7.out (by simp)).mono ?_
      rintro e w8 ⟨rfl, hP⟩
      have P7' := Lib.hid hP
      clear hP
      simp only [List.headD_cons, List.headD_nil]
      go_wp2_with fail
      refine (wtextR a3 P7'.out (by omega) (by simp [leB_length])).mono ?_
      rintro e w9 ⟨v9, E9, F9, rfl, hE9, hP9⟩
      rw [hT3.out.1] at hE9
      rw [hT3.out.2, ← HL2.out] at hP9
      have E9 := Lib.hid hE9
      have P9 := Lib.hid hP9
      clear hE9 hP9
      go_wp2_with fail
      refine (codeW P9.out E9.out (by simp)).mono ?_
      rintro e w10 ⟨rfl, hP⟩
      have P9' := Lib.hid hP
      clear hP
      simp only [List.headD_cons, List.headD_nil]
      go_wp2_with fail
      refine (wbytesT w10 c1 L1 F5 P9'.out.p.h S1 HS1.out).mono ?_
      rintro e w11 ⟨rfl, rfl⟩
      go_wp2_with fail
      refine (wbytesT w10 c2 L2 F9 P9'.out.q.h S2 HS2.out).mono ?_
      rintro e w11 ⟨rfl, rfl⟩
      go_wp2_with fail
      rw [← HS.out]
      refine (newReaderRW S P9'.out).mono ?_
      rintro e w12 ⟨br, rfl, hR⟩
      have Q0 := Lib.hid hR
      clear hR
      go_wp2_with fail
      refine (rtextRW Q0.out zb a2 [] R2.out.1 R2.out.2.1 R2.out.2.2).mono ?_
      rintro e w15 ⟨v15, E15, rfl, hE15, hQ2⟩
      have Q2 := Lib.hid hQ2
      have E15 := Lib.hid hE15
      clear hQ2 hE15
      go_wp2_with fail
      refine (codeRW Q2.out E15.out (by simp)).mono ?_
      rintro e w16 ⟨rfl, hQ⟩
      have Q2' := Lib.hid hQ
      clear hQ
      simp only [List.headD_cons, List.headD_nil]
      go_wp2_with fail
      refine (rnumRW 4 Q2'.out zb (by omega) (by omega) m [] R3.out.1 R3.out.2.1 R3.out.2.2).mono ?_
      rintro e w17 ⟨v17, E17, rfl, hE17, hQ3⟩
      have Q3 := Lib.hid hQ3
      have E17 := Lib.hid hE17
      clear hQ3 hE17
      go_wp2_with fail
      refine (codeRW Q3.out E17.out (by simp)).mono ?_
      rintro e w18 ⟨rfl, hQ⟩
      have Q3' := Lib.hid hQ
      clear hQ
      simp only [List.headD_cons, List.headD_nil]
      go_wp2_with fail
      refine (rtextRW Q3'.out zb a3 [] R4.out.1 R4.out.2.1 R4.out.2.2).mono ?_
      rintro e w19 ⟨v19, E19, rfl, hE19, hQ4⟩
      have Q4 := Lib.hid hQ4
      have E19 := Lib.hid hE19
      clear hQ4 hE19
      go_wp2_with fail
      refine (codeRW Q4.out E19.out (by simp)).mono ?_
      rintro e w20 ⟨rfl, hQ⟩
      have Q4' := Lib.hid hQ
      clear hQ
      simp only [List.headD_cons, List.headD_nil]
      go_wp2_with fail
      refine (rendRW Q4'.out zb [] R5.out).mono ?_
      rintro e w21 ⟨v21, E21, rfl, hE21, hQ5⟩
      have Q5 := Lib.hid hQ5
      have E21 := Lib.hid hE21
      clear hQ5 hE21
      go_wp2_with fail
      refine (codeRW Q5.out E21.out (by simp)).mono ?_
      rintro e w22 ⟨rfl, hQ⟩
      have Q5' := Lib.hid hQ
      clear hQ
      simp only [List.headD_cons, List.headD_nil]
      go_wp2_with fail
      refine (wnumL 1 3 Q5'.out.pw (by omega) (by omega) (by omega) (by omega) (by rw [← txt_size, ← HS1.out]; omega)).mono ?_
      rintro e w23 ⟨v23, E23, F23, rfl, hE23, hP23⟩
      rw [fit13] at hE23
      have E23 := Lib.hid hE23
      have P23 := Lib.hid hP23
      clear hE23 hP23
      go_wp2_with fail
      refine (codeW P23.out E23.out (by simp)).mono ?_
      rintro e w24 ⟨rfl, hP24⟩
      have P24 := Lib.hid hP24
      clear hP24
      simp only [List.headD_cons]
      go_wp2
      go_ret
      exact ⟨rfl, P24.out.n.bel⟩
    · have HB := Lib.hid (fit_no (show fitB a1 4 = false by simp [fitB, wideB]; omega))
      have q1 : decide (0 ≤ a0) = false := by simp; omega
      have q23 : decide (0 ≤ a1) = false ∨ (decide (0 ≤ a1) = true ∧ decide (a1 < 4294967296) = false) := by by_cases h : 0 ≤ a1 <;> simp [h] <;> omega
      obtain ⟨L1, hL1⟩ : ∃ L1, L1 = [] ++ leB a2.size 2 ++ a2.data.toList := ⟨_, rfl⟩
      obtain ⟨L2, hL2⟩ : ∃ L2, L2 = [] ++ leB a3.size 2 ++ a3.data.toList := ⟨_, rfl⟩
      obtain ⟨S1, hS1⟩ : ∃ S1, S1 = txt L1 := ⟨_, rfl⟩
      obtain ⟨S2, hS2⟩ : ∃ S2, S2 = txt L2 := ⟨_, rfl⟩
      obtain ⟨S, hS⟩ : ∃ S, S = S1 ++ S2 := ⟨_, rfl⟩
      have hSL : S = txt (L1 ++ L2) := by rw [hS, hS1, hS2, txt_append]
      have z1 : S1.size = 0 + 2 + a2.size := by rw [hS1, txt_size, hL1, List.length_append, List.length_append, len_s, leB_length]; rfl
      have z2 : S2.size = 0 + 2 + a3.size := by rw [hS2, txt_size, hL2, List.length_append, List.length_append, len_s, leB_length]; rfl
      have zS : S.size = S1.size + S2.size := by rw [hS, ByteArray.size_append]
      have zb : S.size ≤ 1000000 := by omega
      have R2 := Lib.hid (rt_at' (S := S) (L := L1 ++ L2) (pre := []) (rest := L2) (p := 0) a2 hSL (by rw [hL1]) (by simp [leB_length]) (by omega))
      have R4 := Lib.hid (rt_at' (S := S) (L := L1 ++ L2) (pre := L1 ++ []) (rest := []) (p := 0 + 2 + a2.size + 0) a3 hSL (by rw [hL2]; simp [List.append_assoc]) (by rw [List.length_append, ← txt_size L1, ← hS1, z1]; simp [leB_length]) (by omega))
      have R5 := Lib.hid (show endL S (0 + 2 + a2.size + 0 + 2 + a3.size) = [] by unfold endL; rw [if_neg (by omega)])
      have HS := Lib.hid hS
      have HS1 := Lib.hid hS1
      have HS2 := Lib.hid hS2
      have HL1 := Lib.hid hL1
      have HL2 := Lib.hid hL2
      have HZ := Lib.hid (And.intro z1 (And.intro z2 zS))
      have zi1 : (S1.size : Int) ≤ 100000 := by omega
      have zi2 : (S2.size : Int) ≤ 100000 := by omega
      clear hS hS1 hS2 hL1 hL2 hSL z1 z2 zS
      rcases q23 with q2 | ⟨q2, q3⟩
      · go_enter Tryd.func13, Tryd.ntmps13
        go_wp2_with fail
        refine (newWriterN N0.out).mono ?_
        rintro e w1 ⟨c1, rfl, -, hW1, -, hN1⟩
        have X1 := Lib.hid (And.intro hN1 hW1)
        clear hW1 hN1
        go_wp2_with fail
        refine (newWriterN X1.out.1).mono ?_
        rintro e w2 ⟨c2, rfl, hc2, hW2, m2, hN2⟩
        have P := Lib.hid (show PairW W w2 c1 [] [c1] 82 c2 [] [c2] from ⟨hN2, X1.out.2.mod0 m2, hW2, fun x hx hy => by have := X1.out.2.h.lt c1 (by simp); simp at hx hy; omega⟩)
        clear hc2 hW2 m2 hN2
        go_wp2_with fail
        refine (wnumL a0 8 P.out (by omega) (by omega) (by omega) (by omega) (by simp)).mono ?_
        rintro e w3 ⟨v3, E3, F3, rfl, hE3, hP3⟩
        rw [HA.out.1] at hE3
        rw [HA.out.2] at hP3
        have E3 := Lib.hid hE3
        have P3 := Lib.hid hP3
        clear hE3 hP3
        go_wp2_with fail
        refine (codeW P3.out E3.out (by simp)).mono ?_
        rintro e w4 ⟨rfl, hP⟩
        have P3' := Lib.hid hP
        clear hP
        simp only [List.headD_cons, List.headD_nil]
        go_wp2_with fail
        refine (wtextL a2 P3'.out (by omega) (by simp [leB_length])).mono ?_
        rintro e w5 ⟨v5, E5, F5, rfl, hE5, hP5⟩
        rw [hT2.out.1] at hE5
        rw [hT2.out.2, ← HL1.out] at hP5
        have E5 := Lib.hid hE5
        have P5 := Lib.hid hP5
        clear hE5 hP5
        go_wp2_with fail
        refine (codeW P5.out E5.out (by simp)).mono ?_
        rintro e w6 ⟨rfl, hP⟩
        have P5' := Lib.hid hP
        clear hP
        simp only [List.headD_cons, List.headD_nil]
        go_wp2_with fail
        refine (wnumR a1 4 P5'.out (by omega) (by omega) (by omega) (by omega) (by simp)).mono ?_
        rintro e w7 ⟨v7, E7, F7, rfl, hE7, hP7⟩
        rw [HB.out.1] at hE7
        rw [HB.out.2] at hP7
        have E7 := Lib.hid hE7
        have P7 := Lib.hid hP7
        clear hE7 hP7
        go_wp2_with fail
        refine (codeW P7.out E7.out (by simp)).mono ?_
        rintro e w8 ⟨rfl, hP⟩
        have P7' := Lib.hid hP
        clear hP
        simp only [List.headD_cons, List.headD_nil]
        go_wp2_with fail
        refine (wtextR a3 P7'.out (by omega) (by simp [leB_length])).mono ?_
        rintro e w9 ⟨v9, E9, F9, rfl, hE9, hP9⟩
        rw [hT3.out.1] at hE9
        rw [hT3.out.2, ← HL2.out] at hP9
        have E9 := Lib.hid hE9
        have P9 := Lib.hid hP9
        clear hE9 hP9
        go_wp2_with fail
        refine (codeW P9.out E9.out (by simp)).mono ?_
        rintro e w10 ⟨rfl, hP⟩
        have P9' := Lib.hid hP
        clear hP
        simp only [List.headD_cons, List.headD_nil]
        go_wp2_with fail
        refine (wbytesT w10 c1 L1 F5 P9'.out.p.h S1 HS1.out).mono ?_
        rintro e w11 ⟨rfl, rfl⟩
        go_wp2_with fail
        refine (wbytesT w10 c2 L2 F9 P9'.out.q.h S2 HS2.out).mono ?_
        rintro e w11 ⟨rfl, rfl⟩
        go_wp2_with fail
        rw [← HS.out]
        refine (newReaderRW S P9'.out).mono ?_
        rintro e w12 ⟨br, rfl, hR⟩
        have Q0 := Lib.hid hR
        clear hR
        go_wp2_with fail
        refine (rtextRW Q0.out zb a2 [] R2.out.1 R2.out.2.1 R2.out.2.2).mono ?_
        rintro e w15 ⟨v15, E15, rfl, hE15, hQ2⟩
        have Q2 := Lib.hid hQ2
        have E15 := Lib.hid hE15
        clear hQ2 hE15
        go_wp2_with fail
        refine (codeRW Q2.out E15.out (by simp)).mono ?_
        rintro e w16 ⟨rfl, hQ⟩
        have Q2' := Lib.hid hQ
        clear hQ
        simp only [List.headD_cons, List.headD_nil]
        go_wp2_with fail
        refine (rtextRW Q2'.out zb a3 [] R4.out.1 R4.out.2.1 R4.out.2.2).mono ?_
        rintro e w19 ⟨v19, E19, rfl, hE19, hQ4⟩
        have Q4 := Lib.hid hQ4
        have E19 := Lib.hid hE19
        clear hQ4 hE19
        go_wp2_with fail
        refine (codeRW Q4.out E19.out (by simp)).mono ?_
        rintro e w20 ⟨rfl, hQ⟩
        have Q4' := Lib.hid hQ
        clear hQ
        simp only [List.headD_cons, List.headD_nil]
        go_wp2_with fail
        refine (rendRW Q4'.out zb [] R5.out).mono ?_
        rintro e w21 ⟨v21, E21, rfl, hE21, hQ5⟩
        have Q5 := Lib.hid hQ5
        have E21 := Lib.hid hE21
        clear hQ5 hE21
        go_wp2_with fail
        refine (codeRW Q5.out E21.out (by simp)).mono ?_
        rintro e w22 ⟨rfl, hQ⟩
        have Q5' := Lib.hid hQ
        clear hQ
        simp only [List.headD_cons, List.headD_nil]
        go_wp2_with fail
        refine (wnumL 1 3 Q5'.out.pw (by omega) (by omega) (by omega) (by omega) (by rw [← txt_size, ← HS1.out]; omega)).mono ?_
        rintro e w23 ⟨v23, E23, F23, rfl, hE23, hP23⟩
        rw [fit13] at hE23
        have E23 := Lib.hid hE23
        have P23 := Lib.hid hP23
        clear hE23 hP23
        go_wp2_with fail
        refine (codeW P23.out E23.out (by simp)).mono ?_
        rintro e w24 ⟨rfl, hP24⟩
        have P24 := Lib.hid hP24
        clear hP24
        simp only [List.headD_cons]
        go_wp2
        go_ret
        exact ⟨rfl, P24.out.n.bel⟩
      · go_enter Tryd.func13, Tryd.ntmps13
        go_wp2_with fail
        refine (newWriterN N0.out).mono ?_
        rintro e w1 ⟨c1, rfl, -, hW1, -, hN1⟩
        have X1 := Lib.hid (And.intro hN1 hW1)
        clear hW1 hN1
        go_wp2_with fail
        refine (newWriterN X1.out.1).mono ?_
        rintro e w2 ⟨c2, rfl, hc2, hW2, m2, hN2⟩
        have P := Lib.hid (show PairW W w2 c1 [] [c1] 82 c2 [] [c2] from ⟨hN2, X1.out.2.mod0 m2, hW2, fun x hx hy => by have := X1.out.2.h.lt c1 (by simp); simp at hx hy; omega⟩)
        clear hc2 hW2 m2 hN2
        go_wp2_with fail
        refine (wnumL a0 8 P.out (by omega) (by omega) (by omega) (by omega) (by simp)).mono ?_
        rintro e w3 ⟨v3, E3, F3, rfl, hE3, hP3⟩
        rw [HA.out.1] at hE3
        rw [HA.out.2] at hP3
        have E3 := Lib.hid hE3
        have P3 := Lib.hid hP3
        clear hE3 hP3
        go_wp2_with fail
        refine (codeW P3.out E3.out (by simp)).mono ?_
        rintro e w4 ⟨rfl, hP⟩
        have P3' := Lib.hid hP
        clear hP
        simp only [List.headD_cons, List.headD_nil]
        go_wp2_with fail
        refine (wtextL a2 P3'.out (by omega) (by simp [leB_length])).mono ?_
        rintro e w5 ⟨v5, E5, F5, rfl, hE5, hP5⟩
        rw [hT2.out.1] at hE5
        rw [hT2.out.2, ← HL1.out] at hP5
        have E5 := Lib.hid hE5
        have P5 := Lib.hid hP5
        clear hE5 hP5
        go_wp2_with fail
        refine (codeW P5.out E5.out (by simp)).mono ?_
        rintro e w6 ⟨rfl, hP⟩
        have P5' := Lib.hid hP
        clear hP
        simp only [List.headD_cons, List.headD_nil]
        go_wp2_with fail
        refine (wnumR a1 4 P5'.out (by omega) (by omega) (by omega) (by omega) (by simp)).mono ?_
        rintro e w7 ⟨v7, E7, F7, rfl, hE7, hP7⟩
        rw [HB.out.1] at hE7
        rw [HB.out.2] at hP7
        have E7 := Lib.hid hE7
        have P7 := Lib.hid hP7
        clear hE7 hP7
        go_wp2_with fail
        refine (codeW P7.out E7.out (by simp)).mono ?_
        rintro e w8 ⟨rfl, hP⟩
        have P7' := Lib.hid hP
        clear hP
        simp only [List.headD_cons, List.headD_nil]
        go_wp2_with fail
        refine (wtextR a3 P7'.out (by omega) (by simp [leB_length])).mono ?_
        rintro e w9 ⟨v9, E9, F9, rfl, hE9, hP9⟩
        rw [hT3.out.1] at hE9
        rw [hT3.out.2, ← HL2.out] at hP9
        have E9 := Lib.hid hE9
        have P9 := Lib.hid hP9
        clear hE9 hP9
        go_wp2_with fail
        refine (codeW P9.out E9.out (by simp)).mono ?_
        rintro e w10 ⟨rfl, hP⟩
        have P9' := Lib.hid hP
        clear hP
        simp only [List.headD_cons, List.headD_nil]
        go_wp2_with fail
        refine (wbytesT w10 c1 L1 F5 P9'.out.p.h S1 HS1.out).mono ?_
        rintro e w11 ⟨rfl, rfl⟩
        go_wp2_with fail
        refine (wbytesT w10 c2 L2 F9 P9'.out.q.h S2 HS2.out).mono ?_
        rintro e w11 ⟨rfl, rfl⟩
        go_wp2_with fail
        rw [← HS.out]
        refine (newReaderRW S P9'.out).mono ?_
        rintro e w12 ⟨br, rfl, hR⟩
        have Q0 := Lib.hid hR
        clear hR
        go_wp2_with fail
        refine (rtextRW Q0.out zb a2 [] R2.out.1 R2.out.2.1 R2.out.2.2).mono ?_
        rintro e w15 ⟨v15, E15, rfl, hE15, hQ2⟩
        have Q2 := Lib.hid hQ2
        have E15 := Lib.hid hE15
        clear hQ2 hE15
        go_wp2_with fail
        refine (codeRW Q2.out E15.out (by simp)).mono ?_
        rintro e w16 ⟨rfl, hQ⟩
        have Q2' := Lib.hid hQ
        clear hQ
        simp only [List.headD_cons, List.headD_nil]
        go_wp2_with fail
        refine (rtextRW Q2'.out zb a3 [] R4.out.1 R4.out.2.1 R4.out.2.2).mono ?_
        rintro e w19 ⟨v19, E19, rfl, hE19, hQ4⟩
        have Q4 := Lib.hid hQ4
        have E19 := Lib.hid hE19
        clear hQ4 hE19
        go_wp2_with fail
        refine (codeRW Q4.out E19.out (by simp)).mono ?_
        rintro e w20 ⟨rfl, hQ⟩
        have Q4' := Lib.hid hQ
        clear hQ
        simp only [List.headD_cons, List.headD_nil]
        go_wp2_with fail
        refine (rendRW Q4'.out zb [] R5.out).mono ?_
        rintro e w21 ⟨v21, E21, rfl, hE21, hQ5⟩
        have Q5 := Lib.hid hQ5
        have E21 := Lib.hid hE21
        clear hQ5 hE21
        go_wp2_with fail
        refine (codeRW Q5.out E21.out (by simp)).mono ?_
        rintro e w22 ⟨rfl, hQ⟩
        have Q5' := Lib.hid hQ
        clear hQ
        simp only [List.headD_cons, List.headD_nil]
        go_wp2_with fail
        refine (wnumL 1 3 Q5'.out.pw (by omega) (by omega) (by omega) (by omega) (by rw [← txt_size, ← HS1.out]; omega)).mono ?_
        rintro e w23 ⟨v23, E23, F23, rfl, hE23, hP23⟩
        rw [fit13] at hE23
        have E23 := Lib.hid hE23
        have P23 := Lib.hid hP23
        clear hE23 hP23
        go_wp2_with fail
        refine (codeW P23.out E23.out (by simp)).mono ?_
        rintro e w24 ⟨rfl, hP24⟩
        have P24 := Lib.hid hP24
        clear hP24
        simp only [List.headD_cons]
        go_wp2
        go_ret
        exact ⟨rfl, P24.out.n.bel⟩
end Go.Proofs.YthcbhdadbohkjaaDoor
