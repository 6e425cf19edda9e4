/- The walk of the law FieldCut: bytes that are cut off ahead of a field's end have it no more: they are too few, and the reader stays where it is. Premise: the library's variable of the type error is as laid. (Written by wip/tools/genCut.py.) -/
import Derived.Test.YthcbhdadbohkjaaDoorPair
namespace Go.Proofs.YthcbhdadbohkjaaDoor
open Go.RowKit
set_option linter.unusedVariables false
set_option linter.unusedSimpArgs false
attribute [local go_sem ↓] Go.wp_at_zero Go.wp_at_succ
theorem mask40 (x : Int) : bits .and .i64 x 1099511627775 = x % 1099511627776 := by
  have e : (1099511627775 : Int) = ((2 ^ 40 - 1 : Nat) : Int) := by decide
  show IntKind.i64.wrap ((BitVec.ofInt 64 x &&& BitVec.ofInt 64 1099511627775).toNat : Int) = _
  rw [BitVec.toNat_and, e, BitVec.ofInt_natCast, BitVec.toNat_ofNat, show (2 ^ 40 - 1) % 2 ^ 64 = 2 ^ 40 - 1 by decide, Nat.and_two_pow_sub_one_eq_mod, BitVec.toNat_ofInt, IntKind.wrap_i64]
  omega
theorem cut_short (L : List UInt8) (k : Nat) (h : k < 8) (hk : k ≤ L.length) : rdN (txt (L.take k)) 0 8 = 0 ∧ rdL (txt (L.take k)) 0 8 = [10] ∧ rdA (txt (L.take k)) 0 8 = 0 := by
  have hz : (txt (L.take k)).size = k := by rw [txt_size]; simp; omega
  have hw : wideB 8 = true := by decide
  have e : rdL (txt (L.take k)) 0 8 = [10] := by
    unfold rdL
    rw [if_neg (by simp [hw]), if_pos (by rw [hz]; omega)]
  refine ⟨?_, e, ?_⟩
  · unfold rdN
    rw [if_neg (by simp [hw]), if_pos (by rw [hz]; omega)]
  · unfold rdA
    rw [if_neg (by rw [e]; simp)]
theorem cut_num (n : Nat) (rest : List UInt8) (k : Nat) (h : 8 ≤ k) (hn : n < 9223372036854775808) : rdN (txt ((leB n 8 ++ rest).take k)) 0 8 = n ∧ rdL (txt ((leB n 8 ++ rest).take k)) 0 8 = [] ∧ rdA (txt ((leB n 8 ++ rest).take k)) 0 8 = 8 := by
  have e : (leB n 8 ++ rest).take k = [] ++ leB n 8 ++ rest.take (k - 8) := by
    rw [List.take_append, leB_length, List.take_of_length_le (by rw [leB_length]; omega)]
    simp
  rw [e]
  obtain ⟨h1, h2, h3⟩ := rd_at [] (rest.take (k - 8)) n 8 (by decide) (by simp; omega) hn
  exact ⟨h2, h1, h3⟩
theorem cut_text (n : Nat) (s : ByteArray) (hs : s.size ≤ 1024) (k : Nat) (h : 8 ≤ k) (hk : k < 10 + s.size) :
    ∃ l, rtL (txt ((leB n 8 ++ (leB s.size 2 ++ s.data.toList)).take k)) 8 = l ∧ l.length = (if 10 ≤ k then 1 else 2) ∧ l.headD 0 = 10 ∧ rtA (txt ((leB n 8 ++ (leB s.size 2 ++ s.data.toList)).take k)) 8 = 8 := by
  obtain ⟨L, hL⟩ : ∃ L, L = leB n 8 ++ (leB s.size 2 ++ s.data.toList) := ⟨_, rfl⟩
  have hsl : s.data.toList.length = s.size := rfl
  have hlen : L.length = 10 + s.size := by rw [hL, List.length_append, List.length_append, leB_length, leB_length, hsl]; omega
  rw [← hL]
  have hz : (txt (L.take k)).size = k := by rw [txt_size]; simp; omega
  rcases rd2 (txt (L.take k)) 8 with ⟨h1, h2, h3⟩ | ⟨h1, h2, h3, h4⟩
  · refine ⟨[10, 10], h3, ?_, rfl, ?_⟩
    · rw [if_neg (by rw [hz] at h1; omega)]
      rfl
    · unfold rtA
      rw [if_neg (by rw [h3]; simp)]
  · rw [hz] at h1
    have hk10 : 10 ≤ k := by omega
    have e : L.take k = leB n 8 ++ leB s.size 2 ++ s.data.toList.take (k - 10) := by
      rw [hL, ← List.append_assoc, List.take_append, List.take_of_length_le (by rw [List.length_append, leB_length, leB_length]; omega), List.length_append, leB_length, leB_length]
    have e2 : leN (byS (txt (L.take k))) 8 2 = s.size := by
      rw [e]
      exact leN_pre (leB n 8) (leB s.size 2) (s.data.toList.take (k - 10)) s.size 2 rfl (by omega)
    have e3 : rtL (txt (L.take k)) 8 = [10] := by
      unfold rtL
      rw [if_neg (by rw [h2]; simp), h3, e2, hz, if_neg (by omega), if_pos (by omega)]
    refine ⟨[10], e3, ?_, rfl, ?_⟩
    · rw [if_pos hk10]
      rfl
    · unfold rtA
      rw [if_neg (by rw [e3]; simp)]
set_option maxRecDepth 100000 in
set_option maxHeartbeats 4000000 in
theorem fieldCut_walk (W : World) (t0 : ErrT W) (a0 : Int) (w0 : (Lit.int .i64 a0).wf = true)
    (a1 : ByteArray) (w1 : a1.size ≤ 140737488351232)
    (a2 : Int) (w2 : (Lit.int .u8 a2).wf = true) :
    Calls Tryd.prog 12 #[.int .i64 a0, .string a1, .int .u8 a2] W fun e w' => e = .returned (.bool true) ∧ Below W.heap.size W w' := by
  obtain ⟨b0, b1⟩ := bd_i64 w0
  obtain ⟨b2, b3⟩ := bd_u8 w2
  have N0 := Lib.hid (Nw.refl t0)
  clear w0 w2 t0
  by_cases hs2 : 1024 < a1.size
  · have i1 : decide ((1024 : Int) < (a1.size : Int)) = true := by simp; omega
    go_enter Tryd.func12, Tryd.ntmps12
    go_wp2
    go_ret
    exact ⟨rfl, N0.out.bel⟩
  have i1 : decide ((1024 : Int) < (a1.size : Int)) = false := by simp; omega
  have hs3 : a1.size ≤ 1024 := by omega
  have hT := Lib.hid (text_yes hs3)
  obtain ⟨n, hn⟩ : ∃ n : Nat, a0 % 1099511627776 = (n : Int) := ⟨(a0 % 1099511627776).toNat, by omega⟩
  have hnlt : n < 1099511627776 := by omega
  have hm : bits .and .i64 a0 1099511627775 = (n : Int) := by rw [mask40, hn]
  have HA := Lib.hid (fit_yes (show fitB (n : Int) 8 = true by simp [fitB, wideB]))
  obtain ⟨L, hL⟩ : ∃ L, L = leB n 8 ++ (leB a1.size 2 ++ a1.data.toList) := ⟨_, rfl⟩
  have hlen : L.length = 10 + a1.size := by rw [hL, List.length_append, List.length_append, leB_length, leB_length, show a1.data.toList.length = a1.size from rfl]; omega
  obtain ⟨S, hS⟩ : ∃ S, S = txt L := ⟨_, rfl⟩
  have zS : (S.size : Int) = 10 + (a1.size : Int) := by rw [hS, txt_size, hlen]; omega
  obtain ⟨k, hk⟩ : ∃ k : Nat, (k : Int) = a2 % (10 + (a1.size : Int)) := ⟨(a2 % (10 + (a1.size : Int))).toNat, by have := Int.emod_nonneg a2 (show 10 + (a1.size : Int) ≠ 0 by omega); omega⟩
  have hklt : k < 10 + a1.size := by have := Int.emod_lt_of_pos a2 (show (0 : Int) < 10 + (a1.size : Int) by omega); omega
  have hk' : a2 % (10 + (a1.size : Int)) = (k : Int) := hk.symm
  have eX : S.extract 0 k = txt (L.take k) := by rw [hS, txt_extract]; simp
  have zX : (txt (L.take k)).size = k := by rw [txt_size]; simp; omega
  have C1 := Lib.hid (fun (h : k < 8) => cut_short L k h (by omega))
  have C2 := Lib.hid (fun (h : 8 ≤ k) => cut_num n (leB a1.size 2 ++ a1.data.toList) k h (by omega))
  have C3 := Lib.hid (fun (h : 8 ≤ k) => cut_text n a1 hs3 k h hklt)
  rw [← hL] at C2 C3
  have HL := Lib.hid hL
  have HS := Lib.hid hS
  obtain ⟨X, hX⟩ : ∃ X, X = txt (L.take k) := ⟨_, rfl⟩
  rw [← hX] at C1 C2 C3 zX eX
  have zb : X.size ≤ 1000000 := by omega
  have k1 : (k : Int) ≤ 10 + (a1.size : Int) := by omega
  have k2 : (0 : Int) ≤ (k : Int) := by omega
  have HLEN := Lib.hid hlen
  clear hL hS hX hk hn hlen hs2 zX
  by_cases h8 : k < 8
  · have D := Lib.hid (C1.out h8)
    have j1 : (k : Int) < 8 := by omega
    clear C1 C2 C3 h8
    go_enter Tryd.func12, Tryd.ntmps12
    go_wp2_with fail
    refine (newWriterN N0.out).mono ?_
    rintro e w1 ⟨c1, rfl, hc1, hW1, -, hN1⟩
    obtain ⟨w2, hw2⟩ : ∃ w2, w2 = w1 := ⟨_, rfl⟩
    have X1 := Lib.hid (And.intro hN1 hW1)
    clear hW1 hN1 hc1 hw2
    go_wp2_with fail
    refine (wnumN (n : Int) 8 X1.out.1 X1.out.2 (by omega) (by omega) (by omega) (by omega) (by simp)).mono ?_
    rintro e w3 ⟨v3, E3, F3, rfl, hE3, -, hW3, -, hN3⟩
    rw [HA.out.1] at hE3
    rw [HA.out.2] at hW3
    simp only [List.nil_append, Int.toNat_natCast, Int.reduceToNat] at hW3
    have E3 := Lib.hid hE3
    have X3 := Lib.hid (And.intro hN3 hW3)
    clear hE3 hN3 hW3
    go_wp2_with fail
    refine (codeN X3.out.1 E3.out (by simp)).mono ?_
    rintro e w4 ⟨rfl, m4, hN4⟩
    have X4 := Lib.hid (And.intro hN4 (X3.out.2.mod0 m4))
    clear m4 hN4
    simp only [List.headD_nil]
    go_wp2_with fail
    refine (wtextN a1 X4.out.1 X4.out.2 (by omega) (by simp [leB_length])).mono ?_
    rintro e w5 ⟨v5, E5, F5, rfl, hE5, -, hW5, -, hN5⟩
    rw [hT.out.1] at hE5
    rw [hT.out.2, List.append_assoc, ← HL.out] at hW5
    have E5 := Lib.hid hE5
    have X5 := Lib.hid (And.intro hN5 hW5)
    clear hE5 hN5 hW5
    go_wp2_with fail
    refine (codeN X5.out.1 E5.out (by simp)).mono ?_
    rintro e w6 ⟨rfl, m6, hN6⟩
    have X6 := Lib.hid (And.intro hN6 (X5.out.2.mod0 m6))
    clear m6 hN6
    simp only [List.headD_nil]
    go_wp2_with fail
    refine (wbytesT w6 c1 L F5 X6.out.2.h S HS.out).mono ?_
    rintro e w7 ⟨rfl, rfl⟩
    go_wp2_with fail
    refine (newReaderN X X6.out.1).mono ?_
    rintro e w8 ⟨br, rfl, -, hR8, -, hN8⟩
    have X8 := Lib.hid (And.intro hN8 hR8)
    clear hN8 hR8
    go_wp2_with fail
    refine (rnumN 8 X8.out.1 X8.out.2 zb (by omega) (by omega)).mono ?_
    rintro e w9 ⟨v9, E9, rfl, hE9, -, hR9, -, hN9⟩
    rw [D.out.2.1] at hE9
    rw [D.out.2.2] at hR9
    rw [D.out.1]
    have E9 := Lib.hid hE9
    have X9 := Lib.hid (And.intro hN9 hR9)
    clear hE9 hN9 hR9
    go_wp2_with fail
    refine (codeN X9.out.1 E9.out (by simp)).mono ?_
    rintro e w10 ⟨rfl, m10, hN10⟩
    have X10 := Lib.hid (And.intro hN10 (And.intro (X9.out.2.mod0 m10) (E9.out.mod0 m10)))
    clear hN10 m10
    simp only [List.headD_cons]
    go_wp2_with fail
    refine (rat_calls w10 br X 0 X10.out.2.1.h).mono ?_
    rintro e w11 ⟨rfl, rfl⟩
    go_wp2_with fail
    refine (chain_calls w10 v9 [10] _ X10.out.2.2 X10.out.1.t (by simp)).mono ?_
    rintro e w12 ⟨vl, rfl, ho, m12⟩
    obtain ⟨A9, cap9, rfl, _⟩ := (own_slA ho).ex
    have X12 := Lib.hid (X10.out.1.step0 m12)
    clear ho m12
    simp only [List.length_cons, List.length_nil]
    go_wp2
    go_ret
    exact ⟨rfl, X12.out.bel⟩
  have h8' : 8 ≤ k := by omega
  have D := Lib.hid (C2.out h8')
  obtain ⟨l, d1, d2, d3, d4⟩ := C3.out h8'
  have j1 : ¬ (k : Int) < 8 := by omega
  have D1 := Lib.hid d1
  have D3 := Lib.hid d3
  have D4 := Lib.hid d4
  clear d1 d3 d4 C1 C2 C3 h8
  by_cases h10 : 10 ≤ k

  · have j2 : decide ((10 : Int) ≤ (k : Int)) = true := by simp; omega
    rw [if_pos h10] at d2
    have hl9 : l.length ≤ 1000 := by omega
    have D2 := Lib.hid d2
    clear d2 h10
    go_enter Tryd.func12, Tryd.ntmps12
    go_wp2_with fail
    refine (newWriterN N0.out).mono ?_
    rintro e w1 ⟨c1, rfl, hc1, hW1, -, hN1⟩
    obtain ⟨w2, hw2⟩ : ∃ w2, w2 = w1 := ⟨_, rfl⟩
    have X1 := Lib.hid (And.intro hN1 hW1)
    clear hW1 hN1 hc1 hw2
    go_wp2_with fail
    refine (wnumN (n : Int) 8 X1.out.1 X1.out.2 (by omega) (by omega) (by omega) (by omega) (by simp)).mono ?_
    rintro e w3 ⟨v3, E3, F3, rfl, hE3, -, hW3, -, hN3⟩
    rw [HA.out.1] at hE3
    rw [HA.out.2] at hW3
    simp only [List.nil_append, Int.toNat_natCast, Int.reduceToNat] at hW3
    have E3 := Lib.hid hE3
    have X3 := Lib.hid (And.intro hN3 hW3)
    clear hE3 hN3 hW3
    go_wp2_with fail
    refine (codeN X3.out.1 E3.out (by simp)).mono ?_
    rintro e w4 ⟨rfl, m4, hN4⟩
    have X4 := Lib.hid (And.intro hN4 (X3.out.2.mod0 m4))
    clear m4 hN4
    simp only [List.headD_nil]
    go_wp2_with fail
    refine (wtextN a1 X4.out.1 X4.out.2 (by omega) (by simp [leB_length])).mono ?_
    rintro e w5 ⟨v5, E5, F5, rfl, hE5, -, hW5, -, hN5⟩
    rw [hT.out.1] at hE5
    rw [hT.out.2, List.append_assoc, ← HL.out] at hW5
    have E5 := Lib.hid hE5
    have X5 := Lib.hid (And.intro hN5 hW5)
    clear hE5 hN5 hW5
    go_wp2_with fail
    refine (codeN X5.out.1 E5.out (by simp)).mono ?_
    rintro e w6 ⟨rfl, m6, hN6⟩
    have X6 := Lib.hid (And.intro hN6 (X5.out.2.mod0 m6))
    clear m6 hN6
    simp only [List.headD_nil]
    go_wp2_with fail
    refine (wbytesT w6 c1 L F5 X6.out.2.h S HS.out).mono ?_
    rintro e w7 ⟨rfl, rfl⟩
    go_wp2_with fail
    refine (newReaderN X X6.out.1).mono ?_
    rintro e w8 ⟨br, rfl, -, hR8, -, hN8⟩
    have X8 := Lib.hid (And.intro hN8 hR8)
    clear hN8 hR8
    go_wp2_with fail
    refine (rnumN 8 X8.out.1 X8.out.2 zb (by omega) (by omega)).mono ?_
    rintro e w9 ⟨v9, E9, rfl, hE9, -, hR9, -, hN9⟩
    rw [D.out.2.1] at hE9
    rw [D.out.2.2] at hR9
    rw [D.out.1]
    have E9 := Lib.hid hE9
    have X9 := Lib.hid (And.intro hN9 hR9)
    clear hE9 hN9 hR9
    go_wp2_with fail
    refine (rtextN X9.out.1 X9.out.2 zb).mono ?_
    rintro e w10 ⟨v10, E10, rfl, hE10, -, hR10, -, hN10⟩
    rw [D1.out] at hE10
    rw [D4.out] at hR10
    generalize rtS X 8 = sx
    have E10 := Lib.hid hE10
    have X10 := Lib.hid (And.intro hN10 hR10)
    clear hE10 hN10 hR10
    go_wp2_with fail
    refine (codeN X10.out.1 E10.out hl9).mono ?_
    rintro e w11 ⟨rfl, m11, hN11⟩
    have X11 := Lib.hid (And.intro hN11 (And.intro (X10.out.2.mod0 m11) (E10.out.mod0 m11)))
    clear hN11 m11
    rw [D3.out]
    go_wp2_with fail
    refine (rat_calls w11 br X 8 X11.out.2.1.h).mono ?_
    rintro e w12 ⟨rfl, rfl⟩
    go_wp2_with fail
    refine (chain_calls w11 v10 l _ X11.out.2.2 X11.out.1.t hl9).mono ?_
    rintro e w12 ⟨vl, rfl, ho, m12⟩
    obtain ⟨A9, cap9, rfl, _⟩ := (own_slA ho).ex
    have X12 := Lib.hid (X11.out.1.step0 m12)
    clear ho m12
    rw [D2.out]
    go_wp2
    go_ret
    exact ⟨rfl, X12.out.bel⟩
  · have j2 : decide ((10 : Int) ≤ (k : Int)) = false := by simp; omega
    rw [if_neg h10] at d2
    have hl9 : l.length ≤ 1000 := by omega
    have D2 := Lib.hid d2
    clear d2 h10
    go_enter Tryd.func12, Tryd.ntmps12
    go_wp2_with fail
    refine (newWriterN N0.out).mono ?_
    rintro e w1 ⟨c1, rfl, hc1, hW1, -, hN1⟩
    obtain ⟨w2, hw2⟩ : ∃ w2, w2 = w1 := ⟨_, rfl⟩
    have X1 := Lib.hid (And.intro hN1 hW1)
    clear hW1 hN1 hc1 hw2
    go_wp2_with fail
    refine (wnumN (n : Int) 8 X1.out.1 X1.out.2 (by omega) (by omega) (by omega) (by omega) (by simp)).mono ?_
    rintro e w3 ⟨v3, E3, F3, rfl, hE3, -, hW3, -, hN3⟩
    rw [HA.out.1] at hE3
    rw [HA.out.2] at hW3
    simp only [List.nil_append, Int.toNat_natCast, Int.reduceToNat] at hW3
    have E3 := Lib.hid hE3
    have X3 := Lib.hid (And.intro hN3 hW3)
    clear hE3 hN3 hW3
    go_wp2_with fail
    refine (codeN X3.out.1 E3.out (by simp)).mono ?_
    rintro e w4 ⟨rfl, m4, hN4⟩
    have X4 := Lib.hid (And.intro hN4 (X3.out.2.mod0 m4))
    clear m4 hN4
    simp only [List.headD_nil]
    go_wp2_with fail
    refine (wtextN a1 X4.out.1 X4.out.2 (by omega) (by simp [leB_length])).mono ?_
    rintro e w5 ⟨v5, E5, F5, rfl, hE5, -, hW5, -, hN5⟩
    rw [hT.out.1] at hE5
    rw [hT.out.2, List.append_assoc, ← HL.out] at hW5
    have E5 := Lib.hid hE5
    have X5 := Lib.hid (And.intro hN5 hW5)
    clear hE5 hN5 hW5
    go_wp2_with fail
    refine (codeN X5.out.1 E5.out (by simp)).mono ?_
    rintro e w6 ⟨rfl, m6, hN6⟩
    have X6 := Lib.hid (And.intro hN6 (X5.out.2.mod0 m6))
    clear m6 hN6
    simp only [List.headD_nil]
    go_wp2_with fail
    refine (wbytesT w6 c1 L F5 X6.out.2.h S HS.out).mono ?_
    rintro e w7 ⟨rfl, rfl⟩
    go_wp2_with fail
    refine (newReaderN X X6.out.1).mono ?_
    rintro e w8 ⟨br, rfl, -, hR8, -, hN8⟩
    have X8 := Lib.hid (And.intro hN8 hR8)
    clear hN8 hR8
    go_wp2_with fail
    refine (rnumN 8 X8.out.1 X8.out.2 zb (by omega) (by omega)).mono ?_
    rintro e w9 ⟨v9, E9, rfl, hE9, -, hR9, -, hN9⟩
    rw [D.out.2.1] at hE9
    rw [D.out.2.2] at hR9
    rw [D.out.1]
    have E9 := Lib.hid hE9
    have X9 := Lib.hid (And.intro hN9 hR9)
    clear hE9 hN9 hR9
    go_wp2_with fail
    refine (rtextN X9.out.1 X9.out.2 zb).mono ?_
    rintro e w10 ⟨v10, E10, rfl, hE10, -, hR10, -, hN10⟩
    rw [D1.out] at hE10
    rw [D4.out] at hR10
    generalize rtS X 8 = sx
    have E10 := Lib.hid hE10
    have X10 := Lib.hid (And.intro hN10 hR10)
    clear hE10 hN10 hR10
    go_wp2_with fail
    refine (codeN X10.out.1 E10.out hl9).mono ?_
    rintro e w11 ⟨rfl, m11, hN11⟩
    have X11 := Lib.hid (And.intro hN11 (And.intro (X10.out.2.mod0 m11) (E10.out.mod0 m11)))
    clear hN11 m11
    rw [D3.out]
    go_wp2_with fail
    refine (rat_calls w11 br X 8 X11.out.2.1.h).mono ?_
    rintro e w12 ⟨rfl, rfl⟩
    go_wp2_with fail
    refine (chain_calls w11 v10 l _ X11.out.2.2 X11.out.1.t hl9).mono ?_
    rintro e w12 ⟨vl, rfl, ho, m12⟩
    obtain ⟨A9, cap9, rfl, _⟩ := (own_slA ho).ex
    have X12 := Lib.hid (X11.out.1.step0 m12)
    clear ho m12
    rw [D2.out]
    go_wp2
    go_ret
    exact ⟨rfl, X12.out.bel⟩
end Go.Proofs.YthcbhdadbohkjaaDoor
