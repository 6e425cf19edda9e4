/- The walk of the law FieldWide: a number takes as many bytes as are asked for; what does not fit is refused; the lowest byte stands first. Premise: the library's variable of the type error is as laid. (Written by wip/tools/genWide.py.) -/
import Derived.Test.YthcbhdadbohkjaaDoorNw
namespace Go.Proofs.YthcbhdadbohkjaaDoor
open Go.RowKit
set_option linter.unusedVariables false
set_option linter.unusedSimpArgs false
attribute [local go_sem ↓] Go.wp_at_zero Go.wp_at_succ
theorem leB_cons (n k : Nat) : leB n (k + 1) = UInt8.ofNat (n % 256) :: (List.range k).map (fun i => UInt8.ofNat (n / 256 ^ (i + 1) % 256)) := by
  unfold leB
  rw [List.range_succ_eq_map]
  simp
/-- The text of a number's bytes: its size, its first byte. -/
theorem leB_text (n k : Nat) (hk : 0 < k) : ∃ S : ByteArray, S = ⟨(leB n k).toArray⟩ ∧ S.size = k ∧ ∀ h : 0 < S.size, ((S[0]'h).toNat : Int) = (n : Int) % 256 := by
  refine ⟨_, rfl, by show (leB n k).toArray.size = k; simp [leB_length], fun h => ?_⟩
  obtain ⟨k', rfl⟩ : ∃ k', k = k' + 1 := ⟨k - 1, by omega⟩
  have : (⟨(leB n (k' + 1)).toArray⟩ : ByteArray)[0]'h = UInt8.ofNat (n % 256) := by
    show (leB n (k' + 1)).toArray[0]'_ = _
    simp [leB_cons]
  rw [this]
  simp
set_option maxRecDepth 100000 in
set_option maxHeartbeats 2000000 in
theorem fieldWide_walk (W : World) (t0 : ErrT W) (a0 : Int) (w0 : (Lit.int .i64 a0).wf = true)
    (a1 : Int) (w1 : (Lit.int .u8 a1).wf = true) :
    Calls Tryd.prog 9 #[.int .i64 a0, .int .u8 a1] W fun e w' => e = .returned (.bool true) ∧ Below W.heap.size W w' := by
  obtain ⟨b0, b1⟩ := bd_i64 w0
  obtain ⟨b2, b3⟩ := bd_u8 w1
  clear w0 w1
  obtain ⟨W1, hW1⟩ : ∃ W1, W1 = W.alloc (.cells #[.int .i64 1, .int .i64 2, .int .i64 4, .int .i64 8] 3) := ⟨_, rfl⟩
  have M1 : Mod [] W W1 := by rw [hW1]; exact (Mod.refl _ _).alloc _
  have HZ := Lib.hid hW1
  have N1 := Lib.hid ((Nw.refl t0).step0 M1)
  clear M1 hW1 t0
  have h4 : a1 % 4 = 0 ∨ a1 % 4 = 1 ∨ a1 % 4 = 2 ∨ a1 % 4 = 3 := by omega
  rcases h4 with h4 | h4 | h4 | h4
  · cases hf : fitB a0 1
    · have HF := Lib.hid (fit_no hf)
      have hfit : ¬ (0 ≤ a0 ∧ a0 < 256) := by
        intro h
        have : fitB a0 1 = true := by simp [fitB, wideB]; omega
        rw [hf] at this
        cases this
      clear hf
      by_cases hn : 0 ≤ a0
      · have q1 : decide (0 ≤ a0) = true := by simpa using hn
        have q2 : decide (a0 < 256) = false := by simp; omega
        go_enter Tryd.func9, Tryd.ntmps9
        go_wp2_with fail
        rw [← HZ.out]
        refine (newWriterN N1.out).mono ?_
        rintro e w2 ⟨b, rfl, -, hW2, -, hN2⟩
        have HW2 := Lib.hid hW2
        have N2 := Lib.hid hN2
        clear hW2 hN2
        go_wp2_with fail
        refine (wnumN a0 1 N2.out HW2.out b0 b1 (by omega) (by omega) (by simp)).mono ?_
        rintro e w3 ⟨v3, E3, F3, rfl, hE3, -, hW3, -, hN3⟩
        rw [HF.out.1] at hE3
        rw [HF.out.2] at hW3
        have HW3 := Lib.hid hW3
        have N3 := Lib.hid hN3
        have E3 := Lib.hid hE3
        clear hW3 hN3 hE3
        go_wp2_with fail
        refine (codeN N3.out E3.out (by simp)).mono ?_
        rintro e w4 ⟨rfl, m4, hN4⟩
        have N4 := Lib.hid hN4
        have HW4 := Lib.hid (HW3.out.mod0 m4)
        clear hN4 m4
        simp only [List.headD_cons, List.headD_nil]
        go_wp2_with fail
        refine (wbytes_calls w4 b _ F3 HW4.out.h).mono ?_
        rintro e w5 ⟨rfl, rfl⟩
        go_wp2
        go_ret
        exact ⟨rfl, N4.out.bel⟩
      · have q1 : decide (0 ≤ a0) = false := by simpa using hn
        go_enter Tryd.func9, Tryd.ntmps9
        go_wp2_with fail
        rw [← HZ.out]
        refine (newWriterN N1.out).mono ?_
        rintro e w2 ⟨b, rfl, -, hW2, -, hN2⟩
        have HW2 := Lib.hid hW2
        have N2 := Lib.hid hN2
        clear hW2 hN2
        go_wp2_with fail
        refine (wnumN a0 1 N2.out HW2.out b0 b1 (by omega) (by omega) (by simp)).mono ?_
        rintro e w3 ⟨v3, E3, F3, rfl, hE3, -, hW3, -, hN3⟩
        rw [HF.out.1] at hE3
        rw [HF.out.2] at hW3
        have HW3 := Lib.hid hW3
        have N3 := Lib.hid hN3
        have E3 := Lib.hid hE3
        clear hW3 hN3 hE3
        go_wp2_with fail
        refine (codeN N3.out E3.out (by simp)).mono ?_
        rintro e w4 ⟨rfl, m4, hN4⟩
        have N4 := Lib.hid hN4
        have HW4 := Lib.hid (HW3.out.mod0 m4)
        clear hN4 m4
        simp only [List.headD_cons, List.headD_nil]
        go_wp2_with fail
        refine (wbytes_calls w4 b _ F3 HW4.out.h).mono ?_
        rintro e w5 ⟨rfl, rfl⟩
        go_wp2
        go_ret
        exact ⟨rfl, N4.out.bel⟩
    · have HF := Lib.hid (fit_yes hf)
      have hfit : 0 ≤ a0 ∧ a0 < 256 := by
        simp [fitB, wideB] at hf
        omega
      clear hf
      obtain ⟨n, rfl⟩ : ∃ n : Nat, a0 = (n : Int) := ⟨a0.toNat, by omega⟩
      have q1 : decide (0 ≤ (n : Int)) = true := by simp
      have q2 : decide ((n : Int) < 256) = true := by simp; omega
      obtain ⟨S, hS, hz, hb0⟩ := leB_text n 1 (by omega)
      have HS := Lib.hid hS
      clear hS
      go_enter Tryd.func9, Tryd.ntmps9
      go_wp2_with fail
      rw [← HZ.out]
      refine (newWriterN N1.out).mono ?_
      rintro e w2 ⟨b, rfl, -, hW2, -, hN2⟩
      have HW2 := Lib.hid hW2
      have N2 := Lib.hid hN2
      clear hW2 hN2
      go_wp2_with fail
      refine (wnumN (n : Int) 1 N2.out HW2.out b0 b1 (by omega) (by omega) (by simp)).mono ?_
      rintro e w3 ⟨v3, E3, F3, rfl, hE3, -, hW3, -, hN3⟩
      rw [HF.out.1] at hE3
      rw [HF.out.2] at hW3
      have HW3 := Lib.hid hW3
      have N3 := Lib.hid hN3
      have E3 := Lib.hid hE3
      clear hW3 hN3 hE3
      go_wp2_with fail
      refine (codeN N3.out E3.out (by simp)).mono ?_
      rintro e w4 ⟨rfl, m4, hN4⟩
      have N4 := Lib.hid hN4
      have HW4 := Lib.hid (HW3.out.mod0 m4)
      clear hN4 m4
      simp only [List.headD_cons, List.headD_nil]
      go_wp2_with fail
      refine (wbytes_calls w4 b _ F3 HW4.out.h).mono ?_
      rintro e w5 ⟨rfl, rfl⟩
      simp only [List.nil_append, Int.toNat_natCast, Int.reduceToNat]
      rw [← HS.out]
      have hz' : (S.size : Int) = 1 := by omega
      have h0 : 0 < S.size := by omega
      have e0 := hb0 h0
      have HB := Lib.hid hb0
      clear hb0 hz
      go_wp2_with fail
      refine (wnumN 1 3 N4.out HW4.out (by omega) (by omega) (by omega) (by omega) (by simp [leB_length])).mono ?_
      rintro e w6 ⟨v6, E6, F6, rfl, hE6, -, -, -, hN6⟩
      rw [fit13] at hE6
      have N6 := Lib.hid hN6
      have E6 := Lib.hid hE6
      clear hN6 hE6
      go_wp2_with fail
      refine (codeN N6.out E6.out (by simp)).mono ?_
      rintro e w7 ⟨rfl, -, hN7⟩
      have N7 := Lib.hid hN7
      clear hN7
      simp only [List.headD_cons]
      go_wp2
      go_ret
      exact ⟨rfl, N7.out.bel⟩
  · cases hf : fitB a0 2
    · have HF := Lib.hid (fit_no hf)
      have hfit : ¬ (0 ≤ a0 ∧ a0 < 65536) := by
        intro h
        have : fitB a0 2 = true := by simp [fitB, wideB]; omega
        rw [hf] at this
        cases this
      clear hf
      by_cases hn : 0 ≤ a0
      · have q1 : decide (0 ≤ a0) = true := by simpa using hn
        have q2 : decide (a0 < 65536) = false := by simp; omega
        go_enter Tryd.func9, Tryd.ntmps9
        go_wp2_with fail
        rw [← HZ.out]
        refine (newWriterN N1.out).mono ?_
        rintro e w2 ⟨b, rfl, -, hW2, -, hN2⟩
        have HW2 := Lib.hid hW2
        have N2 := Lib.hid hN2
        clear hW2 hN2
        go_wp2_with fail
        refine (wnumN a0 2 N2.out HW2.out b0 b1 (by omega) (by omega) (by simp)).mono ?_
        rintro e w3 ⟨v3, E3, F3, rfl, hE3, -, hW3, -, hN3⟩
        rw [HF.out.1] at hE3
        rw [HF.out.2] at hW3
        have HW3 := Lib.hid hW3
        have N3 := Lib.hid hN3
        have E3 := Lib.hid hE3
        clear hW3 hN3 hE3
        go_wp2_with fail
        refine (codeN N3.out E3.out (by simp)).mono ?_
        rintro e w4 ⟨rfl, m4, hN4⟩
        have N4 := Lib.hid hN4
        have HW4 := Lib.hid (HW3.out.mod0 m4)
        clear hN4 m4
        simp only [List.headD_cons, List.headD_nil]
        go_wp2_with fail
        refine (wbytes_calls w4 b _ F3 HW4.out.h).mono ?_
        rintro e w5 ⟨rfl, rfl⟩
        go_wp2
        go_ret
        exact ⟨rfl, N4.out.bel⟩
      · have q1 : decide (0 ≤ a0) = false := by simpa using hn
        go_enter Tryd.func9, Tryd.ntmps9
        go_wp2_with fail
        rw [← HZ.out]
        refine (newWriterN N1.out).mono ?_
        rintro e w2 ⟨b, rfl, -, hW2, -, hN2⟩
        have HW2 := Lib.hid hW2
        have N2 := Lib.hid hN2
        clear hW2 hN2
        go_wp2_with fail
        refine (wnumN a0 2 N2.out HW2.out b0 b1 (by omega) (by omega) (by simp)).mono ?_
        rintro e w3 ⟨v3, E3, F3, rfl, hE3, -, hW3, -, hN3⟩
        rw [HF.out.1] at hE3
        rw [HF.out.2] at hW3
        have HW3 := Lib.hid hW3
        have N3 := Lib.hid hN3
        have E3 := Lib.hid hE3
        clear hW3 hN3 hE3
        go_wp2_with fail
        refine (codeN N3.out E3.out (by simp)).mono ?_
        rintro e w4 ⟨rfl, m4, hN4⟩
        have N4 := Lib.hid hN4
        have HW4 := Lib.hid (HW3.out.mod0 m4)
        clear hN4 m4
        simp only [List.headD_cons, List.headD_nil]
        go_wp2_with fail
        refine (wbytes_calls w4 b _ F3 HW4.out.h).mono ?_
        rintro e w5 ⟨rfl, rfl⟩
        go_wp2
        go_ret
        exact ⟨rfl, N4.out.bel⟩
    · have HF := Lib.hid (fit_yes hf)
      have hfit : 0 ≤ a0 ∧ a0 < 65536 := by
        simp [fitB, wideB] at hf
        omega
      clear hf
      obtain ⟨n, rfl⟩ : ∃ n : Nat, a0 = (n : Int) := ⟨a0.toNat, by omega⟩
      have q1 : decide (0 ≤ (n : Int)) = true := by simp
      have q2 : decide ((n : Int) < 65536) = true := by simp; omega
      obtain ⟨S, hS, hz, hb0⟩ := leB_text n 2 (by omega)
      have HS := Lib.hid hS
      clear hS
      go_enter Tryd.func9, Tryd.ntmps9
      go_wp2_with fail
      rw [← HZ.out]
      refine (newWriterN N1.out).mono ?_
      rintro e w2 ⟨b, rfl, -, hW2, -, hN2⟩
      have HW2 := Lib.hid hW2
      have N2 := Lib.hid hN2
      clear hW2 hN2
      go_wp2_with fail
      refine (wnumN (n : Int) 2 N2.out HW2.out b0 b1 (by omega) (by omega) (by simp)).mono ?_
      rintro e w3 ⟨v3, E3, F3, rfl, hE3, -, hW3, -, hN3⟩
      rw [HF.out.1] at hE3
      rw [HF.out.2] at hW3
      have HW3 := Lib.hid hW3
      have N3 := Lib.hid hN3
      have E3 := Lib.hid hE3
      clear hW3 hN3 hE3
      go_wp2_with fail
      refine (codeN N3.out E3.out (by simp)).mono ?_
      rintro e w4 ⟨rfl, m4, hN4⟩
      have N4 := Lib.hid hN4
      have HW4 := Lib.hid (HW3.out.mod0 m4)
      clear hN4 m4
      simp only [List.headD_cons, List.headD_nil]
      go_wp2_with fail
      refine (wbytes_calls w4 b _ F3 HW4.out.h).mono ?_
      rintro e w5 ⟨rfl, rfl⟩
      simp only [List.nil_append, Int.toNat_natCast, Int.reduceToNat]
      rw [← HS.out]
      have hz' : (S.size : Int) = 2 := by omega
      have h0 : 0 < S.size := by omega
      have e0 := hb0 h0
      have HB := Lib.hid hb0
      clear hb0 hz
      go_wp2_with fail
      refine (wnumN 1 3 N4.out HW4.out (by omega) (by omega) (by omega) (by omega) (by simp [leB_length])).mono ?_
      rintro e w6 ⟨v6, E6, F6, rfl, hE6, -, -, -, hN6⟩
      rw [fit13] at hE6
      have N6 := Lib.hid hN6
      have E6 := Lib.hid hE6
      clear hN6 hE6
      go_wp2_with fail
      refine (codeN N6.out E6.out (by simp)).mono ?_
      rintro e w7 ⟨rfl, -, hN7⟩
      have N7 := Lib.hid hN7
      clear hN7
      simp only [List.headD_cons]
      go_wp2
      go_ret
      exact ⟨rfl, N7.out.bel⟩
  · cases hf : fitB a0 4
    · have HF := Lib.hid (fit_no hf)
      have hfit : ¬ (0 ≤ a0 ∧ a0 < 4294967296) := by
        intro h
        have : fitB a0 4 = true := by simp [fitB, wideB]; omega
        rw [hf] at this
        cases this
      clear hf
      by_cases hn : 0 ≤ a0
      · have q1 : decide (0 ≤ a0) = true := by simpa using hn
        have q2 : decide (a0 < 4294967296) = false := by simp; omega
        go_enter Tryd.func9, Tryd.ntmps9
        go_wp2_with fail
        rw [← HZ.out]
        refine (newWriterN N1.out).mono ?_
        rintro e w2 ⟨b, rfl, -, hW2, -, hN2⟩
        have HW2 := Lib.hid hW2
        have N2 := Lib.hid hN2
        clear hW2 hN2
        go_wp2_with fail
        refine (wnumN a0 4 N2.out HW2.out b0 b1 (by omega) (by omega) (by simp)).mono ?_
        rintro e w3 ⟨v3, E3, F3, rfl, hE3, -, hW3, -, hN3⟩
        rw [HF.out.1] at hE3
        rw [HF.out.2] at hW3
        have HW3 := Lib.hid hW3
        have N3 := Lib.hid hN3
        have E3 := Lib.hid hE3
        clear hW3 hN3 hE3
        go_wp2_with fail
        refine (codeN N3.out E3.out (by simp)).mono ?_
        rintro e w4 ⟨rfl, m4, hN4⟩
        have N4 := Lib.hid hN4
        have HW4 := Lib.hid (HW3.out.mod0 m4)
        clear hN4 m4
        simp only [List.headD_cons, List.headD_nil]
        go_wp2_with fail
        refine (wbytes_calls w4 b _ F3 HW4.out.h).mono ?_
        rintro e w5 ⟨rfl, rfl⟩
        go_wp2
        go_ret
        exact ⟨rfl, N4.out.bel⟩
      · have q1 : decide (0 ≤ a0) = false := by simpa using hn
        go_enter Tryd.func9, Tryd.ntmps9
        go_wp2_with fail
        rw [← HZ.out]
        refine (newWriterN N1.out).mono ?_
        rintro e w2 ⟨b, rfl, -, hW2, -, hN2⟩
        have HW2 := Lib.hid hW2
        have N2 := Lib.hid hN2
        clear hW2 hN2
        go_wp2_with fail
        refine (wnumN a0 4 N2.out HW2.out b0 b1 (by omega) (by omega) (by simp)).mono ?_
        rintro e w3 ⟨v3, E3, F3, rfl, hE3, -, hW3, -, hN3⟩
        rw [HF.out.1] at hE3
        rw [HF.out.2] at hW3
        have HW3 := Lib.hid hW3
        have N3 := Lib.hid hN3
        have E3 := Lib.hid hE3
        clear hW3 hN3 hE3
        go_wp2_with fail
        refine (codeN N3.out E3.out (by simp)).mono ?_
        rintro e w4 ⟨rfl, m4, hN4⟩
        have N4 := Lib.hid hN4
        have HW4 := Lib.hid (HW3.out.mod0 m4)
        clear hN4 m4
        simp only [List.headD_cons, List.headD_nil]
        go_wp2_with fail
        refine (wbytes_calls w4 b _ F3 HW4.out.h).mono ?_
        rintro e w5 ⟨rfl, rfl⟩
        go_wp2
        go_ret
        exact ⟨rfl, N4.out.bel⟩
    · have HF := Lib.hid (fit_yes hf)
      have hfit : 0 ≤ a0 ∧ a0 < 4294967296 := by
        simp [fitB, wideB] at hf
        omega
      clear hf
      obtain ⟨n, rfl⟩ : ∃ n : Nat, a0 = (n : Int) := ⟨a0.toNat, by omega⟩
      have q1 : decide (0 ≤ (n : Int)) = true := by simp
      have q2 : decide ((n : Int) < 4294967296) = true := by simp; omega
      obtain ⟨S, hS, hz, hb0⟩ := leB_text n 4 (by omega)
      have HS := Lib.hid hS
      clear hS
      go_enter Tryd.func9, Tryd.ntmps9
      go_wp2_with fail
      rw [← HZ.out]
      refine (newWriterN N1.out).mono ?_
      rintro e w2 ⟨b, rfl, -, hW2, -, hN2⟩
      have HW2 := Lib.hid hW2
      have N2 := Lib.hid hN2
      clear hW2 hN2
      go_wp2_with fail
      refine (wnumN (n : Int) 4 N2.out HW2.out b0 b1 (by omega) (by omega) (by simp)).mono ?_
      rintro e w3 ⟨v3, E3, F3, rfl, hE3, -, hW3, -, hN3⟩
      rw [HF.out.1] at hE3
      rw [HF.out.2] at hW3
      have HW3 := Lib.hid hW3
      have N3 := Lib.hid hN3
      have E3 := Lib.hid hE3
      clear hW3 hN3 hE3
      go_wp2_with fail
      refine (codeN N3.out E3.out (by simp)).mono ?_
      rintro e w4 ⟨rfl, m4, hN4⟩
      have N4 := Lib.hid hN4
      have HW4 := Lib.hid (HW3.out.mod0 m4)
      clear hN4 m4
      simp only [List.headD_cons, List.headD_nil]
      go_wp2_with fail
      refine (wbytes_calls w4 b _ F3 HW4.out.h).mono ?_
      rintro e w5 ⟨rfl, rfl⟩
      simp only [List.nil_append, Int.toNat_natCast, Int.reduceToNat]
      rw [← HS.out]
      have hz' : (S.size : Int) = 4 := by omega
      have h0 : 0 < S.size := by omega
      have e0 := hb0 h0
      have HB := Lib.hid hb0
      clear hb0 hz
      go_wp2_with fail
      refine (wnumN 1 3 N4.out HW4.out (by omega) (by omega) (by omega) (by omega) (by simp [leB_length])).mono ?_
      rintro e w6 ⟨v6, E6, F6, rfl, hE6, -, -, -, hN6⟩
      rw [fit13] at hE6
      have N6 := Lib.hid hN6
      have E6 := Lib.hid hE6
      clear hN6 hE6
      go_wp2_with fail
      refine (codeN N6.out E6.out (by simp)).mono ?_
      rintro e w7 ⟨rfl, -, hN7⟩
      have N7 := Lib.hid hN7
      clear hN7
      simp only [List.headD_cons]
      go_wp2
      go_ret
      exact ⟨rfl, N7.out.bel⟩
  · cases hf : fitB a0 8
    · have HF := Lib.hid (fit_no hf)
      have hfit : ¬ (0 ≤ a0 ∧ a0 < 9223372036854775808) := by
        intro h
        have : fitB a0 8 = true := by simp [fitB, wideB]; omega
        rw [hf] at this
        cases this
      clear hf
      by_cases hn : 0 ≤ a0
      · exact absurd ⟨hn, by omega⟩ hfit
      · have q1 : decide (0 ≤ a0) = false := by simpa using hn
        go_enter Tryd.func9, Tryd.ntmps9
        go_wp2_with fail
        rw [← HZ.out]
        refine (newWriterN N1.out).mono ?_
        rintro e w2 ⟨b, rfl, -, hW2, -, hN2⟩
        have HW2 := Lib.hid hW2
        have N2 := Lib.hid hN2
        clear hW2 hN2
        go_wp2_with fail
        refine (wnumN a0 8 N2.out HW2.out b0 b1 (by omega) (by omega) (by simp)).mono ?_
        rintro e w3 ⟨v3, E3, F3, rfl, hE3, -, hW3, -, hN3⟩
        rw [HF.out.1] at hE3
        rw [HF.out.2] at hW3
        have HW3 := Lib.hid hW3
        have N3 := Lib.hid hN3
        have E3 := Lib.hid hE3
        clear hW3 hN3 hE3
        go_wp2_with fail
        refine (codeN N3.out E3.out (by simp)).mono ?_
        rintro e w4 ⟨rfl, m4, hN4⟩
        have N4 := Lib.hid hN4
        have HW4 := Lib.hid (HW3.out.mod0 m4)
        clear hN4 m4
        simp only [List.headD_cons, List.headD_nil]
        go_wp2_with fail
        refine (wbytes_calls w4 b _ F3 HW4.out.h).mono ?_
        rintro e w5 ⟨rfl, rfl⟩
        go_wp2
        go_ret
        exact ⟨rfl, N4.out.bel⟩
    · have HF := Lib.hid (fit_yes hf)
      have hfit : 0 ≤ a0 ∧ a0 < 9223372036854775808 := by
        simp [fitB, wideB] at hf
        omega
      clear hf
      obtain ⟨n, rfl⟩ : ∃ n : Nat, a0 = (n : Int) := ⟨a0.toNat, by omega⟩
      have q1 : decide (0 ≤ (n : Int)) = true := by simp
      have q2 : decide ((n : Int) < 9223372036854775808) = true := by simp; omega
      obtain ⟨S, hS, hz, hb0⟩ := leB_text n 8 (by omega)
      have HS := Lib.hid hS
      clear hS
      go_enter Tryd.func9, Tryd.ntmps9
      go_wp2_with fail
      rw [← HZ.out]
      refine (newWriterN N1.out).mono ?_
      rintro e w2 ⟨b, rfl, -, hW2, -, hN2⟩
      have HW2 := Lib.hid hW2
      have N2 := Lib.hid hN2
      clear hW2 hN2
      go_wp2_with fail
      refine (wnumN (n : Int) 8 N2.out HW2.out b0 b1 (by omega) (by omega) (by simp)).mono ?_
      rintro e w3 ⟨v3, E3, F3, rfl, hE3, -, hW3, -, hN3⟩
      rw [HF.out.1] at hE3
      rw [HF.out.2] at hW3
      have HW3 := Lib.hid hW3
      have N3 := Lib.hid hN3
      have E3 := Lib.hid hE3
      clear hW3 hN3 hE3
      go_wp2_with fail
      refine (codeN N3.out E3.out (by simp)).mono ?_
      rintro e w4 ⟨rfl, m4, hN4⟩
      have N4 := Lib.hid hN4
      have HW4 := Lib.hid (HW3.out.mod0 m4)
      clear hN4 m4
      simp only [List.headD_cons, List.headD_nil]
      go_wp2_with fail
      refine (wbytes_calls w4 b _ F3 HW4.out.h).mono ?_
      rintro e w5 ⟨rfl, rfl⟩
      simp only [List.nil_append, Int.toNat_natCast, Int.reduceToNat]
      rw [← HS.out]
      have hz' : (S.size : Int) = 8 := by omega
      have h0 : 0 < S.size := by omega
      have e0 := hb0 h0
      have HB := Lib.hid hb0
      clear hb0 hz
      go_wp2_with fail
      refine (wnumN 1 3 N4.out HW4.out (by omega) (by omega) (by omega) (by omega) (by simp [leB_length])).mono ?_
      rintro e w6 ⟨v6, E6, F6, rfl, hE6, -, -, -, hN6⟩
      rw [fit13] at hE6
      have N6 := Lib.hid hN6
      have E6 := Lib.hid hE6
      clear hN6 hE6
      go_wp2_with fail
      refine (codeN N6.out E6.out (by simp)).mono ?_
      rintro e w7 ⟨rfl, -, hN7⟩
      have N7 := Lib.hid hN7
      clear hN7
      simp only [List.headD_cons]
      go_wp2
      go_ret
      exact ⟨rfl, N7.out.bel⟩
end Go.Proofs.YthcbhdadbohkjaaDoor
