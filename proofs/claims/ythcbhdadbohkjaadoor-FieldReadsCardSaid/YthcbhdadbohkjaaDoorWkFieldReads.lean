/- The walk of the law FieldReads: whatever is read of any bytes, a reader answers what the document says, and takes as much. Premise: the library's variable of the type error is as laid. -/
import Derived.Test.YthcbhdadbohkjaaDoorNr
import Derived.Test.YthcbhdadbohkjaaDoorStep
namespace Go.Proofs.YthcbhdadbohkjaaDoor
open Go.RowKit
set_option linter.unusedVariables false
set_option linter.unusedSimpArgs false
attribute [local go_sem ↓] Go.wp_at_zero Go.wp_at_succ
theorem rd13 (s : ByteArray) (a : Nat) : rdL s a 3 = [1] := by
  have : wideB 3 = false := by decide
  simp [rdL, this]
set_option maxRecDepth 100000 in
set_option maxHeartbeats 4000000 in
theorem fieldReads_walk (W : World) (t0 : ErrT W) (a0 : ByteArray) (w0 : a0.size ≤ 140737488351232)
    (v1 : Value) (c1 : CellOk W (.sl [.int .i64, .int .i64, .int .i64, .str]) v1) :
    Calls Tryd.prog 11 #[.string a0, v1] W fun e w' => e = .returned (.bool true) ∧ Below W.heap.size W w' := by
  obtain ⟨A, n, cap, kk, nn, cc, ss, rfl, hn, hcap, hS⟩ := steps_inv c1
  have HV := Lib.hid (hS.heavy cap hcap hn)
  have HS := Lib.hid hS
  have N0 := Lib.hid (Nw.refl t0)
  clear c1 hS t0
  by_cases hbig : 4096 < a0.size
  · have i1 : decide ((4096 : Int) < (a0.size : Int)) = true := by simp; omega
    go_enter Tryd.func11, Tryd.ntmps11
    go_wp2
    go_ret
    exact ⟨rfl, N0.out.bel⟩
  have i1 : decide ((4096 : Int) < (a0.size : Int)) = false := by simp; omega
  have hs : a0.size ≤ 1000000 := by omega
  go_enter Tryd.func11, Tryd.ntmps11
  go_wp2_with fail
  refine HV.out.mono ?_
  rintro e w1 ⟨⟨bh, rfl, hbh⟩, rfl⟩
  clear hbh
  cases bh with
  | true =>
    go_wp2
    go_ret
    exact ⟨rfl, N0.out.bel⟩
  | false =>
  go_wp2_with fail
  refine (newReaderN a0 N0.out).mono ?_
  rintro e w2 ⟨b, rfl, -, hR2, m2, hN2⟩
  obtain ⟨w3, hw3⟩ : ∃ w3, w3 = w2.alloc (.cells #[.string a0, .int .i64 0] 61) := ⟨_, rfl⟩
  have m3 : Mod [] w2 w3 := by rw [hw3]; exact (Mod.refl _ _).alloc _
  have hR3 : RdrN W w3 61 w2.heap.size a0 0 := ⟨by rw [hw3]; exact Rdr.new w2 _ a0, hN2.le, Nat.zero_le _⟩
  have hbne : b ≠ w2.heap.size := by have := hR2.lt; omega
  obtain ⟨b2, hb2⟩ : ∃ b2, b2 = w2.heap.size := ⟨_, rfl⟩
  rw [← hb2] at hR3 hbne
  have HP := Lib.hid (And.intro (hN2.step0 m3) (And.intro (hR2.mod0 m3) hR3))
  have HZ := Lib.hid hw3
  have HB2 := Lib.hid hb2
  clear hR2 m2 hN2 m3 hR3 hw3 hb2
  go_wp2
  rw [← HB2.out, ← HZ.out]
  go_loopw [7] (fun i wr => ∃ (k a : Nat), k ≤ n ∧ i = .int .i64 k ∧ Nw W wr ∧ RdrN W wr 90 b a0 a ∧ RdrN W wr 61 b2 a0 a) (fun i _ => n - (intOf i).toNat)
  case atStart => exact ⟨0, 0, Nat.zero_le _, rfl, HP.out.1, HP.out.2.1, HP.out.2.2⟩
  case round =>
    obtain ⟨k, a, hk, rfl, hN, hR, hR'⟩ := hrel
    clear HP HZ HB2 HV N0
    by_cases hlt : k < n
    · have i0 : (0 : Int) ≤ (k : Int) := by omega
      have i1' : (k : Int) < (n : Int) := by omega
      obtain ⟨bb, off, rfl, hcell⟩ := HS.out.ex (by omega)
      obtain ⟨x0, x1, x2, x3⟩ := hcell k hlt
      obtain ⟨k0, k1⟩ := HS.out.bc k hlt
      have KS := Lib.hid (show ∀ w', Nw W w' → w'.cell? ⟨bb, off + k * 4 + 2, none⟩ = some (.int .i64 (cc k)) from fun w' h => h.mod.cell' x2 (by simp))
      have y0 := hN.mod.cell' x0 (by simp)
      have y2 := KS.out wr hN
      clear hcell x0 x1 x2 x3
      have NN := Lib.hid hN
      have RR := Lib.hid hR
      have RR' := Lib.hid hR'
      clear hN hR hR'
      generalize cc k = ck at *
      by_cases hk0 : kk k = 0
      · have t1 : (kk k == 0) = true := by simpa using hk0
        clear hk0
        generalize kk k = kkk at *
        go_wp2_with fail
        refine (rnumN ck NN.out RR.out hs k0 k1).mono ?_
        rintro r w1 ⟨v1, E1, rfl, hE1, hx1, hR1, m1, hN1⟩
        have y3 := KS.out w1 hN1
        have N1 := Lib.hid hN1
        have P1 := Lib.hid (And.intro hE1 (And.intro hx1 hR1))
        have Q1 := Lib.hid (RR'.out.mod m1 (by simp; exact hbne.symm))
        clear hE1 hx1 hR1 m1 hN1
        go_wp2_with fail
        refine (rrnumN ck N1.out Q1.out hs k0 k1).mono ?_
        rintro r w2 ⟨A2, cap2, at2, E2, rfl, hF2, hx2, hR2, m2, hN2⟩
        have hE2 := P1.out.1.mod m2 (fun x hx hb => by
          have h1 := P1.out.2.1 x hx
          have h2 := RR'.out.lt
          simp at hb; omega)
        have hR12 := P1.out.2.2.mod m2 (by simp; exact hbne)
        obtain ⟨x, hx⟩ : ∃ x, x = rdN a0 a ck := ⟨_, rfl⟩
        rw [← hx]
        have mA : Mod [] w2 (w2.alloc (.cells #[.slice A2 (rdL a0 a ck).length cap2, .int .i64 at2] 53)) := (Mod.refl _ _).alloc _
        have AL := Lib.hid (alike_calls _ v1 _ (rdL a0 a ck) E1 E2 (hE2.mod0 mA) (hF2.mod0 mA) (hN2.step0 mA).t (by have := rdL_len a0 a ck; omega))
        have P3 := Lib.hid (And.intro (hN2.step0 mA) (And.intro (hR12.mod0 mA) (hR2.mod0 mA)))
        obtain ⟨ll, hll⟩ : ∃ ll, ll = (rdL a0 a ck).length := ⟨_, rfl⟩
        rw [← hll] at AL P3 ⊢
        clear hF2 hx2 hR2 m2 hN2 hE2 hR12 hx hll mA
        go_wp2_with fail
        refine AL.out.mono ?_
        rintro r w4 ⟨rfl, m4⟩
        have P4 := Lib.hid (And.intro (P3.out.1.step0 m4) (And.intro (P3.out.2.1.mod0 m4) (P3.out.2.2.mod0 m4)))
        clear m4
        have c9 := P4.out.2.2.h.c1
        go_wp2
        go_quiet ((go_at_call 38; exact quiet_ro (rat_calls _ b a0 _ (P4.out.2.1.h.mod0 ((Mod.refl [] _).drewN _)))))
        have P5 := Lib.hid (fun q => And.intro (P4.out.1.step0 ((Mod.refl [] _).drewN q)) (And.intro (P4.out.2.1.mod0 ((Mod.refl [] _).drewN q)) (P4.out.2.2.mod0 ((Mod.refl [] _).drewN q))))
        clear c9
        go_wp2
        go_roundw
        case rel => exact ⟨k + 1, _, by omega, by go_num, (P5.out _).1, (P5.out _).2.1, (P5.out _).2.2⟩
        case measure => simp [intOf]; omega
      have t1 : (kk k == 0) = false := by simpa using hk0
      clear hk0
      by_cases hk1 : kk k = 1
      · have t2 : (kk k == 1) = true := by simpa using hk1
        clear hk1
        generalize kk k = kkk at *
        go_wp2_with fail
        refine (rtextN NN.out RR.out hs).mono ?_
        rintro r w1 ⟨v1, E1, rfl, hE1, hx1, hR1, m1, hN1⟩
        have N1 := Lib.hid hN1
        have P1 := Lib.hid (And.intro hE1 (And.intro hx1 hR1))
        have Q1 := Lib.hid (RR'.out.mod m1 (by simp; exact hbne.symm))
        clear hE1 hx1 hR1 m1 hN1
        go_wp2_with fail
        refine (rrtextN N1.out Q1.out hs).mono ?_
        rintro r w2 ⟨A2, cap2, at2, E2, rfl, hF2, hx2, hR2, m2, hN2⟩
        have hE2 := P1.out.1.mod m2 (fun x hx hb => by
          have h1 := P1.out.2.1 x hx
          have h2 := RR'.out.lt
          simp at hb; omega)
        have hR12 := P1.out.2.2.mod m2 (by simp; exact hbne)
        obtain ⟨x, hx⟩ : ∃ x, x = rtS a0 a := ⟨_, rfl⟩
        rw [← hx]
        have mA : Mod [] w2 (w2.alloc (.cells #[.slice A2 (rtL a0 a).length cap2, .int .i64 at2] 53)) := (Mod.refl _ _).alloc _
        have AL := Lib.hid (alike_calls _ v1 _ (rtL a0 a) E1 E2 (hE2.mod0 mA) (hF2.mod0 mA) (hN2.step0 mA).t (rtL_len a0 a))
        have P3 := Lib.hid (And.intro (hN2.step0 mA) (And.intro (hR12.mod0 mA) (hR2.mod0 mA)))
        obtain ⟨ll, hll⟩ : ∃ ll, ll = (rtL a0 a).length := ⟨_, rfl⟩
        rw [← hll] at AL P3 ⊢
        clear hF2 hx2 hR2 m2 hN2 hE2 hR12 hx hll mA
        go_wp2_with fail
        refine AL.out.mono ?_
        rintro r w4 ⟨rfl, m4⟩
        have P4 := Lib.hid (And.intro (P3.out.1.step0 m4) (And.intro (P3.out.2.1.mod0 m4) (P3.out.2.2.mod0 m4)))
        clear m4
        have c9 := P4.out.2.2.h.c1
        go_wp2
        go_quiet ((go_at_call 38; exact quiet_ro (rat_calls _ b a0 _ (P4.out.2.1.h.mod0 ((Mod.refl [] _).drewN _)))))
        have P5 := Lib.hid (fun q => And.intro (P4.out.1.step0 ((Mod.refl [] _).drewN q)) (And.intro (P4.out.2.1.mod0 ((Mod.refl [] _).drewN q)) (P4.out.2.2.mod0 ((Mod.refl [] _).drewN q))))
        clear c9
        go_wp2
        go_roundw
        case rel => exact ⟨k + 1, _, by omega, by go_num, (P5.out _).1, (P5.out _).2.1, (P5.out _).2.2⟩
        case measure => simp [intOf]; omega
      have t2 : (kk k == 1) = false := by simpa using hk1
      clear hk1
      by_cases hk2 : kk k = 2
      · have t3 : (kk k == 2) = true := by simpa using hk2
        clear hk2
        generalize kk k = kkk at *
        go_wp2_with fail
        refine (rendN NN.out RR.out hs).mono ?_
        rintro r w1 ⟨v1, E1, rfl, hE1, hx1, m1, hN1⟩
        have N1 := Lib.hid hN1
        have P1 := Lib.hid (And.intro hE1 (RR.out.mod0 m1))
        have Q1 := Lib.hid (RR'.out.mod0 m1)
        clear hE1 hx1 m1 hN1
        go_wp2_with fail
        refine (rrendN N1.out Q1.out hs).mono ?_
        rintro r w2 ⟨v2, E2, rfl, hF2, hx2, m2, hN2⟩
        have AL := Lib.hid (alike_calls _ v1 _ (endL a0 a) E1 E2 (P1.out.1.mod0 m2) hF2 hN2.t (endL_len a0 a))
        have P3 := Lib.hid (And.intro hN2 (And.intro (P1.out.2.mod0 m2) (Q1.out.mod0 m2)))
        clear hF2 hx2 m2 hN2
        go_wp2_with fail
        refine AL.out.mono ?_
        rintro r w4 ⟨rfl, m4⟩
        have P4 := Lib.hid (And.intro (P3.out.1.step0 m4) (And.intro (P3.out.2.1.mod0 m4) (P3.out.2.2.mod0 m4)))
        clear m4
        have c9 := P4.out.2.2.h.c1
        go_wp2
        go_quiet ((go_at_call 38; exact quiet_ro (rat_calls _ b a0 _ (P4.out.2.1.h.mod0 ((Mod.refl [] _).drewN _)))))
        have P5 := Lib.hid (fun q => And.intro (P4.out.1.step0 ((Mod.refl [] _).drewN q)) (And.intro (P4.out.2.1.mod0 ((Mod.refl [] _).drewN q)) (P4.out.2.2.mod0 ((Mod.refl [] _).drewN q))))
        clear c9
        go_wp2
        go_roundw
        case rel => exact ⟨k + 1, _, by omega, by go_num, (P5.out _).1, (P5.out _).2.1, (P5.out _).2.2⟩
        case measure => simp [intOf]; omega
      have t3 : (kk k == 2) = false := by simpa using hk2
      clear hk2
      generalize kk k = kkk at *
      have P4 := Lib.hid (And.intro NN.out (And.intro RR.out RR'.out))
      have c9 := P4.out.2.2.h.c1
      go_wp2
      go_quiet ((go_at_call 38; exact quiet_ro (rat_calls _ b a0 _ (P4.out.2.1.h.mod0 ((Mod.refl [] _).drewN _)))))
      have P5 := Lib.hid (fun q => And.intro (P4.out.1.step0 ((Mod.refl [] _).drewN q)) (And.intro (P4.out.2.1.mod0 ((Mod.refl [] _).drewN q)) (P4.out.2.2.mod0 ((Mod.refl [] _).drewN q))))
      clear c9
      go_wp2
      go_roundw
      case rel => exact ⟨k + 1, _, by omega, by go_num, (P5.out _).1, (P5.out _).2.1, (P5.out _).2.2⟩
      case measure => simp [intOf]; omega
    · have i1' : ¬ (k : Int) < (n : Int) := by omega
      have NN := Lib.hid hN
      have RR := Lib.hid hR
      clear hN hR hR'
      go_wp2_with fail
      refine (rnumN 3 NN.out RR.out hs (by omega) (by omega)).mono ?_
      rintro r w1 ⟨v1, E1, rfl, hE1, -, -, -, hN1⟩
      rw [rd13] at hE1
      have E1' := Lib.hid hE1
      have N1 := Lib.hid hN1
      generalize rdN a0 a 3 = x
      clear hE1 hN1
      go_wp2_with fail
      refine (codeN N1.out E1'.out (by simp)).mono ?_
      rintro e w7 ⟨rfl, -, hN7⟩
      have N7 := Lib.hid hN7
      clear hN7
      simp only [List.headD_cons]
      go_wp2
      go_ret
      exact ⟨rfl, N7.out.bel⟩
end Go.Proofs.YthcbhdadbohkjaaDoor
