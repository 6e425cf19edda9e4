/- The walk of the law FieldWrites: whatever is written, a writer answers, and has, the document's bytes. Premise: the library's variable of the type error is as laid. -/
import Derived.Test.YthcbhdadbohkjaaDoorStep
namespace Go.Proofs.YthcbhdadbohkjaaDoor
open Go.RowKit
set_option linter.unusedVariables false
set_option linter.unusedSimpArgs false
attribute [local go_sem ↓] Go.wp_at_zero Go.wp_at_succ
set_option maxRecDepth 100000 in
set_option maxHeartbeats 4000000 in
theorem fieldWrites_walk (W : World) (t0 : ErrT W) (v0 : Value) (c0 : CellOk W (.sl [.int .i64, .int .i64, .int .i64, .str]) v0) :
    Calls Tryd.prog 10 #[v0] W fun e w' => e = .returned (.bool true) ∧ Below W.heap.size W w' := by
  obtain ⟨A, n, cap, kk, nn, cc, ss, rfl, hn, hcap, hS⟩ := steps_inv c0
  have HV := Lib.hid (hS.heavy cap hcap hn)
  have HS := Lib.hid hS
  have N0 := Lib.hid (Nw.refl t0)
  clear c0 hS t0
  go_enter Tryd.func10, Tryd.ntmps10
  go_wp2_with fail
  refine HV.out.mono ?_
  rintro e w1 ⟨⟨bh, rfl, hbh⟩, rfl⟩
  have HB := Lib.hid hbh
  clear hbh
  cases bh with
  | true =>
    go_wp2
    go_ret
    exact ⟨rfl, N0.out.bel⟩
  | false =>
  have hw8 : n + wgt ss n ≤ 8192 := HB.out rfl
  go_wp2_with fail
  refine (newWriterN N0.out).mono ?_
  rintro e w2 ⟨b, rfl, -, hW2, m2, hN2⟩
  obtain ⟨w3, hw3⟩ : ∃ w3, w3 = w2.alloc (.cells #[.slice none 0 0] 47) := ⟨_, rfl⟩
  have m3 : Mod [] w2 w3 := by rw [hw3]; exact (Mod.refl _ _).alloc _
  have hR3 : Wtr w3 47 w2.heap.size [] [w2.heap.size] := by rw [hw3]; exact Wtr.new w2 _
  have TW : Two W w3 b w2.heap.size [] [b] [w2.heap.size] := ⟨hN2.step0 m3, hW2.mod0 m3, ⟨hR3, fun x hx => by simp at hx; have := hN2.le; omega⟩, fun x hx => by simp at hx; have := hW2.h.lt b (by simp); simp; omega⟩
  obtain ⟨b2, hb2⟩ : ∃ b2, b2 = w2.heap.size := ⟨_, rfl⟩
  rw [← hb2] at TW
  have HTW := Lib.hid TW
  have HZ := Lib.hid hw3
  have HB2 := Lib.hid hb2
  clear hW2 m2 hN2 m3 hR3 TW hw3 hb2
  go_wp2
  rw [← HB2.out, ← HZ.out]
  go_loopw [5] (fun i wr => ∃ (k : Nat) (bs : List UInt8) (F F2 : List Nat), k ≤ n ∧ i = .int .i64 k ∧ Two W wr b b2 bs F F2 ∧ bs.length ≤ 10 * k + wgt ss k) (fun i _ => n - (intOf i).toNat)
  case atStart => exact ⟨0, [], _, _, Nat.zero_le _, rfl, HTW.out, by simp⟩
  case round =>
    obtain ⟨k, bs, F, F2, hk, rfl, hT, hl⟩ := hrel
    clear HTW HZ HB2 HV N0 HB
    have hwk := wgt_mono ss hk
    have hl2 : bs.length ≤ 100000 := by omega
    by_cases hlt : k < n
    · have i0 : (0 : Int) ≤ (k : Int) := by omega
      have i1 : (k : Int) < (n : Int) := by omega
      obtain ⟨bb, off, rfl, hcell⟩ := HS.out.ex (by omega)
      obtain ⟨x0, x1, x2, x3⟩ := hcell k hlt
      obtain ⟨n0, n1⟩ := HS.out.bn k hlt
      obtain ⟨k0, k1⟩ := HS.out.bc k hlt
      have hsz := wgt_le hw8 hlt
      have hw1 : wgt ss (k + 1) = wgt ss k + min (ss k).size 1048576 := rfl
      have HW1 := Lib.hid hw1
      have KS := Lib.hid (show ∀ w', Nw W w' → w'.cell? ⟨bb, off + k * 4 + 1, none⟩ = some (.int .i64 (nn k)) ∧ w'.cell? ⟨bb, off + k * 4 + 2, none⟩ = some (.int .i64 (cc k)) from fun w' h => ⟨h.mod.cell' x1 (by simp), h.mod.cell' x2 (by simp)⟩)
      have KT := Lib.hid (show ∀ w', Nw W w' → w'.cell? ⟨bb, off + k * 4 + 3, none⟩ = some (.string (ss k)) from fun w' h => h.mod.cell' x3 (by simp))
      have y0 := hT.n.mod.cell' x0 (by simp)
      clear hcell x0 x1 x2 x3 hw1
      have hT0 := hT.step0 ((Mod.refl [] wr).drew)
      have N0 := Lib.hid hT0.n
      have T0 := Lib.hid hT0
      have TT := Lib.hid hT
      clear hT hT0
      by_cases hk0 : kk k = 0
      · have t1 : (kk k == 0) = true := by simpa using hk0
        clear hk0
        have C1 := Lib.hid (wnumN (nn k) (cc k) N0.out T0.out.p n0 n1 k0 k1 (by omega))
        generalize nn k = nk at *
        generalize cc k = ck at *
        generalize kk k = kkk at *
        have HL := Lib.hid (numB_len bs nk ck)
        go_wp2
        go_region_held3 (fun w' => w'.cell? ⟨bb, off + k * 4 + 1, none⟩ = some (.int .i64 nk) ∧ w'.cell? ⟨bb, off + k * 4 + 2, none⟩ = some (.int .i64 ck))
          ((refine KS.out _ ?_; with_reducible first
            | exact N0.out
            | exact N1.out
            | exact N2.out
            | exact N3.out))
          (first
            | (go_at_call 23; (with_reducible refine C1.out.mono ?_); rintro r w1 ⟨v1, E1, F1, rfl, hE1, hx1, hW1, hG1, hN1⟩; have N1 := Lib.hid hN1; have P1 := Lib.hid (And.intro hE1 (And.intro hx1 (And.intro hW1 hG1))); have R1 := Lib.hid (T0.out.mid hG1); clear hE1 hx1 hW1 hG1 hN1)
            | (go_at_call 27; (with_reducible refine (rwnumN nk ck N1.out R1.out n0 n1 k0 k1 (by omega)).mono ?_); rintro r w2 ⟨v2, E2, F3, rfl, hE2, hx2, hW2, hG2, hN2⟩; have N2 := Lib.hid hN2; have P2 := Lib.hid (And.intro hE2 (T0.out.both P1.out.2.2.2 P1.out.2.2.1 hG2 hW2 hN2)); have ER := Lib.hid (T0.out.errs P1.out.2.2.2 hG2 P1.out.1 P1.out.2.1); clear hE2 hx2 hW2 hG2 hN2)
            | (go_at_call 26; (with_reducible refine (alike_calls w2 v1 v2 _ E1 E2 ER.out P2.out.1 N2.out.t (numL_len _ _)).mono ?_); rintro r w4 ⟨rfl, m4⟩; have P3 := Lib.hid (P2.out.2.step0 m4); have N3 := Lib.hid (N2.out.step0 m4); clear m4))
        go_wp2
        go_roundw
        case rel => exact ⟨k + 1, _, F1, F3, by omega, by go_num, P3.out, by have := HL.out; have := HW1.out; omega⟩
        case measure => simp [intOf]; omega
      · have t1 : (kk k == 0) = false := by simpa using hk0
        clear hk0
        by_cases hk1 : kk k = 1
        · have t2 : (kk k == 1) = true := by simpa using hk1
          clear hk1
          have C1 := Lib.hid (wtextN (ss k) N0.out T0.out.p (by omega) (by omega))
          have hb6 : (ss k).size ≤ 140737488351232 := by omega
          generalize hs9 : ss k = sk at *
          generalize kk k = kkk at *
          have HL := Lib.hid (textB_len bs sk)
          have HSZ := Lib.hid hs9
          clear hs9
          go_wp2
          go_region_held3 (fun w' => w'.cell? ⟨bb, off + k * 4 + 3, none⟩ = some (.string sk))
            ((refine KT.out _ ?_; with_reducible first
              | exact N0.out
              | exact N1.out
              | exact N2.out
              | exact N3.out))
            (first
              | (go_at_call 28; (with_reducible refine C1.out.mono ?_); rintro r w1 ⟨v1, E1, F1, rfl, hE1, hx1, hW1, hG1, hN1⟩; have N1 := Lib.hid hN1; have P1 := Lib.hid (And.intro hE1 (And.intro hx1 (And.intro hW1 hG1))); have R1 := Lib.hid (T0.out.mid hG1); clear hE1 hx1 hW1 hG1 hN1)
              | (go_at_call 29; (with_reducible refine (rwtextN sk N1.out R1.out hb6 (by omega)).mono ?_); rintro r w2 ⟨v2, E2, F3, rfl, hE2, hx2, hW2, hG2, hN2⟩; have N2 := Lib.hid hN2; have P2 := Lib.hid (And.intro hE2 (T0.out.both P1.out.2.2.2 P1.out.2.2.1 hG2 hW2 hN2)); have ER := Lib.hid (T0.out.errs P1.out.2.2.2 hG2 P1.out.1 P1.out.2.1); clear hE2 hx2 hW2 hG2 hN2)
              | (go_at_call 26; (with_reducible refine (alike_calls w2 v1 v2 _ E1 E2 ER.out P2.out.1 N2.out.t (textL_len _)).mono ?_); rintro r w4 ⟨rfl, m4⟩; have P3 := Lib.hid (P2.out.2.step0 m4); have N3 := Lib.hid (N2.out.step0 m4); clear m4))
          go_wp2
          go_roundw
          case rel => exact ⟨k + 1, _, F1, F3, by omega, by go_num, P3.out, by have := HL.out; have := HW1.out; omega⟩
          case measure => simp [intOf]; omega
        · have t2 : (kk k == 1) = false := by simpa using hk1
          clear hk1
          generalize kk k = kkk at *
          go_wp2
          go_roundw
          case rel => exact ⟨k + 1, bs, F, F2, by omega, by go_num, TT.out, by have := HW1.out; omega⟩
          case measure => simp [intOf]; omega
    · have i1 : ¬ (k : Int) < (n : Int) := by omega
      have TT := Lib.hid hT
      clear hT
      go_wp2_with fail
      refine (wbytes_calls wr b bs F TT.out.p.h).mono ?_
      rintro e w4 ⟨rfl, rfl⟩
      go_wp2_with fail
      refine (rwbytes_calls wr b2 bs F2 TT.out.r.h).mono ?_
      rintro e w4 ⟨rfl, rfl⟩
      go_wp2_with fail
      refine (wnumN 1 3 TT.out.n TT.out.p (by omega) (by omega) (by omega) (by omega) (by omega)).mono ?_
      rintro e w6 ⟨v6, E6, F6, rfl, hE6, -, -, -, hN6⟩
      rw [fit13] at hE6
      have N6 := Lib.hid hN6
      have E6 := Lib.hid hE6
      clear hN6 hE6
      go_wp2_with fail
      refine (codeN N6.out E6.out (by simp)).mono ?_
      rintro e w7 ⟨rfl, -, hN7⟩
      have N7 := Lib.hid hN7
      clear hN7
      simp only [List.headD_cons]
      go_wp2
      go_ret
      exact ⟨rfl, N7.out.bel⟩
end Go.Proofs.YthcbhdadbohkjaaDoor
