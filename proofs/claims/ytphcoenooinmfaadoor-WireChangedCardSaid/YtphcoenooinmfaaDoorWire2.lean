/- The document's Check; package wire's columns and Encode, and the document's. Premises: the message lies in memory; the table of steps holds what its initialiser lays. -/
import Derived.Test.YtphcoenooinmfaaDoorWire1
namespace Go.Proofs.YtphcoenooinmfaaDoor
open Go.RowKit
set_option linter.unusedVariables false
set_option linter.unusedSimpArgs false
attribute [local go_sem ↓] Go.wp_at_zero Go.wp_at_succ

set_option maxRecDepth 100000 in
set_option maxHeartbeats 4000000 in
theorem rcheck_calls (w : World) (m : Msg) :
    Calls Tryd.prog 53 #[.agg m.arr] w fun e w' => e = .returned (.int .i64 m.chk) ∧ Mod [] w w' := by
  obtain ⟨b0, h0⟩ : ∃ b, inB (m.x 0) 255 = b := ⟨_, rfl⟩
  obtain ⟨b1, h1⟩ : ∃ b, inB (m.x 1) 7 = b := ⟨_, rfl⟩
  obtain ⟨b2, h2⟩ : ∃ b, inB (m.x 2) 7 = b := ⟨_, rfl⟩
  obtain ⟨b3, h3⟩ : ∃ b, inB (m.x 3) 1099511627776 = b := ⟨_, rfl⟩
  obtain ⟨b4, h4⟩ : ∃ b, inB (m.x 4) 1099511627776 = b := ⟨_, rfl⟩
  obtain ⟨b5, h5⟩ : ∃ b, inB (m.x 5) 256 = b := ⟨_, rfl⟩
  obtain ⟨b6, h6⟩ : ∃ b, inB (m.x 6) 256 = b := ⟨_, rfl⟩
  have hok : m.numsOk = (b0 && (b1 && b2) && (b3 && b4) && (b5 && b6)) := by unfold Msg.numsOk; rw [h0, h1, h2, h3, h4, h5, h6]
  have hc : m.chk = if (b0 && (b1 && b2) && (b3 && b4) && (b5 && b6)) = false then 1 else if 1024 < m.d.size then 11 else 0 := by unfold Msg.chk; rw [hok]
  have HC := Lib.hid hc
  obtain ⟨x, d⟩ := m
  unfold Msg.arr
  simp only at h0 h1 h2 h3 h4 h5 h6 HC ⊢
  generalize x 0 = x0 at *
  generalize x 1 = x1 at *
  generalize x 2 = x2 at *
  generalize x 3 = x3 at *
  generalize x 4 = x4 at *
  generalize x 5 = x5 at *
  generalize x 6 = x6 at *
  have H0 := Lib.hid h0
  have H1 := Lib.hid h1
  have H2 := Lib.hid h2
  have H3 := Lib.hid h3
  have H4 := Lib.hid h4
  have H5 := Lib.hid h5
  have H6 := Lib.hid h6
  clear h0 h1 h2 h3 h4 h5 h6 hok hc
  go_enter Tryd.func53, Tryd.ntmps53
  go_upto_region 1 with (fail)
  go_cut [42] (fun s42 wx => s42 = .bool (!(b0 && (b1 && b2) && (b3 && b4) && (b5 && b6))) ∧ wx = (w.alloc (.cells #[.int .i64 x0, .int .i64 x1, .int .i64 x2, .int .i64 x3, .int .i64 x4, .int .i64 x5, .int .i64 x6, .string d] 62)))
  case first =>
    have DO : True := trivial
    cases b0
    case false =>
      go_wp2_with (go_at_call 74; (with_reducible refine (in_calls _ x0 255 _ H0.out).mono ?_); rintro e w' ⟨rfl, rfl⟩)
      go_meet
      exact ⟨by simp, rfl⟩
    cases b1
    case false =>
      go_wp2_with (first
        | (go_at_call 74; (with_reducible refine (in_calls _ x0 255 _ H0.out).mono ?_); rintro e w' ⟨rfl, rfl⟩)
        | (go_at_call 74; (with_reducible refine (in_calls _ x1 7 _ H1.out).mono ?_); rintro e w' ⟨rfl, rfl⟩))
      go_meet
      exact ⟨by simp, rfl⟩
    cases b2
    case false =>
      go_wp2_with (first
        | (go_at_call 74; (with_reducible refine (in_calls _ x0 255 _ H0.out).mono ?_); rintro e w' ⟨rfl, rfl⟩)
        | (go_at_call 74; (with_reducible refine (in_calls _ x1 7 _ H1.out).mono ?_); rintro e w' ⟨rfl, rfl⟩)
        | (go_at_call 74; (with_reducible refine (in_calls _ x2 7 _ H2.out).mono ?_); rintro e w' ⟨rfl, rfl⟩))
      go_meet
      exact ⟨by simp, rfl⟩
    cases b3
    case false =>
      go_wp2_with (first
        | (go_at_call 74; (with_reducible refine (in_calls _ x0 255 _ H0.out).mono ?_); rintro e w' ⟨rfl, rfl⟩)
        | (go_at_call 74; (with_reducible refine (in_calls _ x1 7 _ H1.out).mono ?_); rintro e w' ⟨rfl, rfl⟩)
        | (go_at_call 74; (with_reducible refine (in_calls _ x2 7 _ H2.out).mono ?_); rintro e w' ⟨rfl, rfl⟩)
        | (go_at_call 74; (with_reducible refine (in_calls _ x3 1099511627776 _ H3.out).mono ?_); rintro e w' ⟨rfl, rfl⟩))
      go_meet
      exact ⟨by simp, rfl⟩
    cases b4
    case false =>
      go_wp2_with (first
        | (go_at_call 74; (with_reducible refine (in_calls _ x0 255 _ H0.out).mono ?_); rintro e w' ⟨rfl, rfl⟩)
        | (go_at_call 74; (with_reducible refine (in_calls _ x1 7 _ H1.out).mono ?_); rintro e w' ⟨rfl, rfl⟩)
        | (go_at_call 74; (with_reducible refine (in_calls _ x2 7 _ H2.out).mono ?_); rintro e w' ⟨rfl, rfl⟩)
        | (go_at_call 74; (with_reducible refine (in_calls _ x3 1099511627776 _ H3.out).mono ?_); rintro e w' ⟨rfl, rfl⟩)
        | (go_at_call 74; (with_reducible refine (in_calls _ x4 1099511627776 _ H4.out).mono ?_); rintro e w' ⟨rfl, rfl⟩))
      go_meet
      exact ⟨by simp, rfl⟩
    cases b5
    case false =>
      go_wp2_with (first
        | (go_at_call 74; (with_reducible refine (in_calls _ x0 255 _ H0.out).mono ?_); rintro e w' ⟨rfl, rfl⟩)
        | (go_at_call 74; (with_reducible refine (in_calls _ x1 7 _ H1.out).mono ?_); rintro e w' ⟨rfl, rfl⟩)
        | (go_at_call 74; (with_reducible refine (in_calls _ x2 7 _ H2.out).mono ?_); rintro e w' ⟨rfl, rfl⟩)
        | (go_at_call 74; (with_reducible refine (in_calls _ x3 1099511627776 _ H3.out).mono ?_); rintro e w' ⟨rfl, rfl⟩)
        | (go_at_call 74; (with_reducible refine (in_calls _ x4 1099511627776 _ H4.out).mono ?_); rintro e w' ⟨rfl, rfl⟩)
        | (go_at_call 74; (with_reducible refine (in_calls _ x5 256 _ H5.out).mono ?_); rintro e w' ⟨rfl, rfl⟩))
      go_meet
      exact ⟨by simp, rfl⟩
    go_wp2_with (first
      | (go_at_call 74; (with_reducible refine (in_calls _ x0 255 _ H0.out).mono ?_); rintro e w' ⟨rfl, rfl⟩)
      | (go_at_call 74; (with_reducible refine (in_calls _ x1 7 _ H1.out).mono ?_); rintro e w' ⟨rfl, rfl⟩)
      | (go_at_call 74; (with_reducible refine (in_calls _ x2 7 _ H2.out).mono ?_); rintro e w' ⟨rfl, rfl⟩)
      | (go_at_call 74; (with_reducible refine (in_calls _ x3 1099511627776 _ H3.out).mono ?_); rintro e w' ⟨rfl, rfl⟩)
      | (go_at_call 74; (with_reducible refine (in_calls _ x4 1099511627776 _ H4.out).mono ?_); rintro e w' ⟨rfl, rfl⟩)
      | (go_at_call 74; (with_reducible refine (in_calls _ x5 256 _ H5.out).mono ?_); rintro e w' ⟨rfl, rfl⟩)
      | (go_at_call 74; (with_reducible refine (in_calls _ x6 256 _ H6.out).mono ?_); rintro e w' ⟨rfl, rfl⟩))
    go_meet
    exact ⟨by simp, rfl⟩
  case rest =>
    obtain ⟨h3, hm⟩ := hcut
    subst h3
    subst hm
    have M0 : Hid (Mod [] w (w.alloc (.cells #[.int .i64 x0, .int .i64 x1, .int .i64 x2, .int .i64 x3, .int .i64 x4, .int .i64 x5, .int .i64 x6, .string d] 62))) := Lib.hid ((Mod.refl _ _).alloc _)
    generalize (b0 && (b1 && b2) && (b3 && b4) && (b5 && b6)) = bb at *
    clear H0 H1 H2 H3 H4 H5 H6
    cases bb with
    | false =>
      go_wp2
      go_ret
      exact ⟨by rw [HC.out]; rfl, M0.out⟩
    | true =>
      by_cases h8 : 1024 < d.size
      · have t1 : decide ((1024 : Int) < (d.size : Int)) = true := by simp; omega
        have HC' := Lib.hid (HC.out.trans (by rw [if_neg (by simp), if_pos h8]))
        go_wp2
        go_ret
        exact ⟨by rw [HC'.out]; rfl, M0.out⟩
      · have t1 : decide ((1024 : Int) < (d.size : Int)) = false := by simp; omega
        have HC' := Lib.hid (HC.out.trans (by rw [if_neg (by simp), if_neg h8]))
        go_wp2
        go_ret
        exact ⟨by rw [HC'.out]; rfl, M0.out⟩

/-- The columns of a message at mb: pointers and widths. -/
def colF (mb : Nat) (i : Nat) : Value := if i % 2 = 0 then .pointer (some ⟨mb, i / 2, none⟩) else .int .i64 (wid (i / 2))
set_option maxRecDepth 100000 in
set_option maxHeartbeats 4000000 in
theorem columns_calls (w : World) (mb : Nat) :
    Calls Tryd.prog 48 #[.pointer (some ⟨mb, 0, none⟩)] w fun e w' => e = .returned (.slice (some ⟨w.heap.size, 0, none⟩) 7 7) ∧ Arr w' w.heap.size 104 14 (colF mb) ∧ Mod [] w w' := by
  have hA : ∀ T, Arr (w.alloc (.cells #[.pointer (some ⟨mb, 0, none⟩), .int .i64 1, .pointer (some ⟨mb, 1, none⟩), .int .i64 1, .pointer (some ⟨mb, 2, none⟩), .int .i64 1, .pointer (some ⟨mb, 3, none⟩), .int .i64 8, .pointer (some ⟨mb, 4, none⟩), .int .i64 8, .pointer (some ⟨mb, 5, none⟩), .int .i64 2, .pointer (some ⟨mb, 6, none⟩), .int .i64 2] T)) w.heap.size T 14 (colF mb) := fun T =>
    Arr.new' w _ T 14 _ rfl (fun i hi => by
      match i, hi with
      | 0, _ | 1, _ | 2, _ | 3, _ | 4, _ | 5, _ | 6, _ | 7, _ | 8, _ | 9, _ | 10, _ | 11, _ | 12, _ | 13, _ => rfl)
  have HA := Lib.hid hA
  clear hA
  go_enter Tryd.func48, Tryd.ntmps48
  go_wp2
  go_region
  go_wp2
  go_ret
  exact ⟨rfl, (HA.out _).drew, ((Mod.refl _ _).alloc _).drew⟩
theorem colF_ptr (mb j : Nat) : colF mb (j * 2) = .pointer (some ⟨mb, j, none⟩) := by
  unfold colF
  rw [if_pos (by omega), show j * 2 / 2 = j by omega]
theorem colF_wid (mb j : Nat) : colF mb (j * 2 + 1) = .int .i64 (wid j) := by
  unfold colF
  rw [if_neg (by omega), show (j * 2 + 1) / 2 = j by omega]
theorem wid_bd (j : Nat) : 1 ≤ wid j ∧ wid j ≤ 8 := by
  unfold wid
  split
  · omega
  · split <;> omega
def EncPost (w : World) (m : Msg) (r : Ending) (w' : World) : Prop :=
  ∃ v E, r = .returned (.tuple #[.string m.sealed, v]) ∧ Errs w' v m.errL E ∧ Mod [] w w'
set_option maxRecDepth 100000 in
set_option maxHeartbeats 4000000 in
theorem encode_calls (w : World) (x : Nat → Int) (d : ByteArray) (hb : Msg.Bd ⟨x, d⟩) (hT : Steps w) :
    Calls Tryd.prog 30 #[.agg #[.int .i64 (x 0), .int .i64 (x 1), .int .i64 (x 2), .int .i64 (x 3), .int .i64 (x 4), .int .i64 (x 5), .int .i64 (x 6), .string d]] w (EncPost w ⟨x, d⟩) := by
  obtain ⟨w0, hw0⟩ : ∃ w0, w0 = w.alloc (.cells (Msg.arr ⟨x, d⟩) 62) := ⟨_, rfl⟩
  have m0 : Mod [] w w0 := by rw [hw0]; exact (Mod.refl _ _).alloc _
  have hA : Arr w0 w.heap.size 62 8 (Msg.cellF ⟨x, d⟩) := by
    rw [hw0]
    exact Arr.new' w _ _ 8 _ rfl (Msg.get _)
  have CK : Hid (Calls Tryd.prog 33 #[.agg #[.int .i64 (x 0), .int .i64 (x 1), .int .i64 (x 2), .int .i64 (x 3), .int .i64 (x 4), .int .i64 (x 5), .int .i64 (x 6), .string d]] w0 fun e w' => e = .returned (.int .i64 (Msg.chk ⟨x, d⟩)) ∧ Mod [] w0 w') := Lib.hid (wcheck_calls w0 ⟨x, d⟩)
  have HA := Lib.hid hA
  have HT := Lib.hid (hT.mod m0 (by simp))
  have M0 := Lib.hid m0
  have HB := Lib.hid hb
  unfold Msg.arr at hw0
  simp only at hw0
  have HZ := Lib.hid hw0
  obtain ⟨c, hc⟩ : ∃ c, c = Msg.chk ⟨x, d⟩ := ⟨_, rfl⟩
  rw [← hc] at CK
  have hc' : c = 0 ∨ c = 1 ∨ c = 11 := by
    rw [hc]
    unfold Msg.chk
    split
    · simp
    · split <;> simp
  have HC := Lib.hid hc
  clear hA hT m0 hb hw0 hc
  have hb0 : w.heap.size < w0.heap.size := HA.out.lt
  by_cases h0 : c = 0
  · subst h0
    have e1 : Msg.sealed ⟨x, d⟩ = sealB (txt (Msg.bytes ⟨x, d⟩)) := by unfold Msg.sealed; rw [if_pos HC.out.symm]
    have e2 : Msg.errL ⟨x, d⟩ = [] := by unfold Msg.errL; rw [if_pos HC.out.symm]
    have E1 := Lib.hid e1
    have E2 := Lib.hid e2
    clear e1 e2 hc'
    go_enter Tryd.func30, Tryd.ntmps30
    go_wp2_with fail
    rw [← HZ.out]
    refine CK.out.mono ?_
    rintro e w1 ⟨rfl, m1⟩
    have M1 := Lib.hid m1
    clear m1
    go_wp2_with fail
    refine (newWriter_calls w1).mono ?_
    rintro e w2 ⟨rfl, hW2, m2⟩
    obtain ⟨b, hb⟩ : ∃ b, b = w1.heap.size := ⟨_, rfl⟩
    rw [← hb] at hW2 ⊢
    have M2 := Lib.hid m2
    have HW2 := Lib.hid hW2
    have hbw : w0.heap.size ≤ b := by have := M1.out.size; omega
    clear m2 hW2 hb
    go_wp2_with fail
    refine (columns_calls w2 w.heap.size).mono ?_
    rintro e w3 ⟨rfl, hC3, m3⟩
    obtain ⟨cb, hcb⟩ : ∃ cb, cb = w2.heap.size := ⟨_, rfl⟩
    rw [← hcb] at hC3 ⊢
    have hcb1 : b < cb := by rw [hcb]; exact HW2.out.lt b (by simp)
    have HC3 := Lib.hid hC3
    have HA3 := Lib.hid (((HA.out.mod M1.out (by simp)).mod M2.out (by simp)).mod m3 (by simp))
    have HW3 := Lib.hid (HW2.out.mod0 m3)
    have M3 := Lib.hid (((M0.out.trans M1.out).trans M2.out).trans m3)
    have HT3 := Lib.hid (((HT.out.mod M1.out (by simp)).mod M2.out (by simp)).mod m3 (by simp))
    have hw3b : w.heap.size < w3.heap.size := HA3.out.lt
    clear hC3 m3 hcb
    go_wp2
    go_loopw [17] (fun i wr => ∃ (j : Nat) (F : List Nat), j ≤ 7 ∧ i = .int .i64 j ∧ Wtr wr 144 b (Msg.enc ⟨x, d⟩ j) F ∧ Grow [b] F w3 wr) (fun i _ => 7 - (intOf i).toNat)
    case atStart => exact ⟨0, [b], by omega, rfl, HW3.out, Grow.refl _ _⟩
    case round =>
      obtain ⟨j, F, hj, rfl, hW, hG⟩ := hrel
      have hAr := HA3.out.mod hG.mod (by simp; omega)
      have hCr := HC3.out.mod hG.mod (by simp; omega)
      have HG := Lib.hid hG
      have HW := Lib.hid hW
      have hlen := Msg.enc_len ⟨x, d⟩ j
      clear hG hW
      by_cases hlt : j < 7
      · have i0 : (0 : Int) ≤ (j : Int) := by omega
        have i1 : (j : Int) < 7 := by omega
        have q0 := hCr.cell (j * 2) (by omega)
        have q1 := hCr.cell (j * 2 + 1) (by omega)
        have q2 := hAr.cell j (by omega)
        rw [colF_ptr] at q0
        rw [colF_wid] at q1
        have q2' : wr.cell? ⟨w.heap.size, j, none⟩ = some (.int .i64 (x j)) := by
          rw [q2]
          unfold Msg.cellF
          rw [if_neg (by omega)]
        clear q2
        obtain ⟨n0, n1⟩ := HB.out.1 j hlt
        obtain ⟨k0, k1⟩ := wid_bd j
        have hnext : Msg.enc ⟨x, d⟩ (j + 1) = numB (Msg.enc ⟨x, d⟩ j) (x j) (wid j) := rfl
        have HN := Lib.hid hnext
        obtain ⟨bs, hbs⟩ : ∃ bs, bs = Msg.enc ⟨x, d⟩ j := ⟨_, rfl⟩
        have HBS := Lib.hid hbs
        rw [← hbs] at hlen HN
        have HW' : Hid (Wtr wr 144 b bs F) := Lib.hid (by rw [HBS.out]; exact HW.out)
        have n0' : -9223372036854775808 ≤ x j := n0
        have n1' : x j ≤ 9223372036854775807 := n1
        generalize x j = xj at *
        generalize wid j = wj at *
        obtain ⟨wa, hwa⟩ : ∃ wa, wa = wr.alloc (.cells #[.pointer (some ⟨w.heap.size, j, none⟩), .int .i64 wj] 104) := ⟨_, rfl⟩
        have ma : Mod [] wr wa := by rw [hwa]; exact (Mod.refl _ _).alloc _
        have P := Lib.hid (wnum_calls wa.drew b bs F xj wj ((HW'.out.mod0 ma).mod0 ((Mod.refl [] _).drew)) n0' n1' (by omega) (by omega) (by omega))
        have s0 : wa.cell? ⟨wr.heap.size, 0, none⟩ = some (.pointer (some ⟨w.heap.size, j, none⟩)) := by rw [hwa]; simp
        have s1 : wa.cell? ⟨wr.heap.size, 1, none⟩ = some (.int .i64 wj) := by rw [hwa]; simp
        have s2 := ma.cell' q2' (by simp)
        have MA := Lib.hid ma
        have HWA := Lib.hid hwa
        have hlF := HW.out.lt
        have HLF := Lib.hid hlF
        have KS := Lib.hid (show ∀ w', Mod F wa.drew w' → w'.cell? ⟨wr.heap.size, 0, none⟩ = some (.pointer (some ⟨w.heap.size, j, none⟩)) ∧ w'.cell? ⟨wr.heap.size, 1, none⟩ = some (.int .i64 wj) ∧ w'.cell? ⟨w.heap.size, j, none⟩ = some (.int .i64 xj) from fun w' mm => ⟨mm.cell' (w := wa.drew) s0 (fun hx => by have := HLF.out _ hx; simp at this), mm.cell' (w := wa.drew) s1 (fun hx => by have := HLF.out _ hx; simp at this), mm.cell' (w := wa.drew) s2 (fun hx => by
          rcases HG.out.new _ hx with h1 | h1
          · simp at h1; omega
          · simp at h1; omega)⟩)
        clear hnext hbs hwa ma hAr hCr hlF n0 n1
        go_upto_region 8 with (fail)
        rw [← HWA.out]
        go_region_held3 (fun w' => w'.cell? ⟨wr.heap.size, 0, none⟩ = some (.pointer (some ⟨w.heap.size, j, none⟩)) ∧ w'.cell? ⟨wr.heap.size, 1, none⟩ = some (.int .i64 wj) ∧ w'.cell? ⟨w.heap.size, j, none⟩ = some (.int .i64 xj))
          ((refine KS.out _ ?_; with_reducible first
            | exact Mod.refl _ _
            | exact Q1.out.mod))
          (first
            | (go_at_call 49; (with_reducible refine P.out.mono ?_); rintro r w5 ⟨v5, E5, F5, rfl, hE5, hx5, hW5, hG5⟩; have Q1 := Lib.hid hG5; have R1 := Lib.hid hW5; clear hE5 hx5 hG5 hW5))
        go_wp2
        go_roundw
        case rel => exact ⟨j + 1, F5, by omega, by go_num, by rw [HN.out]; exact R1.out, HG.out.trans (((Grow.of_mod MA.out).trans (Grow.of_mod ((Mod.refl [] _).drew))).trans Q1.out)⟩
        case measure => simp [intOf]; omega
      · obtain rfl : j = 7 := by omega
        have q7 : wr.cell? ⟨w.heap.size, 7, none⟩ = some (.string d) := hAr.cell 7 (by omega)
        have hd := HB.out.2
        have P := Lib.hid (wtext_calls wr b _ F d HW.out hd (by omega))
        have hsz := textB_len (Msg.enc ⟨x, d⟩ 7) d
        obtain ⟨bs, hbs⟩ : ∃ bs, bs = textB (Msg.enc ⟨x, d⟩ 7) d := ⟨_, rfl⟩
        have hby : Msg.bytes ⟨x, d⟩ = bs := by rw [hbs]; rfl
        have HBY := Lib.hid hby
        have hdl : d.size ≤ 1024 := by
          have := HC.out
          unfold Msg.chk at this
          split at this
          · cases this
          · split at this
            · cases this
            · have h9 : ¬ 1024 < d.size := by assumption
              omega
        have hz : (txt bs).size ≤ 1000000 := by rw [txt_size, hbs]; omega
        rw [← hbs] at P
        obtain ⟨S, hS⟩ : ∃ S, S = txt bs := ⟨_, rfl⟩
        have HS := Lib.hid hS
        rw [← hS] at hz
        clear hAr hCr hd hsz hby hdl hS
        go_wp2_with fail
        refine P.out.mono ?_
        rintro r w5 ⟨v5, E5, F5, rfl, hE5, hx5, hW5, hG5⟩
        have HW5 := Lib.hid hW5
        have G5 := Lib.hid (HG.out.trans hG5)
        have HT5 := Lib.hid (HT3.out.mod (HG.out.trans hG5).mod (fun hx => by
          have h1 := World.block_lt_of_cell? w0 _ (HT.out 0 (by omega))
          simp at hx h1; omega))
        clear hE5 hx5 hW5 hG5
        go_wp2_with fail
        refine (wbytes_calls w5 b bs F5 HW5.out).mono ?_
        rintro e w6 ⟨rfl, rfl⟩
        rw [show (⟨bs.toArray⟩ : ByteArray) = S from HS.out.symm]
        go_wp2_with fail
        refine (seal_calls w5 S hz HT5.out).mono ?_
        rintro e w6 ⟨rfl, m6⟩
        have F6 : Hid (Mod [] w w6) := Lib.hid ((M3.out.fresh G5.out.mod (fun x hx => .inr (by simp at hx; omega))).trans m6)
        clear m6
        go_wp2
        go_ret2
        exact ⟨.nilIface, [], by rw [E1.out, HBY.out, ← HS.out]; rfl, by rw [E2.out]; exact .nil, F6.out⟩
  · have hc0 : (c != 0) = true := by simpa using h0
    have e1 : Msg.sealed ⟨x, d⟩ = ⟨#[]⟩ := by unfold Msg.sealed; rw [if_neg (by rw [← HC.out]; exact h0)]
    have e2 : Msg.errL ⟨x, d⟩ = [c] := by unfold Msg.errL; rw [if_neg (by rw [← HC.out]; exact h0), ← HC.out]
    have E1 := Lib.hid e1
    have E2 := Lib.hid e2
    have H0 := Lib.hid h0
    clear e1 e2 hc' h0
    go_enter Tryd.func30, Tryd.ntmps30
    go_wp2_with fail
    rw [← HZ.out]
    refine CK.out.mono ?_
    rintro e w1 ⟨rfl, m1⟩
    have M1 := Lib.hid m1
    clear m1
    go_wp2_with fail
    refine (wrapE_calls w1 c 0 .nilIface [] [] H0.out .nil).mono ?_
    rintro r w2 ⟨v, rfl, hE, m2⟩
    have F := Lib.hid (And.intro hE ((M0.out.trans M1.out).trans m2))
    clear hE m2
    go_wp2
    go_ret2
    exact ⟨v, _, by rw [E1.out]; rfl, by rw [E2.out]; exact F.out.1, F.out.2⟩
theorem encode_msg (w : World) (m : Msg) (hb : m.Bd) (hT : Steps w) :
    Calls Tryd.prog 30 #[.agg m.arr] w (EncPost w m) := encode_calls w m.x m.d hb hT
def REncPost (w : World) (m : Msg) (r : Ending) (w' : World) : Prop :=
  r = .returned (.tuple #[.string m.sealed, .int .i64 m.chk]) ∧ Mod [] w w'
set_option maxRecDepth 100000 in
set_option maxHeartbeats 4000000 in
theorem rencode_calls (w : World) (x : Nat → Int) (d : ByteArray) (hb : Msg.Bd ⟨x, d⟩) :
    Calls Tryd.prog 31 #[.agg #[.int .i64 (x 0), .int .i64 (x 1), .int .i64 (x 2), .int .i64 (x 3), .int .i64 (x 4), .int .i64 (x 5), .int .i64 (x 6), .string d]] w (REncPost w ⟨x, d⟩) := by
  obtain ⟨w0, hw0⟩ : ∃ w0, w0 = w.alloc (.cells (Msg.arr ⟨x, d⟩) 62) := ⟨_, rfl⟩
  have m0 : Mod [] w w0 := by rw [hw0]; exact (Mod.refl _ _).alloc _
  have hA : Arr w0 w.heap.size 62 8 (Msg.cellF ⟨x, d⟩) := by
    rw [hw0]
    exact Arr.new' w _ _ 8 _ rfl (Msg.get _)
  have CK : Hid (Calls Tryd.prog 53 #[.agg #[.int .i64 (x 0), .int .i64 (x 1), .int .i64 (x 2), .int .i64 (x 3), .int .i64 (x 4), .int .i64 (x 5), .int .i64 (x 6), .string d]] w0 fun e w' => e = .returned (.int .i64 (Msg.chk ⟨x, d⟩)) ∧ Mod [] w0 w') := Lib.hid (rcheck_calls w0 ⟨x, d⟩)
  have HA := Lib.hid hA
  have M0 := Lib.hid m0
  have HB := Lib.hid hb
  unfold Msg.arr at hw0
  simp only at hw0
  have HZ := Lib.hid hw0
  obtain ⟨c, hc⟩ : ∃ c, c = Msg.chk ⟨x, d⟩ := ⟨_, rfl⟩
  rw [← hc] at CK
  have HC := Lib.hid hc
  unfold REncPost
  rw [← hc]
  clear hA m0 hb hw0 hc
  have hb0 : w.heap.size < w0.heap.size := HA.out.lt
  by_cases h0 : c = 0
  · subst h0
    have e1 : Msg.sealed ⟨x, d⟩ = sealB (txt (Msg.bytes ⟨x, d⟩)) := by unfold Msg.sealed; rw [if_pos HC.out.symm]
    rw [e1]
    clear e1
    go_enter Tryd.func31, Tryd.ntmps31
    go_wp2_with fail
    rw [← HZ.out]
    refine CK.out.mono ?_
    rintro e w1 ⟨rfl, m1⟩
    obtain ⟨w2, hw2⟩ : ∃ w2, w2 = w1.alloc (.cells #[.slice none 0 0] 110) := ⟨_, rfl⟩
    have m2 : Mod [] w1 w2 := by rw [hw2]; exact (Mod.refl _ _).alloc _
    have hW2 : Wtr w2 110 w1.heap.size [] [w1.heap.size] := by rw [hw2]; exact Wtr.new w1 _
    have M2 := Lib.hid ((M0.out.trans m1).trans m2)
    have A2 := Lib.hid ((HA.out.mod m1 (by simp)).mod m2 (by simp))
    obtain ⟨b, hb⟩ : ∃ b, b = w1.heap.size := ⟨_, rfl⟩
    have hlb : w0.heap.size ≤ b := by have := m1.size; omega
    rw [← hb] at hW2
    have HW0 := Lib.hid hW2
    have G0 := Lib.hid (Grow.refl [b] w2)
    have HZ2 := Lib.hid hw2
    have HB2 := Lib.hid hb
    clear m1 m2 hW2 hb hw2
    go_upto_region 5 with (fail)
    rw [← HB2.out, ← HZ2.out]
    clear HB2 HZ2
    have A0 := A2.out.mod G0.out.mod (by simp; omega)
    have q0 : w2.cell? ⟨w.heap.size, 0, none⟩ = some (.int .i64 (x 0)) := A0.cell 0 (by omega)
    have P0 := Lib.hid (rwnum_calls w2 b (Msg.enc ⟨x, d⟩ 0) _ (x 0) 1 HW0.out (HB.out.1 0 (by omega)).1 (HB.out.1 0 (by omega)).2 (by omega) (by omega) (by have := Msg.enc_len ⟨x, d⟩ 0; omega))
    clear A0
    go_wp2_with fail
    refine P0.out.mono ?_
    rintro e w3 ⟨v0, E0, F1, rfl, -, -, hW1, hG1⟩
    have HW1 : Hid (Wtr w3 110 b (Msg.enc ⟨x, d⟩ 1) F1) := Lib.hid hW1
    have G1 := Lib.hid (G0.out.trans hG1)
    clear hW1 hG1 q0 P0
    have A1 := A2.out.mod G1.out.mod (by simp; omega)
    have q1 : w3.cell? ⟨w.heap.size, 1, none⟩ = some (.int .i64 (x 1)) := A1.cell 1 (by omega)
    have P1 := Lib.hid (rwnum_calls w3 b (Msg.enc ⟨x, d⟩ 1) _ (x 1) 1 HW1.out (HB.out.1 1 (by omega)).1 (HB.out.1 1 (by omega)).2 (by omega) (by omega) (by have := Msg.enc_len ⟨x, d⟩ 1; omega))
    clear A1
    go_wp2_with fail
    refine P1.out.mono ?_
    rintro e w4 ⟨v1, E1, F2, rfl, -, -, hW2, hG2⟩
    have HW2 : Hid (Wtr w4 110 b (Msg.enc ⟨x, d⟩ 2) F2) := Lib.hid hW2
    have G2 := Lib.hid (G1.out.trans hG2)
    clear hW2 hG2 q1 P1
    have A2 := A2.out.mod G2.out.mod (by simp; omega)
    have q2 : w4.cell? ⟨w.heap.size, 2, none⟩ = some (.int .i64 (x 2)) := A2.cell 2 (by omega)
    have P2 := Lib.hid (rwnum_calls w4 b (Msg.enc ⟨x, d⟩ 2) _ (x 2) 1 HW2.out (HB.out.1 2 (by omega)).1 (HB.out.1 2 (by omega)).2 (by omega) (by omega) (by have := Msg.enc_len ⟨x, d⟩ 2; omega))
    clear A2
    go_wp2_with fail
    refine P2.out.mono ?_
    rintro e w5 ⟨v2, E2, F3, rfl, -, -, hW3, hG3⟩
    have HW3 : Hid (Wtr w5 110 b (Msg.enc ⟨x, d⟩ 3) F3) := Lib.hid hW3
    have G3 := Lib.hid (G2.out.trans hG3)
    clear hW3 hG3 q2 P2
    have A3 := A2.out.mod G3.out.mod (by simp; omega)
    have q3 : w5.cell? ⟨w.heap.size, 3, none⟩ = some (.int .i64 (x 3)) := A3.cell 3 (by omega)
    have P3 := Lib.hid (rwnum_calls w5 b (Msg.enc ⟨x, d⟩ 3) _ (x 3) 8 HW3.out (HB.out.1 3 (by omega)).1 (HB.out.1 3 (by omega)).2 (by omega) (by omega) (by have := Msg.enc_len ⟨x, d⟩ 3; omega))
    clear A3
    go_wp2_with fail
    refine P3.out.mono ?_
    rintro e w6 ⟨v3, E3, F4, rfl, -, -, hW4, hG4⟩
    have HW4 : Hid (Wtr w6 110 b (Msg.enc ⟨x, d⟩ 4) F4) := Lib.hid hW4
    have G4 := Lib.hid (G3.out.trans hG4)
    clear hW4 hG4 q3 P3
    have A4 := A2.out.mod G4.out.mod (by simp; omega)
    have q4 : w6.cell? ⟨w.heap.size, 4, none⟩ = some (.int .i64 (x 4)) := A4.cell 4 (by omega)
    have P4 := Lib.hid (rwnum_calls w6 b (Msg.enc ⟨x, d⟩ 4) _ (x 4) 8 HW4.out (HB.out.1 4 (by omega)).1 (HB.out.1 4 (by omega)).2 (by omega) (by omega) (by have := Msg.enc_len ⟨x, d⟩ 4; omega))
    clear A4
    go_wp2_with fail
    refine P4.out.mono ?_
    rintro e w7 ⟨v4, E4, F5, rfl, -, -, hW5, hG5⟩
    have HW5 : Hid (Wtr w7 110 b (Msg.enc ⟨x, d⟩ 5) F5) := Lib.hid hW5
    have G5 := Lib.hid (G4.out.trans hG5)
    clear hW5 hG5 q4 P4
    have A5 := A2.out.mod G5.out.mod (by simp; omega)
    have q5 : w7.cell? ⟨w.heap.size, 5, none⟩ = some (.int .i64 (x 5)) := A5.cell 5 (by omega)
    have P5 := Lib.hid (rwnum_calls w7 b (Msg.enc ⟨x, d⟩ 5) _ (x 5) 2 HW5.out (HB.out.1 5 (by omega)).1 (HB.out.1 5 (by omega)).2 (by omega) (by omega) (by have := Msg.enc_len ⟨x, d⟩ 5; omega))
    clear A5
    go_wp2_with fail
    refine P5.out.mono ?_
    rintro e w8 ⟨v5, E5, F6, rfl, -, -, hW6, hG6⟩
    have HW6 : Hid (Wtr w8 110 b (Msg.enc ⟨x, d⟩ 6) F6) := Lib.hid hW6
    have G6 := Lib.hid (G5.out.trans hG6)
    clear hW6 hG6 q5 P5
    have A6 := A2.out.mod G6.out.mod (by simp; omega)
    have q6 : w8.cell? ⟨w.heap.size, 6, none⟩ = some (.int .i64 (x 6)) := A6.cell 6 (by omega)
    have P6 := Lib.hid (rwnum_calls w8 b (Msg.enc ⟨x, d⟩ 6) _ (x 6) 2 HW6.out (HB.out.1 6 (by omega)).1 (HB.out.1 6 (by omega)).2 (by omega) (by omega) (by have := Msg.enc_len ⟨x, d⟩ 6; omega))
    clear A6
    go_wp2_with fail
    refine P6.out.mono ?_
    rintro e w9 ⟨v6, E6, F7, rfl, -, -, hW7, hG7⟩
    have HW7 : Hid (Wtr w9 110 b (Msg.enc ⟨x, d⟩ 7) F7) := Lib.hid hW7
    have G7 := Lib.hid (G6.out.trans hG7)
    clear hW7 hG7 q6 P6
    have A7 := A2.out.mod G7.out.mod (by simp; omega)
    have q7 : w9.cell? ⟨w.heap.size, 7, none⟩ = some (.string d) := A7.cell 7 (by omega)
    have P7 := Lib.hid (rwtext_calls w9 b (Msg.enc ⟨x, d⟩ 7) _ d HW7.out HB.out.2 (by have := Msg.enc_len ⟨x, d⟩ 7; omega))
    have hsz := textB_len (Msg.enc ⟨x, d⟩ 7) d
    have hel := Msg.enc_len ⟨x, d⟩ 7
    obtain ⟨bs, hbs⟩ : ∃ bs, bs = textB (Msg.enc ⟨x, d⟩ 7) d := ⟨_, rfl⟩
    have hby : Msg.bytes ⟨x, d⟩ = bs := by rw [hbs]; rfl
    have HBY := Lib.hid hby
    have hdl : d.size ≤ 1024 := by
      have := HC.out
      unfold Msg.chk at this
      split at this
      · cases this
      · split at this
        · cases this
        · have h9 : ¬ 1024 < d.size := by assumption
          omega
    have hz : (txt bs).size ≤ 1000000 := by rw [txt_size, hbs]; omega
    rw [← hbs] at P7
    obtain ⟨S, hS⟩ : ∃ S, S = txt bs := ⟨_, rfl⟩
    have HS := Lib.hid hS
    rw [← hS] at hz
    clear A7 hsz hby hdl hS
    go_wp2_with fail
    refine P7.out.mono ?_
    rintro r w10 ⟨v7, E7, F8, rfl, -, -, hW8, hG8⟩
    have HW8 := Lib.hid hW8
    have G8 := Lib.hid (G7.out.trans hG8)
    clear hW8 hG8
    go_wp2_with fail
    refine (rwbytes_calls w10 b bs F8 HW8.out).mono ?_
    rintro e w11 ⟨rfl, rfl⟩
    rw [show (⟨bs.toArray⟩ : ByteArray) = S from HS.out.symm]
    go_wp2_with fail
    refine (rseal_calls w10 S hz).mono ?_
    rintro e w11 ⟨rfl, m11⟩
    have hl2 := HW0.out.lt b (by simp)
    have F9 : Hid (Mod [] w w11) := Lib.hid ((M2.out.fresh G8.out.mod (fun x hx => .inr (by simp at hx; omega))).trans m11)
    clear m11
    go_wp2
    go_ret2
    exact ⟨by rw [HBY.out, ← HS.out]; rfl, F9.out⟩
  · have hc0 : (c != 0) = true := by simpa using h0
    have e1 : Msg.sealed ⟨x, d⟩ = ⟨#[]⟩ := by unfold Msg.sealed; rw [if_neg (by rw [← HC.out]; exact h0)]
    rw [e1]
    clear e1 h0
    go_enter Tryd.func31, Tryd.ntmps31
    go_wp2_with fail
    rw [← HZ.out]
    refine CK.out.mono ?_
    rintro e w1 ⟨rfl, m1⟩
    have M1 := Lib.hid (M0.out.trans m1)
    clear m1
    go_wp2
    go_ret2
    exact ⟨rfl, M1.out⟩
theorem rencode_msg (w : World) (m : Msg) (hb : m.Bd) :
    Calls Tryd.prog 31 #[.agg m.arr] w (REncPost w m) := rencode_calls w m.x m.d hb
end Go.Proofs.YtphcoenooinmfaaDoor
