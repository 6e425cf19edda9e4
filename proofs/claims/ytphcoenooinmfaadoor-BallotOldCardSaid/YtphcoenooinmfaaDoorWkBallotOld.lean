/- The walk of the law BallotOld: what was promised is refused by no elder ballot's leave; an equal one, or a higher one, is heard. Premises: the listed variables are as laid. -/
import Derived.Test.YtphcoenooinmfaaDoorBal20
import Derived.Test.YtphcoenooinmfaaDoorRow
import Derived.Deep.DeepCutAuto
namespace Go.Proofs.YtphcoenooinmfaaDoor
open Go.RowKit
set_option linter.unusedVariables false
set_option linter.unusedSimpArgs false
attribute [local go_sem ↓] Go.wp_at_zero Go.wp_at_succ

/-- A vote that was put stands first among those from its slot on. -/
theorem votes_head {g : Nat → Option VoteT} {x : VoteT} {s : Nat} (hs : x.s = (s : Int)) (hlt : s < 4096) (hv : ∀ i y, i < 4096 → g i = some y → y.s = (i : Int)) : ∃ R, votesF (setG g x) x.s 4096 = x :: R := by
  obtain ⟨R, h1, _⟩ := votesN_pre (setG g x) (s + 1) (4096 - (s + 1))
  rw [show s + 1 + (4096 - (s + 1)) = 4096 by omega, votesN_succ (setG g x) s] at h1
  have e1 : setG g x s = some x := by unfold setG; rw [if_pos hs.symm]
  rw [e1] at h1
  unfold votesF
  rw [h1, List.filter_append, List.filter_append]
  have e2 : (votesN (setG g x) s).filter (fun y => decide (x.s ≤ y.s)) = [] := by
    rw [List.filter_eq_nil_iff]
    intro y hy
    unfold votesN at hy
    rw [List.mem_filterMap] at hy
    obtain ⟨i, hi, he⟩ := hy
    have hi' := List.mem_range.1 hi
    unfold setG at he
    rw [if_neg (by omega)] at he
    have := hv i y (by omega) he
    simp
    omega
  rw [e2]
  exact ⟨_, by simp; rfl⟩
/-- What holds at the head of each round. -/
def OldI (W wr : World) (A r n : Nat) (i : Value) : Prop := ∃ (k : Nat) (p : Int) (g : Nat → Option VoteT) (f : Nat → Nat) (v : Value), k ≤ n ∧ i = .int .i64 k ∧ BR W wr A r p g f v k
set_option maxRecDepth 100000 in
set_option maxHeartbeats 8000000 in
theorem ballotOld_walk (W : World) (t0 : Steps W) (t1 : ErrT W) (v0 : Value) (c0 : CellOk W (.sl [.int .i64, .int .i64, .int .i64, .int .i64, .int .i64, .str]) v0)
    (a1 : Int) (w1 : (Lit.int .i64 a1).wf = true)
    (a2 : Int) (w2 : (Lit.int .i64 a2).wf = true)
    (a3 : ByteArray) (w3 : a3.size ≤ 140737488351232) :
    Calls Tryd.prog 5 #[v0, .int .i64 a1, .int .i64 a2, .string a3] W fun e w' => e = .returned (.bool true) ∧ Below W.heap.size W w' := by
  obtain ⟨A0, n, cap, fs, rfl, hn, hcap, hS⟩ := steps10_inv c0
  obtain ⟨b0, b1⟩ := bd_i64 w1
  obtain ⟨b2, b3⟩ := bd_i64 w2
  have SH := Lib.hid (fun w (m : Mod [] W w) => shown10_calls w (t0.mod m (by simp)))
  have HV := Lib.hid (heavy_calls W A0 n cap fs hS hn hcap)
  have HS := Lib.hid hS
  have Z0 : Hid (Mod [] W W) := Lib.hid (Mod.refl _ _)
  clear c0 w1 w2 t0 t1 hS
  go_enter Tryd.func5, Tryd.ntmps5
  go_wp2_with fail
  (with_reducible refine HV.out.mono ?_)
  rintro e w1 ⟨th, rfl, hth, rfl⟩
  cases th with
  | true =>
    clear hth
    go_wp2_with fail
    refine (SH.out _ Z0.out).mono ?_
    rintro e w1 ⟨rfl, m1⟩
    have M1 := Lib.hid m1
    clear m1
    go_wp2
    go_ret
    exact ⟨rfl, M1.out.below (Nat.le_refl _) (by simp)⟩
  | false =>
  have hn100 := hth rfl
  clear hth
  by_cases hbig : 1024 < a3.size
  · have hi : (1024 : Int) < (a3.size : Int) := by omega
    go_wp2_with fail
    refine (SH.out _ Z0.out).mono ?_
    rintro e w1 ⟨rfl, m1⟩
    have M1 := Lib.hid m1
    clear m1
    go_wp2
    go_ret
    exact ⟨rfl, M1.out.below (Nat.le_refl _) (by simp)⟩
  have hi : ¬ (1024 : Int) < (a3.size : Int) := by omega
  go_wp2_with fail
  refine (SH.out _ Z0.out).mono ?_
  rintro e w1 ⟨rfl, m1⟩
  have M1 := Lib.hid m1
  clear m1
  go_wp2_with fail
  refine (accNew_calls w1).mono ?_
  rintro e w2 ⟨rfl, hA2, m2⟩
  obtain ⟨w3, hw3⟩ : ∃ w3, w3 = w2.alloc (.cells #[.int .i64 0, .slice none 0 0] 48) := ⟨_, rfl⟩
  have B3 := br_new M1.out m2 hA2
  rw [← hw3] at B3
  obtain ⟨A, hA⟩ : ∃ A, A = w1.heap.size := ⟨_, rfl⟩
  obtain ⟨r, hr⟩ : ∃ r, r = w2.heap.size := ⟨_, rfl⟩
  rw [← hA, ← hr] at B3
  have HB3 : Hid (OldI W w3 A r n (.int .i64 (0 : Nat))) := Lib.hid ⟨0, _, _, _, _, Nat.zero_le _, rfl, B3⟩
  have HW3 := Lib.hid hw3
  have HA := Lib.hid hA
  have HR := Lib.hid hr
  clear hA2 m2 hw3 B3 hA hr
  go_wp2
  rw [← HW3.out, ← HA.out, ← HR.out]
  go_loopw [11] (fun i wr => OldI W wr A r n i) (fun i _ => n - (intOf i).toNat)
  case atStart => exact HB3.out
  case round =>
    obtain ⟨k, p, g, f, v, hk, rfl, hB⟩ := hrel
    clear HB3
    have B0 := Lib.hid hB
    by_cases hlt : k < n
    · have i0 : (0 : Int) ≤ (k : Int) := by omega
      have i1 : (k : Int) < (n : Int) := by omega
      have hS := HS.out.mod hB.m
      obtain ⟨bb, off, rfl, hcl⟩ := hS.ex (by omega)
      obtain ⟨x0, x1, x2, x3, x4, x5⟩ := hcl k hlt
      have hsz := hS.sz k hlt
      have KS := Lib.hid (show ∀ w', Mod [] W w' → w'.cell? ⟨bb, off + k * 6 + 1, none⟩ = some (.int .i64 (fs k).b) ∧ w'.cell? ⟨bb, off + k * 6 + 2, none⟩ = some (.int .i64 (fs k).i) from fun w' m => by
        obtain ⟨bb', off', e, hc⟩ := (HS.out.mod m).ex (by omega)
        injection e with e
        injection e with e1 e2
        subst e1
        subst e2
        exact ⟨(hc k hlt).2.1, (hc k hlt).2.2.1⟩)
      have KV := Lib.hid (show ∀ w', Mod [] W w' → w'.cell? ⟨bb, off + k * 6 + 3, none⟩ = some (.int .i64 (fs k).x.s) ∧ w'.cell? ⟨bb, off + k * 6 + 4, none⟩ = some (.int .i64 (fs k).x.b) ∧ w'.cell? ⟨bb, off + k * 6 + 5, none⟩ = some (.string (fs k).x.v) from fun w' m => by
        obtain ⟨bb', off', e, hc⟩ := (HS.out.mod m).ex (by omega)
        injection e with e
        injection e with e1 e2
        subst e1
        subst e2
        exact ⟨(hc k hlt).2.2.2.1, (hc k hlt).2.2.2.2.1, (hc k hlt).2.2.2.2.2⟩)
      generalize (fs k).b = bq at *
      generalize (fs k).i = iq at *
      generalize (fs k).x = xq at *
      generalize (fs k).k = kq at *
      clear hcl hS hB x1 x2
      by_cases hk0 : kq = 0
      · subst hk0
        clear x3 x4 x5
        have D0 := Lib.hid (B0.out.step0 ((Mod.refl [] wr).drew))
        have C1 := Lib.hid (prepare_calls wr.drew A p bq iq g f D0.out.acc)
        have W0 := Lib.hid D0.out.m
        go_wp2
        go_region_held3 (fun w' => w'.cell? ⟨bb, off + k * 6 + 1, none⟩ = some (.int .i64 bq) ∧ w'.cell? ⟨bb, off + k * 6 + 2, none⟩ = some (.int .i64 iq))
          ((refine KS.out _ ?_; with_reducible first
            | exact W0.out
            | exact W5.out))
          (first
            | (go_at_call 23; (with_reducible refine C1.out.mono ?_); rintro e w5 ⟨v5, rfl, hA5, ho5, m5⟩; have W5 := Lib.hid (D0.out.mA m5); have A5 := Lib.hid hA5; have M5 := Lib.hid m5; clear hA5 ho5 m5))
        have R5 := Lib.hid ((D0.out.refA M5.out).mod0 ((Mod.refl [] w5).drew))
        have C2 := Lib.hid (rprepare_calls w5.drew W.heap.size r p bq iq v (votesN g 4096) R5.out (by have := B0.out.len; omega))
        have W6 := Lib.hid W5.out.drew
        go_wp2
        go_region_held3 (fun w' => w'.cell? ⟨bb, off + k * 6 + 1, none⟩ = some (.int .i64 bq) ∧ w'.cell? ⟨bb, off + k * 6 + 2, none⟩ = some (.int .i64 iq))
          ((refine KS.out _ ?_; with_reducible first
            | exact W6.out
            | exact W7.out))
          (first
            | (go_at_call 24; (with_reducible refine C2.out.mono ?_); rintro e w7 ⟨v7, rfl, hR7, ho7, m7⟩; have R7 := Lib.hid hR7; have M7 := Lib.hid m7; have W7 := Lib.hid (W6.out.fresh m7 (fun x hx => by simp at hx; subst hx; exact .inr D0.out.lr)); clear hR7 ho7 m7))
        have BN := Lib.hid (D0.out.both M5.out A5.out (Mod.of_drew M7.out) R7.out (okG_prep B0.out.ok).1 (Nat.le_trans B0.out.len (Nat.le_succ k)))
        go_wp2
        go_roundw
        case rel => exact ⟨k + 1, _, _, _, _, by omega, by go_num, BN.out⟩
        case measure => simp [intOf]; omega
      have t0 : (kq == 0) = false := by simpa using hk0
      by_cases hk1 : kq = 1
      · subst hk1
        clear hk0 t0
        have C1 := Lib.hid (accept_calls wr A p g f xq B0.out.acc hsz)
        obtain ⟨xs, xb, xv⟩ := xq
        simp only at x3 x4 x5 hsz
        go_wp2_with fail
        (with_reducible refine C1.out.mono ?_)
        rintro e w5 ⟨f5, rfl, hA5, m5⟩
        obtain ⟨y3, y4, y5⟩ := KV.out w5 (B0.out.mA m5)
        have A5 := Lib.hid hA5
        have M5 := Lib.hid m5
        have C2 := Lib.hid (raccept_calls w5 W.heap.size r p v (votesN g 4096) ⟨xs, xb, xv⟩ (B0.out.refA m5) hsz (by have := B0.out.len; omega) (B0.out.mA m5).size)
        clear hA5 m5 x3 x4 x5
        go_wp2_with fail
        (with_reducible refine C2.out.mono ?_)
        rintro e w7 ⟨v7, rfl, hR7, m7⟩
        have hR8 := hR7
        rw [racc_votes (fun i y hi hy => (B0.out.ok.2.2 i y hi hy).1)] at hR8
        have BN := Lib.hid (B0.out.both M5.out A5.out m7 hR8 (okG_acc B0.out.ok).1 (Nat.le_trans (accG_len p g ⟨xs, xb, xv⟩) (Nat.succ_le_succ B0.out.len)))
        clear hR7 m7 hR8
        go_wp2
        go_roundw
        case rel => exact ⟨k + 1, _, _, _, _, by omega, by go_num, BN.out⟩
        case measure => simp [intOf]; omega
      · have t1 : (kq == 1) = false := by simpa using hk1
        clear hk0 hk1 x3 x4 x5
        go_wp2
        go_roundw
        case rel => exact ⟨k + 1, _, _, _, _, by omega, by go_num, B0.out.more (Nat.le_succ k)⟩
        case measure => simp [intOf]; omega
    · have i1 : ¬ (k : Int) < (n : Int) := by omega
      obtain rfl : k = n := by omega
      clear hB
      have HL : Hid ((votesN g 4096).length ≤ 100000) := Lib.hid (by have := B0.out.len; omega)
      have HFA := Lib.hid (flt_all B0.out.ok)
      have GS := Lib.hid (show ∀ i y, i < 4096 → g i = some y → y.s = (i : Int) from fun i y hi hy => (B0.out.ok.2.2 i y hi hy).1)
      go_wp2_with fail
      refine (promised_calls wr A p g f B0.out.acc).mono ?_
      rintro e w5 ⟨rfl, rfl⟩
      go_wp2_with fail
      refine (votes_calls wr A p g f B0.out.acc).mono ?_
      rintro e w5 ⟨v5, rfl, ho5, m5⟩
      rw [HFA.out] at ho5
      have V5 := Lib.hid (row_vs ho5)
      have M5 := Lib.hid m5
      clear ho5 m5
      go_wp2_with fail
      refine (theirs_calls w5 v5 _ V5.out HL.out).mono ?_
      rintro e w6 ⟨v6, rfl, ho6, m6⟩
      have O6 := Lib.hid ho6
      have B6 := Lib.hid (B0.out.step0 (M5.out.trans m6))
      clear ho6 m6
      obtain ⟨x, hx⟩ : ∃ x : VoteT, x = ⟨a2, a1, a3⟩ := ⟨_, rfl⟩
      have C7 := Lib.hid (accept_calls w6 A p g f x B6.out.acc (by rw [hx]; show a3.size ≤ _; omega))
      have HXX := Lib.hid hx
      have hacc : accE p x = if a2 < 0 ∨ 4096 ≤ a2 ∨ balB a1 = false then 1 else if a1 < p then 5 else 0 := by
        rw [hx]
        unfold accE
        simp only
        by_cases hc : a2 < 0 ∨ 4096 ≤ a2 ∨ balB a1 = false
        · rw [if_pos hc, if_pos hc]
        · rw [if_neg hc, if_neg hc, if_neg (show ¬ 1024 < a3.size by omega)]
      rw [hx] at C7
      simp only at C7
      rw [← hx] at C7
      clear hx
      go_wp2_with fail
      (with_reducible refine C7.out.mono ?_)
      rintro e w7 ⟨f7, rfl, hA7, m7⟩
      have A7 := Lib.hid hA7
      have N7 := Lib.hid (B6.out.mA m7)
      have O7 := Lib.hid (own_mod O6.out m7 (fun k hk hx => by
        have := own_ne_arr O6.out B6.out.acc.arr (by decide)
        rw [hk] at this
        simp at this hx
        exact this hx.symm))
      have q0 := (B6.out.refA m7).c0
      have HAC := Lib.hid hacc
      clear hA7 m7 hacc C7
      generalize hae : accE p x = ae at *
      have HAE := Lib.hid hae
      clear hae
      -- whether the slot and the ballot are ones
      obtain ⟨may, hmay⟩ : ∃ may : Bool, may = decide (0 ≤ a2 ∧ a2 < 4096 ∧ 1 ≤ a1 ∧ a1 ≤ 1099511627776) := ⟨_, rfl⟩
      have HM := Lib.hid hmay
      clear hmay
      go_upto_region 18 with (fail)
      go_cut [15] (fun s wx => s = .bool may ∧ wx = w7)
      case first =>
        by_cases c1 : 0 ≤ a2
        rotate_left
        · have hm : may = false := by rw [HM.out]; simp; omega
          subst hm
          have t1 : decide (0 ≤ a2) = false := by simpa using c1
          clear c1
          go_wp2
          go_meet
          exact ⟨rfl, rfl⟩
        by_cases c2 : a2 < 4096
        rotate_left
        · have hm : may = false := by rw [HM.out]; simp; omega
          subst hm
          have t2 : decide (a2 < 4096) = false := by simpa using c2
          clear c2
          go_wp2
          go_meet
          exact ⟨rfl, rfl⟩
        by_cases c3 : 1 ≤ a1
        rotate_left
        · have hm : may = false := by rw [HM.out]; simp; omega
          subst hm
          have t3 : decide (1 ≤ a1) = false := by simpa using c3
          clear c3
          go_wp2
          go_meet
          exact ⟨rfl, rfl⟩
        by_cases c4 : a1 ≤ 1099511627776
        rotate_left
        · have hm : may = false := by rw [HM.out]; simp; omega
          subst hm
          have t4 : decide (a1 ≤ 1099511627776) = false := by simpa using c4
          clear c4
          go_wp2
          go_meet
          exact ⟨rfl, rfl⟩
        have hm : may = true := by rw [HM.out]; simp; omega
        subst hm
        go_wp2
        go_meet
        exact ⟨rfl, rfl⟩
      case rest =>
        obtain ⟨h15, hwc⟩ := hcut
        subst h15
        subst hwc
        have REF : Hid (ae ≠ 0 → AccP wc A p g f7) := Lib.hid (fun h => by
          have := A7.out
          unfold accP accG at this
          rw [HAE.out, if_neg h, if_neg h] at this
          exact this)
        cases may with
        | false =>
          have hae : ae = 1 := by
            rw [HAC.out]
            have := HM.out
            have hn2 : ¬ (0 ≤ a2 ∧ a2 < 4096 ∧ 1 ≤ a1 ∧ a1 ≤ 1099511627776) := by simpa using this.symm
            rw [if_pos]
            by_cases c : a2 < 0 ∨ 4096 ≤ a2
            · rcases c with c | c
              · exact .inl c
              · exact .inr (.inl c)
            · exact .inr (.inr (balB_no (by omega)))
          subst hae
          have A8 := Lib.hid (REF.out (by decide))
          go_wp2_with fail
          refine (promised_calls wc A p g f7 A8.out).mono ?_
          rintro e w8 ⟨rfl, rfl⟩
          go_wp2_with fail
          refine (votes_calls wc A p g f7 A8.out).mono ?_
          rintro e w9 ⟨v9, rfl, ho9, m9⟩
          rw [HFA.out] at ho9
          have V9 := Lib.hid (row_vs ho9)
          have M9 := Lib.hid m9
          clear ho9 m9
          go_wp2_with fail
          refine (theirs_calls w9 v9 _ V9.out HL.out).mono ?_
          rintro e w10 ⟨v10, rfl, ho10, m10⟩
          have V10 := Lib.hid (row_vs ho10)
          have M10 := Lib.hid (M9.out.trans m10)
          clear ho10 m10
          go_wp2_with fail
          refine (sameV_calls w10 v10 v6 _ V10.out ((row_vs O7.out).mod M10.out) HL.out).mono ?_
          rintro e w11 ⟨rfl, m11⟩
          have M11 := Lib.hid ((N7.out.trans M10.out).trans m11)
          clear m11
          go_wp2
          go_ret
          exact ⟨rfl, M11.out.below (Nat.le_refl _) (by simp)⟩
        | true =>
          have hmm : 0 ≤ a2 ∧ a2 < 4096 ∧ 1 ≤ a1 ∧ a1 ≤ 1099511627776 := by have := HM.out; simpa using this.symm
          obtain ⟨c1, c2, c3, c4⟩ := hmm
          have hbal : balB a1 = true := balB_yes ⟨c3, c4⟩
          have hae0 : ae = if a1 < p then 5 else 0 := by
            rw [HAC.out, if_neg]
            rw [hbal]
            simp
            omega
          have HB := Lib.hid hbal
          clear hbal
          by_cases hlt : a1 < p
          · have hae : ae = 5 := by rw [hae0, if_pos hlt]
            subst hae
            have A8 := Lib.hid (REF.out (by decide))
            clear hae0
            go_wp2_with fail
            refine (promised_calls wc A p g f7 A8.out).mono ?_
            rintro e w8 ⟨rfl, rfl⟩
            go_wp2_with fail
            refine (votes_calls wc A p g f7 A8.out).mono ?_
            rintro e w9 ⟨v9, rfl, ho9, m9⟩
            rw [HFA.out] at ho9
            have V9 := Lib.hid (row_vs ho9)
            have M9 := Lib.hid m9
            clear ho9 m9
            go_wp2_with fail
            refine (theirs_calls w9 v9 _ V9.out HL.out).mono ?_
            rintro e w10 ⟨v10, rfl, ho10, m10⟩
            have V10 := Lib.hid (row_vs ho10)
            have M10 := Lib.hid (M9.out.trans m10)
            clear ho10 m10
            go_wp2_with fail
            refine (sameV_calls w10 v10 v6 _ V10.out ((row_vs O7.out).mod M10.out) HL.out).mono ?_
            rintro e w11 ⟨rfl, m11⟩
            have M11 := Lib.hid ((N7.out.trans M10.out).trans m11)
            clear m11
            go_wp2
            go_ret
            exact ⟨rfl, M11.out.below (Nat.le_refl _) (by simp)⟩
          · have hae : ae = 0 := by rw [hae0, if_neg hlt]
            subst hae
            clear hae0
            have hA8 : AccP wc A a1 (setG g x) f7 := by
              have := A7.out
              unfold accP accG at this
              rw [HAE.out, if_pos rfl, if_pos rfl, HXX.out] at this
              rw [HXX.out]
              exact this
            obtain ⟨sn, hsn⟩ : ∃ sn : Nat, a2 = (sn : Int) := ⟨a2.toNat, by omega⟩
            have hvh := votes_head (g := g) (x := x) (s := sn) (by rw [HXX.out]; exact hsn) (by omega) GS.out
            obtain ⟨RR, hRR⟩ := hvh
            have C9 := Lib.hid (prepare_calls wc A a1 a1 a2 (setG g x) f7 hA8)
            have e1 : prepE a1 a1 = 0 := by unfold prepE; rw [if_neg (by rw [HB.out]; simp), if_neg (by omega)]
            have e2 : prepP a1 a1 = a1 := by unfold prepP; rw [if_pos e1]
            have e3 : prepL a1 a1 a2 (setG g x) = x :: RR := by
              unfold prepL
              rw [if_pos e1, ← hRR, HXX.out]
            unfold PrepPost at C9
            rw [e1, e2, e3] at C9
            have HSN := Lib.hid hsn
            clear hA8 hsn hRR e1 e2 e3
            go_wp2_with fail
            (with_reducible refine C9.out.mono ?_)
            rintro e w9 ⟨v9, rfl, hA9, ho9, m9⟩
            have W9 := Lib.hid (N7.out.fresh m9 (fun x hx => by simp at hx; subst hx; exact .inr B6.out.la))
            obtain ⟨A9, cap9, rfl, hc9, hm9, hx9⟩ := (own_slA ho9).ex
            obtain ⟨b9, off9, rfl, hcl9⟩ := hx9 (by simp)
            have y0 := hcl9 0 0 (by simp) (by omega)
            have y1 := hcl9 0 1 (by simp) (by omega)
            have y2 := hcl9 0 2 (by simp) (by omega)
            rw [vcells_get (x :: RR) 0 0 (by simp) (by omega)] at y0
            rw [vcells_get (x :: RR) 0 1 (by simp) (by omega)] at y1
            rw [vcells_get (x :: RR) 0 2 (by simp) (by omega)] at y2
            unfold vF VoteT.cF at y0 y1 y2
            simp only [List.getD_cons_zero, if_true, if_false, Nat.reduceEqDiff, Nat.zero_mul, Nat.add_zero] at y0 y1 y2
            rw [HXX.out] at y0 y1 y2
            simp only at y0 y1 y2
            have Y := Lib.hid (And.intro y0 (And.intro y1 y2))
            have hln9 : (x :: RR).length = RR.length + 1 := rfl
            rw [hln9] at hc9 ⊢
            have hcap9 : cap9 ≤ 9223372036854775807 := by unfold maxLen at hm9; omega
            have C10 := Lib.hid (prepare_calls w9 A a1 (a1 - 1) 0 (setG g x) f7 hA9)
            have KA := Lib.hid (show ∀ w' , Mod [A] w9 w' → w'.cell? ⟨b9, off9, none⟩ = some (.int .i64 a2) ∧ w'.cell? ⟨b9, off9 + 1, none⟩ = some (.int .i64 a1) ∧ w'.cell? ⟨b9, off9 + 2, none⟩ = some (.string a3) from fun w' m => by
              have hne := own_ne_arr ho9 hA9.arr (by decide)
              simp [Value.ownBlock] at hne
              exact ⟨m.cell' Y.out.1 (by simp; exact fun e => hne e.symm), m.cell' Y.out.2.1 (by simp; exact fun e => hne e.symm), m.cell' Y.out.2.2 (by simp; exact fun e => hne e.symm)⟩)
            have hp10 : prepP a1 (a1 - 1) = a1 ∧ (a1 = 1 ∨ prepE a1 (a1 - 1) = 5) := by
              by_cases h1 : a1 = 1
              · subst h1; exact ⟨by decide, .inl rfl⟩
              · have eb : balB (a1 - 1) = true := balB_yes (by omega)
                have e5 : prepE a1 (a1 - 1) = 5 := by unfold prepE; rw [if_neg (by rw [eb]; simp), if_pos (by omega)]
                exact ⟨by unfold prepP; rw [e5, if_neg (by decide)], .inr e5⟩
            obtain ⟨hpp, hpe⟩ := hp10
            unfold PrepPost at C10
            rw [hpp] at C10
            have HPE := Lib.hid hpe
            generalize prepE a1 (a1 - 1) = pe at *
            clear ho9 hm9 hx9 hcl9 y0 y1 y2 hA9 m9 hpp hpe hln9
            go_wp2_with fail
            (with_reducible refine C10.out.mono ?_)
            rintro e w10 ⟨v10, rfl, hA10, -, m10⟩
            obtain ⟨z0, z1, z2⟩ := KA.out w10 m10
            have W10 := Lib.hid (W9.out.fresh m10 (fun x hx => by simp at hx; subst hx; exact .inr B6.out.la))
            have C11 := Lib.hid (promised_calls w10 A a1 (setG g x) f7 hA10)
            have hl9 : (0 : Int) < ((RR.length : Int) + 1) := by omega
            clear hA10 m10
            by_cases h1 : a1 = 1
            · subst h1
              by_cases h5 : pe = 5
              · subst h5
                go_wp2_with fail
                refine C11.out.mono ?_
                rintro e w11 ⟨rfl, rfl⟩
                go_wp2
                go_ret
                exact ⟨rfl, W10.out.below (Nat.le_refl _) (by simp)⟩
              · have t5 : (pe == 5) = false := by simpa using h5
                clear h5
                go_wp2_with fail
                refine C11.out.mono ?_
                rintro e w11 ⟨rfl, rfl⟩
                go_wp2
                go_ret
                exact ⟨rfl, W10.out.below (Nat.le_refl _) (by simp)⟩
            · have h5 : pe = 5 := HPE.out.resolve_left h1
              subst h5
              clear h1
              go_wp2_with fail
              refine C11.out.mono ?_
              rintro e w11 ⟨rfl, rfl⟩
              go_wp2
              go_ret
              exact ⟨rfl, W10.out.below (Nat.le_refl _) (by simp)⟩
end Go.Proofs.YtphcoenooinmfaaDoor
