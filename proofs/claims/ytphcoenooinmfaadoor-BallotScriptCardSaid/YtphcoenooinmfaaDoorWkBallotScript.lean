/- The walk of the law BallotScript: whatever is prepared, accepted, saved and loaded, an acceptor answers, and has, what the document says; what it promised never falls. Premises: the listed variables are as laid. -/
import Derived.Test.YtphcoenooinmfaaDoorBal20
import Derived.Test.YtphcoenooinmfaaDoorRow
import Derived.Deep.DeepCutAuto
import Derived.Deep.CutBlock
namespace Go.Proofs.YtphcoenooinmfaaDoor
open Go.RowKit
set_option linter.unusedVariables false
set_option linter.unusedSimpArgs false
attribute [local go_sem ↓] Go.wp_at_zero Go.wp_at_succ

theorem AccP.congr {w : World} {a : Nat} {p : Int} {g g' : Nat → Option VoteT} {f : Nat → Nat} (h : AccP w a p g f) (e : ∀ i, i < 4096 → g i = g' i) : AccP w a p g' f :=
  ⟨h.arr.congr fun i hi => by
    unfold accF ptrV
    by_cases h0 : i = 0
    · rw [if_pos h0, if_pos h0]
    · rw [if_neg h0, if_neg h0, e (i - 1) (by omega)], fun i x hi hx => h.vote i x hi (by rw [e i hi]; exact hx)⟩
/-- What was saved is loaded: the sealed bytes. -/
theorem ldR_sav {p : Int} {g : Nat → Option VoteT} (h : okG p g) : ∃ g', ldR (sealB (txt (savB p (votesN g 4096)))) = some (p, g') ∧ ∀ i, i < 4096 → g' i = g i := by
  obtain ⟨g', h1, h2⟩ := ld_sav h
  refine ⟨g', ?_, h2⟩
  unfold ldR
  rw [ok_sealed, if_pos rfl, body_sealed, h1]
theorem sav_size {p : Int} {g : Nat → Option VoteT} (h : okG p g) {n : Nat} (hn : (votesN g 4096).length ≤ n) : (sealB (txt (savB p (votesN g 4096)))).size ≤ 20 + 1042 * n := by
  have h1 := savK_len (p := p) (okL_of h) _ (Nat.le_refl _)
  rw [savK_all] at h1
  rw [seal_size, txt_size]
  have := Nat.mul_le_mul_left 1042 hn
  omega
/-- What holds at the head of each round. -/
def ScI (W wr : World) (r n : Nat) (a i : Value) : Prop := ∃ (k A : Nat) (p : Int) (g : Nat → Option VoteT) (f : Nat → Nat) (v : Value), k ≤ n ∧ a = .pointer (some ⟨A, 0, none⟩) ∧ i = .int .i64 k ∧ BR W wr A r p g f v k
/-- What holds behind a call, whichever. -/
def ScC (W wx : World) (r k : Nat) (p0 : Int) (a : Value) : Prop := ∃ (A : Nat) (p : Int) (g : Nat → Option VoteT) (f : Nat → Nat) (v : Value), a = .pointer (some ⟨A, 0, none⟩) ∧ BR W wx A r p g f v (k + 1) ∧ p0 ≤ p
theorem own_r {w : World} {W : World} {A r n : Nat} {p : Int} {g : Nat → Option VoteT} {f : Nat → Nat} {v : Value} (h : BR W w A r p g f v n) {B e sz m : Nat} {u : Value} {xs : List Value} (ho : w.ownsRow B e sz u m xs) (he : e ≠ 48) : ∀ k, u.ownBlock = some k → k ∉ [r] := fun k hk hx => by
  have := own_ne_arr ho h.ref.arr he
  rw [hk] at this
  simp at this hx
  exact this hx.symm
set_option maxRecDepth 100000 in
set_option maxHeartbeats 8000000 in
theorem ballotScript_walk (W : World) (t0 : Steps W) (t1 : ErrT W) (v0 : Value) (c0 : CellOk W (.sl [.int .i64, .int .i64, .int .i64, .int .i64, .int .i64, .str]) v0) :
    Calls Tryd.prog 10 #[v0] W fun e w' => e = .returned (.bool true) ∧ Below W.heap.size W w' := by
  obtain ⟨A0, n, cap, fs, rfl, hn, hcap, hS⟩ := steps10_inv c0
  have SH := Lib.hid (fun w (m : Mod [] W w) => shown10_calls w (t0.mod m (by simp)))
  have T := Lib.hid (And.intro t0 t1)
  have HV := Lib.hid (heavy_calls W A0 n cap fs hS hn hcap)
  have HS := Lib.hid hS
  have Z0 : Hid (Mod [] W W) := Lib.hid (Mod.refl _ _)
  clear c0 t0 t1 hS
  go_enter Tryd.func10, Tryd.ntmps10
  go_wp2_with fail
  (with_reducible refine HV.out.mono ?_)
  rintro e w1 ⟨th, rfl, hth, rfl⟩
  cases th with
  | true =>
    clear hth
    go_wp2_with fail
    refine (SH.out _ Z0.out).mono ?_
    rintro e w1 ⟨rfl, m1⟩
    have M1 := Lib.hid m1
    clear m1
    go_wp2
    go_ret
    exact ⟨rfl, M1.out.below (Nat.le_refl _) (by simp)⟩
  | false =>
  have hn100 := hth rfl
  clear hth
  go_wp2_with fail
  refine (SH.out _ Z0.out).mono ?_
  rintro e w1 ⟨rfl, m1⟩
  have M1 := Lib.hid m1
  clear m1
  go_wp2_with fail
  refine (accNew_calls w1).mono ?_
  rintro e w2 ⟨rfl, hA2, m2⟩
  obtain ⟨w3, hw3⟩ : ∃ w3, w3 = w2.alloc (.cells #[.int .i64 0, .slice none 0 0] 48) := ⟨_, rfl⟩
  have B3 := br_new M1.out m2 hA2
  rw [← hw3] at B3
  obtain ⟨A, hA⟩ : ∃ A, A = w1.heap.size := ⟨_, rfl⟩
  obtain ⟨r, hr⟩ : ∃ r, r = w2.heap.size := ⟨_, rfl⟩
  rw [← hA, ← hr] at B3
  have HB3 : Hid (ScI W w3 r n (.pointer (some ⟨A, 0, none⟩)) (.int .i64 (0 : Nat))) := Lib.hid ⟨0, A, _, _, _, _, Nat.zero_le _, rfl, rfl, B3⟩
  have HW3 := Lib.hid hw3
  have HA := Lib.hid hA
  have HR := Lib.hid hr
  clear hA2 m2 hw3 B3 hA hr
  go_wp2
  rw [← HW3.out, ← HA.out, ← HR.out]
  go_loopw [3, 5] (fun a i wr => ScI W wr r n a i) (fun _ i _ => n - (intOf i).toNat)
  case atStart => exact HB3.out
  case round =>
    obtain ⟨k, A, p, g, f, v, hk, rfl, rfl, hB⟩ := hrel
    clear HB3
    have B0 := Lib.hid hB
    by_cases hlt : k < n
    · have i0 : (0 : Int) ≤ (k : Int) := by omega
      have i1 : (k : Int) < (n : Int) := by omega
      have hS := HS.out.mod hB.m
      obtain ⟨bb, off, rfl, hcl⟩ := hS.ex (by omega)
      obtain ⟨x0, x1, x2, x3, x4, x5⟩ := hcl k hlt
      have hsz := hS.sz k hlt
      generalize (fs k).b = bq at *
      generalize (fs k).i = iq at *
      generalize (fs k).x = xq at *
      generalize (fs k).k = kq at *
      obtain ⟨xs, xb, xv⟩ := xq
      simp only at x3 x4 x5 hsz
      obtain ⟨wq, hwq⟩ : ∃ wq, wq = wr.alloc (.cells #[.int .i64 kq, .int .i64 bq, .int .i64 iq, .int .i64 xs, .int .i64 xb, .string xv] 50) := ⟨_, rfl⟩
      have mq : Mod [] wr wq := by rw [hwq]; exact (Mod.refl _ _).alloc _
      obtain ⟨q, hq⟩ : ∃ q, q = wr.heap.size := ⟨_, rfl⟩
      have qa : Arr wq q 50 6 (fun j => if j = 0 then .int .i64 kq else if j = 1 then .int .i64 bq else if j = 2 then .int .i64 iq else if j = 3 then .int .i64 xs else if j = 4 then .int .i64 xb else .string xv) := by
        rw [hwq, hq]
        exact Arr.new' wr _ _ 6 _ rfl (fun i hi => by
          match i, hi with
          | 0, _ | 1, _ | 2, _ | 3, _ | 4, _ | 5, _ => rfl)
      have Bq := Lib.hid (B0.out.step0 mq)
      have QA := Lib.hid qa
      have HWQ := Lib.hid hwq
      have HQ := Lib.hid hq
      have P1 := Lib.hid (promised_calls wq A p g f Bq.out.acc)
      clear hcl hS hB mq qa hwq hq
      go_wp2_with fail
      rw [← HWQ.out, ← HQ.out]
      refine P1.out.mono ?_
      rintro e w5 ⟨rfl, rfl⟩
      have d0 := QA.out.cell 0 (by omega)
      have d1 := QA.out.cell 1 (by omega)
      have d2 := QA.out.cell 2 (by omega)
      simp only [if_true, if_false, Nat.reduceEqDiff] at d0 d1 d2
      clear x0 x1 x2 x3 x4 x5
      go_upto_block 2 with (fail)
      go_cut [3] (fun s wx => ScC W wx r k p s)
      case first =>
        by_cases hk0 : kq = 0
        · subst hk0
          have C1 := Lib.hid (prepare_calls wq A p bq iq g f Bq.out.acc)
          go_wp2_with fail
          (with_reducible refine C1.out.mono ?_)
          rintro e w5 ⟨v5, rfl, hA5, ho5, m5⟩
          have Q5 := Lib.hid (QA.out.mod m5 (by simpa using arr_ne QA.out Bq.out.acc.arr (by decide)))
          have e1 := Q5.out.cell 1 (by omega)
          have e2 := Q5.out.cell 2 (by omega)
          simp only [if_true, if_false, Nat.reduceEqDiff] at e1 e2
          have R5 := Lib.hid (Bq.out.refA m5)
          have A5 := Lib.hid hA5
          have M5 := Lib.hid m5
          have O5 := Lib.hid ho5
          have C2 := Lib.hid (rprepare_calls w5 W.heap.size r p bq iq v (votesN g 4096) R5.out (by have := B0.out.len; omega))
          clear hA5 ho5 m5 d0 d1 d2
          go_wp2_with fail
          (with_reducible refine C2.out.mono ?_)
          rintro e w7 ⟨v7, rfl, hR7, ho7, m7⟩
          have BN := Lib.hid (Bq.out.both M5.out A5.out m7 hR7 (okG_prep B0.out.ok).1 (Nat.le_trans B0.out.len (Nat.le_succ k)))
          have hle := (okG_prep (b := bq) B0.out.ok).2
          have V5 := Lib.hid (row_vs (own_mod O5.out m7 (fun k hk hx => by
            have := own_ne_arr O5.out R5.out.arr (by decide)
            rw [hk] at this
            simp at this hx
            exact this hx.symm)))
          have V7 := Lib.hid (row_vs ho7)
          have HLN : Hid ((prepL p bq iq g).length ≤ 100000) := Lib.hid (by
            unfold prepL
            split
            · have := votesF_len g iq 4096; omega
            · simp)
          have HLE := Lib.hid hle
          have C3 := Lib.hid (theirs_calls w7 v5 _ V5.out HLN.out)
          generalize prepE p bq = pe at *
          clear hR7 ho7 m7 hle
          go_wp2_with fail
          refine C3.out.mono ?_
          rintro e w8 ⟨v8, rfl, ho8, m8⟩
          have C4 := Lib.hid (sameV_calls w8 v8 v7 (prepL p bq iq g) (row_vs ho8) (V7.out.mod m8) HLN.out)
          have M8 := Lib.hid m8
          clear ho8 m8
          go_wp2_with fail
          refine C4.out.mono ?_
          rintro e w9 ⟨rfl, m9⟩
          have BZ := Lib.hid (BN.out.step0 (M8.out.trans m9))
          clear m9
          go_wp2
          go_meet
          exact ⟨A, _, _, _, _, rfl, BZ.out, HLE.out⟩
        have t0 : (kq == 0) = false := by simpa using hk0
        by_cases hk1 : kq = 1
        · subst hk1
          clear hk0
          have D0 := Lib.hid (Bq.out.step0 ((Mod.refl [] wq).drew))
          have C1 := Lib.hid (accept_calls wq.drew A p g f ⟨xs, xb, xv⟩ D0.out.acc hsz)
          have KQ := Lib.hid (show ∀ w', Arr w' q 50 6 (fun j => if j = 0 then .int .i64 1 else if j = 1 then .int .i64 bq else if j = 2 then .int .i64 iq else if j = 3 then .int .i64 xs else if j = 4 then .int .i64 xb else .string xv) → w'.cell? ⟨q, 3, none⟩ = some (.int .i64 xs) ∧ w'.cell? ⟨q, 4, none⟩ = some (.int .i64 xb) ∧ w'.cell? ⟨q, 5, none⟩ = some (.string xv) from fun w' h => ⟨h.cell 3 (by omega), h.cell 4 (by omega), h.cell 5 (by omega)⟩)
          have Q0 := Lib.hid (QA.out.mod ((Mod.refl [] wq).drew) (by simp))
          clear d0 d1 d2
          simp only at C1
          go_wp2
          go_region_held3 (fun w' => w'.cell? ⟨q, 3, none⟩ = some (.int .i64 xs) ∧ w'.cell? ⟨q, 4, none⟩ = some (.int .i64 xb) ∧ w'.cell? ⟨q, 5, none⟩ = some (.string xv))
            ((refine KQ.out _ ?_; with_reducible first
              | exact Q0.out
              | exact Q5.out
              | exact Q7.out))
            (first
              | (go_at_call 25; (with_reducible refine C1.out.mono ?_); rintro e w5 ⟨f5, rfl, hA5, m5⟩; have A5 := Lib.hid hA5; have M5 := Lib.hid m5; have Q5 := Lib.hid (Q0.out.mod m5 (by simpa using arr_ne Q0.out D0.out.acc.arr (by decide))); clear hA5 m5)
              | (go_at_call 26; refine (raccept_calls w5 W.heap.size r p v (votesN g 4096) ⟨xs, xb, xv⟩ (D0.out.refA M5.out) hsz (by have := B0.out.len; omega) (D0.out.mA M5.out).size).mono ?_; rintro e w7 ⟨v7, rfl, hR7, m7⟩; have R7 := Lib.hid hR7; have M7 := Lib.hid m7; have Q7 := Lib.hid (Q5.out.mod m7 (by simpa using arr_ne Q5.out (D0.out.refA M5.out).arr (by decide))); clear hR7 m7))
          have hR8 := R7.out
          rw [racc_votes (fun i y hi hy => (B0.out.ok.2.2 i y hi hy).1)] at hR8
          have BN := Lib.hid (D0.out.both M5.out A5.out M7.out hR8 (okG_acc B0.out.ok).1 (Nat.le_trans (accG_len p g ⟨xs, xb, xv⟩) (Nat.succ_le_succ B0.out.len)))
          have HLE := Lib.hid (okG_acc (x := ⟨xs, xb, xv⟩) B0.out.ok).2
          generalize accE p ⟨xs, xb, xv⟩ = ae at *
          clear hR8
          go_wp2
          go_meet
          exact ⟨A, _, _, _, _, rfl, BN.out, HLE.out⟩
        have t1 : (kq == 1) = false := by simpa using hk1
        by_cases hk2 : kq = 2
        · subst hk2
          clear hk0 hk1
          have hlen := B0.out.len
          have C1 := Lib.hid (save_calls wq A p g f Bq.out.acc B0.out.ok (by omega) (T.out.1.mod Bq.out.m (by simp)) (T.out.2.mod Bq.out.m (by simp)))
          unfold SavePost at C1
          obtain ⟨g9, hld, hg9⟩ := ldR_sav B0.out.ok
          have hss := sav_size B0.out.ok hlen
          obtain ⟨S, hSS⟩ : ∃ S, S = sealB (txt (savB p (votesN g 4096))) := ⟨_, rfl⟩
          rw [← hSS] at C1 hld hss
          have HSS := Lib.hid hSS
          have HLD := Lib.hid (And.intro hld hg9)
          clear hSS hld hg9 d0 d1 d2
          go_wp2_with fail
          (with_reducible refine C1.out.mono ?_)
          rintro e w5 ⟨rfl, m5⟩
          have B5 := Lib.hid (Bq.out.step0 m5)
          have C2 := Lib.hid (load_calls w5 S (by omega) (T.out.1.mod B5.out.m (by simp)) (T.out.2.mod B5.out.m (by simp)))
          clear m5 C1
          go_wp2_with fail
          (with_reducible refine C2.out.mono ?_)
          rintro e w6 ⟨m6, ⟨hno, _⟩ | ⟨p6, g6, f6, A6, hy6, rfl, hA6, hlo6⟩⟩
          · rw [HLD.out.1] at hno
            cases hno
          rw [HLD.out.1] at hy6
          obtain ⟨e1, e2⟩ := Prod.mk.inj (Option.some.inj hy6)
          subst e1
          subst e2
          have B6 := Lib.hid (B5.out.step0 m6)
          have A6' := Lib.hid (hA6.congr HLD.out.2)
          have C3 := Lib.hid (rsave_calls w6 W.heap.size r p v (votesN g 4096) B6.out.ref (okL_of B0.out.ok) B0.out.ok.1 B0.out.ok.2.1 (by omega) (T.out.2.mod B6.out.m (by simp)))
          unfold SavePost at C3
          rw [← HSS.out] at C3
          have hla6 : W.heap.size ≤ A6 := Nat.le_trans B5.out.m.size hlo6
          clear m6 hy6 hA6 hlo6 C2
          go_wp2_with fail
          (with_reducible refine C3.out.mono ?_)
          rintro e w7 ⟨rfl, m7⟩
          have BN : Hid (BR W w7 A6 r p g f6 v (k + 1)) := Lib.hid (by
            have h := (B6.out.step0 m7).more (Nat.le_succ k)
            exact ⟨h.m, A6'.out.mod m7, h.ref, h.ok, h.len, hla6, h.lr⟩)
          clear m7 C3
          go_wp2
          go_meet
          exact ⟨A6, p, g, f6, v, rfl, BN.out, Int.le_refl _⟩
        · have t2 : (kq == 2) = false := by simpa using hk2
          clear hk0 hk1 hk2
          go_wp2
          go_meet
          exact ⟨A, p, g, f, v, rfl, Bq.out.more (Nat.le_succ k), Int.le_refl _⟩
      case rest =>
        obtain ⟨A9, p9, g9, f9, v9, h3, hB9, hle9⟩ := hcut
        subst h3
        have B9 := Lib.hid hB9
        have HLE := Lib.hid hle9
        have hlt9 : decide (p9 < p) = false := by simp; omega
        have HFA := Lib.hid (flt_all B9.out.ok)
        have HLN : Hid ((votesN g9 4096).length ≤ 100000) := Lib.hid (by have := B9.out.len; omega)
        have KS := Lib.hid (show ∀ w', Mod [] wc w' → w'.cell? ⟨r, 0, none⟩ = some (.int .i64 p9) ∧ w'.cell? ⟨r, 1, none⟩ = some v9 from fun w' m => ⟨(hB9.ref.mod0 m).c0, (hB9.ref.mod0 m).c1⟩)
        have Z0 : Hid (Mod [] wc wc) := Lib.hid (Mod.refl _ _)
        clear hB9 hle9
        go_wp2
        go_region_held3 (fun w' => w'.cell? ⟨r, 0, none⟩ = some (.int .i64 p9) ∧ w'.cell? ⟨r, 1, none⟩ = some v9)
          ((refine KS.out _ ?_; with_reducible first
            | exact Z0.out.drew
            | exact Z5.out
            | exact Z6.out
            | exact Z7.out))
          (first
            | (go_at_call 27; refine (promised_calls wc.drew A9 p9 g9 f9 (B9.out.acc.mod Z0.out.drew)).mono ?_; rintro e w' ⟨rfl, rfl⟩)
            | (go_at_call 28; refine (votes_calls wc.drew A9 p9 g9 f9 (B9.out.acc.mod Z0.out.drew)).mono ?_; rintro e w5 ⟨v5, rfl, ho5, m5⟩; rw [HFA.out] at ho5; have V5 := Lib.hid (row_vs ho5); have Z5 := Lib.hid (Z0.out.drew.trans m5); clear ho5 m5)
            | (go_at_call 18; refine (theirs_calls w5 v5 _ V5.out HLN.out).mono ?_; rintro e w6 ⟨v6, rfl, ho6, m6⟩; have V6 := Lib.hid (row_vs ho6); have Z6 := Lib.hid (Z5.out.trans m6); clear ho6 m6)
            | (go_at_call 29; refine (sameV_calls w6 v6 v9 _ V6.out (row_vs (B9.out.ref.mod0 Z6.out).own) HLN.out).mono ?_; rintro e w7 ⟨rfl, m7⟩; have Z7 := Lib.hid (Z6.out.trans m7); clear m7))
        go_wp2
        go_roundw
        case rel => exact ⟨k + 1, A9, p9, g9, f9, v9, by omega, rfl, by go_num, B9.out.step0 Z7.out⟩
        case measure => simp [intOf]; omega
    · have i1 : ¬ (k : Int) < (n : Int) := by omega
      clear hB
      go_wp2
      go_ret
      exact ⟨rfl, B0.out.m.below (Nat.le_refl _) (by simp)⟩
end Go.Proofs.YtphcoenooinmfaaDoor
