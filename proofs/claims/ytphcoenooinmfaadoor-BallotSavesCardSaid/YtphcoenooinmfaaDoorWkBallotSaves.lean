/- The walk of the law BallotSaves: an acceptor that is loaded answers as the one that was saved, whatever comes then. Premises: the listed variables are as laid. -/
import Derived.Test.YtphcoenooinmfaaDoorBal20
import Derived.Test.YtphcoenooinmfaaDoorRow
import Derived.Deep.DeepCutAuto
namespace Go.Proofs.YtphcoenooinmfaaDoor
open Go.RowKit
set_option linter.unusedVariables false
set_option linter.unusedSimpArgs false
attribute [local go_sem ↓] Go.wp_at_zero Go.wp_at_succ

theorem AccP.congr {w : World} {a : Nat} {p : Int} {g g' : Nat → Option VoteT} {f : Nat → Nat} (h : AccP w a p g f) (e : ∀ i, i < 4096 → g i = g' i) : AccP w a p g' f :=
  ⟨h.arr.congr fun i hi => by
    unfold accF ptrV
    by_cases h0 : i = 0
    · rw [if_pos h0, if_pos h0]
    · rw [if_neg h0, if_neg h0, e (i - 1) (by omega)], fun i x hi hx => h.vote i x hi (by rw [e i hi]; exact hx)⟩
/-- What was saved is loaded: the sealed bytes. -/
theorem ldR_sav {p : Int} {g : Nat → Option VoteT} (h : okG p g) : ∃ g', ldR (sealB (txt (savB p (votesN g 4096)))) = some (p, g') ∧ ∀ i, i < 4096 → g' i = g i := by
  obtain ⟨g', h1, h2⟩ := ld_sav h
  refine ⟨g', ?_, h2⟩
  unfold ldR
  rw [ok_sealed, if_pos rfl, body_sealed, h1]
theorem sav_size {p : Int} {g : Nat → Option VoteT} (h : okG p g) {n : Nat} (hn : (votesN g 4096).length ≤ n) : (sealB (txt (savB p (votesN g 4096)))).size ≤ 20 + 1042 * n := by
  have h1 := savK_len (p := p) (okL_of h) _ (Nat.le_refl _)
  rw [savK_all] at h1
  rw [seal_size, txt_size]
  have := Nat.mul_le_mul_left 1042 hn
  omega
theorem AccP.other {w w' : World} {a b : Nat} {p q : Int} {g h : Nat → Option VoteT} {f e : Nat → Nat} (hb : AccP w b p g f) (ha : AccP w a q h e) (hne : b ≠ a) (m : Mod [a] w w') : AccP w' b p g f :=
  hb.mod1 m (by simpa using hne) (fun i x hi hx => by simpa using arr_ne (hb.vote i x hi hx).2.2 ha.arr (by decide))
/-- An acceptor of the law's own. -/
structure AR (W w : World) (A : Nat) (p : Int) (g : Nat → Option VoteT) (f : Nat → Nat) (n : Nat) : Prop where
  m : Mod [] W w
  acc : AccP w A p g f
  ok : okG p g
  len : (votesN g 4096).length ≤ n
  la : W.heap.size ≤ A
namespace AR
variable {W w w1 : World} {A n : Nat} {p : Int} {g : Nat → Option VoteT} {f : Nat → Nat}
theorem step0 (h : AR W w A p g f n) (m : Mod [] w w1) : AR W w1 A p g f n := ⟨h.m.trans m, h.acc.mod m, h.ok, h.len, h.la⟩
theorem mA (h : AR W w A p g f n) (m : Mod [A] w w1) : Mod [] W w1 := h.m.fresh m (fun x hx => by simp at hx; subst hx; exact .inr h.la)
theorem prep (h : AR W w A p g f n) {b : Int} (m : Mod [A] w w1) (ha : AccP w1 A (prepP p b) g f) : AR W w1 A (prepP p b) g f (n + 1) := ⟨h.mA m, ha, (okG_prep h.ok).1, Nat.le_succ_of_le h.len, h.la⟩
theorem put (h : AR W w A p g f n) {x : VoteT} {f' : Nat → Nat} (m : Mod [A] w w1) (ha : AccP w1 A (accP p x) (accG p g x) f') : AR W w1 A (accP p x) (accG p g x) f' (n + 1) := ⟨h.mA m, ha, (okG_acc h.ok).1, Nat.le_trans (accG_len p g x) (Nat.succ_le_succ h.len), h.la⟩
theorem more (h : AR W w A p g f n) {n' : Nat} (hn : n ≤ n') : AR W w A p g f n' := ⟨h.m, h.acc, h.ok, Nat.le_trans h.len hn, h.la⟩
end AR
def SvI (W wr : World) (A n : Nat) (i : Value) : Prop := ∃ (k : Nat) (p : Int) (g : Nat → Option VoteT) (f : Nat → Nat), k ≤ n ∧ i = .int .i64 k ∧ AR W wr A p g f k
def SvJ (W wr : World) (A B n n0 : Nat) (i : Value) : Prop := ∃ (k : Nat) (p : Int) (g : Nat → Option VoteT) (f f2 : Nat → Nat), k ≤ n ∧ i = .int .i64 k ∧ AR W wr A p g f (n0 + k) ∧ AccP wr B p g f2
theorem sts_cells {W : World} {bb off n : Nat} {fs : Nat → StepT} (HS : Sts W (some ⟨bb, off, none⟩) n fs) {k : Nat} (hlt : k < n) : ∀ w', Mod [] W w' →
    (w'.cell? ⟨bb, off + k * 6 + 1, none⟩ = some (.int .i64 (fs k).b) ∧ w'.cell? ⟨bb, off + k * 6 + 2, none⟩ = some (.int .i64 (fs k).i)) ∧
    (w'.cell? ⟨bb, off + k * 6 + 3, none⟩ = some (.int .i64 (fs k).x.s) ∧ w'.cell? ⟨bb, off + k * 6 + 4, none⟩ = some (.int .i64 (fs k).x.b) ∧ w'.cell? ⟨bb, off + k * 6 + 5, none⟩ = some (.string (fs k).x.v)) := by
  intro w' m
  obtain ⟨bb', off', e, hc⟩ := (HS.mod m).ex (by omega)
  injection e with e
  injection e with e1 e2
  subst e1
  subst e2
  exact ⟨⟨(hc k hlt).2.1, (hc k hlt).2.2.1⟩, (hc k hlt).2.2.2.1, (hc k hlt).2.2.2.2.1, (hc k hlt).2.2.2.2.2⟩
set_option maxRecDepth 100000 in
set_option maxHeartbeats 16000000 in
theorem ballotSaves_walk (W : World) (t0 : Steps W) (t1 : ErrT W) (v0 : Value) (c0 : CellOk W (.sl [.int .i64, .int .i64, .int .i64, .int .i64, .int .i64, .str]) v0)
    (v1 : Value) (c1 : CellOk W (.sl [.int .i64, .int .i64, .int .i64, .int .i64, .int .i64, .str]) v1) :
    Calls Tryd.prog 11 #[v0, v1] W fun e w' => e = .returned (.bool true) ∧ Below W.heap.size W w' := by
  obtain ⟨A0, n, cap, fs, rfl, hn, hcap, hS⟩ := steps10_inv c0
  obtain ⟨A1, n1, cap1, gs, rfl, hn1, hcap1, hS1⟩ := steps10_inv c1
  have SH := Lib.hid (fun w (m : Mod [] W w) => shown10_calls w (t0.mod m (by simp)))
  have T := Lib.hid (And.intro t0 t1)
  have HV := Lib.hid (heavy_calls W A0 n cap fs hS hn hcap)
  have HV1 := Lib.hid (heavy_calls W A1 n1 cap1 gs hS1 hn1 hcap1)
  have HS := Lib.hid hS
  have HS1 := Lib.hid hS1
  have Z0 : Hid (Mod [] W W) := Lib.hid (Mod.refl _ _)
  clear c0 c1 t0 t1 hS hS1
  go_enter Tryd.func11, Tryd.ntmps11
  go_wp2_with fail
  (with_reducible refine HV.out.mono ?_)
  rintro e w1 ⟨th, rfl, hth, rfl⟩
  cases th with
  | true =>
    clear hth
    go_wp2_with fail
    refine (SH.out _ Z0.out).mono ?_
    rintro e w1 ⟨rfl, m1⟩
    have M1 := Lib.hid m1
    clear m1
    go_wp2
    go_ret
    exact ⟨rfl, M1.out.below (Nat.le_refl _) (by simp)⟩
  | false =>
  have hn100 := hth rfl
  clear hth
  go_wp2_with fail
  (with_reducible refine HV1.out.mono ?_)
  rintro e w1 ⟨th, rfl, hth, rfl⟩
  cases th with
  | true =>
    clear hth
    go_wp2_with fail
    refine (SH.out _ Z0.out).mono ?_
    rintro e w1 ⟨rfl, m1⟩
    have M1 := Lib.hid m1
    clear m1
    go_wp2
    go_ret
    exact ⟨rfl, M1.out.below (Nat.le_refl _) (by simp)⟩
  | false =>
  have hn200 := hth rfl
  clear hth
  go_wp2_with fail
  refine (SH.out _ Z0.out).mono ?_
  rintro e w1 ⟨rfl, m1⟩
  have M1 := Lib.hid m1
  clear m1
  go_wp2_with fail
  refine (accNew_calls w1).mono ?_
  rintro e w2 ⟨rfl, hA2, m2⟩
  obtain ⟨A, hA⟩ : ∃ A, A = w1.heap.size := ⟨_, rfl⟩
  rw [← hA] at hA2
  have HB3 : Hid (SvI W w2 A n (.int .i64 (0 : Nat))) := Lib.hid ⟨0, _, _, _, Nat.zero_le _, rfl, ⟨M1.out.trans m2, hA2, okG_none, by
    have e : votesN (fun _ => none) 4096 = [] := by unfold votesN; rw [List.filterMap_eq_nil_iff]; intro _ _; rfl
    rw [e]; simp, by rw [hA]; exact M1.out.size⟩⟩
  have HA := Lib.hid hA
  clear hA2 m2 hA
  go_wp2
  rw [← HA.out]
  go_loopw [6] (fun i wr => SvI W wr A n i) (fun i _ => n - (intOf i).toNat)
  case atStart => exact HB3.out
  case round =>
    obtain ⟨k, p, g, f, hk, rfl, hB⟩ := hrel
    clear HB3
    have B0 := Lib.hid hB
    by_cases hlt : k < n
    · have i0 : (0 : Int) ≤ (k : Int) := by omega
      have i1 : (k : Int) < (n : Int) := by omega
      have hS := HS.out.mod hB.m
      obtain ⟨bb, off, rfl, hcl⟩ := hS.ex (by omega)
      obtain ⟨x0, x1, x2, x3, x4, x5⟩ := hcl k hlt
      have hsz := hS.sz k hlt
      have KS := Lib.hid (sts_cells HS.out hlt)
      generalize (fs k).b = bq at *
      generalize (fs k).i = iq at *
      generalize (fs k).x = xq at *
      generalize (fs k).k = kq at *
      clear hcl hS hB x1 x2
      by_cases hk0 : kq = 0
      · subst hk0
        clear x3 x4 x5
        have D0 := Lib.hid (B0.out.step0 ((Mod.refl [] wr).drew))
        have C1 := Lib.hid (prepare_calls wr.drew A p bq iq g f D0.out.acc)
        have W0 := Lib.hid D0.out.m
        go_wp2
        go_region_held3 (fun w' => w'.cell? ⟨bb, off + k * 6 + 1, none⟩ = some (.int .i64 bq) ∧ w'.cell? ⟨bb, off + k * 6 + 2, none⟩ = some (.int .i64 iq))
          ((refine (KS.out _ ?_).1; with_reducible first
            | exact W0.out
            | exact W5.out))
          (first
            | (go_at_call 23; (with_reducible refine C1.out.mono ?_); rintro e w5 ⟨v5, rfl, hA5, ho5, m5⟩; have W5 := Lib.hid (D0.out.mA m5); have BN := Lib.hid (D0.out.prep m5 hA5); clear hA5 ho5 m5))
        go_wp2
        go_roundw
        case rel => exact ⟨k + 1, _, _, _, by omega, by go_num, BN.out⟩
        case measure => simp [intOf]; omega
      have t0 : (kq == 0) = false := by simpa using hk0
      by_cases hk1 : kq = 1
      · subst hk1
        clear hk0 t0
        have C1 := Lib.hid (accept_calls wr A p g f xq B0.out.acc hsz)
        obtain ⟨xs, xb, xv⟩ := xq
        simp only at x3 x4 x5 hsz
        go_wp2_with fail
        (with_reducible refine C1.out.mono ?_)
        rintro e w5 ⟨f5, rfl, hA5, m5⟩
        have BN := Lib.hid (B0.out.put m5 hA5)
        clear hA5 m5 x3 x4 x5
        go_wp2
        go_roundw
        case rel => exact ⟨k + 1, _, _, _, by omega, by go_num, BN.out⟩
        case measure => simp [intOf]; omega
      · have t1 : (kq == 1) = false := by simpa using hk1
        clear hk0 hk1 x3 x4 x5
        go_wp2
        go_roundw
        case rel => exact ⟨k + 1, _, _, _, by omega, by go_num, B0.out.more (Nat.le_succ k)⟩
        case measure => simp [intOf]; omega
    · have i1 : ¬ (k : Int) < (n : Int) := by omega
      obtain rfl : k = n := by omega
      have hlen := B0.out.len
      have C1 := Lib.hid (save_calls wr A p g f B0.out.acc B0.out.ok (by omega) (T.out.1.mod B0.out.m (by simp)) (T.out.2.mod B0.out.m (by simp)))
      unfold SavePost at C1
      obtain ⟨g9, hld, hg9⟩ := ldR_sav B0.out.ok
      have hss := sav_size B0.out.ok hlen
      obtain ⟨S, hSS⟩ : ∃ S, S = sealB (txt (savB p (votesN g 4096))) := ⟨_, rfl⟩
      rw [← hSS] at C1 hld hss
      have HLD := Lib.hid (And.intro hld hg9)
      clear hSS hld hg9 hB
      go_wp2_with fail
      (with_reducible refine C1.out.mono ?_)
      rintro e w5 ⟨rfl, m5⟩
      have B5 := Lib.hid (B0.out.step0 m5)
      have C2 := Lib.hid (load_calls w5 S (by omega) (T.out.1.mod B5.out.m (by simp)) (T.out.2.mod B5.out.m (by simp)))
      clear m5 C1
      go_wp2_with fail
      (with_reducible refine C2.out.mono ?_)
      rintro e w6 ⟨m6, ⟨hno, _⟩ | ⟨p6, g6, f6, B, hy6, rfl, hA6, hlo6⟩⟩
      · rw [HLD.out.1] at hno
        cases hno
      rw [HLD.out.1] at hy6
      obtain ⟨e1, e2⟩ := Prod.mk.inj (Option.some.inj hy6)
      subst e1
      subst e2
      have hBA : B ≠ A := by have := B5.out.acc.arr.lt; omega
      have hlb : W.heap.size ≤ B := Nat.le_trans B5.out.m.size hlo6
      have HJ : Hid (SvJ W w6 A B n1 k (.int .i64 (0 : Nat))) := Lib.hid ⟨0, _, _, _, _, Nat.zero_le _, rfl, B5.out.step0 m6, hA6.congr HLD.out.2⟩
      clear m6 hy6 hA6 hlo6 C2 hlen hss
      go_wp2
      go_loopw [9] (fun i wr => SvJ W wr A B n1 k i) (fun i _ => n1 - (intOf i).toNat)
      case atStart => exact HJ.out
      case round =>
        obtain ⟨j, p, g, f, f2, hj, rfl, hB, hB2⟩ := hrel
        clear HJ B0 B5 HLD
        have B0 := Lib.hid hB
        have E0 := Lib.hid hB2
        by_cases hlt : j < n1
        · have i0 : (0 : Int) ≤ (j : Int) := by omega
          have i1 : (j : Int) < (n1 : Int) := by omega
          have hS := HS1.out.mod hB.m
          obtain ⟨bb, off, rfl, hcl⟩ := hS.ex (by omega)
          obtain ⟨x0, x1, x2, x3, x4, x5⟩ := hcl j hlt
          have hsz := hS.sz j hlt
          have KS := Lib.hid (sts_cells HS1.out hlt)
          generalize (gs j).b = bq at *
          generalize (gs j).i = iq at *
          generalize (gs j).x = xq at *
          generalize (gs j).k = kq at *
          clear hcl hS hB hB2 x1 x2 x3 x4 x5
          by_cases hk0 : kq = 0
          · subst hk0
            have D0 := Lib.hid (B0.out.step0 ((Mod.refl [] wr).drew))
            have F0 := Lib.hid (E0.out.mod ((Mod.refl [] wr).drew))
            have C1 := Lib.hid (prepare_calls wr.drew A p bq iq g f D0.out.acc)
            have W0 := Lib.hid D0.out.m
            have HLN : Hid ((prepL p bq iq g).length ≤ 100000) := Lib.hid (by
              unfold prepL
              split
              · have := votesF_len g iq 4096; omega
              · simp)
            go_wp2
            go_region_held3 (fun w' => w'.cell? ⟨bb, off + j * 6 + 1, none⟩ = some (.int .i64 bq) ∧ w'.cell? ⟨bb, off + j * 6 + 2, none⟩ = some (.int .i64 iq))
              ((refine (KS.out _ ?_).1; with_reducible first
                | exact W0.out
                | exact W5.out))
              (first
                | (go_at_call 23; (with_reducible refine C1.out.mono ?_); rintro e w5 ⟨v5, rfl, hA5, ho5, m5⟩; have W5 := Lib.hid (D0.out.mA m5); have BN := Lib.hid (D0.out.prep m5 hA5); have O5 := Lib.hid ho5; have F5 := Lib.hid (F0.out.other D0.out.acc hBA m5); clear hA5 ho5 m5))
            have C2 := Lib.hid (prepare_calls w5.drew B p bq iq g f2 (F5.out.mod ((Mod.refl [] w5).drew)))
            have W6 := Lib.hid W5.out.drew
            go_wp2
            go_region_held3 (fun w' => w'.cell? ⟨bb, off + j * 6 + 1, none⟩ = some (.int .i64 bq) ∧ w'.cell? ⟨bb, off + j * 6 + 2, none⟩ = some (.int .i64 iq))
              ((refine (KS.out _ ?_).1; with_reducible first
                | exact W6.out
                | exact W7.out))
              (first
                | (go_at_call 23; (with_reducible refine C2.out.mono ?_); rintro e w7 ⟨v7, rfl, hB7, ho7, m7⟩; have W7 := Lib.hid (W6.out.fresh m7 (fun x hx => by simp at hx; subst hx; exact .inr hlb)); have E7 := Lib.hid hB7; have O7 := Lib.hid ho7; have M7 := Lib.hid m7; clear hB7 ho7 m7))
            have BZ : Hid (AR W w7 A (prepP p bq) g f (k + (j + 1))) := Lib.hid ⟨W7.out, BN.out.acc.other F5.out (Ne.symm hBA) (Mod.of_drew M7.out), BN.out.ok, by have := BN.out.len; omega, BN.out.la⟩
            have V5 := Lib.hid (row_vs (own_mod O5.out (Mod.of_drew M7.out) (fun k hk hx => by
              have := own_ne_arr O5.out F5.out.arr (by decide)
              rw [hk] at this
              simp at this hx
              exact this hx.symm)))
            have V7 := Lib.hid (row_vs O7.out)
            have C3 := Lib.hid (theirs_calls w7 v5 _ V5.out HLN.out)
            generalize prepE p bq = pe at *
            go_wp2_with fail
            refine C3.out.mono ?_
            rintro e w8 ⟨v8, rfl, ho8, m8⟩
            have C4 := Lib.hid (theirs_calls w8 v7 _ (V7.out.mod m8) HLN.out)
            have M8 := Lib.hid m8
            have O8 := Lib.hid ho8
            clear ho8 m8
            go_wp2_with fail
            refine C4.out.mono ?_
            rintro e w9 ⟨v9, rfl, ho9, m9⟩
            have C5 := Lib.hid (sameV_calls w9 v8 v9 (prepL p bq iq g) ((row_vs O8.out).mod m9) (row_vs ho9) HLN.out)
            have M9 := Lib.hid m9
            clear ho9 m9
            go_wp2_with fail
            refine C5.out.mono ?_
            rintro e w10 ⟨rfl, m10⟩
            have MZ := Lib.hid ((M8.out.trans M9.out).trans m10)
            clear m10
            go_wp2
            go_roundw
            case rel => exact ⟨j + 1, _, _, _, _, by omega, by go_num, BZ.out.step0 MZ.out, E7.out.mod MZ.out⟩
            case measure => simp [intOf]; omega
          have t0 : (kq == 0) = false := by simpa using hk0
          by_cases hk1 : kq = 1
          · subst hk1
            clear hk0 t0
            have D0 := Lib.hid (B0.out.step0 ((Mod.refl [] wr).drew))
            have F0 := Lib.hid (E0.out.mod ((Mod.refl [] wr).drew))
            have C1 := Lib.hid (accept_calls wr.drew A p g f xq D0.out.acc hsz)
            have W0 := Lib.hid D0.out.m
            obtain ⟨xs, xb, xv⟩ := xq
            simp only at hsz C1 KS
            go_wp2
            go_region_held3 (fun w' => w'.cell? ⟨bb, off + j * 6 + 3, none⟩ = some (.int .i64 xs) ∧ w'.cell? ⟨bb, off + j * 6 + 4, none⟩ = some (.int .i64 xb) ∧ w'.cell? ⟨bb, off + j * 6 + 5, none⟩ = some (.string xv))
              ((refine (KS.out _ ?_).2; with_reducible first
                | exact W0.out
                | exact W5.out
                | exact W7.out))
              (first
                | (go_at_call 25; (with_reducible refine C1.out.mono ?_); rintro e w5 ⟨f5, rfl, hA5, m5⟩; have W5 := Lib.hid (D0.out.mA m5); have BN := Lib.hid (D0.out.put m5 hA5); have F5 := Lib.hid (F0.out.other D0.out.acc hBA m5); clear hA5 m5 C1)
                | (go_at_call 25; refine (accept_calls w5 B p g f2 ⟨xs, xb, xv⟩ F5.out hsz).mono ?_; rintro e w7 ⟨f7, rfl, hB7, m7⟩; have W7 := Lib.hid (W5.out.fresh m7 (fun x hx => by simp at hx; subst hx; exact .inr hlb)); have E7 := Lib.hid hB7; have M7 := Lib.hid m7; clear hB7 m7))
            have BZ : Hid (AR W w7 A (accP p ⟨xs, xb, xv⟩) (accG p g ⟨xs, xb, xv⟩) f5 (k + (j + 1))) := Lib.hid ⟨W7.out, BN.out.acc.other F5.out (Ne.symm hBA) M7.out, BN.out.ok, by have := BN.out.len; omega, BN.out.la⟩
            generalize accE p ⟨xs, xb, xv⟩ = ae at *
            go_wp2
            go_roundw
            case rel => exact ⟨j + 1, _, _, _, _, by omega, by go_num, BZ.out, E7.out⟩
            case measure => simp [intOf]; omega
          · have t1 : (kq == 1) = false := by simpa using hk1
            clear hk0 hk1
            go_wp2
            go_roundw
            case rel => exact ⟨j + 1, _, _, _, _, by omega, by go_num, B0.out.more (by omega), E0.out⟩
            case measure => simp [intOf]; omega
        · have i1 : ¬ (j : Int) < (n1 : Int) := by omega
          have hlen := B0.out.len
          have C1 := Lib.hid (save_calls wr A p g f B0.out.acc B0.out.ok (by omega) (T.out.1.mod B0.out.m (by simp)) (T.out.2.mod B0.out.m (by simp)))
          unfold SavePost at C1
          clear hB hB2
          go_wp2_with fail
          (with_reducible refine C1.out.mono ?_)
          rintro e w5 ⟨rfl, m5⟩
          have B5 := Lib.hid (B0.out.step0 m5)
          have E5 := Lib.hid (E0.out.mod m5)
          have C2 := Lib.hid (save_calls w5 B p g f2 E5.out B0.out.ok (by omega) (T.out.1.mod B5.out.m (by simp)) (T.out.2.mod B5.out.m (by simp)))
          unfold SavePost at C2
          clear m5 C1
          go_wp2_with fail
          (with_reducible refine C2.out.mono ?_)
          rintro e w6 ⟨rfl, m6⟩
          have B6 := Lib.hid (B5.out.step0 m6)
          have E6 := Lib.hid (E5.out.mod m6)
          generalize sealB (txt (savB p (votesN g 4096))) = S9 at *
          clear m6 C2
          go_wp2_with fail
          refine (promised_calls w6 A p g f B6.out.acc).mono ?_
          rintro e w7 ⟨rfl, rfl⟩
          go_wp2_with fail
          refine (promised_calls w6 B p g f2 E6.out).mono ?_
          rintro e w7 ⟨rfl, rfl⟩
          go_wp2
          go_ret
          exact ⟨rfl, B6.out.m.below (Nat.le_refl _) (by simp)⟩
end Go.Proofs.YtphcoenooinmfaaDoor
