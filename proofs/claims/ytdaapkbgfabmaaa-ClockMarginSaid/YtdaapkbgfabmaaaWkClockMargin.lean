/- The walk of the law ClockMargin: in a window of a fair history in which a client's clock goes at most a lease's margin on, the service's clock goes at most the lease on; no condition. -/
import Derived.Test.YtdaapkbgfabmaaaFair5
import Derived.Deep.DeepCutAuto
namespace Go.Proofs.Ytdaapkbgfabmaaa
open Go.RowKit
set_option linter.unusedVariables false
set_option linter.unusedSimpArgs false
attribute [local go_sem ↓] Go.wp_at_zero Go.wp_at_succ

theorem margV_mul (l d s : Int) (hl : 0 ≤ l) (hl2 : l ≤ 1099511627776) (hs : clampV s 1048576 ≤ l) : (100 + clampV d 1000) * margV l d s ≤ 100 * l - 100 * clampV s 1048576 := by
  have h3 := clampV_bd d 1000 (by omega)
  have e : clampV l 1099511627776 = l := by unfold clampV; omega
  unfold margV
  rw [e, Int.tdiv_eq_ediv_of_nonneg (by omega)]
  have h1 : 0 ≤ 100 * (l - clampV s 1048576) / (100 + clampV d 1000) := Int.ediv_nonneg (by omega) (by omega)
  rw [show max 0 (100 * (l - clampV s 1048576) / (100 + clampV d 1000)) = 100 * (l - clampV s 1048576) / (100 + clampV d 1000) by omega]
  have := Int.mul_ediv_self_le (x := 100 * (l - clampV s 1048576)) (k := 100 + clampV d 1000) (by omega)
  omega
/-- The layer's theorem. -/
theorem margin_law {rw : Nat → Nat → Int} {m : Nat} {l d s : Int} (h : ∀ t a, t < m → a ≤ t → badB rw 2 (clampV d 1000) (clampV s 1048576) a t = false)
    (hl : 0 ≤ l) (hl2 : l ≤ 1099511627776) (hs : clampV s 1048576 ≤ l) (a b : Nat) (hb : b < m) (hab : a ≤ b) (h0 : sumW rw a (b + 1 - a) 0 ≤ margV l d s) : sumW rw a (b + 1 - a) 1 ≤ l := by
  have h1 := margV_mul l d s hl hl2 hs
  have h3 := clampV_bd d 1000 (by omega)
  have h2 : ¬ 100 * sumW rw a (b + 1 - a) 1 > (100 + clampV d 1000) * sumW rw a (b + 1 - a) 0 + 100 * clampV s 1048576 := fun hh => badB_no.1 (h b a hb hab) ⟨1, 0, by omega, by omega, hh⟩
  have h4 : (100 + clampV d 1000) * sumW rw a (b + 1 - a) 0 ≤ (100 + clampV d 1000) * margV l d s := Int.mul_le_mul_of_nonneg_left h0 (by omega)
  omega

theorem way0_calls (w : World) (v : Value) (m : Nat) (len : Nat → Nat) (x : Nat → Nat → Int) (h : Ticks w v m len x) (a b : Nat) (hb : b < m) (hm : m ≤ 1000) :
    Calls Try.prog 26 #[v, .int .i64 a, .int .i64 b, .int .i64 0] w fun e w' => e = .returned (.int .i64 (sumW (rwOf len x) a (b + 1 - a) 0)) ∧ w = w' := way_calls w v m len x h a b 0 hb hm (by omega)
theorem way1_calls (w : World) (v : Value) (m : Nat) (len : Nat → Nat) (x : Nat → Nat → Int) (h : Ticks w v m len x) (a b : Nat) (hb : b < m) (hm : m ≤ 1000) :
    Calls Try.prog 26 #[v, .int .i64 a, .int .i64 b, .int .i64 1] w fun e w' => e = .returned (.int .i64 (sumW (rwOf len x) a (b + 1 - a) 1)) ∧ w = w' := way_calls w v m len x h a b 1 hb hm (by omega)

set_option maxRecDepth 100000 in
set_option maxHeartbeats 1000000 in
theorem clockMargin_walk (W : World) (v0 : Value) (c0 : CellOk W (.sl [.sl [.int .i64]]) v0)
    (a1 : Int) (w1 : (Lit.int .i64 a1).wf = true)
    (a2 : Int) (w2 : (Lit.int .i64 a2).wf = true)
    (a3 : Int) (w3 : (Lit.int .i64 a3).wf = true) :
    Calls Try.prog 7 #[v0, .int .i64 a1, .int .i64 a2, .int .i64 a3] W fun e w' => e = .returned (.bool true) ∧ Below W.heap.size W w' := by
  obtain ⟨m, len, x, hT⟩ := ticks_of c0
  obtain ⟨A, cap, rv, rfl, hcap, hcap2, -, -⟩ := hT.ex
  unfold maxLen at hcap2
  clear c0 w1 w2 w3
  have mk := Lib.hid marg10
  have H := heavy_calls W A m cap
  by_cases h30 : 30 < m
  · have hd : decide (30 < m) = true := by simpa using h30
    rw [hd] at H
    have H' := Lib.hid H
    clear H hd
    go_enter Try.func7, Try.ntmps7
    go_wp2_with (go_at_call 23; refine H'.out.mono ?_; rintro e w' ⟨rfl, rfl⟩)
    go_ret
    exact ⟨rfl, Below.refl _ _⟩
  have hd : decide (30 < m) = false := by simpa using h30
  rw [hd] at H
  have H' := Lib.hid H
  clear H hd
  go_enter Try.func7, Try.ntmps7
  go_wp2_with (go_at_call 23; refine H'.out.mono ?_; rintro e w' ⟨rfl, rfl⟩)
  refine (fair_calls _ _ m len x hT (by omega) _ _ _).mono ?_
  rintro e w1 ⟨⟨y1, y2, y3, rfl, hF1⟩, m1⟩
  have hT1 := hT.under (m1.under (Nat.le_refl _) (by simp))
  go_wp2_with fail
  refine (rfair_calls _ _ m len x hT1 (by omega) _ _ _).mono ?_
  rintro e w2 ⟨⟨z1, z2, z3, rfl, hF2⟩, rfl⟩
  obtain ⟨rfl, rfl, rfl⟩ := hF1.eq hF2
  have M := Lib.hid (m1.below (Nat.le_refl _) (by simp))
  clear hF2 m1 hT
  have hmb := margV_bd a3 a1 a2
  cases y3 with
  | false =>
    clear hF1 hT1 hmb
    go_wp2_with (first | (go_at_call 14; (with_reducible refine (margin_calls _ a3 _ _).mono ?_); rintro e w' ⟨rfl, rfl⟩) | (go_at_call 14; refine (margin_calls _ _ _ _).mono ?_; rintro e w' ⟨rfl, rfl⟩; rw [mk.out]))
    go_ret
    exact ⟨rfl, M.out⟩
  | true =>
    have hall := Lib.hid (hF1.fair.1 rfl)
    clear hF1
    by_cases hl : a3 < 0
    · clear hT1 hmb
      go_wp2_with (first | (go_at_call 14; (with_reducible refine (margin_calls _ a3 _ _).mono ?_); rintro e w' ⟨rfl, rfl⟩) | (go_at_call 14; refine (margin_calls _ _ _ _).mono ?_; rintro e w' ⟨rfl, rfl⟩; rw [mk.out]))
      go_ret
      exact ⟨rfl, M.out⟩
    have hl0 : decide (a3 < 0) = false := by simpa using hl
    by_cases hl2 : 1099511627776 < a3
    · clear hT1 hmb
      go_wp2_with (first | (go_at_call 14; (with_reducible refine (margin_calls _ a3 _ _).mono ?_); rintro e w' ⟨rfl, rfl⟩) | (go_at_call 14; refine (margin_calls _ _ _ _).mono ?_; rintro e w' ⟨rfl, rfl⟩; rw [mk.out]))
      go_ret
      exact ⟨rfl, M.out⟩
    have hl3 : decide (1099511627776 < a3) = false := by simpa using hl2
    have b0 : 0 ≤ a3 := by omega
    have b1 : a3 ≤ 1099511627776 := by omega
    clear hl hl2
    have hc := clampV_bd a2 1048576 (by omega)
    have hc1 := hc.2
    clear hc
    have hmb2 := hmb.2.2
    have hmb0 := hmb.1
    have hml : margV a3 a1 a2 ≤ a3 := by
      have h := hmb.2.1
      unfold clampV at h
      omega
    clear hmb
    go_wp2_with fail
    refine (margin_calls _ _ _ _).mono ?_
    rintro e w2 ⟨rfl, rfl⟩
    go_upto_region 8 with (fail)
    go_cut [61] from 43 to 61 (fun s61 wx => s61 = .bool (decide (a3 < clampV a2 1048576)) ∧ wx = w1)
    case first =>
      go_wp2
      all_goals
        go_meet
        refine ⟨?_, rfl⟩
        first | rfl | (refine congrArg Value.bool ?_; rw [decide_eq_decide]; unfold clampV; (try split) <;> (try split) <;> omega) | (refine congrArg Value.bool ?_; symm; rw [decide_eq_false_iff_not]; unfold clampV; omega)
    case rest =>
      obtain ⟨rfl, rfl⟩ := hcut
      by_cases hs : a3 < clampV a2 1048576
      · have hs' : decide (a3 < clampV a2 1048576) = true := by simpa using hs
        clear hT1
        rw [hs']
        go_wp2_with (go_at_call 14; refine (margin_calls _ _ _ _).mono ?_; rintro e w' ⟨rfl, rfl⟩; rw [mk.out])
        go_ret
        exact ⟨rfl, M.out⟩
      · have hsd : decide (a3 < clampV a2 1048576) = false := by simpa using hs
        have hs' : clampV a2 1048576 ≤ a3 := by omega
        rw [hsd]
        have L := Lib.hid (fun a b hb hab h0 => margin_law hall.out b0 b1 hs' a b hb hab h0)
        clear hs hs'
        go_wp2
        go_loop [16, 17] (fun i _ => ∃ a : Nat, a ≤ m ∧ i = .int .i64 a) (fun i _ => m - (intOf i).toNat)
        case atStart => exact ⟨0, Nat.zero_le _, rfl⟩
        case round =>
          obtain ⟨a, ha, rfl⟩ := hrel
          by_cases hlt : a < m
          · go_wp2
            go_loop [17] (fun i => ∃ b : Nat, a ≤ b ∧ b ≤ m ∧ i = .int .i64 b) (fun i => m - (intOf i).toNat)
            case atStart => exact ⟨a, Nat.le_refl _, ha, rfl⟩
            case round =>
              obtain ⟨b, hab, hb, rfl⟩ := hrel
              by_cases hltb : b < m
              · have E0 := Lib.hid (way0_calls wc _ m len x hT1 a b hltb (by omega))
                have E1 := Lib.hid (way1_calls wc _ m len x hT1 a b hltb (by omega))
                by_cases h0 : sumW (rwOf len x) a (b + 1 - a) 0 ≤ margV a3 a1 a2
                · have h1 : sumW (rwOf len x) a (b + 1 - a) 1 ≤ a3 := L.out a b hltb hab h0
                  have h1d : decide (a3 < sumW (rwOf len x) a (b + 1 - a) 1) = false := by simp; omega
                  clear h1
                  go_wp2_with (first | (go_at_call 26; (with_reducible refine E0.out.mono ?_); rintro e w' ⟨rfl, rfl⟩) | (go_at_call 26; refine E1.out.mono ?_; rintro e w' ⟨rfl, rfl⟩))
                  go_round
                  case rel => exact ⟨b + 1, by omega, by omega, by go_num⟩
                  case measure => simp [intOf]; omega
                · have h0d : decide (sumW (rwOf len x) a (b + 1 - a) 0 ≤ margV a3 a1 a2) = false := by simpa using h0
                  go_wp2_with (go_at_call 26; refine E0.out.mono ?_; rintro e w' ⟨rfl, rfl⟩)
                  go_round
                  case rel => exact ⟨b + 1, by omega, by omega, by go_num⟩
                  case measure => simp [intOf]; omega
              · go_wp2
                go_round
                case rel => exact ⟨a + 1, by omega, by go_num⟩
                case measure => simp [intOf]; omega
          · go_wp2_with (go_at_call 14; refine (margin_calls _ _ _ _).mono ?_; rintro e w' ⟨rfl, rfl⟩; rw [mk.out])
            go_ret
            exact ⟨rfl, M.out⟩
end Go.Proofs.Ytdaapkbgfabmaaa
