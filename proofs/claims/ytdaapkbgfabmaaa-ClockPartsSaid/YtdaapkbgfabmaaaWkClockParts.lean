/- The walk of the law ClockParts: each window of a fair history is a fair history; so is one with more drift, or more slack; no condition. -/
import Derived.Test.YtdaapkbgfabmaaaFair5
import Derived.Deep.DeepCutAuto
namespace Go.Proofs.Ytdaapkbgfabmaaa
open Go.RowKit
set_option linter.unusedVariables false
set_option linter.unusedSimpArgs false
attribute [local go_sem ↓] Go.wp_at_zero Go.wp_at_succ

theorem ticks_part {W : World} {tb tof m cap : Nat} {len : Nat → Nat} {x : Nat → Nat → Int} (h : Ticks W (.slice (some ⟨tb, tof, none⟩) m cap) m len x) (p q : Nat) (hpq : p ≤ q) (hq : q < m) :
    Ticks W (.slice (some ⟨tb, tof + p, none⟩) (q + 1 - p) (cap - p)) (q + 1 - p) (fun i => len (p + i)) (fun i => x (p + i)) := by
  obtain ⟨A, c, rv, e, h2, h3, h4, h5⟩ := h.ex
  cases e
  obtain ⟨b, o, e, hc⟩ := h4 (by omega)
  cases e
  exact ⟨_, _, fun i => rv (p + i), rfl, by omega, by omega, fun _ => ⟨tb, tof + p, rfl, fun i hi => by rw [Nat.add_assoc]; exact hc (p + i) (by omega)⟩, fun i hi => h5 (p + i) (by omega)⟩
theorem fair_part {len : Nat → Nat} {x : Nat → Nat → Int} {N m : Nat} {num slack : Int} (h : ∀ t a, t < m → a ≤ t → badB (rwOf len x) N num slack a t = false) (p q : Nat) (hpq : p ≤ q) (hq : q < m) :
    ∀ t a, t < q + 1 - p → a ≤ t → badB (rwOf (fun i => len (p + i)) (fun i => x (p + i))) N num slack a t = false := by
  intro t a ht ha
  rw [badB_no]
  have := badB_no.1 (h (p + t) (p + a) (by omega) (by omega))
  intro ho
  exact this (outr_shift.1 ho)
theorem fair_more {rw : Nat → Nat → Int} {N m : Nat} {num slack num' slack' : Int} (hw : RwOk rw) (h : ∀ t a, t < m → a ≤ t → badB rw N num slack a t = false) (h1 : num ≤ num') (h2 : slack ≤ slack') :
    ∀ t a, t < m → a ≤ t → badB rw N num' slack' a t = false := by
  intro t a ht ha
  rw [badB_no]
  exact fun ho => badB_no.1 (h t a ht ha) (outr_more hw h1 h2 ho)

set_option maxRecDepth 100000 in
set_option maxHeartbeats 4000000 in
theorem clockParts_walk (W : World) (v0 : Value) (c0 : CellOk W (.sl [.sl [.int .i64]]) v0)
    (a1 : Int) (w1 : (Lit.int .i64 a1).wf = true)
    (a2 : Int) (w2 : (Lit.int .i64 a2).wf = true)
    (a3 : Int) (w3 : (Lit.int .i64 a3).wf = true)
    (a4 : Int) (w4 : (Lit.int .u8 a4).wf = true)
    (a5 : Int) (w5 : (Lit.int .u8 a5).wf = true) :
    Calls Try.prog 6 #[v0, .int .i64 a1, .int .i64 a2, .int .i64 a3, .int .u8 a4, .int .u8 a5] W fun e w' => e = .returned (.bool true) ∧ Below W.heap.size W w' := by
  obtain ⟨m, len, x, hT⟩ := ticks_of c0
  obtain ⟨A, cap, rv, rfl, hcap, hcap2, hA, -⟩ := hT.ex
  unfold maxLen at hcap2
  obtain ⟨b40, b41⟩ := bd_u8 w4
  obtain ⟨b50, b51⟩ := bd_u8 w5
  clear c0 w1 w2 w3 w4 w5
  have mk := Lib.hid marg10
  have H := heavy_calls W A m cap
  by_cases h30 : 30 < m
  · have hd : decide (30 < m) = true := by simpa using h30
    rw [hd] at H
    have H' := Lib.hid H
    clear H hd hA
    go_enter Try.func6, Try.ntmps6
    go_wp2_with (first | (go_at_call 23; refine H'.out.mono ?_; rintro e w' ⟨rfl, rfl⟩) | (go_at_call 14; refine (margin_calls _ _ _ _).mono ?_; rintro e w' ⟨rfl, rfl⟩; rw [mk.out]))
    go_ret
    exact ⟨rfl, Below.refl _ _⟩
  have hd : decide (30 < m) = false := by simpa using h30
  rw [hd] at H
  have H' := Lib.hid H
  clear H hd
  rcases Nat.eq_zero_or_pos m with hm0 | hm0
  · subst hm0
    clear hA
    go_enter Try.func6, Try.ntmps6
    go_wp2_with (first | (go_at_call 23; refine H'.out.mono ?_; rintro e w' ⟨rfl, rfl⟩) | (go_at_call 14; refine (margin_calls _ _ _ _).mono ?_; rintro e w' ⟨rfl, rfl⟩; rw [mk.out]))
    go_ret
    exact ⟨rfl, Below.refl _ _⟩
  obtain ⟨tb, tof, rfl, -⟩ := hA hm0
  obtain ⟨p, hp, hpm⟩ : ∃ p : Nat, a4 % (m : Int) = p ∧ p < m := by
    have h1 := Int.emod_nonneg a4 (show (m : Int) ≠ 0 by omega)
    have h2 := Int.emod_lt_of_pos a4 (show (0 : Int) < m by omega)
    exact ⟨(a4 % (m : Int)).toNat, by omega, by omega⟩
  obtain ⟨q, hq, hqm⟩ : ∃ q : Nat, a5 % (m : Int) = q ∧ q < m := by
    have h1 := Int.emod_nonneg a5 (show (m : Int) ≠ 0 by omega)
    have h2 := Int.emod_lt_of_pos a5 (show (0 : Int) < m by omega)
    exact ⟨(a5 % (m : Int)).toNat, by omega, by omega⟩
  have hmz : ((m : Int) == 0) = false := by simp; omega
  have hmp : (0 : Int) < (m : Int) := by omega
  clear hA
  go_enter Try.func6, Try.ntmps6
  go_wp2_with (go_at_call 23; refine H'.out.mono ?_; rintro e w' ⟨rfl, rfl⟩)
  refine (fair_calls _ _ m len x hT (by omega) _ _ _).mono ?_
  rintro e w1 ⟨⟨y1, y2, y3, rfl, hF1⟩, m1⟩
  have hT1 := hT.under (m1.under (Nat.le_refl _) (by simp))
  go_wp2_with fail
  refine (rfair_calls _ _ m len x hT1 (by omega) _ _ _).mono ?_
  rintro e w2 ⟨⟨z1, z2, z3, rfl, hF2⟩, rfl⟩
  obtain ⟨rfl, rfl, rfl⟩ := hF1.eq hF2
  clear hF2
  cases y3 with
  | false =>
    have M := Lib.hid (m1.below (Nat.le_refl _) (by simp))
    clear hF1 hT hT1 m1 hp hq
    go_wp2_with (go_at_call 14; refine (margin_calls _ _ _ _).mono ?_; rintro e w' ⟨rfl, rfl⟩; rw [mk.out])
    go_ret
    exact ⟨rfl, M.out⟩
  | true =>
    have hall := Lib.hid (hF1.fair.1 rfl)
    clear hF1
    rcases Nat.lt_or_ge q p with hqp | hqp
    · have hgt : (q : Int) < (p : Int) := by omega
      have hs1 : (q : Int) + 1 ≤ (cap : Int) := by omega
      have hs0 : (0 : Int) ≤ (q : Int) + 1 := by omega
      have hTp := ticks_part hT1 0 q (by omega) hqm
      have hTq : Ticks w1 (.slice (some ⟨tb, tof, none⟩) (q + 1) cap) (q + 1) len x := by simpa using hTp
      have hsub := Lib.hid (fun t a (ht : t < q + 1) (ha : a ≤ t) => hall.out t a (by omega) ha)
      clear hTp
      go_wp2_with fail
      refine (fair_calls _ _ _ _ _ hTq (by omega) _ _ _).mono ?_
      rintro e w3 ⟨⟨u1, u2, u3, rfl, hF3⟩, m3⟩
      obtain rfl : u3 = true := hF3.fair.2 hsub.out
      have hT3 := hT1.under (m3.under (Nat.le_refl _) (by simp))
      clear hF3 hTq hp hq
      go_upto_region 14 with (fail)
      go_cut [24] from 91 to 94 (fun s24 wx => ∃ z : Int, s24 = .int .i64 (z + 1) ∧ Hid (z = min (max a2 0) 1048576) ∧ wx = w3)
      case first =>
        go_wp2
        all_goals
          go_meet
          first | refine ⟨a2, rfl, ?_, rfl⟩ | refine ⟨0, rfl, ?_, rfl⟩ | refine ⟨1048576, rfl, ?_, rfl⟩
          exact Lib.hid (by omega)
      case rest =>
        obtain ⟨z, rfl, hz, rfl⟩ := hcut
        go_wp2_with fail
        refine (fair_calls _ _ _ _ _ hT3 (by omega) _ _ _).mono ?_
        rintro e w4 ⟨⟨u4, u5, u6, rfl, hF4⟩, m4⟩
        obtain rfl : u6 = true := hF4.fair.2 (fair_more (rwOf_ok _ _) hall.out (by have := hz.out; unfold clampV; omega) (Int.le_refl _))
        have hT4 := hT3.under (m4.under (Nat.le_refl _) (by simp))
        clear hF4
        go_wp2_with fail
        all_goals
          refine (fair_calls _ _ _ _ _ hT4 (by omega) _ _ _).mono ?_
          rintro e w5 ⟨⟨u7, u8, u9, rfl, hF5⟩, m5⟩
          obtain rfl : u9 = true := hF5.fair.2 (fair_more (rwOf_ok _ _) hall.out (Int.le_refl _) (by unfold clampV; omega))
          have M := Lib.hid ((((m1.trans m3).trans m4).trans m5).below (Nat.le_refl _) (by simp))
          clear hF5 hT hT1 hT3 hT4 m1 m3 m4 m5
          go_wp2_with (go_at_call 14; refine (margin_calls _ _ _ _).mono ?_; rintro e w' ⟨rfl, rfl⟩; rw [mk.out])
          go_ret
          exact ⟨rfl, M.out⟩
    · have hgt : ¬ ((q : Int) < (p : Int)) := by omega
      obtain ⟨d, hd⟩ : ∃ d : Nat, (q : Int) + 1 - (p : Int) = d := ⟨q + 1 - p, by omega⟩
      have hTq := ticks_part hT1 p q hqp hqm
      have hsub := Lib.hid (fair_part hall.out p q hqp hqm)
      have hs1 : (q : Int) + 1 ≤ (cap : Int) := by omega
      have hs0 : (p : Int) ≤ (q : Int) + 1 := by omega
      clear hd
      go_wp2_with fail
      refine (fair_calls _ _ _ _ _ hTq (by omega) _ _ _).mono ?_
      rintro e w3 ⟨⟨u1, u2, u3, rfl, hF3⟩, m3⟩
      obtain rfl : u3 = true := hF3.fair.2 hsub.out
      have hT3 := hT1.under (m3.under (Nat.le_refl _) (by simp))
      clear hF3 hTq hp hq
      go_upto_region 14 with (fail)
      go_cut [24] from 91 to 94 (fun s24 wx => ∃ z : Int, s24 = .int .i64 (z + 1) ∧ Hid (z = min (max a2 0) 1048576) ∧ wx = w3)
      case first =>
        go_wp2
        all_goals
          go_meet
          first | refine ⟨a2, rfl, ?_, rfl⟩ | refine ⟨0, rfl, ?_, rfl⟩ | refine ⟨1048576, rfl, ?_, rfl⟩
          exact Lib.hid (by omega)
      case rest =>
        obtain ⟨z, rfl, hz, rfl⟩ := hcut
        go_wp2_with fail
        refine (fair_calls _ _ _ _ _ hT3 (by omega) _ _ _).mono ?_
        rintro e w4 ⟨⟨u4, u5, u6, rfl, hF4⟩, m4⟩
        obtain rfl : u6 = true := hF4.fair.2 (fair_more (rwOf_ok _ _) hall.out (by have := hz.out; unfold clampV; omega) (Int.le_refl _))
        have hT4 := hT3.under (m4.under (Nat.le_refl _) (by simp))
        clear hF4
        go_wp2_with fail
        all_goals
          refine (fair_calls _ _ _ _ _ hT4 (by omega) _ _ _).mono ?_
          rintro e w5 ⟨⟨u7, u8, u9, rfl, hF5⟩, m5⟩
          obtain rfl : u9 = true := hF5.fair.2 (fair_more (rwOf_ok _ _) hall.out (Int.le_refl _) (by unfold clampV; omega))
          have M := Lib.hid ((((m1.trans m3).trans m4).trans m5).below (Nat.le_refl _) (by simp))
          clear hF5 hT hT1 hT3 hT4 m1 m3 m4 m5
          go_wp2_with (go_at_call 14; refine (margin_calls _ _ _ _).mono ?_; rintro e w' ⟨rfl, rfl⟩; rw [mk.out])
          go_ret
          exact ⟨rfl, M.out⟩
end Go.Proofs.Ytdaapkbgfabmaaa
