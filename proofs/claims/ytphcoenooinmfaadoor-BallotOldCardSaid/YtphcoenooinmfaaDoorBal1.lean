/- Package ballot's Number and Owner, and the document's; Load of nothing; the law's own check. Premise: the table of steps holds what its initialiser lays. -/
import Derived.Test.YtphcoenooinmfaaDoorSeal
namespace Go.Proofs.YtphcoenooinmfaaDoor
open Go.RowKit
set_option linter.unusedVariables false
set_option linter.unusedSimpArgs false
attribute [local go_sem ↓] Go.wp_at_zero Go.wp_at_succ

/-- Is it a ballot? -/
def balB (b : Int) : Bool := decide (1 ≤ b ∧ b ≤ 1099511627776)
theorem balB_yes {b : Int} (h : 1 ≤ b ∧ b ≤ 1099511627776) : balB b = true := by simp [balB, h]
theorem balB_no {b : Int} (h : ¬ (1 ≤ b ∧ b ≤ 1099511627776)) : balB b = false := by simp only [balB, decide_eq_false_iff_not]; exact h
theorem ballot_calls (w : World) (b : Int) (t : Bool) (ht : balB b = t) :
    Calls Tryd.prog 43 #[.int .i64 b] w fun e w' => e = .returned (.bool t) ∧ w = w' := by
  subst ht
  by_cases h0 : 1 ≤ b
  · by_cases h1 : b ≤ 1099511627776
    · have t1 : decide (1 ≤ b) = true := by simpa using h0
      have t2 : decide (b ≤ 1099511627776) = true := by simpa using h1
      have e := balB_yes ⟨h0, h1⟩
      rw [e]
      clear e h0 h1
      go_enter Tryd.func43, Tryd.ntmps43
      go_wp2
      go_ret
      exact ⟨rfl, rfl⟩
    · have t1 : decide (1 ≤ b) = true := by simpa using h0
      have t2 : decide (b ≤ 1099511627776) = false := by simpa using h1
      have e := balB_no (b := b) (fun h => h1 h.2)
      rw [e]
      clear e h0 h1
      go_enter Tryd.func43, Tryd.ntmps43
      go_wp2
      go_ret
      exact ⟨rfl, rfl⟩
  · have t1 : decide (1 ≤ b) = false := by simpa using h0
    have e := balB_no (b := b) (fun h => h0 h.1)
    rw [e]
    clear e h0
    go_enter Tryd.func43, Tryd.ntmps43
    go_wp2
    go_ret
    exact ⟨rfl, rfl⟩
theorem rballot_calls (w : World) (b : Int) (t : Bool) (ht : balB b = t) :
    Calls Tryd.prog 44 #[.int .i64 b] w fun e w' => e = .returned (.bool t) ∧ w = w' := by
  subst ht
  by_cases h0 : 1 ≤ b
  · by_cases h1 : b ≤ 1099511627776
    · have t1 : decide (1 ≤ b) = true := by simpa using h0
      have t2 : decide (b ≤ 1099511627776) = true := by simpa using h1
      have e := balB_yes ⟨h0, h1⟩
      rw [e]
      clear e h0 h1
      go_enter Tryd.func44, Tryd.ntmps44
      go_wp2
      go_ret
      exact ⟨rfl, rfl⟩
    · have t1 : decide (1 ≤ b) = true := by simpa using h0
      have t2 : decide (b ≤ 1099511627776) = false := by simpa using h1
      have e := balB_no (b := b) (fun h => h1 h.2)
      rw [e]
      clear e h0 h1
      go_enter Tryd.func44, Tryd.ntmps44
      go_wp2
      go_ret
      exact ⟨rfl, rfl⟩
  · have t1 : decide (1 ≤ b) = false := by simpa using h0
    have e := balB_no (b := b) (fun h => h0 h.1)
    rw [e]
    clear e h0
    go_enter Tryd.func44, Tryd.ntmps44
    go_wp2
    go_ret
    exact ⟨rfl, rfl⟩
def ownR (b : Int) : Int := if balB b = true then (b - 1) / 8 else -1
def ownN (b : Int) : Int := if balB b = true then (b - 1) % 8 else -1
theorem own_inj {b c : Int} (h : ownR b = ownR c) (h' : ownN b = ownN c) (h0 : 0 ≤ ownR b) : b = c := by
  unfold ownR ownN at *
  by_cases hb : balB b = true <;> by_cases hc : balB c = true <;> simp only [hb, hc, if_true, if_false, Bool.false_eq_true] at h h' h0 <;> omega
theorem owner_calls (w : World) (b : Int) :
    Calls Tryd.prog 15 #[.int .i64 b] w fun e w' => e = .returned (.tuple #[.int .i64 (ownR b), .int .i64 (ownN b)]) ∧ w = w' := by
  by_cases h : 1 ≤ b ∧ b ≤ 1099511627776
  · obtain ⟨h0, h1⟩ := h
    have e := balB_yes ⟨h0, h1⟩
    have e1 : ownR b = (b - 1) / 8 := by simp [ownR, e]
    have e2 : ownN b = (b - 1) % 8 := by simp [ownN, e]
    have C := Lib.hid (ballot_calls w b true e)
    rw [e1, e2]
    clear e e1 e2
    go_enter Tryd.func15, Tryd.ntmps15
    go_wp2_with fail
    refine C.out.mono ?_
    rintro e w' ⟨rfl, rfl⟩
    go_wp2
    go_ret2
    exact ⟨rfl, rfl⟩
  · have e := balB_no h
    have e1 : ownR b = -1 := by simp [ownR, e]
    have e2 : ownN b = -1 := by simp [ownN, e]
    have C := Lib.hid (ballot_calls w b false e)
    rw [e1, e2]
    clear e e1 e2 h
    go_enter Tryd.func15, Tryd.ntmps15
    go_wp2_with fail
    refine C.out.mono ?_
    rintro e w' ⟨rfl, rfl⟩
    go_wp2
    go_ret2
    exact ⟨rfl, rfl⟩
theorem rowner_calls (w : World) (b : Int) :
    Calls Tryd.prog 16 #[.int .i64 b] w fun e w' => e = .returned (.tuple #[.int .i64 (ownR b), .int .i64 (ownN b)]) ∧ w = w' := by
  by_cases h : 1 ≤ b ∧ b ≤ 1099511627776
  · obtain ⟨h0, h1⟩ := h
    have e := balB_yes ⟨h0, h1⟩
    have e1 : ownR b = (b - 1) / 8 := by simp [ownR, e]
    have e2 : ownN b = (b - 1) % 8 := by simp [ownN, e]
    have C := Lib.hid (rballot_calls w b true e)
    rw [e1, e2]
    clear e e1 e2
    go_enter Tryd.func16, Tryd.ntmps16
    go_wp2_with fail
    refine C.out.mono ?_
    rintro e w' ⟨rfl, rfl⟩
    go_wp2
    go_ret2
    exact ⟨rfl, rfl⟩
  · have e := balB_no h
    have e1 : ownR b = -1 := by simp [ownR, e]
    have e2 : ownN b = -1 := by simp [ownN, e]
    have C := Lib.hid (rballot_calls w b false e)
    rw [e1, e2]
    clear e e1 e2 h
    go_enter Tryd.func16, Tryd.ntmps16
    go_wp2_with fail
    refine C.out.mono ?_
    rintro e w' ⟨rfl, rfl⟩
    go_wp2
    go_ret2
    exact ⟨rfl, rfl⟩
/-- The number of a round and a node, and its error. -/
def numbE (r n : Int) : Int := if r < 0 ∨ n < 0 ∨ 8 ≤ n then 1 else if 1099511627776 < 8 * r + n + 1 then 6 else 0
def numbV (r n : Int) : Int := if numbE r n = 0 then 8 * r + n + 1 else 0
theorem numb_bad {r n : Int} (h : r < 0 ∨ n < 0 ∨ 8 ≤ n) : numbE r n = 1 ∧ numbV r n = 0 := by
  have e : numbE r n = 1 := by unfold numbE; rw [if_pos h]
  exact ⟨e, by unfold numbV; rw [if_neg (by omega)]⟩
theorem numb_max {r n : Int} (h : ¬ (r < 0 ∨ n < 0 ∨ 8 ≤ n)) (h' : 1099511627776 < 8 * r + n + 1) : numbE r n = 6 ∧ numbV r n = 0 := by
  have e : numbE r n = 6 := by unfold numbE; rw [if_neg h, if_pos h']
  exact ⟨e, by unfold numbV; rw [if_neg (by omega)]⟩
theorem numb_ok {r n : Int} (h : ¬ (r < 0 ∨ n < 0 ∨ 8 ≤ n)) (h' : ¬ 1099511627776 < 8 * r + n + 1) : numbE r n = 0 ∧ numbV r n = 8 * r + n + 1 := by
  have e : numbE r n = 0 := by unfold numbE; rw [if_neg h, if_neg h']
  exact ⟨e, by unfold numbV; rw [if_pos e]⟩
theorem number_calls (w : World) (r n : Int) (r0 : -9223372036854775808 ≤ r) (r1 : r ≤ 9223372036854775807) (n0 : -9223372036854775808 ≤ n) (n1 : n ≤ 9223372036854775807) :
    Calls Tryd.prog 13 #[.int .i64 r, .int .i64 n] w fun e w' => e = .returned (.tuple #[.int .i64 (numbV r n), .int .i64 (numbE r n)]) ∧ w = w' := by
  by_cases hr : r < 0
  · obtain ⟨e1, e2⟩ := numb_bad (r := r) (n := n) (.inl hr)
    rw [e1, e2]
    clear e1 e2
    have t1 : decide (r < 0) = true := by simpa using hr
    go_enter Tryd.func13, Tryd.ntmps13
    go_wp2
    go_ret2
    exact ⟨rfl, rfl⟩
  have t1 : decide (r < 0) = false := by simpa using hr
  by_cases hn : n < 0
  · obtain ⟨e1, e2⟩ := numb_bad (r := r) (n := n) (.inr (.inl hn))
    rw [e1, e2]
    clear e1 e2
    have t2 : decide (n < 0) = true := by simpa using hn
    go_enter Tryd.func13, Tryd.ntmps13
    go_wp2
    go_ret2
    exact ⟨rfl, rfl⟩
  have t2 : decide (n < 0) = false := by simpa using hn
  by_cases hn8 : 8 ≤ n
  · obtain ⟨e1, e2⟩ := numb_bad (r := r) (n := n) (.inr (.inr hn8))
    rw [e1, e2]
    clear e1 e2
    have t3 : decide (8 ≤ n) = true := by simpa using hn8
    go_enter Tryd.func13, Tryd.ntmps13
    go_wp2
    go_ret2
    exact ⟨rfl, rfl⟩
  have t3 : decide (8 ≤ n) = false := by simpa using hn8
  by_cases hm : 1099511627776 < 8 * r + n + 1
  · obtain ⟨e1, e2⟩ := numb_max (r := r) (n := n) (by omega) hm
    rw [e1, e2]
    clear e1 e2
    have t4 : decide ((1099511627775 - n) / 8 < r) = true := by simp; omega
    go_enter Tryd.func13, Tryd.ntmps13
    go_wp2
    go_ret2
    exact ⟨rfl, rfl⟩
  · obtain ⟨e1, e2⟩ := numb_ok (r := r) (n := n) (by omega) hm
    rw [e1, e2, show 8 * r + n + 1 = r * 8 + n + 1 by omega]
    clear e1 e2
    have t4 : decide ((1099511627775 - n) / 8 < r) = false := by simp; omega
    have hr0 : 0 ≤ r := by omega
    have hr1 : r ≤ 1099511627776 := by omega
    go_enter Tryd.func13, Tryd.ntmps13
    go_wp2
    go_ret2
    exact ⟨rfl, rfl⟩
theorem rnumber_calls (w : World) (r n : Int) (r0 : -9223372036854775808 ≤ r) (r1 : r ≤ 9223372036854775807) (n0 : -9223372036854775808 ≤ n) (n1 : n ≤ 9223372036854775807) :
    Calls Tryd.prog 14 #[.int .i64 r, .int .i64 n] w fun e w' => e = .returned (.tuple #[.int .i64 (numbV r n), .int .i64 (numbE r n)]) ∧ w = w' := by
  by_cases hr : r < 0
  · obtain ⟨e1, e2⟩ := numb_bad (r := r) (n := n) (.inl hr)
    rw [e1, e2]
    clear e1 e2
    have t1 : decide (r < 0) = true := by simpa using hr
    go_enter Tryd.func14, Tryd.ntmps14
    go_wp2
    go_ret2
    exact ⟨rfl, rfl⟩
  have t1 : decide (r < 0) = false := by simpa using hr
  by_cases hn : n < 0
  · obtain ⟨e1, e2⟩ := numb_bad (r := r) (n := n) (.inr (.inl hn))
    rw [e1, e2]
    clear e1 e2
    have t2 : decide (n < 0) = true := by simpa using hn
    go_enter Tryd.func14, Tryd.ntmps14
    go_wp2
    go_ret2
    exact ⟨rfl, rfl⟩
  have t2 : decide (n < 0) = false := by simpa using hn
  by_cases hn8 : 8 ≤ n
  · obtain ⟨e1, e2⟩ := numb_bad (r := r) (n := n) (.inr (.inr hn8))
    rw [e1, e2]
    clear e1 e2
    have t3 : decide (8 ≤ n) = true := by simpa using hn8
    go_enter Tryd.func14, Tryd.ntmps14
    go_wp2
    go_ret2
    exact ⟨rfl, rfl⟩
  have t3 : decide (8 ≤ n) = false := by simpa using hn8
  by_cases hm : 1099511627776 < 8 * r + n + 1
  · obtain ⟨e1, e2⟩ := numb_max (r := r) (n := n) (by omega) hm
    rw [e1, e2]
    clear e1 e2
    by_cases hbig : 1099511627776 < r
    · have t4 : decide (1099511627776 < r) = true := by simpa using hbig
      go_enter Tryd.func14, Tryd.ntmps14
      go_wp2
      go_ret2
      exact ⟨rfl, rfl⟩
    · have t4 : decide (1099511627776 < r) = false := by simpa using hbig
      have hr0 : 0 ≤ r := by omega
      have hr1 : r ≤ 1099511627776 := by omega
      have t5 : decide (1099511627776 < 8 * r + n + 1) = true := by simpa using hm
      go_enter Tryd.func14, Tryd.ntmps14
      go_wp2
      go_ret2
      exact ⟨rfl, rfl⟩
  · obtain ⟨e1, e2⟩ := numb_ok (r := r) (n := n) (by omega) hm
    rw [e1, e2]
    clear e1 e2
    have t4 : decide (1099511627776 < r) = false := by simp; omega
    have t5 : decide (1099511627776 < 8 * r + n + 1) = false := by simpa using hm
    have hr0 : 0 ≤ r := by omega
    have hr1 : r ≤ 1099511627776 := by omega
    go_enter Tryd.func14, Tryd.ntmps14
    go_wp2
    go_ret2
    exact ⟨rfl, rfl⟩
theorem load_none (w : World) (hT : Steps w) :
    Calls Tryd.prog 38 #[.string ⟨#[]⟩] w fun e w' => e = .returned (.tuple #[.pointer none, .int .i64 30]) ∧ Mod [] w w' := by
  have C := Lib.hid (open_calls w ⟨#[]⟩ (by decide) hT)
  have hk : okB ⟨#[]⟩ = false := rfl
  have hb : bodyB ⟨#[]⟩ = ⟨#[]⟩ := rfl
  unfold OpenPost at C
  rw [hk, hb] at C
  clear hk hb
  go_enter Tryd.func38, Tryd.ntmps38
  go_wp2_with fail
  refine C.out.mono ?_
  rintro e w1 ⟨rfl, m1⟩
  have M1 := Lib.hid m1
  clear m1
  go_wp2
  go_ret2
  exact ⟨rfl, M1.out⟩
theorem shown10_calls (w : World) (hT : Steps w) :
    Calls Tryd.prog 17 #[] w fun e w' => e = .returned (.bool true) ∧ Mod [] w w' := by
  have C1 := Lib.hid (owner_calls w 1)
  have C2 := Lib.hid (load_none w hT)
  rw [show ownR 1 = 0 by decide, show ownN 1 = 0 by decide] at C1
  go_enter Tryd.func17, Tryd.ntmps17
  go_wp2_with fail
  refine C1.out.mono ?_
  rintro e w1 ⟨rfl, rfl⟩
  go_wp2_with fail
  refine C2.out.mono ?_
  rintro e w1 ⟨rfl, m1⟩
  have M1 := Lib.hid m1
  clear m1
  go_wp2
  go_ret
  exact ⟨rfl, M1.out⟩
end Go.Proofs.YtphcoenooinmfaaDoor
