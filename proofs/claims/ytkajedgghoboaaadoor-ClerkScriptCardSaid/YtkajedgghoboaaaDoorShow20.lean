/- The law's own small show (package weirkeeplaw20): it answers true. The premise: the variable 'whole' holds what its initialiser lays. -/
import Derived.Test.YtkajedgghoboaaaDoorClerk3
namespace Go.Proofs.YtkajedgghoboaaaDoor
open Go.RowKit
set_option linter.unusedVariables false
set_option linter.unusedSimpArgs false
attribute [local go_sem ↓] Go.wp_at_zero Go.wp_at_succ

def askS (s : St) (now : Int) : St := { s with a := askA s.a s.last now, last := askL s.last now }
def gotS (s : St) (seq len : Int) : St := { s with got := gotG s.last s.got seq len, till := gotT s.a s.last s.got s.till seq len s.num s.slack }
theorem ckAsk_calls (w : World) (k b p q bT : Nat) (s : St) (now : Int) (h : Clk w k b p q bT s) :
    Calls Tryd.prog 32 #[.pointer (some ⟨b, 0, none⟩), .int .i64 now] w fun e w' => e = .returned (.tuple #[.int .i64 (askV s.last now), .int .i64 (askE s.last now)]) ∧ Clk w' k b p q bT (askS s now) ∧ Mod [b] w w' :=
  (owAsk_calls w b p q s.num s.slack s.a s.last s.got s.till now h.own).mono fun e w' ⟨he, ho, m⟩ => ⟨he, h.owned ho m, m⟩
theorem ckGot_calls (w : World) (k b p q bT : Nat) (s : St) (seq len : Int) (h : Clk w k b p q bT s) :
    Calls Tryd.prog 33 #[.pointer (some ⟨k, 0, none⟩), .int .i64 seq, .int .i64 len] w fun e w' => e = .returned (.int .i64 (gotE s.last s.got seq len)) ∧ Clk w' k b p q bT (gotS s seq len) ∧ Mod [b] w w' :=
  ckRenewed_calls w k b p q bT s seq len h

def sh1 : St := askS (stNew 2 0 0) 3
def sh2 : St := givenS sh1 0 5 2 2 7
def sh3 : St := gotS sh2 1 10
theorem sh_a : askE (stNew 2 0 0).last 3 = 0 ∧ askV (stNew 2 0 0).last 3 = 1 := by decide +kernel
theorem sh_g : givenE sh1 0 5 2 2 7 = 0 := by decide +kernel
theorem sh_r : gotE sh2.last sh2.got 1 10 = 0 := by decide +kernel
theorem sh_m : mayE sh3 13 4 2 = 0 ∧ mayE sh3 14 4 2 = 200 := by decide +kernel

set_option maxRecDepth 100000 in
set_option maxHeartbeats 4000000 in
theorem shown20_calls (w : World) (hW : Whole w) : Calls Tryd.prog 29 #[] w fun e w' => e = .returned (.bool true) ∧ Mod [] w w' := by
  have C0 := Lib.hid (ckNew_calls w 2 0 0 hW)
  clear hW
  go_enter Tryd.func29, Tryd.ntmps29
  go_wp2_with fail
  refine C0.out.mono ?_
  rintro e w1 ⟨k, b, p, q, bT, rfl, h1, m1, l1, l2, l3, l4, l5⟩
  have hk1 := h1.arr.lt
  have hb1 := h1.own.arr.lt
  have ht1 := h1.tb.lt
  have c0 := h1.c0
  obtain ⟨W1, hW1⟩ : ∃ W1, W1 = w1.alloc (.cells #[.int .i64 0, .int .i64 5, .int .i64 2, .int .i64 2] 31) := ⟨_, rfl⟩
  have MW : Mod [] w1 W1 := by rw [hW1]; exact (Mod.refl [] w1).alloc _
  have q0 : W1.cell? ⟨w1.heap.size, 0, none⟩ = some (.int .i64 0) := by rw [hW1]; simp
  have q1 : W1.cell? ⟨w1.heap.size, 1, none⟩ = some (.int .i64 5) := by rw [hW1]; simp
  have q2 : W1.cell? ⟨w1.heap.size, 2, none⟩ = some (.int .i64 2) := by rw [hW1]; simp
  have q3 : W1.cell? ⟨w1.heap.size, 3, none⟩ = some (.int .i64 2) := by rw [hW1]; simp
  have HW1 := Lib.hid hW1
  have H1 := Lib.hid (h1.same MW)
  have HM := Lib.hid (m1.trans MW)
  have HQ0 := Lib.hid q0
  have HQ1 := Lib.hid q1
  have HQ2 := Lib.hid q2
  have HQ3 := Lib.hid q3
  clear h1 m1 MW hW1 q0 q1 q2 q3
  go_wp2_with fail
  rw [← HW1.out]
  refine (ckAsk_calls W1 k b p q bT _ 3 H1.out).mono ?_
  rintro e w2 ⟨rfl, h2, m2⟩
  rw [sh_a.1, sh_a.2]
  have k0 := m2.cell' HQ0.out (by simp; omega)
  have k1 := m2.cell' HQ1.out (by simp; omega)
  have k2 := m2.cell' HQ2.out (by simp; omega)
  have k3 := m2.cell' HQ3.out (by simp; omega)
  have H2 : Hid (Clk w2 k b p q bT sh1) := Lib.hid h2
  have HM2 := Lib.hid (HM.out.fresh m2 (fun x hx => .inr (by simp at hx; omega)))
  clear h2 m2 c0
  go_wp2_with fail
  refine (ckGiven_calls w2 k b p q bT sh1 0 5 2 2 7 H2.out).mono ?_
  rintro e w3 ⟨rfl, h3, m3⟩
  rw [sh_g]
  have H3 : Hid (Clk w3 k b p q bT sh2) := Lib.hid h3
  have HM3 := Lib.hid (HM2.out.fresh m3 (fun x hx => .inr (by simp at hx; omega)))
  clear h3 m3 k0 k1 k2 k3
  go_wp2_with fail
  refine (ckGot_calls w3 k b p q bT sh2 1 10 H3.out).mono ?_
  rintro e w4 ⟨rfl, h4, m4⟩
  rw [sh_r]
  have H4 : Hid (Clk w4 k b p q bT sh3) := Lib.hid h4
  have HM4 := Lib.hid (HM3.out.fresh m4 (fun x hx => .inr (by simp at hx; omega)))
  clear h4 m4
  go_wp2_with fail
  refine (ckMay_calls w4 k b p q bT sh3 13 4 2 H4.out).mono ?_
  rintro e w5 ⟨rfl, m5⟩
  rw [sh_m.1]
  have H5 := Lib.hid (H4.out.same m5)
  have HM5 := Lib.hid (HM4.out.trans m5)
  clear m5
  go_wp2_with fail
  refine (ckMay_calls w5 k b p q bT sh3 14 4 2 H5.out).mono ?_
  rintro e w6 ⟨rfl, m6⟩
  rw [sh_m.2]
  have HM6 := Lib.hid (HM5.out.trans m6)
  clear m6
  go_wp2
  go_ret
  exact ⟨rfl, HM6.out⟩
end Go.Proofs.YtkajedgghoboaaaDoor
