/- What May, Stamp, Given and Give of a clerk come to. No condition beyond what stands in each. -/
import Derived.Test.YtkajedgghoboaaaDoorClerk
import Derived.Deep.DeepCutAuto
namespace Go.Proofs.YtkajedgghoboaaaDoor
open Go.RowKit
set_option linter.unusedVariables false
set_option linter.unusedSimpArgs false
attribute [local go_sem ↓] Go.wp_at_zero Go.wp_at_succ

def mayE (s : St) (now block mode : Int) : Int := if block < 0 then 71 else if 256 ≤ block then 71 else if mode ≠ 1 ∧ mode ≠ 2 then 1 else if s.till < now then 200 else if hasV s.t s.id block mode = false then 170 else 0

set_option maxHeartbeats 2000000 in
theorem ckMay_calls (w : World) (k b p q bT : Nat) (s : St) (now block mode : Int) (h : Clk w k b p q bT s) :
    Calls Tryd.prog 34 #[.pointer (some ⟨k, 0, none⟩), .int .i64 now, .int .i64 block, .int .i64 mode] w fun e w' => e = .returned (.int .i64 (mayE s now block mode)) ∧ Mod [] w w' := by
  have E1 : mayE s now block mode = if block < 0 then 71 else if 256 ≤ block then 71 else if mode ≠ 1 ∧ mode ≠ 2 then 1 else if s.till < now then 200 else if hasV s.t s.id block mode = false then 170 else 0 := rfl
  by_cases h1 : block < 0
  · have E := Lib.hid (E1.trans (if_pos h1))
    clear E1 h
    go_enter Tryd.func34, Tryd.ntmps34
    go_wp2
    go_ret
    exact ⟨by rw [E.out]; rfl, Mod.refl _ _⟩
  rw [if_neg h1] at E1
  have d1 : decide (block < 0) = false := by simpa using h1
  by_cases h2 : 256 ≤ block
  · have E := Lib.hid (E1.trans (if_pos h2))
    clear E1 h h1
    go_enter Tryd.func34, Tryd.ntmps34
    go_wp2
    go_ret
    exact ⟨by rw [E.out]; rfl, Mod.refl _ _⟩
  rw [if_neg h2] at E1
  have d2 : decide (256 ≤ block) = false := by simpa using h2
  by_cases h3 : mode ≠ 1 ∧ mode ≠ 2
  · have E := Lib.hid (E1.trans (if_pos h3))
    have f1 : (mode != 1) = true := by simpa using h3.1
    have f2 : (mode != 2) = true := by simpa using h3.2
    clear E1 h h1 h2 h3
    go_enter Tryd.func34, Tryd.ntmps34
    go_wp2
    go_ret
    exact ⟨by rw [E.out]; rfl, Mod.refl _ _⟩
  rw [if_neg h3] at E1
  have dm : (mode != 1) = false ∨ ((mode != 1) = true ∧ (mode != 2) = false) := by
    by_cases e : mode = 1
    · exact .inl (by simpa using e)
    · exact .inr ⟨by simpa using e, by
        have : mode = 2 := by
          by_cases e2 : mode = 2
          · exact e2
          · exact absurd ⟨e, e2⟩ h3
        simpa using this⟩
  have c := h.c0
  have c1 := h.c1
  have c2 := h.c2
  have G := Lib.hid (owGood_calls w b p q s.num s.slack s.a s.last s.got s.till now h.own)
  have HT := Lib.hid h.tb
  clear h h1 h2 h3
  by_cases h4 : s.till < now
  · have E := Lib.hid (E1.trans (if_pos h4))
    have h4' : decide (now ≤ s.till) = false := by simp; omega
    clear E1 h4
    rw [h4'] at G
    rcases dm with f1 | ⟨f1, f2⟩
    all_goals
      go_enter Tryd.func34, Tryd.ntmps34
      go_wp2_with (go_at_call 64; refine G.out.mono ?_; rintro e w' ⟨rfl, rfl⟩)
      go_ret
      exact ⟨by rw [E.out]; rfl, Mod.refl _ _⟩
  rw [if_neg h4] at E1
  have h4' : decide (now ≤ s.till) = true := by simp; omega
  rw [h4'] at G
  clear h4 h4'
  have C := Lib.hid (fun n => spHas_calls (w.drewN n) bT s.t s.id block mode (HT.out.mod ((Mod.refl [] w).drewN n) (by simp)))
  obtain ⟨x, hx⟩ : ∃ x, x = hasV s.t s.id block mode := ⟨_, rfl⟩
  rw [← hx] at C E1
  have HE := Lib.hid E1
  clear hx E1 HT
  cases x with
  | false =>
    have E := Lib.hid (HE.out.trans (if_pos rfl))
    rcases dm with f1 | ⟨f1, f2⟩
    all_goals
      go_enter Tryd.func34, Tryd.ntmps34
      go_wp2_with (go_at_call 64; refine G.out.mono ?_; rintro e w' ⟨rfl, rfl⟩)
      go_quiet ((go_at_call 21; exact quiet_ro (C.out _)))
      go_wp2
      go_ret
      exact ⟨by rw [E.out]; rfl, (Mod.refl _ _).drewN _⟩
  | true =>
    have E := Lib.hid (HE.out.trans (if_neg (by simp)))
    rcases dm with f1 | ⟨f1, f2⟩
    all_goals
      go_enter Tryd.func34, Tryd.ntmps34
      go_wp2_with (go_at_call 64; refine G.out.mono ?_; rintro e w' ⟨rfl, rfl⟩)
      go_quiet ((go_at_call 21; exact quiet_ro (C.out _)))
      go_wp2
      go_ret
      exact ⟨by rw [E.out]; rfl, (Mod.refl _ _).drewN _⟩

def stampE (s : St) : Int := if s.grant = 0 then 170 else if 1048575 ≤ s.told then 6 else 0
def stampV (s : St) : Int := if stampE s = 0 then s.grant * 1048576 + (s.told + 1) else 0
def stampS (s : St) : St := if stampE s = 0 then { s with told := s.told + 1 } else s
set_option maxHeartbeats 2000000 in
theorem ckStamp_calls (w : World) (k b p q bT : Nat) (s : St) (h : Clk w k b p q bT s) :
    Calls Tryd.prog 38 #[.pointer (some ⟨k, 0, none⟩)] w fun e w' => e = .returned (.tuple #[.int .i64 (stampV s), .int .i64 (stampE s)]) ∧ Clk w' k b p q bT (stampS s) ∧ Mod [k] w w' := by
  have c3 := h.c3
  have c4 := h.c4
  by_cases h0 : s.grant = 0
  · have E := Lib.hid (show stampE s = 170 by simp [stampE, h0])
    have V := Lib.hid (show stampV s = 0 by unfold stampV; rw [E.out, if_neg (by decide)])
    have F := Lib.hid (show Clk w k b p q bT (stampS s) by unfold stampS; rw [E.out, if_neg (by decide)]; exact h)
    rw [h0] at c3
    clear h h0
    go_enter Tryd.func38, Tryd.ntmps38
    go_wp2
    go_ret2
    exact ⟨by rw [E.out, V.out]; rfl, F.out, Mod.refl _ _⟩
  have g0 := h.g0
  have g1 := h.g1
  have o0 := h.o0
  have o1 := h.o1
  have f0 : (s.grant == 0) = false := by simpa using h0
  by_cases h1 : 1048575 ≤ s.told
  · have E := Lib.hid (show stampE s = 6 by simp [stampE, h0, h1])
    have V := Lib.hid (show stampV s = 0 by unfold stampV; rw [E.out, if_neg (by decide)])
    have F := Lib.hid (show Clk w k b p q bT (stampS s) by unfold stampS; rw [E.out, if_neg (by decide)]; exact h)
    clear h h0
    go_enter Tryd.func38, Tryd.ntmps38
    go_wp2
    go_ret2
    exact ⟨by rw [E.out, V.out]; rfl, F.out, Mod.refl _ _⟩
  have E := Lib.hid (show stampE s = 0 by simp [stampE, h0, h1])
  have V := Lib.hid (show stampV s = s.grant * 1048576 + (s.told + 1) by unfold stampV; rw [E.out, if_pos rfl])
  have h1' : decide (1048575 ≤ s.told) = false := by simpa using h1
  have fz := h.arr.free 4
  have m4 : Mod [k] w (w.setCell ⟨k, 4, none⟩ (.int .i64 (s.told + 1))) := (Mod.refl [k] w).setCell (by simp) _
  have F : Clk (w.setCell ⟨k, 4, none⟩ (.int .i64 (s.told + 1))) k b p q bT (stampS s) := by
    unfold stampS
    rw [E.out, if_pos rfl]
    exact ⟨(h.arr.set 4 _).congr fun j hj => by
      match j, hj with
      | 0, _ | 1, _ | 2, _ | 3, _ | 4, _ => rfl, h.own.mod m4 (by simpa using fun e => h.n1 e.symm) (by simpa using fun e => h.n2 e.symm) (by simpa using fun e => h.n3 e.symm), h.tb.mod m4 (by simpa using fun e => h.n4 e.symm), h.wh.mod m4 (by simpa using fun e => h.k0 e.symm), h.k0, h.b0, h.t0, g0, g1, by show 0 ≤ s.told + 1; omega, by show s.told + 1 ≤ 1048575; omega⟩
  have e3 : (w.setCell ⟨k, 4, none⟩ (.int .i64 (s.told + 1))).cell? ⟨k, 3, none⟩ = some (.int .i64 s.grant) := (World.cell?_setCell_other _ _ _ _ (by simp)).trans c3
  have e4 : (w.setCell ⟨k, 4, none⟩ (.int .i64 (s.told + 1))).cell? ⟨k, 4, none⟩ = some (.int .i64 (s.told + 1)) := World.cell?_setCell_same _ _ _ c4
  have HF := Lib.hid F
  have HM := Lib.hid m4
  obtain ⟨G, hG⟩ : ∃ G, G = s.grant := ⟨_, rfl⟩
  obtain ⟨O, hO⟩ : ∃ O, O = s.told := ⟨_, rfl⟩
  rw [← hG] at c3 g0 g1 f0 e3 V
  rw [← hO] at c4 o0 o1 h1 h1' e4 HF HM e3 V
  clear F m4 h h0 hG hO h1
  have k1 : IntKind.i64.wrap (G * 1048576) = G * 1048576 := IntWalk.i64_in _ (by omega)
  have k2 : IntKind.i64.wrap (G * 1048576 + (O + 1)) = G * 1048576 + (O + 1) := IntWalk.i64_in _ (by omega)
  go_enter Tryd.func38, Tryd.ntmps38
  go_wp2_with fail
  go_quiet (fail)
  go_wp2
  go_ret2
  exact ⟨by rw [E.out, V.out]; rfl, HF.out.same ((Mod.refl [] _).drewN _), HM.out.drewN _⟩
end Go.Proofs.YtkajedgghoboaaaDoor
