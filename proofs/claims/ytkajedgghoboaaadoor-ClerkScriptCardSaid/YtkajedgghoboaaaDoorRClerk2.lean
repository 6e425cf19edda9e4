/- What Left, May, Stamp and Lose of the document's clerk come to. No condition beyond what stands in each. -/
import Derived.Test.YtkajedgghoboaaaDoorRClerk
import Derived.Deep.RegionHeld3
namespace Go.Proofs.YtkajedgghoboaaaDoor
open Go.RowKit
set_option linter.unusedVariables false
set_option linter.unusedSimpArgs false
attribute [local go_sem ↓] Go.wp_at_zero Go.wp_at_succ

theorem rcLeft_calls (w : World) (base N0 rk rO rT : Nat) (s : St) (now : Int) (h : RClk w base N0 rk rO rT s) (hn : now ≤ 9223372036854775807) (ht0 : -1 ≤ s.till) (ht1 : s.till ≤ 2199023255552) :
    Calls Tryd.prog 43 #[.pointer (some ⟨rk, 0, none⟩), .int .i64 now] w fun e w' => e = .returned (.int .i64 (leftV s.till now)) ∧ w = w' := by
  have c := h.c1
  have cT := h.cT
  have key : ∀ x : Int, x = leftV s.till now → Ending.returned (.int .i64 x) = .returned (.int .i64 (leftV s.till now)) := fun x e => by rw [e]
  have KEY := Lib.hid key
  obtain ⟨T, hT⟩ : ∃ T, T = s.till := ⟨_, rfl⟩
  rw [← hT] at ht0 ht1 cT
  have HTT := Lib.hid hT
  clear h hT key
  go_enter Tryd.func43, Tryd.ntmps43
  go_wp2
  all_goals
    go_ret
    exact ⟨KEY.out _ (by have := HTT.out; unfold leftV; omega), rfl⟩
set_option maxHeartbeats 2000000 in
theorem rcMay_calls (w : World) (base N0 rk rO rT : Nat) (s : St) (now block mode : Int) (h : RClk w base N0 rk rO rT s) :
    Calls Tryd.prog 42 #[.pointer (some ⟨rk, 0, none⟩), .int .i64 now, .int .i64 block, .int .i64 mode] w fun e w' => e = .returned (.int .i64 (mayE s now block mode)) ∧ Mod [] w w' := by
  have E1 : mayE s now block mode = if block < 0 then 71 else if 256 ≤ block then 71 else if mode ≠ 1 ∧ mode ≠ 2 then 1 else if s.till < now then 200 else if hasV s.t s.id block mode = false then 170 else 0 := rfl
  by_cases h1 : block < 0
  · have E := Lib.hid (E1.trans (if_pos h1))
    clear E1 h
    go_enter Tryd.func42, Tryd.ntmps42
    go_wp2
    go_ret
    exact ⟨by rw [E.out]; rfl, Mod.refl _ _⟩
  rw [if_neg h1] at E1
  have d1 : decide (block < 0) = false := by simpa using h1
  by_cases h2 : 256 ≤ block
  · have E := Lib.hid (E1.trans (if_pos h2))
    clear E1 h h1
    go_enter Tryd.func42, Tryd.ntmps42
    go_wp2
    go_ret
    exact ⟨by rw [E.out]; rfl, Mod.refl _ _⟩
  rw [if_neg h2] at E1
  have d2 : decide (256 ≤ block) = false := by simpa using h2
  by_cases h3 : mode ≠ 1 ∧ mode ≠ 2
  · have E := Lib.hid (E1.trans (if_pos h3))
    have f1 : (mode != 1) = true := by simpa using h3.1
    have f2 : (mode != 2) = true := by simpa using h3.2
    clear E1 h h1 h2 h3
    go_enter Tryd.func42, Tryd.ntmps42
    go_wp2
    go_ret
    exact ⟨by rw [E.out]; rfl, Mod.refl _ _⟩
  rw [if_neg h3] at E1
  have dm : (mode != 1) = false ∨ ((mode != 1) = true ∧ (mode != 2) = false) := by
    by_cases e : mode = 1
    · exact .inl (by simpa using e)
    · exact .inr ⟨by simpa using e, by
        have : mode = 2 := by
          by_cases e2 : mode = 2
          · exact e2
          · exact absurd ⟨e, e2⟩ h3
        simpa using this⟩
  have c := h.c0
  have c1 := h.c1
  have c2 := h.c2
  have G := Lib.hid (roGood_calls w rO N0 s.num s.slack s.last _ _ _ s.till now h.o)
  have HT := Lib.hid h.t
  clear h h1 h2 h3
  by_cases h4 : s.till < now
  · have E := Lib.hid (E1.trans (if_pos h4))
    have h4' : decide (now ≤ s.till) = false := by simp; omega
    clear E1 h4
    rw [h4'] at G
    rcases dm with f1 | ⟨f1, f2⟩
    all_goals
      go_enter Tryd.func42, Tryd.ntmps42
      go_wp2_with (go_at_call 73; refine G.out.mono ?_; rintro e w' ⟨rfl, rfl⟩)
      go_ret
      exact ⟨by rw [E.out]; rfl, Mod.refl _ _⟩
  rw [if_neg h4] at E1
  have h4' : decide (now ≤ s.till) = true := by simp; omega
  rw [h4'] at G
  clear h4 h4'
  have C := Lib.hid ((rhas_calls w.drew base rT s.t s.id block mode (HT.out.same ((Mod.refl [] w).drew))).mono (R' := fun e w' => e = .returned (.bool (hasV s.t s.id block mode)) ∧ Mod [] w w') (fun e w' ⟨he, hm⟩ => ⟨he, (Mod.refl [] w).drew.trans hm⟩))
  obtain ⟨x, hx⟩ : ∃ x, x = hasV s.t s.id block mode := ⟨_, rfl⟩
  rw [← hx] at C E1
  have HE := Lib.hid E1
  have KS := Lib.hid (fun (w' : World) (m : Mod [] w w') => (⟨m.cell' c (by simp), m.cell' c2 (by simp)⟩ : w'.cell? ⟨rk, 0, none⟩ = some (.int .i64 s.id) ∧ w'.cell? ⟨rk, 2, none⟩ = some (.pointer (some ⟨rT, 0, none⟩))))
  clear hx E1 HT
  cases x with
  | false =>
    have E := Lib.hid (HE.out.trans (if_pos rfl))
    rcases dm with f1 | ⟨f1, f2⟩
    all_goals
      go_enter Tryd.func42, Tryd.ntmps42
      go_wp2_with (go_at_call 73; refine G.out.mono ?_; rintro e w' ⟨rfl, rfl⟩)
      go_region_held3 (fun w' => w'.cell? ⟨rk, 0, none⟩ = some (.int .i64 s.id) ∧ w'.cell? ⟨rk, 2, none⟩ = some (.pointer (some ⟨rT, 0, none⟩)))
        ((refine KS.out _ ?_; with_reducible first
          | exact (Mod.refl [] w).drew
          | exact m5))
        (first
          | (go_at_call 24; (with_reducible refine C.out.mono ?_); rintro e w5 ⟨rfl, m5⟩))
      go_wp2
      go_ret
      exact ⟨by rw [E.out]; rfl, m5⟩
  | true =>
    have E := Lib.hid (HE.out.trans (if_neg (by simp)))
    rcases dm with f1 | ⟨f1, f2⟩
    all_goals
      go_enter Tryd.func42, Tryd.ntmps42
      go_wp2_with (go_at_call 73; refine G.out.mono ?_; rintro e w' ⟨rfl, rfl⟩)
      go_region_held3 (fun w' => w'.cell? ⟨rk, 0, none⟩ = some (.int .i64 s.id) ∧ w'.cell? ⟨rk, 2, none⟩ = some (.pointer (some ⟨rT, 0, none⟩)))
        ((refine KS.out _ ?_; with_reducible first
          | exact (Mod.refl [] w).drew
          | exact m5))
        (first
          | (go_at_call 24; (with_reducible refine C.out.mono ?_); rintro e w5 ⟨rfl, m5⟩))
      go_wp2
      go_ret
      exact ⟨by rw [E.out]; rfl, m5⟩

set_option maxHeartbeats 2000000 in
theorem rcStamp_calls (w : World) (base N0 rk rO rT : Nat) (s : St) (h : RClk w base N0 rk rO rT s) (g0 : 0 ≤ s.grant) (g1 : s.grant < 1048576) (o0 : 0 ≤ s.told) (o1 : s.told ≤ 1048575) :
    Calls Tryd.prog 72 #[.pointer (some ⟨rk, 0, none⟩)] w fun e w' => e = .returned (.tuple #[.int .i64 (stampV s), .int .i64 (stampE s)]) ∧ RClk w' base N0 rk rO rT (stampS s) ∧ Mod [rk] w w' := by
  have c3 := h.c3
  have c4 := h.c4
  by_cases h0 : s.grant = 0
  · have E := Lib.hid (show stampE s = 170 by simp [stampE, h0])
    have V := Lib.hid (show stampV s = 0 by unfold stampV; rw [E.out, if_neg (by decide)])
    have F := Lib.hid (show RClk w base N0 rk rO rT (stampS s) by unfold stampS; rw [E.out, if_neg (by decide)]; exact h)
    rw [h0] at c3
    clear h h0
    go_enter Tryd.func72, Tryd.ntmps72
    go_wp2
    go_ret2
    exact ⟨by rw [E.out, V.out]; rfl, F.out, Mod.refl _ _⟩
  have f0 : (s.grant == 0) = false := by simpa using h0
  by_cases h1 : 1048575 ≤ s.told
  · have E := Lib.hid (show stampE s = 6 by simp [stampE, h0, h1])
    have V := Lib.hid (show stampV s = 0 by unfold stampV; rw [E.out, if_neg (by decide)])
    have F := Lib.hid (show RClk w base N0 rk rO rT (stampS s) by unfold stampS; rw [E.out, if_neg (by decide)]; exact h)
    clear h h0
    go_enter Tryd.func72, Tryd.ntmps72
    go_wp2
    go_ret2
    exact ⟨by rw [E.out, V.out]; rfl, F.out, Mod.refl _ _⟩
  have E := Lib.hid (show stampE s = 0 by simp [stampE, h0, h1])
  have V := Lib.hid (show stampV s = s.grant * 1048576 + (s.told + 1) by unfold stampV; rw [E.out, if_pos rfl])
  have h1' : decide (1048575 ≤ s.told) = false := by simpa using h1
  have fz := h.r.free 4
  have m4 : Mod [rk] w (w.setCell ⟨rk, 4, none⟩ (.int .i64 (s.told + 1))) := (Mod.refl [rk] w).setCell (by simp) _
  have F : RClk (w.setCell ⟨rk, 4, none⟩ (.int .i64 (s.told + 1))) base N0 rk rO rT (stampS s) := by
    have hs : stampS s = { s with told := s.told + 1 } := by unfold stampS; rw [E.out, if_pos rfl]
    rw [hs]
    exact h.cells m4 ((h.r.set 4 _).congr fun j hj => by
      match j, hj with
      | 0, _ | 1, _ | 2, _ | 3, _ | 4, _ => rfl) ⟨rfl, rfl, rfl, rfl, rfl, rfl, rfl⟩
  have e3 : (w.setCell ⟨rk, 4, none⟩ (.int .i64 (s.told + 1))).cell? ⟨rk, 3, none⟩ = some (.int .i64 s.grant) := (World.cell?_setCell_other _ _ _ _ (by simp)).trans c3
  have e4 : (w.setCell ⟨rk, 4, none⟩ (.int .i64 (s.told + 1))).cell? ⟨rk, 4, none⟩ = some (.int .i64 (s.told + 1)) := World.cell?_setCell_same _ _ _ c4
  have HF := Lib.hid F
  have HM := Lib.hid m4
  obtain ⟨G, hG⟩ : ∃ G, G = s.grant := ⟨_, rfl⟩
  obtain ⟨O, hO⟩ : ∃ O, O = s.told := ⟨_, rfl⟩
  rw [← hG] at c3 g0 g1 f0 e3 V
  rw [← hO] at c4 o0 o1 h1 h1' e4 HF HM e3 V
  clear F m4 h h0 hG hO h1
  have k1 : IntKind.i64.wrap (G * 1048576) = G * 1048576 := IntWalk.i64_in _ (by omega)
  have k2 : IntKind.i64.wrap (G * 1048576 + (O + 1)) = G * 1048576 + (O + 1) := IntWalk.i64_in _ (by omega)
  go_enter Tryd.func72, Tryd.ntmps72
  go_wp2_with fail
  go_quiet (fail)
  go_wp2
  go_ret2
  exact ⟨by rw [E.out, V.out]; rfl, HF.out.same ((Mod.refl [] _).drewN _), HM.out.drewN _⟩
theorem rcLose_calls (w : World) (base N0 rk rO rT : Nat) (s : St) (h : RClk w base N0 rk rO rT s) (hb : base ≤ w.heap.size) :
    Calls Tryd.prog 71 #[.pointer (some ⟨rk, 0, none⟩)] w fun e w' => e = .returned (.tuple #[]) ∧ ∃ rT', w.heap.size ≤ rT' ∧
      RClk w' base w'.heap.size rk rO rT' { s with got := s.last, till := -1, t := fun _ _ => 0 } ∧ Mod [rk, rO] w w' := by
  have c := h.c1
  have H := Lib.hid h
  have C := Lib.hid (roLose_calls w rO N0 s.num s.slack s.last _ _ _ (sV s.last s.last) (gV s.a s.last s.last) s.till h.o)
  have hl := h.r.lt
  have hlO := h.o.lt
  have hn1 := h.n1
  clear h
  go_enter Tryd.func71, Tryd.ntmps71
  go_wp2_with fail
  refine C.out.mono ?_
  rintro e w1 ⟨rfl, ho, m1⟩
  have s1 := m1.size
  have A1 := H.out.r.mod m1 (by simpa using hn1)
  obtain ⟨w2, hw2⟩ : ∃ w2, w2 = w1.alloc (.cells #[.slice none 0 0] 42) := ⟨_, rfl⟩
  have m2 : Mod [] w1 w2 := by rw [hw2]; exact (Mod.refl [] w1).alloc _
  have A2 := A1.mod m2 (by simp)
  have hb2 : Boxed w2 w1.heap.size 42 (.slice none 0 0) := by rw [hw2]; exact Boxed.new _ _ _
  have d2 : w1.cell? ⟨rk, 2, none⟩ = some (.pointer (some ⟨rT, 0, none⟩)) := A1.cell 2 (by omega)
  have f2 := A1.free 2
  have s2 : w2.heap.size = w1.heap.size + 1 := by rw [hw2]; simp
  have m3 : Mod [rk] w2 (w2.setCell ⟨rk, 2, none⟩ (.pointer (some ⟨w1.heap.size, 0, none⟩))) := (Mod.refl [rk] w2).setCell (by simp) _
  have hk1 : rk ≠ w1.heap.size := by omega
  have hl1 : rk < w1.heap.size := by omega
  have ln : listL (fun _ _ => 0) = [] := holds_none 8 (fun _ _ _ _ _ => rfl)
  have hO2 := (ho.mod0 m2).mod m3 (by simpa using fun e => hn1 e.symm) (fun x hx => by simp at hx; have := H.out.lk; omega)
  have hsz : (w2.setCell ⟨rk, 2, none⟩ (.pointer (some ⟨w1.heap.size, 0, none⟩))).heap.size = w1.heap.size + 1 := by simp [s2]
  have F : RClk (w2.setCell ⟨rk, 2, none⟩ (.pointer (some ⟨w1.heap.size, 0, none⟩))) base (w2.setCell ⟨rk, 2, none⟩ (.pointer (some ⟨w1.heap.size, 0, none⟩))).heap.size rk rO w1.heap.size { s with got := s.last, till := -1, t := fun _ _ => 0 } :=
    ⟨(A2.set 2 _).congr fun j hj => by
      match j, hj with
      | 0, _ | 1, _ | 2, _ | 3, _ | 4, _ => rfl, by
        have := ro_rebase hO2 (N1 := (w2.setCell ⟨rk, 2, none⟩ (.pointer (some ⟨w1.heap.size, 0, none⟩))).heap.size) (by rw [hsz]; omega) (Nat.le_refl _)
        show RO _ _ _ _ _ _ (nV s.last s.last) _ _ _
        rw [nV_self]
        exact this, ⟨⟨_, boxMod hb2 m3 (by simpa using fun e => hk1 e.symm), by show World.ownsRow _ _ _ _ _ (listL (fun _ _ => 0)).length (hcells (listL (fun _ _ => 0))); rw [ln]; exact own_nil _ _ _ _⟩, fun _ _ => by show (0 : Nat) ≤ 2; omega⟩, by rw [hsz]; omega, by rw [hsz]; omega⟩
  have HF := Lib.hid F
  have HMF := Lib.hid ((((m1.mono (by simp) : Mod [rk, rO] w w1).trans m2.nil).trans (m3.mono (by simp))))
  have HW2 := Lib.hid hw2
  clear F m1 ho m2 hb2 hO2 A1 A2 m3 hw2 s2 hsz
  have HX := Lib.hid (show (w1.setCell ⟨rk, 2, none⟩ (.pointer (some ⟨w1.heap.size, 0, none⟩))).alloc (.cells #[.slice none 0 0] 42) = w2.setCell ⟨rk, 2, none⟩ (.pointer (some ⟨w1.heap.size, 0, none⟩)) by rw [HW2.out, World.setCell_alloc_past _ _ _ _ hl1])
  go_wp2
  rw [HX.out]
  go_end0
  exact ⟨rfl, _, by omega, HF.out, HMF.out⟩
end Go.Proofs.YtkajedgghoboaaaDoor
