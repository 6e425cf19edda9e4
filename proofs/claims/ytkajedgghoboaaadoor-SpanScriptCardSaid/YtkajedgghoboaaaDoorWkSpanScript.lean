/- The walk of the law SpanScript: whatever is put, cut, weakened and dropped, a table answers, and has, what the document says. The premise: the variable 'whole' holds what its initialiser lays. -/
import Derived.Test.YtkajedgghoboaaaDoorProg
import Derived.Test.YtkajedgghoboaaaDoorRow
import Derived.Test.YtkajedgghoboaaaDoorScr
namespace Go.Proofs.YtkajedgghoboaaaDoor
open Go.RowKit
set_option linter.unusedVariables false
set_option linter.unusedSimpArgs false
attribute [local go_sem ↓] Go.wp_at_zero Go.wp_at_succ

set_option maxRecDepth 100000 in
set_option maxHeartbeats 4000000 in
theorem spanScript_walk (W : World) (t0 : Whole W) (v0 : Value) (c0 : CellOk W (.sl [.int .i64, .int .i64, .int .i64, .int .i64, .int .i64]) v0)
    (a1 : Int) (w1 : (Lit.int .i64 a1).wf = true)
    (a2 : Int) (w2 : (Lit.int .i64 a2).wf = true)
    (a3 : Int) (w3 : (Lit.int .i64 a3).wf = true) :
    Calls Tryd.prog 5 #[v0, .int .i64 a1, .int .i64 a2, .int .i64 a3] W fun e w' => e = .returned (.bool true) ∧ Below W.heap.size W w' := by
  obtain ⟨n, f, hA, hf⟩ := c0.slA (by simp)
  obtain ⟨A, cap0, rfl, hn, hcap, hcell⟩ := hA.ex
  have hcap' : cap0 ≤ 9223372036854775807 := by unfold maxLen at hcap; omega
  clear hcap c0 hA w1 w2 w3
  have HT := Lib.hid t0
  clear t0
  by_cases h40 : 25 < n
  · have hi : (25 : Int) < (n : Int) := by omega
    go_enter Tryd.func5, Tryd.ntmps5
    go_wp2_with (go_at_call 15; refine (shown_calls _ HT.out).mono ?_; rintro e w' ⟨rfl, m⟩)
    go_ret
    exact ⟨rfl, m.below (Nat.le_refl _) (by simp)⟩
  have h5 : decide (25 < n) = false := by simpa using h40
  go_enter Tryd.func5, Tryd.ntmps5
  go_wp2_with fail
  refine (shown_calls _ HT.out).mono ?_
  rintro e z2 ⟨rfl, m2⟩
  have I3 := scI_new (HT.out.mod m2 (by simp)) m2 (World.block_lt_of_cell? W _ HT.out.1)
  go_wp2_with (go_at_call 16; refine (spNew_calls z2).mono ?_; rintro e z3 ⟨rfl, rfl⟩)
  obtain ⟨bT, hbT⟩ : ∃ bT, bT = z2.heap.size := ⟨_, rfl⟩
  rw [← hbT] at I3 ⊢
  obtain ⟨r, hr⟩ : ∃ r, r = bT + 1 := ⟨_, rfl⟩
  rw [← hr] at I3 ⊢
  have HI := Lib.hid I3
  clear m2 I3 hbT hr
  go_loopw [11] (fun i wr => ∃ k : Nat, k ≤ n ∧ i = .int .i64 k ∧ ScI W wr W.heap.size bT r) (fun i _ => n - (intOf i).toNat)
  case atStart => exact ⟨0, Nat.zero_le _, rfl, HI.out⟩
  case round =>
    obtain ⟨k, hkn, rfl, hI⟩ := hrel
    clear HI
    by_cases hlt : k < n
    · obtain ⟨bl, off, rfl, hx⟩ := hcell (by omega)
      obtain ⟨x0, e0, q0⟩ := (hf k 0 _ hlt rfl).int_inv
      obtain ⟨x1, e1, q1⟩ := (hf k 1 _ hlt rfl).int_inv
      obtain ⟨x2, e2, q2⟩ := (hf k 2 _ hlt rfl).int_inv
      obtain ⟨x3, e3, q3⟩ := (hf k 3 _ hlt rfl).int_inv
      obtain ⟨x4, e4, q4⟩ := (hf k 4 _ hlt rfl).int_inv
      have y0 := hx k 0 hlt (by simp)
      have y1 := hx k 1 hlt (by simp)
      have y2 := hx k 2 hlt (by simp)
      have y3 := hx k 3 hlt (by simp)
      have y4 := hx k 4 hlt (by simp)
      rw [e0] at y0
      rw [e1] at y1
      rw [e2] at y2
      rw [e3] at y3
      rw [e4] at y4
      simp only [List.length_cons, List.length_nil, Nat.zero_add, Nat.reduceAdd, Nat.add_zero] at y0 y1 y2 y3 y4
      have hb0 : bl < W.heap.size := World.block_lt_of_cell? W _ y0
      replace y0 := hI.md.cell' y0 (by simp)
      replace y1 := hI.md.cell' y1 (by simp)
      replace y2 := hI.md.cell' y2 (by simp)
      replace y3 := hI.md.cell' y3 (by simp)
      replace y4 := hI.md.cell' y4 (by simp)
      clear hx e0 e1 e2 e3 e4 hf hcell q0 q1 q2 q3 q4
      have i0 : (0 : Int) ≤ (k : Int) := by omega
      have i1 : (k : Int) < (n : Int) := by omega
      have b1 : bl ≠ bT := by have := hI.s1; omega
      have b2 : bl ≠ r := by have := hI.s2; omega
      obtain ⟨t, hp⟩ := hI.ex
      have C1 := Lib.hid ((does15_calls wr.drew W.heap.size bT r t x0 x1 x2 x3 x4 (hp.same (Mod.refl [] wr).drew)).mono (R' := fun e w' => e = .returned (.bool true) ∧ ∃ t' p0 cap0, Pair w' W.heap.size bT r t' ∧ Mod [bT, r] wr w' ∧ w'.cell? ⟨r, 0, none⟩ = some (.slice p0 (listL t').length cap0) ∧ Hs w' (.slice p0 (listL t').length cap0) (listL t')) (by
        rintro e w' ⟨he, t', hp', hm, -⟩
        obtain ⟨v, hb, ho⟩ := hp'.rt.ex
        have hs := hs_own ho
        obtain ⟨p0, cap0, rfl, -⟩ := own_holds' ho
        exact ⟨he, t', p0, cap0, hp', (Mod.refl [bT, r] wr).drew.trans hm, hb.cell, hs⟩))
      have C2 := Lib.hid (fun (w1 : World) (t' : Nat → Nat → Nat) (h : Pair w1 W.heap.size bT r t') => (spList_calls w1 bT t' h.tb h.wh).mono (R' := fun e w' => ∃ v, e = .returned v ∧ Hs w' v (listL t') ∧ Mod [] w1 w') (by
        rintro e w' ⟨v, he, ho, hm⟩
        exact ⟨v, he, hs_own ho, hm⟩))
      have HI := Lib.hid hI
      clear hI hp
      go_wp2_with fail
      go_region_with
        (first
          | (go_at_call 22; (with_reducible refine C1.out.mono ?_); rintro e z1 ⟨rfl, t', p0, cap0, hp, m1, d1, g1⟩; have Hp := Lib.hid hp; clear hp)
          | (go_at_call 20; (with_reducible refine (C2.out _ _ Hp.out).mono ?_); rintro e z2 ⟨v1, rfl, a1, m2⟩; have d2 := m2.cell' d1 (by simp); have g2 := g1.same m2)
          | (go_at_call 23; (with_reducible refine (same_true _ _ _ _ a1 g2).mono ?_); rintro e z3 ⟨rfl, m3⟩))
      all_goals
        have FIN := Lib.hid (HI.out.next (Hp.out.same (m2.trans m3)) (m1.trans (m2.trans m3).nil))
        clear m1 m2 m3 d1 d2 y0 y1 y2 y3 y4
        go_wp2
        go_roundw
        case rel => exact ⟨k + 1, by omega, by go_num, FIN.out⟩
        case measure => simp [intOf]; omega
    · obtain rfl : k = n := by omega
      have hlt' : decide (k < k) = false := by simp
      obtain ⟨t, hp⟩ := hI.ex
      have C1 := Lib.hid (spHas_calls wr bT t a1 a2 a3 hp.tb)
      have C2 := Lib.hid (rhas_calls wr W.heap.size r t a1 a2 a3 hp.rt)
      have HM := Lib.hid hI.md
      obtain ⟨q, hq⟩ : ∃ q, q = hasV t a1 a2 a3 := ⟨_, rfl⟩
      rw [← hq] at C1 C2
      clear hI hp hq
      go_wp2_with (first
        | (go_at_call 21; refine C1.out.mono ?_; rintro e w' ⟨rfl, rfl⟩)
        | (go_at_call 24; refine C2.out.mono ?_; rintro e w' ⟨rfl, m9⟩))
      go_ret
      exact ⟨by simp, (HM.out.trans m9).below (Nat.le_refl _) (by simp)⟩
end Go.Proofs.YtkajedgghoboaaaDoor
