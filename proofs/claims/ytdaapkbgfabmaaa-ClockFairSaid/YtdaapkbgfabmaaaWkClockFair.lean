/- The walk of the law ClockFair: whether any history is fair, and which window is not, is the document's; the margin of any lease, too; no condition. -/
import Derived.Test.YtdaapkbgfabmaaaFair5
namespace Go.Proofs.Ytdaapkbgfabmaaa
open Go.RowKit
set_option linter.unusedVariables false
set_option linter.unusedSimpArgs false
attribute [local go_sem ↓] Go.wp_at_zero Go.wp_at_succ

set_option maxRecDepth 100000 in
set_option maxHeartbeats 2000000 in
theorem clockFair_walk (W : World) (v0 : Value) (c0 : CellOk W (.sl [.sl [.int .i64]]) v0)
    (a1 : Int) (w1 : (Lit.int .i64 a1).wf = true)
    (a2 : Int) (w2 : (Lit.int .i64 a2).wf = true)
    (a3 : Int) (w3 : (Lit.int .i64 a3).wf = true)
    (a4 : Int) (w4 : (Lit.int .i64 a4).wf = true) :
    Calls Try.prog 5 #[v0, .int .i64 a1, .int .i64 a2, .int .i64 a3, .int .i64 a4] W fun e w' => e = .returned (.bool true) ∧ Below W.heap.size W w' := by
  obtain ⟨m, len, x, hT⟩ := ticks_of c0
  obtain ⟨A, cap, rv, rfl, -⟩ := hT.ex
  clear c0 w1 w2 w3 w4
  by_cases h30 : 30 < m
  · have hd : decide (30 < m) = true := by simpa using h30
    have H := heavy_calls W A m cap
    rw [hd] at H
    have H' := Lib.hid H
    clear H hd
    go_enter Try.func5, Try.ntmps5
    go_wp2_with (go_at_call 23; refine H'.out.mono ?_; rintro e w' ⟨rfl, rfl⟩)
    go_ret
    exact ⟨rfl, Below.refl _ _⟩
  · have hd : decide (30 < m) = false := by simpa using h30
    have H := heavy_calls W A m cap
    rw [hd] at H
    have H' := Lib.hid H
    clear H hd
    go_enter Try.func5, Try.ntmps5
    go_wp2_with (go_at_call 23; refine H'.out.mono ?_; rintro e w' ⟨rfl, rfl⟩)
    refine (fair_calls _ _ m len x hT (by omega) _ _ _).mono ?_
    rintro e w1 ⟨⟨y1, y2, y3, rfl, hF1⟩, m1⟩
    go_wp2_with fail
    refine (rfair_calls _ _ m len x (hT.under (m1.under (Nat.le_refl _) (by simp))) (by omega) _ _ _).mono ?_
    rintro e w2 ⟨⟨z1, z2, z3, rfl, hF2⟩, rfl⟩
    obtain ⟨rfl, rfl, rfl⟩ := hF1.eq hF2
    clear hF1 hF2
    go_wp2_with fail
    have hO := ticks_one ((w1.alloc (.cells #[.int .i64 1, .int .i64 0] 3)).alloc (.cells #[.slice (some ⟨w1.heap.size, 0, none⟩) 2 2] 31)) w1.heap.size (w1.heap.size + 1) #[.int .i64 1, .int .i64 0] 2 (fun j => if j = 0 then 1 else 0) rfl (by decide) (fun j hj => by
      match j, hj with
      | 0, _ | 1, _ => rfl) (heap_alloc2_old w1 _ _) (by simp)
    have m2 : Mod [] W ((w1.alloc (.cells #[.int .i64 1, .int .i64 0] 3)).alloc (.cells #[.slice (some ⟨w1.heap.size, 0, none⟩) 2 2] 31)) := (m1.alloc _).alloc _
    refine (fair_calls _ _ 1 _ _ hO (by omega) 2 0 0).mono ?_
    rintro e w3 ⟨⟨u1, u2, u3, rfl, hF3⟩, m3⟩
    have hu : u3 = false := by
      cases u3
      · rfl
      · have := hF3.fair.1 rfl 0 0 (by omega) (by omega)
        exact absurd this (by
          rw [badB_no]
          intro hn
          exact hn ⟨0, 1, by decide, by decide, by decide⟩)
    subst hu
    have M := Lib.hid ((m2.trans m3).below (Nat.le_refl _) (by simp))
    have mk := Lib.hid marg10
    clear hF3 hO m1 m2 m3 hT
    go_wp2_with (first | (go_at_call 14; (with_reducible refine (margin_calls _ a4 _ _).mono ?_); rintro e w' ⟨rfl, rfl⟩) | (go_at_call 15; refine (rmargin_calls _ _ _ _).mono ?_; rintro e w' ⟨rfl, rfl⟩) | (go_at_call 14; refine (margin_calls _ _ _ _).mono ?_; rintro e w' ⟨rfl, rfl⟩; rw [mk.out]))
    go_ret
    exact ⟨rfl, M.out⟩
end Go.Proofs.Ytdaapkbgfabmaaa
