/- The document's Blocks, and the law's own small show (package weirkeeplaw15). No condition beyond what stands in each. -/
import Derived.Test.YtkajedgghoboaaaDoorSpan7
namespace Go.Proofs.YtkajedgghoboaaaDoor
open Go.RowKit
set_option linter.unusedVariables false
set_option linter.unusedSimpArgs false
attribute [local go_sem ↓] Go.wp_at_zero Go.wp_at_succ

def blk (a b : Int) : Bool := decide (0 ≤ a) && decide (a < b) && decide (b ≤ 256)
set_option maxHeartbeats 1000000 in
theorem blocks_calls (w : World) (a b : Int) : Calls Tryd.prog 14 #[.agg #[.int .i64 a, .int .i64 b]] w fun e w' => e = .returned (.bool (blk a b)) ∧ w.alloc (.cells #[.int .i64 a, .int .i64 b] 23) = w' := by
  by_cases h1 : 0 ≤ a
  · by_cases h2 : a < b
    · have E := Lib.hid (show blk a b = decide (b ≤ 256) by simp [blk, h1, h2])
      go_enter Tryd.func14, Tryd.ntmps14
      go_wp2
      go_ret
      exact ⟨by rw [E.out]; rfl, rfl⟩
    · have E := Lib.hid (show blk a b = false by simp [blk, h2])
      have h2' : decide (a < b) = false := by simpa using h2
      clear h2
      go_enter Tryd.func14, Tryd.ntmps14
      go_wp2
      go_ret
      exact ⟨by rw [E.out]; rfl, rfl⟩
  · have E := Lib.hid (show blk a b = false by simp [blk, h1])
    have h1' : decide (0 ≤ a) = false := by simpa using h1
    clear h1
    go_enter Tryd.func14, Tryd.ntmps14
    go_wp2
    go_ret
    exact ⟨by rw [E.out]; rfl, rfl⟩

/-! ### the show -/
theorem show_put : putE (fun _ _ => 0) 1 3 2 2 = 0 := by decide +kernel
theorem show_has : hasV (putT (fun _ _ => 0) 1 3 2 2) 2 2 1 = true := by decide +kernel
theorem show_list : (listL (putT (fun _ _ => 0) 1 3 2 2)).length = 1 := by decide +kernel

set_option maxHeartbeats 1000000 in
theorem shown_calls (w : World) (hW : Whole w) : Calls Tryd.prog 15 #[] w fun e w' => e = .returned (.bool true) ∧ Mod [] w w' := by
  have hl : 0 < w.heap.size := by
    have := World.block_lt_of_cell? w _ hW.1
    omega
  have HW := Lib.hid hW
  have T0 := Lib.hid (tb_new w)
  clear hW
  have m1 : Mod [] w (w.alloc (.cells zTab 87)) := (Mod.refl [] w).alloc _
  have m2 : Mod [] (w.alloc (.cells zTab 87)) ((w.alloc (.cells zTab 87)).alloc (.cells #[.int .i64 1, .int .i64 3, .int .i64 2, .int .i64 2] 31)) := (Mod.refl [] _).alloc _
  have CP := Lib.hid (spPut_calls _ w.heap.size (fun _ _ => 0) 1 3 2 2 (T0.out.mod m2 (by simp)) ((HW.out.mod m1 (by simp)).mod m2 (by simp)) (by omega))
  have M12 := Lib.hid (m1.trans m2)
  clear m1 m2
  go_enter Tryd.func15, Tryd.ntmps15
  go_wp2_with (first
    | (go_at_call 16; refine (spNew_calls _).mono ?_; rintro e w1 ⟨rfl, rfl⟩)
    | (go_at_call 17; refine CP.out.mono ?_; rintro e w2 ⟨rfl, hT2, m2⟩; rw [show_put])
    | (go_at_call 21; refine (spHas_calls _ _ _ _ _ _ hT2).mono ?_; rintro e w3 ⟨rfl, rfl⟩; rw [show_has])
    | (go_at_call 20; refine (spList_calls _ _ _ hT2 ?_).mono ?_; (exact (HW.out.mod M12.out (by simp)).mod m2 (by simp; omega)); rintro e w5 ⟨v, rfl, ho, m5⟩; rw [show_list] at ho; obtain ⟨p9, cap9, rfl⟩ := own_slice ho; clear ho))
  go_ret
  exact ⟨rfl, (M12.out.fresh (m2.trans m5.nil) (fun x hx => .inr (by simp at hx; omega)))⟩
end Go.Proofs.YtkajedgghoboaaaDoor
