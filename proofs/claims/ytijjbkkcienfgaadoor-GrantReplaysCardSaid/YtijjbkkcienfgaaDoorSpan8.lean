/- The document's Blocks, and the law's own small show (package weirkeeplaw15). No condition beyond what stands in each. -/
import Derived.Test.YtijjbkkcienfgaaDoorSpan7
namespace Go.Proofs.YtijjbkkcienfgaaDoor
open Go.RowKit
set_option linter.unusedVariables false
set_option linter.unusedSimpArgs false
attribute [local go_sem ↓] Go.wp_at_zero Go.wp_at_succ

def blk (a b : Int) : Bool := decide (0 ≤ a) && decide (a < b) && decide (b ≤ 256)
set_option maxHeartbeats 1000000 in
theorem blocks_calls (w : World) (a b : Int) : Calls Tryd.prog 11 #[.agg #[.int .i64 a, .int .i64 b]] w fun e w' => e = .returned (.bool (blk a b)) ∧ w.alloc (.cells #[.int .i64 a, .int .i64 b] 23) = w' := by
  by_cases h1 : 0 ≤ a
  · by_cases h2 : a < b
    · have E := Lib.hid (show blk a b = decide (b ≤ 256) by simp [blk, h1, h2])
      go_enter Tryd.func11, Tryd.ntmps11
      go_wp2
      go_ret
      exact ⟨by rw [E.out]; rfl, rfl⟩
    · have E := Lib.hid (show blk a b = false by simp [blk, h2])
      have h2' : decide (a < b) = false := by simpa using h2
      clear h2
      go_enter Tryd.func11, Tryd.ntmps11
      go_wp2
      go_ret
      exact ⟨by rw [E.out]; rfl, rfl⟩
  · have E := Lib.hid (show blk a b = false by simp [blk, h1])
    have h1' : decide (0 ≤ a) = false := by simpa using h1
    clear h1
    go_enter Tryd.func11, Tryd.ntmps11
    go_wp2
    go_ret
    exact ⟨by rw [E.out]; rfl, rfl⟩

/-! ### the show -/
end Go.Proofs.YtijjbkkcienfgaaDoor
