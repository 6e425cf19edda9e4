/- What 'time' of the document's layer 16 comes to. No condition. -/
import Derived.Test.YtijjbkkcienfgaaDoorTime
namespace Go.Proofs.YtijjbkkcienfgaaDoor
open Go.RowKit
set_option linter.unusedVariables false
set_option linter.unusedSimpArgs false
attribute [local go_sem ↓] Go.wp_at_zero Go.wp_at_succ

theorem time16_calls (w : World) (c : Int) :
    Calls Tryd.prog 75 #[.int .i64 c] w fun e w' => e = .returned (.bool (okT c)) ∧ w = w' := by
  by_cases h0 : 0 ≤ c
  · have E := Lib.hid (show okT c = decide (c ≤ 1099511627776) by simp [okT, h0])
    go_enter Tryd.func75, Tryd.ntmps75
    go_wp2
    all_goals go_ret
    all_goals exact ⟨by rw [E.out]; simp, rfl⟩
  · have E := Lib.hid (show okT c = false by simp [okT, h0])
    have hd : decide (0 ≤ c) = false := by simpa using h0
    go_enter Tryd.func75, Tryd.ntmps75
    go_wp2
    go_ret
    exact ⟨by rw [E.out]; rfl, rfl⟩

end Go.Proofs.YtijjbkkcienfgaaDoor
