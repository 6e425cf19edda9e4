/- The document's small functions of the layer span: Meet, Client. No condition. -/
import Derived.Test.YtijjbkkcienfgaaDoorSpan8
namespace Go.Proofs.YtijjbkkcienfgaaDoor
open Go.RowKit
set_option linter.unusedVariables false
set_option linter.unusedSimpArgs false
attribute [local go_sem ↓] Go.wp_at_zero Go.wp_at_succ

theorem meet_calls (w : World) (a b c d : Int) : Calls Tryd.prog 55 #[.agg #[.int .i64 a, .int .i64 b], .agg #[.int .i64 c, .int .i64 d]] w fun e w' => e = .returned (.agg #[.int .i64 (max a c), .int .i64 (min b d)]) ∧ Mod [] w w' := by
  go_enter Tryd.func55, Tryd.ntmps55
  go_wp2
  all_goals
    refine bodyPost_ret (v := .agg #[.int .i64 (max a c), .int .i64 (min b d)]) ?_ rfl ⟨rfl, (((Mod.refl _ _).alloc _).alloc _).alloc _⟩
    simp [results, Tryd.results55, go_sem]
    try omega
theorem rclient_calls (w : World) (c : Int) : Calls Tryd.prog 18 #[.int .i64 c] w fun e w' => e = .returned (.bool (inC8 c)) ∧ w = w' := by
  by_cases h0 : 0 ≤ c
  · by_cases h8 : c < 8
    · have E := Lib.hid (show inC8 c = true by simp [inC8]; omega)
      go_enter Tryd.func18, Tryd.ntmps18
      go_wp2
      go_ret
      exact ⟨by rw [E.out]; rfl, rfl⟩
    · have E := Lib.hid (show inC8 c = false by simp [inC8]; omega)
      have h8' : decide (c < 8) = false := by simpa using h8
      go_enter Tryd.func18, Tryd.ntmps18
      go_wp2
      go_ret
      exact ⟨by rw [E.out]; rfl, rfl⟩
  · have E := Lib.hid (show inC8 c = false by simp [inC8]; omega)
    have h0' : decide (0 ≤ c) = false := by simpa using h0
    go_enter Tryd.func18, Tryd.ntmps18
    go_wp2
    go_ret
    exact ⟨by rw [E.out]; rfl, rfl⟩
end Go.Proofs.YtijjbkkcienfgaaDoor
