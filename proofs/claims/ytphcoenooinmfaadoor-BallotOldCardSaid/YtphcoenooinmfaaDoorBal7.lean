/- The document's Same at two rows of the same votes. No condition. -/
import Derived.Test.YtphcoenooinmfaaDoorBal6
namespace Go.Proofs.YtphcoenooinmfaaDoor
open Go.RowKit
set_option linter.unusedVariables false
set_option linter.unusedSimpArgs false
attribute [local go_sem ↓] Go.wp_at_zero Go.wp_at_succ

set_option maxRecDepth 100000 in
set_option maxHeartbeats 1000000 in
theorem sameV_calls (w : World) (u v : Value) (L : List VoteT) (hu : Vs w u L) (hv : Vs w v L) (hl : L.length ≤ 100000) :
    Calls Tryd.prog 29 #[u, v] w fun r w' => r = .returned (.bool true) ∧ Mod [] w w' := by
  obtain ⟨A1, p1, rfl, h1, h1', hx⟩ := SlA.ex hu
  obtain ⟨A2, p2, rfl, h2, h2', hy⟩ := SlA.ex hv
  have z1 : p1 ≤ 9223372036854775807 := by unfold maxLen at h1'; omega
  have z2 : p2 ≤ 9223372036854775807 := by unfold maxLen at h2'; omega
  have HX := Lib.hid hx
  have HY := Lib.hid hy
  clear hx hy hu hv h1' h2'
  go_enter Tryd.func29, Tryd.ntmps29
  go_wp2
  go_loopw [5] (fun i wr => ∃ k : Nat, k ≤ L.length ∧ i = .int .i64 k ∧ Mod [] w wr) (fun i _ => L.length - (intOf i).toNat)
  case atStart => exact ⟨0, Nat.zero_le _, rfl, Mod.refl _ _⟩
  case round =>
    obtain ⟨k, hk, rfl, hM⟩ := hrel
    by_cases hlt : k < L.length
    · have i0 : (0 : Int) ≤ (k : Int) := by omega
      have i1 : (k : Int) < (L.length : Int) := by omega
      obtain ⟨b1, o1, rfl, c1⟩ := HX.out (by omega)
      obtain ⟨b2, o2, rfl, c2⟩ := HY.out (by omega)
      have x0 := hM.cell' (c1 k 0 hlt (by omega)) (by simp)
      have x1 := hM.cell' (c1 k 1 hlt (by omega)) (by simp)
      have x2 := hM.cell' (c1 k 2 hlt (by omega)) (by simp)
      have y0 := hM.cell' (c2 k 0 hlt (by omega)) (by simp)
      have y1 := hM.cell' (c2 k 1 hlt (by omega)) (by simp)
      have y2 := hM.cell' (c2 k 2 hlt (by omega)) (by simp)
      unfold vF VoteT.cF at x0 x1 x2 y0 y1 y2
      simp only [if_true, if_false, Nat.reduceEqDiff, Nat.add_zero] at x0 x1 x2 y0 y1 y2
      generalize L.getD k VoteT.zero = x at *
      obtain ⟨s0, b0, t0⟩ := x
      simp only at x0 x1 x2 y0 y1 y2
      have HM := Lib.hid hM.drew
      clear c1 c2 hM
      go_wp2
      (try go_region)
      (try go_wp2)
      go_roundw
      case rel => exact ⟨k + 1, by omega, by go_num, HM.out⟩
      case measure => simp [intOf]; omega
    · have i1 : ¬ (k : Int) < (L.length : Int) := by omega
      have HM := Lib.hid hM
      clear hM
      go_wp2
      go_ret
      exact ⟨rfl, HM.out⟩
end Go.Proofs.YtphcoenooinmfaaDoor
