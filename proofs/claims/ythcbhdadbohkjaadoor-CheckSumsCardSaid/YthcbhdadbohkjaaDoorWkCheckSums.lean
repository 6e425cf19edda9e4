/- The walk of the law CheckSums: any text's sum, and its seal, are the document's; any bytes are opened as it says; the premise: the table of steps holds what its initialiser lays. -/
import Derived.Test.YthcbhdadbohkjaaDoorProg
import Derived.Test.YthcbhdadbohkjaaDoorRow
import Derived.Test.YthcbhdadbohkjaaDoorSeal
namespace Go.Proofs.YthcbhdadbohkjaaDoor
open Go.RowKit
set_option linter.unusedVariables false
set_option linter.unusedSimpArgs false
attribute [local go_sem ↓] Go.wp_at_zero Go.wp_at_succ
set_option maxRecDepth 100000 in
set_option maxHeartbeats 2000000 in
theorem checkSums_walk (W : World) (t0 : Steps W) (a0 : ByteArray) (w0 : a0.size ≤ 140737488351232) :
    Calls Tryd.prog 4 #[.string a0] W fun e w' => e = .returned (.bool true) ∧ Below W.heap.size W w' := by
  by_cases hbig : 2048 < a0.size
  · have hi : (2048 : Int) < (a0.size : Int) := by omega
    go_enter Tryd.func4, Tryd.ntmps4
    go_wp2
    go_ret
    exact ⟨rfl, Below.refl _ _⟩
  have hi : ¬ (2048 : Int) < (a0.size : Int) := by omega
  have hz : (sealB ⟨#[]⟩).size = 4 := seal_size ⟨#[]⟩
  go_enter Tryd.func4, Tryd.ntmps4
  go_wp2_with fail
  refine (open_calls _ a0 (by omega) t0).mono ?_
  rintro e w1 ⟨rfl, m1⟩
  have t1 := t0.mod m1 (by simp)
  go_wp2_with fail
  refine (ropen_calls _ a0 (by omega)).mono ?_
  rintro e w2 ⟨rfl, m2⟩
  have t2 := t1.mod m2 (by simp)
  go_wp2_with fail
  refine (sum_calls _ a0 (by omega) t2).mono ?_
  rintro e w3 ⟨rfl, m3⟩
  have t3 := t2.mod m3 (by simp)
  go_wp2_with fail
  refine (rsum_calls _ a0 (by omega)).mono ?_
  rintro e w4 ⟨rfl, rfl⟩
  have m4 := Mod.refl [] w3
  have t4 := t3
  go_wp2_with fail
  refine (seal_calls _ a0 (by omega) t4).mono ?_
  rintro e w5 ⟨rfl, m5⟩
  have t5 := t4.mod m5 (by simp)
  go_wp2_with fail
  refine (rseal_calls _ a0 (by omega)).mono ?_
  rintro e w6 ⟨rfl, m6⟩
  have t6 := t5.mod m6 (by simp)
  go_wp2_with fail
  refine (seal_calls _ ⟨#[]⟩ (by decide) t6).mono ?_
  rintro e w7 ⟨rfl, m7⟩
  have t7 := t6.mod m7 (by simp)
  go_wp2_with fail
  go_ret
  exact ⟨rfl, ((((((m1.trans m2).trans m3).trans m4).trans m5).trans m6).trans m7).below (Nat.le_refl _) (by simp)⟩
end Go.Proofs.YthcbhdadbohkjaaDoor
