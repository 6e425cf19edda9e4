/- The walk of the law CheckTwice: what is sealed twice is opened twice; the seal is behind what was there; the premise: the table of steps holds what its initialiser lays. -/
import Derived.Test.YthcbhdadbohkjaaDoorProg
import Derived.Test.YthcbhdadbohkjaaDoorRow
import Derived.Test.YthcbhdadbohkjaaDoorSeal
namespace Go.Proofs.YthcbhdadbohkjaaDoor
open Go.RowKit
set_option linter.unusedVariables false
set_option linter.unusedSimpArgs false
attribute [local go_sem ↓] Go.wp_at_zero Go.wp_at_succ
set_option maxRecDepth 100000 in
set_option maxHeartbeats 2000000 in
theorem checkTwice_walk (W : World) (t0 : Steps W) (a0 : ByteArray) (w0 : a0.size ≤ 140737488351232) :
    Calls Tryd.prog 7 #[.string a0] W fun e w' => e = .returned (.bool true) ∧ Below W.heap.size W w' := by
  by_cases hbig : 2048 < a0.size
  · have hi : (2048 : Int) < (a0.size : Int) := by omega
    go_enter Tryd.func7, Tryd.ntmps7
    go_wp2
    go_ret
    exact ⟨rfl, Below.refl _ _⟩
  have hi : ¬ (2048 : Int) < (a0.size : Int) := by omega
  have z1 := seal_size a0
  have z2 := seal_size (sealB a0)
  have o1 := ok_sealed a0
  have o2 := ok_sealed (sealB a0)
  have b1 := body_sealed a0
  have b2 := body_sealed (sealB a0)
  have i4 : (0 : Int) ≤ (a0.size : Int) := by omega
  have ex : (sealB (sealB a0)).extract 0 a0.size = a0 := by
    unfold sealB
    apply ByteArray.ext
    simp
  have zz : ((sealB (sealB a0)).size : Int) = (a0.size : Int) + 8 := by omega
  go_enter Tryd.func7, Tryd.ntmps7
  go_wp2_with fail
  refine (seal_calls _ a0 (by omega) t0).mono ?_
  rintro e w1 ⟨rfl, m1⟩
  have t1 := t0.mod m1 (by simp)
  go_wp2_with fail
  refine (seal_calls _ (sealB a0) (by omega) t1).mono ?_
  rintro e w2 ⟨rfl, m2⟩
  have t2 := t1.mod m2 (by simp)
  go_wp2_with fail
  refine (open_calls _ (sealB (sealB a0)) (by omega) t2).mono ?_
  rintro e w3 ⟨rfl, m3⟩
  rw [o2, b2]
  have t3 := t2.mod m3 (by simp)
  go_wp2_with fail
  refine (open_calls _ (sealB a0) (by omega) t3).mono ?_
  rintro e w4 ⟨rfl, m4⟩
  rw [o1, b1]
  have t4 := t3.mod m4 (by simp)
  go_wp2_with fail
  refine (rseal_calls _ a0 (by omega)).mono ?_
  rintro e w5 ⟨rfl, m5⟩
  have t5 := t4.mod m5 (by simp)
  go_wp2_with fail
  go_ret
  exact ⟨rfl, ((((m1.trans m2).trans m3).trans m4).trans m5).below (Nat.le_refl _) (by simp)⟩
end Go.Proofs.YthcbhdadbohkjaaDoor
