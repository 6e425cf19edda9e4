/- The walk of the law CheckApart: two texts have one seal only if they are one; the premise: the table of steps holds what its initialiser lays. -/
import Derived.Test.YthcbhdadbohkjaaDoorProg
import Derived.Test.YthcbhdadbohkjaaDoorRow
import Derived.Test.YthcbhdadbohkjaaDoorSeal
namespace Go.Proofs.YthcbhdadbohkjaaDoor
open Go.RowKit
set_option linter.unusedVariables false
set_option linter.unusedSimpArgs false
attribute [local go_sem ↓] Go.wp_at_zero Go.wp_at_succ
theorem seal_inj {a b : ByteArray} (h : sealB a = sealB b) : a = b := by
  have hs := congrArg ByteArray.size h
  rw [seal_size, seal_size] at hs
  have ha : (sealB a).extract 0 a.size = a := by
    unfold sealB
    apply ByteArray.ext
    simp
  have hb : (sealB b).extract 0 b.size = b := by
    unfold sealB
    apply ByteArray.ext
    simp
  rw [← ha, ← hb, h, show a.size = b.size by omega]
theorem seal_eq (a b : ByteArray) : eqB (sealB a) (sealB b) = eqB a b := by
  rw [Bool.eq_iff_iff, eqB_iff, eqB_iff]
  exact ⟨seal_inj, fun h => by rw [h]⟩
set_option maxRecDepth 100000 in
set_option maxHeartbeats 2000000 in
theorem checkApart_walk (W : World) (t0 : Steps W) (a0 : ByteArray) (w0 : a0.size ≤ 140737488351232) (a1 : ByteArray) (w1 : a1.size ≤ 140737488351232) :
    Calls Tryd.prog 3 #[.string a0, .string a1] W fun e w' => e = .returned (.bool true) ∧ Below W.heap.size W w' := by
  by_cases hbig : 2048 < a0.size
  · have hi : (2048 : Int) < (a0.size : Int) := by omega
    go_enter Tryd.func3, Tryd.ntmps3
    go_wp2
    go_ret
    exact ⟨rfl, Below.refl _ _⟩
  have hi : ¬ (2048 : Int) < (a0.size : Int) := by omega
  by_cases hbig1 : 2048 < a1.size
  · have hi : (2048 : Int) < (a1.size : Int) := by omega
    go_enter Tryd.func3, Tryd.ntmps3
    go_wp2
    go_ret
    exact ⟨rfl, Below.refl _ _⟩
  have hi1 : ¬ (2048 : Int) < (a1.size : Int) := by omega
  have se := seal_eq a0 a1
  unfold eqB at se
  go_enter Tryd.func3, Tryd.ntmps3
  go_wp2_with fail
  refine (seal_calls _ a0 (by omega) t0).mono ?_
  rintro e w1 ⟨rfl, m1⟩
  have t1 := t0.mod m1 (by simp)
  go_wp2_with fail
  refine (seal_calls _ a1 (by omega) t1).mono ?_
  rintro e w2 ⟨rfl, m2⟩
  have t2 := t1.mod m2 (by simp)
  go_wp2_with fail
  refine (rseal_calls _ a0 (by omega)).mono ?_
  rintro e w3 ⟨rfl, m3⟩
  have t3 := t2.mod m3 (by simp)
  go_wp2_with fail
  go_ret
  exact ⟨rfl, ((m1.trans m2).trans m3).below (Nat.le_refl _) (by simp)⟩
end Go.Proofs.YthcbhdadbohkjaaDoor
