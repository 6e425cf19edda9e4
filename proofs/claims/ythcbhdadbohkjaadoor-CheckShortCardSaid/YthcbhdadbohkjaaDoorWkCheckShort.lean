/- The walk of the law CheckShort: fewer than four bytes are not opened; four are just if they are the empty text's seal; the premise: the table of steps holds what its initialiser lays. -/
import Derived.Test.YthcbhdadbohkjaaDoorProg
import Derived.Test.YthcbhdadbohkjaaDoorRow
import Derived.Test.YthcbhdadbohkjaaDoorSeal
namespace Go.Proofs.YthcbhdadbohkjaaDoor
open Go.RowKit
set_option linter.unusedVariables false
set_option linter.unusedSimpArgs false
attribute [local go_sem ↓] Go.wp_at_zero Go.wp_at_succ
theorem short_body {s : ByteArray} (h : s.size ≤ 4) : bodyB s = ⟨#[]⟩ := by
  unfold bodyB
  split
  · rename_i ho
    unfold okB at ho
    split at ho
    · cases ho
    · apply ByteArray.ext
      rw [ByteArray.data_extract, show s.size - 4 = 0 by omega]
      simp
  · rfl
theorem short_ok {s : ByteArray} (h : s.size ≤ 4) : okB s = eqB s (sealB ⟨#[]⟩) := by
  rw [Bool.eq_iff_iff, eqB_iff]
  have hz : (sealB ⟨#[]⟩).size = 4 := seal_size ⟨#[]⟩
  by_cases h4 : s.size < 4
  · constructor
    · intro ho; simp [okB, h4] at ho
    · intro e; rw [e] at h4; omega
  · have hs : s.size = 0 + 4 := by omega
    rw [← ok_seal s 0 hs, eqB_iff]
    have e0 : s.extract 0 0 = ⟨#[]⟩ := by
      apply ByteArray.ext
      simp
    rw [e0]
    exact ⟨fun e => e.symm, fun e => e.symm⟩
set_option maxRecDepth 100000 in
set_option maxHeartbeats 2000000 in
theorem checkShort_walk (W : World) (t0 : Steps W) (a0 : ByteArray) (w0 : a0.size ≤ 140737488351232) :
    Calls Tryd.prog 8 #[.string a0] W fun e w' => e = .returned (.bool true) ∧ Below W.heap.size W w' := by
  obtain ⟨s, hs, h4⟩ : ∃ s : ByteArray, (if 4 < a0.size then a0.extract 0 4 else a0) = s ∧ s.size ≤ 4 := ⟨_, rfl, by
    split
    · simp; omega
    · omega⟩
  have z1 := seal_size s
  have sb := short_body h4
  have so := short_ok h4
  have SO := Lib.hid so
  unfold eqB at so
  have zz : ((sealB s).size : Int) = (s.size : Int) + 4 := by omega
  by_cases hb : 4 < a0.size
  all_goals
    first | rw [if_pos hb] at hs | rw [if_neg hb] at hs
    have i1 : (a0.size : Int) ≤ 4 ∨ (4 : Int) < (a0.size : Int) := by omega
    go_enter Tryd.func8, Tryd.ntmps8
    go_wp2_with fail
    first | rw [hs] | subst hs
    refine (open_calls _ _ (by omega) t0).mono ?_
    rintro e w1 ⟨rfl, m1⟩
    have t1 := t0.mod m1 (by simp)
    rw [sb]
    go_wp2_with fail
    refine (rseal_calls _ ⟨#[]⟩ (by decide)).mono ?_
    rintro e w2 ⟨rfl, m2⟩
    have t2 := t1.mod m2 (by simp)
    go_wp2_with fail
    refine (seal_calls _ _ (by omega) t2).mono ?_
    rintro e w3 ⟨rfl, m3⟩
    go_wp2_with fail
    go_ret
    exact ⟨rfl, ((m1.trans m2).trans m3).below (Nat.le_refl _) (by simp)⟩
end Go.Proofs.YthcbhdadbohkjaaDoor
