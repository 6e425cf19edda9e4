/- The walk of the law BallotNumbers: which round and node has which ballot is the document's; two have never one. Premises: the listed variables are as laid. -/
import Derived.Test.YtphcoenooinmfaaDoorBal1
import Derived.Test.YtphcoenooinmfaaDoorErr
import Derived.Test.YtphcoenooinmfaaDoorRow
import Derived.Deep.DeepCutAuto
namespace Go.Proofs.YtphcoenooinmfaaDoor
open Go.RowKit
set_option linter.unusedVariables false
set_option linter.unusedSimpArgs false
attribute [local go_sem ↓] Go.wp_at_zero Go.wp_at_succ
theorem own_numb {r n : Int} (h : numbE r n = 0) : ownR (numbV r n) = r ∧ ownN (numbV r n) = n := by
  have e : numbV r n = 8 * r + n + 1 := by unfold numbV; rw [if_pos h]
  unfold numbE at h
  split at h
  · cases h
  · split at h
    · cases h
    · have hb : balB (numbV r n) = true := balB_yes (by omega)
      unfold ownR ownN
      rw [if_pos hb, if_pos hb]
      omega
set_option maxRecDepth 100000 in
set_option maxHeartbeats 2000000 in
theorem ballotNumbers_walk (W : World) (t0 : Steps W) (t1 : ErrT W) (a0 : Int) (w0 : (Lit.int .i64 a0).wf = true)
    (a1 : Int) (w1 : (Lit.int .i64 a1).wf = true)
    (a2 : Int) (w2 : (Lit.int .i64 a2).wf = true)
    (a3 : Int) (w3 : (Lit.int .i64 a3).wf = true) :
    Calls Tryd.prog 3 #[.int .i64 a0, .int .i64 a1, .int .i64 a2, .int .i64 a3] W fun e w' => e = .returned (.bool true) ∧ Below W.heap.size W w' := by
  obtain ⟨b0, b1⟩ := bd_i64 w0
  obtain ⟨b2, b3⟩ := bd_i64 w1
  clear w0 w1 w2 w3 t1
  have N1 := Lib.hid (number_calls W a0 a1 b0 b1 b2 b3)
  have N2 := Lib.hid (rnumber_calls W a0 a1 b0 b1 b2 b3)
  have O1 := Lib.hid (owner_calls W a2)
  have O2 := Lib.hid (rowner_calls W a2)
  have SH := Lib.hid (shown10_calls W t0)
  have O3 := Lib.hid (fun w => owner_calls w a3)
  have O4 := Lib.hid (fun w => owner_calls w (numbV a0 a1))
  have INJ := Lib.hid (fun h1 h2 h3 => own_inj (b := a2) (c := a3) h1 h2 h3)
  have ON := Lib.hid (fun h => own_numb (r := a0) (n := a1) h)
  have Z := Lib.hid (show numbE a0 a1 ≠ 0 → numbV a0 a1 = 0 from fun h => by unfold numbV; rw [if_neg h])
  clear t0
  generalize numbV a0 a1 = nv at *
  generalize numbE a0 a1 = ne at *
  generalize ownR a2 = r2 at *
  generalize ownN a2 = n2 at *
  generalize ownR a3 = r3 at *
  generalize ownN a3 = n3 at *
  go_enter Tryd.func3, Tryd.ntmps3
  go_wp2_with fail
  refine N1.out.mono ?_
  rintro e w1 ⟨rfl, rfl⟩
  go_wp2_with fail
  refine N2.out.mono ?_
  rintro e w1 ⟨rfl, rfl⟩
  go_wp2_with fail
  refine O1.out.mono ?_
  rintro e w1 ⟨rfl, rfl⟩
  go_wp2_with fail
  refine O2.out.mono ?_
  rintro e w1 ⟨rfl, rfl⟩
  go_wp2_with fail
  refine SH.out.mono ?_
  rintro e w1 ⟨rfl, m1⟩
  have M1 := Lib.hid m1
  clear m1 N1 N2 O1 O2 SH
  go_wp2_with fail
  refine (O3.out w1).mono ?_
  rintro e w2 ⟨rfl, rfl⟩
  go_upto_region 8 with (fail)
  go_cut [84] (fun s84 wx => s84 = .bool false ∧ wx = w1)
  case first =>
    by_cases e0 : a2 = a3
    · have q0 : (a2 != a3) = false := by simp [e0]
      clear e0 INJ
      go_wp2
      go_meet
      exact ⟨rfl, rfl⟩
    have q0 : (a2 != a3) = true := by simp [e0]
    by_cases e1 : r2 = r3
    rotate_left
    · have q1 : (r2 == r3) = false := by simp [e1]
      clear e0 e1 INJ
      go_wp2
      go_meet
      exact ⟨rfl, rfl⟩
    have q1 : (r2 == r3) = true := by simp [e1]
    by_cases e2 : n2 = n3
    rotate_left
    · have q2 : (n2 == n3) = false := by simp [e2]
      clear e0 e1 e2 INJ
      go_wp2
      go_meet
      exact ⟨rfl, rfl⟩
    have q2 : (n2 == n3) = true := by simp [e2]
    have e3 : ¬ 0 ≤ r2 := fun h => e0 (INJ.out e1 e2 h)
    have q3 : decide (0 ≤ r2) = false := by simpa using e3
    clear e0 e1 e2 e3 INJ
    go_wp2
    go_meet
    exact ⟨rfl, rfl⟩
  case rest =>
    obtain ⟨h84, hwc⟩ := hcut
    subst h84
    subst hwc
    by_cases hz : ne = 0
    · obtain ⟨o1, o2⟩ := ON.out hz
      have q0 : (ne != 0) = false := by simp [hz]
      clear hz ON INJ
      go_wp2_with fail
      refine (O4.out _).mono ?_
      rintro e w2 ⟨rfl, rfl⟩
      rw [o1, o2]
      clear o1 o2
      go_wp2
      go_ret
      exact ⟨rfl, M1.out.below (Nat.le_refl _) (by simp)⟩
    · have hv := Z.out hz
      subst hv
      have q0 : (ne != 0) = true := by simp [hz]
      clear hz ON INJ
      go_wp2
      go_ret
      exact ⟨rfl, M1.out.below (Nat.le_refl _) (by simp)⟩
end Go.Proofs.YtphcoenooinmfaaDoor
