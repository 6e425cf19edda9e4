/- For every input the law GrantReplays answers true, and its arguments read as they did: the row, out of the walk of its code. -/
import Derived.Test.YtijjbkkcienfgaaDoorRows
import Derived.Test.YtijjbkkcienfgaaDoorRow
import Derived.Test.YtijjbkkcienfgaaDoorWkGrantReplays
import Derived.Test.YtijjbkkcienfgaaDoorLaidG
import Derived.Test.YtijjbkkcienfgaaDoorTie
import Derived.Test.YtijjbkkcienfgaaDoorCards
import Derived.WalkKit
import Derived.ProofKit
import Derived.OpenShut
import Derived.ShutString
import Derived.ChangeOld
import Derived.Below
import Derived.SizedLaws
import Derived.LaidMore
import Derived.Stop.Joined
import Derived.SevenTiedAt
namespace Go.Proofs.YtijjbkkcienfgaaDoor.grantReplays
open Go.ChangeShapes Go.WideShapes Go.ChangeAt Go.RowKit
open Go.ChangeMaps (open_string shut_string)
set_option linter.unusedVariables false
theorem own : ownKnob Tryd.prog.godebug = none := by kernel_rfl
theorem laidOut : laidOutB Tryd.prog = true := by kernel_rfl
theorem shape37 : shapeOf Tryd.prog 9 37 = some [.int .i64, .int .i64, .int .i64, .int .i64, .int .i64, .int .i64, .int .i64, .int .i64, .int .i64] := by kernel_rfl
theorem shape76 : shapeOf Tryd.prog 9 76 = some [.sl [.str]] := by kernel_rfl
theorem door_met (os : Os) (args : Array Value) : laidMetH Tryd.prog Rows.grantReplaysRow.laid ((World.doorLaid Tryd.prog 400 os).forCall (fun _ _ => 0) ⟨#[], args, []⟩).memory :=
  laidMetH_of_parts3 (fuel := 8) (laidMet_of_run' 8 (by kernel_rfl) (by kernel_rfl)) (by kernel_rfl) (by kernel_rfl)
set_option maxRecDepth 100000 in
theorem lifted (os : Os) (started : os.Started) (H : Type) (enc : TypeId × Value → H) :
    ReturnsInHanded {} Tryd.checked os 10 .any (fun w args => (Rows.grantReplaysSpec.pre enc Tryd.prog Tryd.f10 [] false w args ∧ laidMetH Tryd.prog Rows.grantReplaysRow.laid w) ∧ sizedMet enc Tryd.prog Tryd.f10 (OpenSpec.ofChange Rows.grantReplaysSpec) false w args) (Rows.grantReplaysSpec.post enc Tryd.prog Tryd.f10 false true false false) := by
  refine returnsInHanded_of_change_and (C := Tryd.checked) (X := fun w _ => laidMetH Tryd.prog Rows.grantReplaysRow.laid w) (fun _ _ _ hh h => h.of_heap hh) own started (by kernel_rfl) Tryd.func10
    (ChangeSpec.witness_shaped (enc := enc) (C := Tryd.checked) (os := os) (X := fun w _ => laidMetH Tryd.prog Rows.grantReplaysRow.laid w) false (World.doorLaid Tryd.prog 400 os) #[.slice none 0 0, .agg #[.int .i64 0, .int .i64 0, .int .i64 0, .int .i64 0, .int .i64 0, .int .i64 0, .int .i64 0, .int .i64 0, .int .i64 0]] 8 rfl (World.shaped_of_RefB (by kernel_rfl) (by kernel_rfl)) (by kernel_rfl) (by kernel_rfl) (by kernel_rfl) (door_met os _)) ?_
  intro W base args ds gs before hval0 hW hcnd hsz0 hL _
  have hsz : (DataW.weightsEach Tryd.prog (Tryd.f10.params.toList ++ Rows.grantReplaysSpec.plain.varTypes Tryd.prog) (ds ++ gs)).all (· ≤ reachBytes) = true := hsz0
  have hval : ∀ (j : Nat) t v, Tryd.f10.params[j]? = some t → args[j]? = some v → Value.okWide Tryd.prog W .any base t v := hval0
  have hW' := hW
  obtain ⟨p, q, hA0, hV, rfl, hfz, hnd⟩ := hW
  have hA : DataW.TrodAll enc Tryd.prog W 0 (fun _ => true) true Tryd.f10.params.toList args.toList ds p := hA0
  rw [Tryd.params10] at hA hval hsz
  obtain ⟨v0, vs0, d0, ds0, p0, q0, hargs, rfl, rfl, h0, r0⟩ := trodAll_cons hA
  obtain ⟨v1, vs1, d1, ds1, p1, q1, rfl, rfl, rfl, h1, r1⟩ := trodAll_cons r0
  obtain ⟨rfl, rfl, rfl⟩ := trodAll_nil r1
  obtain rfl : args = #[v0, v1] := by cases args; simp_all
  obtain ⟨rfl, rfl⟩ := trodVars_none hV
  have k0 := h0
  have lt0 : ∀ x ∈ p0, x.block < W.heap.size := by obtain ⟨m, hm⟩ := k0; exact DataW.trod_lt m _ _ _ hm
  obtain ⟨A0, len0, cap0, rfl⟩ := okWide_slice Tryd.underlying76 (hval 0 76 v0 rfl rfl)
  have c0 : CellOk W (.sl [.str]) (.slice A0 len0 cap0) := by
    obtain ⟨fuel, hf⟩ := h0
    have := trod_shape 9 fuel 76 _ _ _ hf shape76
    exact this.2 0 _ _ rfl rfl
  have k1 := h1
  have lt1 : ∀ x ∈ p1, x.block < W.heap.size := by obtain ⟨m, hm⟩ := k1; exact DataW.trod_lt m _ _ _ hm
  obtain ⟨s1, rfl, z1⟩ := okWide_struct Tryd.underlying37 (hval 1 37 v1 rfl rfl)
  have c1 : CellsOk W [.int .i64, .int .i64, .int .i64, .int .i64, .int .i64, .int .i64, .int .i64, .int .i64, .int .i64] s1.toList := by
    obtain ⟨fuel, hf⟩ := h1
    exact trod_shape 9 fuel 37 _ _ _ hf shape37
  clear hA0 hval0 hsz0 hsz
  refine (grantReplays_walk W ((gboth_of_laid hL).1) ((gboth_of_laid hL).2) _ c0 s1 c1).mono fun e W' ⟨he, bel⟩ => ?_
  subst he
  exact ⟨_, rfl, _, _, _, [], _, [], hW', trodAll_mk1 (shut_bool Tryd.underlying4 _), (trodAll_cons_mk (Below.trod laidOut (by kernel_rfl) (of_decide_eq_true (by kernel_rfl)) k0 bel lt0) (trodAll_cons_mk (Below.trod laidOut (by kernel_rfl) (of_decide_eq_true (by kernel_rfl)) k1 bel lt1) trodAll_mk0)), rfl, bel.frame _, fun h => by cases h⟩
theorem over : Rows.grantReplaysRow.holds Tryd.pinned (OpenSpec.ofChange Rows.grantReplaysSpec) :=
  OpenClaim.holds_of_wide 10 Tryd.f10 rfl rfl rfl rfl rfl rfl rfl ⟨rfl, rfl, rfl, rfl, rfl⟩ rfl rfl rfl rfl rfl (by kernel_rfl) Tryd.func10 (by kernel_rfl)
    (of_decide_eq_true (by kernel_rfl)) (by unfold Func.isWrapper; first | (rw [if_pos (by decide +kernel)]; kernel_rfl) | (rw [if_neg (by decide +kernel)]; exact ⟨rfl, rfl⟩))
    (fun os started H enc _ => lifted os started H enc)
theorem proved : Rows.GrantReplaysSaid := over
#print axioms proved
end Go.Proofs.YtijjbkkcienfgaaDoor.grantReplays
namespace Go.Proofs.YtijjbkkcienfgaaDoor
theorem grantReplays_holds : Rows.GrantReplaysCardSaid :=
  Claim7.holds_tied_plain_at .later [] [.data, .funcs] true (true, "ef9bff7cf5d1532020c4c4ee71ae9ae61ae38c649959c2291a0ca8d0835698e3") false grantReplays.proved (fun _ h => by cases h) (by kernel_rfl) (fun _ h => by cases h) grantReplays_row_tie rfl ⟨rfl, rfl⟩ (by kernel_rfl) rfl
    (fun f fn hf hfn => by
      obtain rfl : f = 10 := Option.some.inj ((show Tryd.prog.funcNamed "weirkeep/weirkeeplaw17.GrantReplays" = some 10 by kernel_rfl).symm.trans hf) |>.symm
      obtain rfl : fn = Tryd.f10 := (Option.some.inj (Tryd.func10.symm.trans hfn)).symm
      exact ⟨by kernel_rfl, fun j t ht => by
        rw [Tryd.params10] at ht
        match j, ht with
        | 0, ht => obtain rfl : 76 = t := by simpa using ht
                   exact (show Tryd.prog.wantsStandIn 76 = false by kernel_rfl)
        | 1, ht => obtain rfl : 37 = t := by simpa using ht
                   exact (show Tryd.prog.wantsStandIn 37 = false by kernel_rfl)
        | j + 2, ht => exact absurd ht (by simp)⟩)
    (by kernel_rfl)
end Go.Proofs.YtijjbkkcienfgaaDoor
