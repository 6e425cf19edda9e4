/- For every input the law GrantLives answers true, and its arguments read as they did: the row, out of the walk of its code. -/
import Derived.Test.YtijjbkkcienfgaaDoorRows
import Derived.Test.YtijjbkkcienfgaaDoorRow
import Derived.Test.YtijjbkkcienfgaaDoorWkGrantLives
import Derived.Test.YtijjbkkcienfgaaDoorLaidG
import Derived.Test.YtijjbkkcienfgaaDoorTie
import Derived.Test.YtijjbkkcienfgaaDoorCards
import Derived.WalkKit
import Derived.ProofKit
import Derived.OpenShut
import Derived.ShutString
import Derived.ChangeOld
import Derived.Below
import Derived.SizedLaws
import Derived.LaidMore
import Derived.Stop.Joined
import Derived.SevenTiedAt
namespace Go.Proofs.YtijjbkkcienfgaaDoor.grantLives
open Go.ChangeShapes Go.WideShapes Go.ChangeAt Go.RowKit
open Go.ChangeMaps (open_string shut_string)
set_option linter.unusedVariables false
theorem own : ownKnob Tryd.prog.godebug = none := by kernel_rfl
theorem laidOut : laidOutB Tryd.prog = true := by kernel_rfl
theorem shape23 : shapeOf Tryd.prog 9 23 = some [.int .i64, .int .i64] := by kernel_rfl
theorem door_met (os : Os) (args : Array Value) : laidMetH Tryd.prog Rows.grantLivesRow.laid ((World.doorLaid Tryd.prog 400 os).forCall (fun _ _ => 0) ⟨#[], args, []⟩).memory :=
  laidMetH_of_parts3 (fuel := 8) (laidMet_of_run' 8 (by kernel_rfl) (by kernel_rfl)) (by kernel_rfl) (by kernel_rfl)
set_option maxRecDepth 100000 in
theorem lifted (os : Os) (started : os.Started) (H : Type) (enc : TypeId × Value → H) :
    ReturnsInHanded {} Tryd.checked os 4 .any (fun w args => (Rows.grantLivesSpec.pre enc Tryd.prog Tryd.f4 [] false w args ∧ laidMetH Tryd.prog Rows.grantLivesRow.laid w) ∧ sizedMet enc Tryd.prog Tryd.f4 (OpenSpec.ofChange Rows.grantLivesSpec) false w args) (Rows.grantLivesSpec.post enc Tryd.prog Tryd.f4 false true false false) := by
  refine returnsInHanded_of_change_and (C := Tryd.checked) (X := fun w _ => laidMetH Tryd.prog Rows.grantLivesRow.laid w) (fun _ _ _ hh h => h.of_heap hh) own started (by kernel_rfl) Tryd.func4
    (ChangeSpec.witness_shaped (enc := enc) (C := Tryd.checked) (os := os) (X := fun w _ => laidMetH Tryd.prog Rows.grantLivesRow.laid w) false (World.doorLaid Tryd.prog 400 os) #[.int .i64 0, .int .u16 0, .int .u16 0, .int .u16 0, .agg #[.int .i64 0, .int .i64 0]] 8 rfl (World.shaped_of_RefB (by kernel_rfl) (by kernel_rfl)) (by kernel_rfl) (by kernel_rfl) (by kernel_rfl) (door_met os _)) ?_
  intro W base args ds gs before hval0 hW hcnd hsz0 hL _
  have hsz : (DataW.weightsEach Tryd.prog (Tryd.f4.params.toList ++ Rows.grantLivesSpec.plain.varTypes Tryd.prog) (ds ++ gs)).all (· ≤ reachBytes) = true := hsz0
  have hval : ∀ (j : Nat) t v, Tryd.f4.params[j]? = some t → args[j]? = some v → Value.okWide Tryd.prog W .any base t v := hval0
  have hW' := hW
  obtain ⟨p, q, hA0, hV, rfl, hfz, hnd⟩ := hW
  have hA : DataW.TrodAll enc Tryd.prog W 0 (fun _ => true) true Tryd.f4.params.toList args.toList ds p := hA0
  rw [Tryd.params4] at hA hval hsz
  obtain ⟨v0, vs0, d0, ds0, p0, q0, hargs, rfl, rfl, h0, r0⟩ := trodAll_cons hA
  obtain ⟨v1, vs1, d1, ds1, p1, q1, rfl, rfl, rfl, h1, r1⟩ := trodAll_cons r0
  obtain ⟨v2, vs2, d2, ds2, p2, q2, rfl, rfl, rfl, h2, r2⟩ := trodAll_cons r1
  obtain ⟨v3, vs3, d3, ds3, p3, q3, rfl, rfl, rfl, h3, r3⟩ := trodAll_cons r2
  obtain ⟨v4, vs4, d4, ds4, p4, q4, rfl, rfl, rfl, h4, r4⟩ := trodAll_cons r3
  obtain ⟨rfl, rfl, rfl⟩ := trodAll_nil r4
  obtain rfl : args = #[v0, v1, v2, v3, v4] := by cases args; simp_all
  obtain ⟨rfl, rfl⟩ := trodVars_none hV
  obtain ⟨a0, rfl, rfl, rfl, w0⟩ := open_int Tryd.underlying3 (hval 0 3 v0 rfl rfl) h0
  obtain ⟨a1, rfl, rfl, rfl, w1⟩ := open_int Tryd.underlying51 (hval 1 51 v1 rfl rfl) h1
  obtain ⟨a2, rfl, rfl, rfl, w2⟩ := open_int Tryd.underlying51 (hval 2 51 v2 rfl rfl) h2
  obtain ⟨a3, rfl, rfl, rfl, w3⟩ := open_int Tryd.underlying51 (hval 3 51 v3 rfl rfl) h3
  have k4 := h4
  have lt4 : ∀ x ∈ p4, x.block < W.heap.size := by obtain ⟨m, hm⟩ := k4; exact DataW.trod_lt m _ _ _ hm
  obtain ⟨s4, rfl, z4⟩ := okWide_struct Tryd.underlying23 (hval 4 23 v4 rfl rfl)
  have c4 : CellsOk W [.int .i64, .int .i64] s4.toList := by
    obtain ⟨fuel, hf⟩ := h4
    exact trod_shape 9 fuel 23 _ _ _ hf shape23
  clear hA0 hval0 hsz0 hsz
  refine (grantLives_walk W ((gboth_of_laid hL).1) ((gboth_of_laid hL).2) a0 w0 a1 w1 a2 w2 a3 w3 s4 c4).mono fun e W' ⟨he, bel⟩ => ?_
  subst he
  exact ⟨_, rfl, _, _, _, [], _, [], hW', trodAll_mk1 (shut_bool Tryd.underlying4 _), (trodAll_cons_mk (shut_int Tryd.underlying3 w0) (trodAll_cons_mk (shut_int Tryd.underlying51 w1) (trodAll_cons_mk (shut_int Tryd.underlying51 w2) (trodAll_cons_mk (shut_int Tryd.underlying51 w3) (trodAll_cons_mk (Below.trod laidOut (by kernel_rfl) (of_decide_eq_true (by kernel_rfl)) k4 bel lt4) trodAll_mk0))))), rfl, bel.frame _, fun h => by cases h⟩
theorem over : Rows.grantLivesRow.holds Tryd.pinned (OpenSpec.ofChange Rows.grantLivesSpec) :=
  OpenClaim.holds_of_wide 4 Tryd.f4 rfl rfl rfl rfl rfl rfl rfl ⟨rfl, rfl, rfl, rfl, rfl⟩ rfl rfl rfl rfl rfl (by kernel_rfl) Tryd.func4 (by kernel_rfl)
    (of_decide_eq_true (by kernel_rfl)) (by unfold Func.isWrapper; first | (rw [if_pos (by decide +kernel)]; kernel_rfl) | (rw [if_neg (by decide +kernel)]; exact ⟨rfl, rfl⟩))
    (fun os started H enc _ => lifted os started H enc)
theorem proved : Rows.GrantLivesSaid := over
#print axioms proved
end Go.Proofs.YtijjbkkcienfgaaDoor.grantLives
namespace Go.Proofs.YtijjbkkcienfgaaDoor
theorem grantLives_holds : Rows.GrantLivesCardSaid :=
  Claim7.holds_tied_plain_at .later [] [.data, .funcs] true (true, "ef9bff7cf5d1532020c4c4ee71ae9ae61ae38c649959c2291a0ca8d0835698e3") false grantLives.proved (fun _ h => by cases h) (by kernel_rfl) (fun _ h => by cases h) grantLives_row_tie rfl ⟨rfl, rfl⟩ (by kernel_rfl) rfl
    (fun f fn hf hfn => by
      obtain rfl : f = 4 := Option.some.inj ((show Tryd.prog.funcNamed "weirkeep/weirkeeplaw17.GrantLives" = some 4 by kernel_rfl).symm.trans hf) |>.symm
      obtain rfl : fn = Tryd.f4 := (Option.some.inj (Tryd.func4.symm.trans hfn)).symm
      exact ⟨by kernel_rfl, fun j t ht => by
        rw [Tryd.params4] at ht
        match j, ht with
        | 0, ht => obtain rfl : 3 = t := by simpa using ht
                   exact (show Tryd.prog.wantsStandIn 3 = false by kernel_rfl)
        | 1, ht => obtain rfl : 51 = t := by simpa using ht
                   exact (show Tryd.prog.wantsStandIn 51 = false by kernel_rfl)
        | 2, ht => obtain rfl : 51 = t := by simpa using ht
                   exact (show Tryd.prog.wantsStandIn 51 = false by kernel_rfl)
        | 3, ht => obtain rfl : 51 = t := by simpa using ht
                   exact (show Tryd.prog.wantsStandIn 51 = false by kernel_rfl)
        | 4, ht => obtain rfl : 23 = t := by simpa using ht
                   exact (show Tryd.prog.wantsStandIn 23 = false by kernel_rfl)
        | j + 5, ht => exact absurd ht (by simp)⟩)
    (by kernel_rfl)
end Go.Proofs.YtijjbkkcienfgaaDoor
