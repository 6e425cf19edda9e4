/- For every input the law GrantReaders answers true, and its arguments read as they did: the row, out of the walk of its code. -/
import Derived.Test.YtijjbkkcienfgaaDoorRows
import Derived.Test.YtijjbkkcienfgaaDoorRow
import Derived.Test.YtijjbkkcienfgaaDoorWkGrantReaders
import Derived.Test.YtijjbkkcienfgaaDoorLaidG
import Derived.Test.YtijjbkkcienfgaaDoorTie
import Derived.Test.YtijjbkkcienfgaaDoorCards
import Derived.WalkKit
import Derived.ProofKit
import Derived.OpenShut
import Derived.ShutString
import Derived.ChangeOld
import Derived.Below
import Derived.SizedLaws
import Derived.LaidMore
import Derived.Stop.Joined
import Derived.SevenTiedAt
namespace Go.Proofs.YtijjbkkcienfgaaDoor.grantReaders
open Go.ChangeShapes Go.WideShapes Go.ChangeAt Go.RowKit
open Go.ChangeMaps (open_string shut_string)
set_option linter.unusedVariables false
theorem own : ownKnob Tryd.prog.godebug = none := by kernel_rfl
theorem laidOut : laidOutB Tryd.prog = true := by kernel_rfl
theorem shape23 : shapeOf Tryd.prog 9 23 = some [.int .i64, .int .i64] := by kernel_rfl
theorem shape73 : shapeOf Tryd.prog 9 73 = some [.sl [.bool]] := by kernel_rfl
theorem door_met (os : Os) (args : Array Value) : laidMetH Tryd.prog Rows.grantReadersRow.laid ((World.doorLaid Tryd.prog 400 os).forCall (fun _ _ => 0) ⟨#[], args, []⟩).memory :=
  laidMetH_of_parts3 (fuel := 8) (laidMet_of_run' 8 (by kernel_rfl) (by kernel_rfl)) (by kernel_rfl) (by kernel_rfl)
set_option maxRecDepth 100000 in
theorem lifted (os : Os) (started : os.Started) (H : Type) (enc : TypeId × Value → H) :
    ReturnsInHanded {} Tryd.checked os 8 .any (fun w args => (Rows.grantReadersSpec.pre enc Tryd.prog Tryd.f8 [] false w args ∧ laidMetH Tryd.prog Rows.grantReadersRow.laid w) ∧ sizedMet enc Tryd.prog Tryd.f8 (OpenSpec.ofChange Rows.grantReadersSpec) false w args) (Rows.grantReadersSpec.post enc Tryd.prog Tryd.f8 false true false false) := by
  refine returnsInHanded_of_change_and (C := Tryd.checked) (X := fun w _ => laidMetH Tryd.prog Rows.grantReadersRow.laid w) (fun _ _ _ hh h => h.of_heap hh) own started (by kernel_rfl) Tryd.func8
    (ChangeSpec.witness_shaped (enc := enc) (C := Tryd.checked) (os := os) (X := fun w _ => laidMetH Tryd.prog Rows.grantReadersRow.laid w) false (World.doorLaid Tryd.prog 400 os) #[.agg #[.int .i64 0, .int .i64 0], .slice none 0 0] 8 rfl (World.shaped_of_RefB (by kernel_rfl) (by kernel_rfl)) (by kernel_rfl) (by kernel_rfl) (by kernel_rfl) (door_met os _)) ?_
  intro W base args ds gs before hval0 hW hcnd hsz0 hL _
  have hsz : (DataW.weightsEach Tryd.prog (Tryd.f8.params.toList ++ Rows.grantReadersSpec.plain.varTypes Tryd.prog) (ds ++ gs)).all (· ≤ reachBytes) = true := hsz0
  have hval : ∀ (j : Nat) t v, Tryd.f8.params[j]? = some t → args[j]? = some v → Value.okWide Tryd.prog W .any base t v := hval0
  have hW' := hW
  obtain ⟨p, q, hA0, hV, rfl, hfz, hnd⟩ := hW
  have hA : DataW.TrodAll enc Tryd.prog W 0 (fun _ => true) true Tryd.f8.params.toList args.toList ds p := hA0
  rw [Tryd.params8] at hA hval hsz
  obtain ⟨v0, vs0, d0, ds0, p0, q0, hargs, rfl, rfl, h0, r0⟩ := trodAll_cons hA
  obtain ⟨v1, vs1, d1, ds1, p1, q1, rfl, rfl, rfl, h1, r1⟩ := trodAll_cons r0
  obtain ⟨rfl, rfl, rfl⟩ := trodAll_nil r1
  obtain rfl : args = #[v0, v1] := by cases args; simp_all
  obtain ⟨rfl, rfl⟩ := trodVars_none hV
  have k0 := h0
  have lt0 : ∀ x ∈ p0, x.block < W.heap.size := by obtain ⟨m, hm⟩ := k0; exact DataW.trod_lt m _ _ _ hm
  obtain ⟨s0, rfl, z0⟩ := okWide_struct Tryd.underlying23 (hval 0 23 v0 rfl rfl)
  have c0 : CellsOk W [.int .i64, .int .i64] s0.toList := by
    obtain ⟨fuel, hf⟩ := h0
    exact trod_shape 9 fuel 23 _ _ _ hf shape23
  have k1 := h1
  have lt1 : ∀ x ∈ p1, x.block < W.heap.size := by obtain ⟨m, hm⟩ := k1; exact DataW.trod_lt m _ _ _ hm
  obtain ⟨A1, len1, cap1, rfl⟩ := okWide_slice Tryd.underlying73 (hval 1 73 v1 rfl rfl)
  have c1 : CellOk W (.sl [.bool]) (.slice A1 len1 cap1) := by
    obtain ⟨fuel, hf⟩ := h1
    have := trod_shape 9 fuel 73 _ _ _ hf shape73
    exact this.2 0 _ _ rfl rfl
  clear hA0 hval0 hsz0 hsz
  refine (grantReaders_walk W ((gboth_of_laid hL).1) ((gboth_of_laid hL).2) s0 c0 _ c1).mono fun e W' ⟨he, bel⟩ => ?_
  subst he
  exact ⟨_, rfl, _, _, _, [], _, [], hW', trodAll_mk1 (shut_bool Tryd.underlying4 _), (trodAll_cons_mk (Below.trod laidOut (by kernel_rfl) (of_decide_eq_true (by kernel_rfl)) k0 bel lt0) (trodAll_cons_mk (Below.trod laidOut (by kernel_rfl) (of_decide_eq_true (by kernel_rfl)) k1 bel lt1) trodAll_mk0)), rfl, bel.frame _, fun h => by cases h⟩
theorem over : Rows.grantReadersRow.holds Tryd.pinned (OpenSpec.ofChange Rows.grantReadersSpec) :=
  OpenClaim.holds_of_wide 8 Tryd.f8 rfl rfl rfl rfl rfl rfl rfl ⟨rfl, rfl, rfl, rfl, rfl⟩ rfl rfl rfl rfl rfl (by kernel_rfl) Tryd.func8 (by kernel_rfl)
    (of_decide_eq_true (by kernel_rfl)) (by unfold Func.isWrapper; first | (rw [if_pos (by decide +kernel)]; kernel_rfl) | (rw [if_neg (by decide +kernel)]; exact ⟨rfl, rfl⟩))
    (fun os started H enc _ => lifted os started H enc)
theorem proved : Rows.GrantReadersSaid := over
#print axioms proved
end Go.Proofs.YtijjbkkcienfgaaDoor.grantReaders
namespace Go.Proofs.YtijjbkkcienfgaaDoor
theorem grantReaders_holds : Rows.GrantReadersCardSaid :=
  Claim7.holds_tied_plain_at .later [] [.data, .funcs] true (true, "ef9bff7cf5d1532020c4c4ee71ae9ae61ae38c649959c2291a0ca8d0835698e3") false grantReaders.proved (fun _ h => by cases h) (by kernel_rfl) (fun _ h => by cases h) grantReaders_row_tie rfl ⟨rfl, rfl⟩ (by kernel_rfl) rfl
    (fun f fn hf hfn => by
      obtain rfl : f = 8 := Option.some.inj ((show Tryd.prog.funcNamed "weirkeep/weirkeeplaw17.GrantReaders" = some 8 by kernel_rfl).symm.trans hf) |>.symm
      obtain rfl : fn = Tryd.f8 := (Option.some.inj (Tryd.func8.symm.trans hfn)).symm
      exact ⟨by kernel_rfl, fun j t ht => by
        rw [Tryd.params8] at ht
        match j, ht with
        | 0, ht => obtain rfl : 23 = t := by simpa using ht
                   exact (show Tryd.prog.wantsStandIn 23 = false by kernel_rfl)
        | 1, ht => obtain rfl : 73 = t := by simpa using ht
                   exact (show Tryd.prog.wantsStandIn 73 = false by kernel_rfl)
        | j + 2, ht => exact absurd ht (by simp)⟩)
    (by kernel_rfl)
end Go.Proofs.YtijjbkkcienfgaaDoor
