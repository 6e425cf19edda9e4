/- What the rows' conditions on the listed variables give the walks: the whole range, and the table of kinds. -/
import Derived.Test.YtijjbkkcienfgaaDoorRows
import Derived.Test.YtijjbkkcienfgaaDoorGr21
import Derived.Test.YtijjbkkcienfgaaDoorWhole
import Derived.LaidHandle
import Derived.LaidMore
import Derived.OpenShut
import Derived.Stop.Joined
namespace Go.Proofs.YtijjbkkcienfgaaDoor
set_option linter.unusedVariables false
set_option linter.unusedSimpArgs false
theorem gKinds : Tryd.prog.globalNamed "weirkeep/grant.kinds" = some 0 := by kernel_rfl
theorem tKinds : (Tryd.prog.globals[0]?).map (·.type) = some 90 := by kernel_rfl
theorem cellsFn : Tryd.prog.cellsOf 89 = 1 := by kernel_rfl
theorem cells9 : Tryd.prog.cellsOf 90 = 9 := by kernel_rfl
theorem gboth_of_laid {W : World} (h : laidMetH Tryd.prog [("weirkeep/span.whole", Rows.laid_weirkeep_span_whole), ("weirkeep/grant.kinds", Rows.laid_weirkeep_grant_kinds)] W) : Whole W ∧ Kd W := by
  have h1 : laidMet Tryd.prog [("weirkeep/span.whole", Rows.laid_weirkeep_span_whole)] W ∧ handlesMet Tryd.prog [("weirkeep/grant.kinds", Rows.laid_weirkeep_grant_kinds)] W := h
  refine ⟨whole_of_laid (by rw [MakeChecks.laidMetH_plain _ _ _ (by kernel_rfl)]; exact h1.1), ?_⟩
  obtain ⟨g, t, cs, fuel, p, hg, ht, hvar, hd⟩ := h.funcs (n := "weirkeep/grant.kinds") (by exact List.mem_cons_of_mem _ (List.mem_singleton.2 rfl))
  obtain rfl := Option.some.inj (gKinds.symm.trans hg)
  obtain rfl := Option.some.inj (tKinds.symm.trans ht)
  obtain ⟨xs, m, _, hx, hlen, hxl, hel⟩ := DataW.trod_array Tryd.underlying90 hd
  have hxs : xs.map (·.1) = (match (Rows.laid_weirkeep_grant_kinds : DataW Unit).funcsIn? with | some d => (match d.funcsOut with | .agg l => l | _ => []) | none => []) := by
    have := congrArg Prod.fst hx
    injection this with this
    exact this.symm
  clear hd hx
  have key : ∀ (i : Nat) (b : UInt8) (r : List UInt8) (f0 : FuncId), i < 9 → (xs.map (·.1))[i]? = some (.held (b :: r)) → ((List.range Tryd.prog.funcs.size).filter fun f => (Tryd.prog.funcs[f]?).any (·.name.toUTF8.data.toList == b :: r)) = [f0] → W.cell? ⟨0, i, none⟩ = some (.func (.func f0) #[] #[]) := by
    intro i b r f0 hi hh hone
    rw [List.getElem?_map] at hh
    obtain ⟨y, hy, hy1⟩ := Option.map_eq_some_iff.1 hh
    have he := hel i hi
    rw [cellsFn, Nat.mul_one, hy] at he
    have hcl : cs.toList.length = 9 := hlen.trans cells9
    have hc1 : (cs.toList.drop i).take 1 = [cs.toList[i]'(by omega)] := by
      rw [List.drop_eq_getElem_cons (by omega)]
      rfl
    rw [hc1] at he
    obtain ⟨yd, yp⟩ := y
    simp only at hy1
    subst hy1
    have hv := func_of_trod Tryd.underlying89 hone he
    rw [World.var?_cell gKinds hvar i]
    have hsz : i < cs.size := by simpa using (show i < cs.toList.length by omega)
    rw [Array.getElem?_eq_getElem hsz]
    simpa using hv
  rw [hxs] at key
  intro k h1 h2
  match k, h1, h2 with
  | 1, _, _ => exact key 1 _ _ _ (by omega) (by rfl) (show _ = [105] by kernel_rfl)
  | 2, _, _ => exact key 2 _ _ _ (by omega) (by rfl) (show _ = [106] by kernel_rfl)
  | 3, _, _ => exact key 3 _ _ _ (by omega) (by rfl) (show _ = [107] by kernel_rfl)
  | 4, _, _ => exact key 4 _ _ _ (by omega) (by rfl) (show _ = [108] by kernel_rfl)
  | 5, _, _ => exact key 5 _ _ _ (by omega) (by rfl) (show _ = [109] by kernel_rfl)
  | 6, _, _ => exact key 6 _ _ _ (by omega) (by rfl) (show _ = [110] by kernel_rfl)
  | 7, _, _ => exact key 7 _ _ _ (by omega) (by rfl) (show _ = [111] by kernel_rfl)
  | 8, _, _ => exact key 8 _ _ _ (by omega) (by rfl) (show _ = [112] by kernel_rfl)
end Go.Proofs.YtijjbkkcienfgaaDoor
