/- What the row's condition on the variable 'whole' (package span) gives the walks. -/
import Derived.Test.YtijjbkkcienfgaaDoorRows
import Derived.Test.YtijjbkkcienfgaaDoorSpan5
import Derived.Lib.LaidTab
import Derived.LaidMore
import Derived.OpenShut
import Derived.ChangeSame
import Derived.Stop.Joined
namespace Go.Proofs.YtijjbkkcienfgaaDoor
set_option linter.unusedVariables false
set_option linter.unusedSimpArgs false
theorem gWhole : Tryd.prog.globalNamed "weirkeep/span.whole" = some 1 := by kernel_rfl
theorem tWhole : (Tryd.prog.globals[1]?).map (·.type) = some 23 := by kernel_rfl
theorem cellsInt : Tryd.prog.cellsOf 3 = 1 := by kernel_rfl
theorem cellsRange : Tryd.prog.cellsOf 23 = 2 := by kernel_rfl
theorem whole_of_laid {W : World} (h : laidMetH Tryd.prog [("weirkeep/span.whole", Rows.laid_weirkeep_span_whole)] W) : Whole W := by
  rw [MakeChecks.laidMetH_plain _ _ _ (by kernel_rfl)] at h
  obtain ⟨ps, ⟨g, t, cs, fuel, p, q, hg, ht, hvar, hd, _, _⟩, _⟩ := h
  obtain rfl := Option.some.inj (gWhole.symm.trans hg)
  obtain rfl := Option.some.inj (tWhole.symm.trans ht)
  obtain ⟨y0, y1, n, hx, hl, h0, h1⟩ := ChangeShapes.trod_struct2 Tryd.underlying23 hd
  obtain ⟨z0, c0, rfl, _⟩ := DataW.trod_int Tryd.underlying3 h0
  obtain ⟨z1, c1, rfl, _⟩ := DataW.trod_int Tryd.underlying3 h1
  simp [Rows.laid_weirkeep_span_whole] at hx
  obtain ⟨⟨rfl, rfl⟩, _⟩ := hx
  have e0 := World.var?_cell gWhole hvar 0
  have e1 := World.var?_cell gWhole hvar 1
  have k0 := congrArg (·[0]?) c0
  have k1 := congrArg (·[0]?) c1
  simp [List.getElem?_take, List.getElem?_drop, cellsInt] at k0 k1
  exact ⟨e0.trans (by simpa using k0), e1.trans (by simpa using k1)⟩
end Go.Proofs.YtijjbkkcienfgaaDoor
