/- What the row's condition on the table of steps gives the walks. -/
import Derived.Test.YtphcoenooinmfaaDoorRows
import Derived.Test.YtphcoenooinmfaaDoorChk
import Derived.Lib.LaidTab
import Derived.LaidMore
import Derived.OpenShut
import Derived.Stop.Joined
namespace Go.Proofs.YtphcoenooinmfaaDoor
set_option linter.unusedVariables false
set_option linter.unusedSimpArgs false
theorem gSteps : Tryd.prog.globalNamed "weirkeep/check.steps" = some 1 := by kernel_rfl
theorem tSteps : (Tryd.prog.globals[1]?).map (·.type) = some 193 := by kernel_rfl
theorem cellsU32 : Tryd.prog.cellsOf 150 = 1 := by kernel_rfl
theorem cells16 : Tryd.prog.cellsOf 193 = 16 := by kernel_rfl
def tabZ : List Int := [0, 498536548, 997073096, 651767980, 1994146192, 1802195444, 1303535960, 1342533948, 3988292384, 4027552580, 3604390888, 3412177804, 2607071920, 2262029012, 2685067896, 3183342108]
theorem tab_z : ∀ i, i < 16 → tabZ.getD i 0 = (tabN i : Int) := by decide
theorem steps_of_laid {W : World} (h : laidMetH Tryd.prog [("weirkeep/check.steps", Rows.laid_weirkeep_check_steps)] W) : Steps W := by
  rw [MakeChecks.laidMetH_plain _ _ _ (by kernel_rfl)] at h
  have hT := Lib.tabIs_of_head (zs := tabZ) gSteps tSteps Tryd.underlying193 Tryd.underlying150 cellsU32 cells16 (show laidMet Tryd.prog (("weirkeep/check.steps", Lib.tabData .u32 tabZ) :: []) W from h)
  intro i hi
  rw [hT.cell gSteps i (show i < 16 from hi), tab_z i hi]
end Go.Proofs.YtphcoenooinmfaaDoor
