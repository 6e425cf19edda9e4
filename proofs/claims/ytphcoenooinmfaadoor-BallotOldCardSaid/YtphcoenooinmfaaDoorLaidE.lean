/- What the rows' conditions on the listed variables give the walks: the library's variable of the type error, and the table of steps where it is listed. -/
import Derived.Test.YtphcoenooinmfaaDoorRows
import Derived.Test.YtphcoenooinmfaaDoorErr
import Derived.LaidHandle
import Derived.LaidMore
import Derived.OpenShut
import Derived.Stop.Joined
import Derived.Test.YtphcoenooinmfaaDoorLaid
namespace Go.Proofs.YtphcoenooinmfaaDoor
set_option linter.unusedVariables false
set_option linter.unusedSimpArgs false
theorem gErr : Tryd.prog.globalNamed "errors.errorType" = some 0 := by kernel_rfl
theorem rtErr : (Tryd.prog.cutTypes.find? (·.1 == "internal/reflectlite.rtype")).map (·.2) = some 176 := by kernel_rfl
theorem oneErr : ((List.range 221).filter fun t => Tryd.prog.rowNamed t [101, 114, 114, 111, 114]) = [64] := by kernel_rfl
theorem sizeErr : Tryd.prog.types.size = 221 := by kernel_rfl
theorem errT_of_handles {W : World} (h : handlesMet Tryd.prog [("errors.errorType", Rows.laid_errors_errorType)] W) : ErrT W := by
  obtain ⟨name, u, ty, e1, e2, e3, e4, e5⟩ := h _ (List.mem_singleton.2 rfl)
  have en : name = [101, 114, 114, 111, 114] := (Option.some.inj e1).symm
  subst en
  obtain rfl := Option.some.inj (rtErr.symm.trans e2)
  have hm : ty ∈ (List.range 221).filter fun t => Tryd.prog.rowNamed t [101, 114, 114, 111, 114] := List.mem_filter.2 ⟨List.mem_range.2 (by rw [← sizeErr]; exact e3), e4⟩
  rw [oneErr] at hm
  obtain rfl := List.mem_singleton.1 hm
  have hh : typeHandle Tryd.prog 64 = .pointer (some ⟨2, 64, none⟩) := by kernel_rfl
  rw [hh] at e5
  simpa [ErrT] using World.var?_cell gErr e5 0
theorem errT_of_laid {W : World} (h : laidMetH Tryd.prog [("errors.errorType", Rows.laid_errors_errorType)] W) : ErrT W := by
  have h' : laidMet Tryd.prog [] W ∧ handlesMet Tryd.prog [("errors.errorType", Rows.laid_errors_errorType)] W := h
  exact errT_of_handles h'.2
theorem both_of_laid {W : World} (h : laidMetH Tryd.prog [("weirkeep/check.steps", Rows.laid_weirkeep_check_steps), ("errors.errorType", Rows.laid_errors_errorType)] W) : Steps W ∧ ErrT W := by
  have h' : laidMet Tryd.prog [("weirkeep/check.steps", Rows.laid_weirkeep_check_steps)] W ∧ handlesMet Tryd.prog [("errors.errorType", Rows.laid_errors_errorType)] W := h
  exact ⟨steps_of_laid (by rw [MakeChecks.laidMetH_plain _ _ _ (by kernel_rfl)]; exact h'.1), errT_of_handles h'.2⟩
end Go.Proofs.YtphcoenooinmfaaDoor
