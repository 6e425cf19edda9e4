/- Package ballot's New: the acceptor of nothing. No condition. -/
import Derived.Test.YtphcoenooinmfaaDoorBal7
import Derived.Deep.WholeRow
namespace Go.Proofs.YtphcoenooinmfaaDoor
open Go.RowKit
set_option linter.unusedVariables false
set_option linter.unusedSimpArgs false
attribute [local go_sem ↓] Go.wp_at_zero Go.wp_at_succ

/-- The zero acceptor's cells, off the table of types. -/
noncomputable def zAcc : Array Value := match (Tryd.prog.info? 94).bind (·.zero) with
  | some z => z.cells
  | none => #[]
def nilP : Value → Bool
  | .pointer none => true
  | _ => false
def zChk : List Value → Bool
  | .int .i64 0 :: r => r.all nilP
  | _ => false
theorem info_acc : (Tryd.prog.info? 94).map (fun i => (i.zero, i.size)) = some (some (.agg zAcc), 4097) := by kernel_rfl
theorem zAcc_size : zAcc.size = 4097 := by kernel_rfl
theorem zAcc_chk : zChk zAcc.toList = true := by kernel_rfl
theorem nilP_eq {v : Value} (h : nilP v = true) : v = .pointer none := by
  unfold nilP at h
  split at h
  · rfl
  · cases h
theorem zAcc_get : ∀ i, i < 4097 → zAcc[i]? = some (accF 0 (fun _ => none) (fun _ => 0) i) := by
  intro i hi
  have hs := zAcc_size
  have hc := zAcc_chk
  generalize zAcc = z at *
  obtain ⟨l⟩ := z
  simp only [List.size_toArray] at hs
  simp only [List.getElem?_toArray]
  change zChk l = true at hc
  match l, hc, hs with
  | [], hc, hs => simp at hs
  | v :: r, hc, hs =>
    unfold zChk at hc
    split at hc
    · rename_i r' e
      injection e with e1 e2
      subst e1
      subst e2
      unfold accF ptrV
      cases i with
      | zero => simp
      | succ i =>
        simp at hs
        have hi' : i < r.length := by omega
        have := List.all_eq_true.1 hc (r[i]) (List.getElem_mem hi')
        simp [List.getElem?_eq_getElem hi', nilP_eq this]
    · cases hc
theorem acc_new (w : World) : AccP (w.alloc (.cells zAcc 94)) w.heap.size 0 (fun _ => none) (fun _ => 0) :=
  ⟨Arr.new' w zAcc _ 4097 _ zAcc_size zAcc_get, fun i x _ h => by cases h⟩
theorem accNew_calls (w : World) : Calls Tryd.prog 22 #[] w fun e w' => e = .returned (.pointer (some ⟨w.heap.size, 0, none⟩)) ∧ AccP w' w.heap.size 0 (fun _ => none) (fun _ => 0) ∧ Mod [] w w' := by
  have hz := (zero_of_info (P := Tryd.prog) info_acc).1
  have F := Lib.hid (And.intro (acc_new w) (show Mod [] w (w.alloc (.cells zAcc 94)) from (Mod.refl _ _).alloc _))
  go_enter Tryd.func22, Tryd.ntmps22
  go_wp2
  go_ret
  exact ⟨rfl, F.out⟩
end Go.Proofs.YtphcoenooinmfaaDoor
