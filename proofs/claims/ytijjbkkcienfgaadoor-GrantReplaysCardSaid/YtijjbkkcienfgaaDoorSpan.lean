/- What a table of holds (package span) is in memory; New, client, clip, Has, runs. No condition beyond what stands in each. -/
import Derived.Test.YtijjbkkcienfgaaDoorProg
import Derived.Test.YtijjbkkcienfgaaDoorLib
import Derived.Test.YtijjbkkcienfgaaDoorRuns
import Derived.Test.YtijjbkkcienfgaaDoorRange
import Derived.Deep.MidRow
import Derived.Deep.WholeRow
import Derived.Deep.DeepCutAuto
namespace Go.Proofs.YtijjbkkcienfgaaDoor
open Go.RowKit
set_option linter.unusedVariables false
set_option linter.unusedSimpArgs false
attribute [local go_sem ↓] Go.wp_at_zero Go.wp_at_succ

def zTab : Array Value := Array.replicate 2048 (.int .u8 0)
def zRow : Array Value := Array.replicate 256 (.int .u8 0)
theorem info_tab : (Tryd.prog.info? 148).map (fun i => (i.zero, i.size)) = some (some (.agg zTab), 2048) := by kernel_rfl
theorem info_row : (Tryd.prog.info? 145).map (fun i => (i.zero, i.size)) = some (some (.agg zRow), 256) := by kernel_rfl

def tbF (t : Nat → Nat → Nat) (j : Nat) : Value := .int .u8 (t (j / 256) (j % 256) : Nat)
/-- A table at block b: in which mode each client has each block. -/
structure Tb (w : World) (b : Nat) (t : Nat → Nat → Nat) : Prop where
  arr : Arr w b 148 2048 (tbF t)
  bd : ∀ c k, t c k ≤ 2
namespace Tb
variable {w w' : World} {b : Nat} {t : Nat → Nat → Nat}
theorem mod {S : List Nat} (h : Tb w b t) (m : Mod S w w') (hs : b ∉ S) : Tb w' b t := ⟨h.arr.mod m hs, h.bd⟩
theorem lt (h : Tb w b t) : b < w.heap.size := h.arr.lt
theorem cell (h : Tb w b t) (c k : Nat) (hc : c < 8) (hk : k < 256) : w.cell? ⟨b, c * 256 + k, none⟩ = some (.int .u8 (t c k : Nat)) := by
  rw [h.arr.cell _ (by omega)]
  simp [tbF, show (c * 256 + k) / 256 = c by omega, show (c * 256 + k) % 256 = k by omega]
theorem set (h : Tb w b t) (c k v : Nat) (hc : c < 8) (hk : k < 256) (hv : v ≤ 2) : Tb (w.setCell ⟨b, c * 256 + k, none⟩ (.int .u8 (v : Nat))) b (fun d j => if d = c ∧ j = k then v else t d j) := by
  refine ⟨(h.arr.set (c * 256 + k) _).congr fun j hj => ?_, fun d j => ?_⟩
  · unfold tbF
    by_cases e : j = c * 256 + k
    · have h1 : j / 256 = c ∧ j % 256 = k := by omega
      simp only [if_pos e, if_pos h1]
    · have h1 : ¬ (j / 256 = c ∧ j % 256 = k) := by omega
      simp only [if_neg e, if_neg h1]
  · have := h.bd d j
    split
    · exact hv
    · exact this
end Tb
theorem tb_new (w : World) : Tb (w.alloc (.cells zTab 148)) w.heap.size (fun _ _ => 0) :=
  ⟨Arr.new' w zTab _ 2048 _ (by simp [zTab]) (fun i hi => by simp [zTab, hi, tbF]), fun _ _ => by omega⟩

theorem spNew_calls (w : World) : Calls Tryd.prog 35 #[] w fun e w' => e = .returned (.pointer (some ⟨w.heap.size, 0, none⟩)) ∧ w.alloc (.cells zTab 148) = w' := by
  have hz := (zero_of_info (P := Tryd.prog) info_tab).1
  go_enter Tryd.func35, Tryd.ntmps35
  go_wp2
  go_ret
  exact ⟨rfl, rfl⟩
def inC8 (c : Int) : Bool := decide (0 ≤ c ∧ c < 8)
theorem spClient_calls (w : World) (c : Int) : Calls Tryd.prog 142 #[.int .i64 c] w fun e w' => e = .returned (.bool (inC8 c)) ∧ w = w' := by
  by_cases h0 : 0 ≤ c
  · by_cases h8 : c < 8
    · have E := Lib.hid (show inC8 c = true by simp [inC8]; omega)
      go_enter Tryd.func142, Tryd.ntmps142
      go_wp2
      go_ret
      exact ⟨by rw [E.out]; rfl, rfl⟩
    · have E := Lib.hid (show inC8 c = false by simp [inC8]; omega)
      have h8' : decide (c < 8) = false := by simpa using h8
      go_enter Tryd.func142, Tryd.ntmps142
      go_wp2
      go_ret
      exact ⟨by rw [E.out]; rfl, rfl⟩
  · have E := Lib.hid (show inC8 c = false by simp [inC8]; omega)
    have h0' : decide (0 ≤ c) = false := by simpa using h0
    go_enter Tryd.func142, Tryd.ntmps142
    go_wp2
    go_ret
    exact ⟨by rw [E.out]; rfl, rfl⟩

theorem spClip_calls (w : World) (a b : Int) : Calls Tryd.prog 84 #[.agg #[.int .i64 a, .int .i64 b]] w fun e w' => e = .returned (.agg #[.int .i64 (max a 0), .int .i64 (min b 256)]) ∧ Mod [] w w' := by
  have key : ∀ (x y : Int) (w' : World), max a 0 = x → min b 256 = y → Mod [] w w' → (Ending.returned (.agg #[.int .i64 x, .int .i64 y]) = .returned (.agg #[.int .i64 (max a 0), .int .i64 (min b 256)]) ∧ Mod [] w w') := fun x y w' h1 h2 m => by subst h1 h2; exact ⟨rfl, m⟩
  go_enter Tryd.func84, Tryd.ntmps84
  go_wp2
  all_goals
    refine bodyPost_ret (v := .agg #[.int .i64 (max a 0), .int .i64 (min b 256)]) ?_ rfl ⟨rfl, ((Mod.refl _ _).alloc _).alloc _⟩
    simp [results, Tryd.results84, go_sem]
    try omega

theorem spRuns_calls (w : World) (p : Addr) (a b : Int) : Calls Tryd.prog 81 #[.pointer (some p), .agg #[.int .i64 a, .int .i64 b]] w fun e w' =>
    e = .returned (.func (.func 83) #[] #[.pointer (some ⟨w.heap.size + 1, 0, none⟩), .pointer (some ⟨w.heap.size, 0, none⟩)]) ∧ (w.alloc (.cells #[.pointer (some p)] 175)).alloc (.cells #[.int .i64 a, .int .i64 b] 23) = w' := by
  go_enter Tryd.func81, Tryd.ntmps81
  go_wp2
  go_ret
  exact ⟨rfl, rfl⟩
end Go.Proofs.YtijjbkkcienfgaaDoor
