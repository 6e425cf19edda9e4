/- What the calls of a table of holds (package span) come to: List, Has, Against, Cut, Weaken, Drop. No condition beyond what stands in each. -/
import Derived.Test.YtijjbkkcienfgaaDoorSpan4
namespace Go.Proofs.YtijjbkkcienfgaaDoor
open Go.RowKit
set_option linter.unusedVariables false
set_option linter.unusedSimpArgs false
attribute [local go_sem ↓] Go.wp_at_zero Go.wp_at_succ

/-- The variable 'whole'. -/
def Whole (w : World) : Prop := w.cell? ⟨1, 0, none⟩ = some (.int .i64 0) ∧ w.cell? ⟨1, 1, none⟩ = some (.int .i64 256)
theorem Whole.mod {S : List Nat} {w w' : World} (h : Whole w) (m : Mod S w w') (h0 : 1 ∉ S) : Whole w' := ⟨m.cell' h.1 h0, m.cell' h.2 h0⟩

def loZ (a : Int) : Nat := (max a 0).toNat
def nZ (a b : Int) : Nat := (min b 256).toNat - (max a 0).toNat
def pAll : Nat → Nat → Bool := fun _ _ => true
def pAg (hc hm : Int) : Nat → Nat → Bool := fun c m => decide (¬ (c : Int) = hc) && (decide (m = 2) || decide (hm = 2))
def pOf (cl : Int) : Nat → Nat → Bool := fun c _ => decide ((c : Int) = cl)
def pOf2 (cl : Int) : Nat → Nat → Bool := fun c m => decide ((c : Int) = cl) && decide (m = 2)
def listL (t : Nat → Nat → Nat) : List HoldT := holdsTo t 0 256 pAll 8
def someL (t : Nat → Nat → Nat) (a b : Int) (p : Nat → Nat → Bool) : List HoldT := holdsTo t (loZ a) (nZ a b) p 8

theorem list1_calls (w : World) (c m : Nat) : Calls Tryd.prog 70 (#[.int .i64 c, .int .i64 m] ++ #[]) w fun e w' => e = .returned (.bool (pAll c m)) ∧ w = w' := by
  go_enter Tryd.func70, Tryd.ntmps70
  go_wp2
  go_ret
  exact ⟨rfl, rfl⟩
theorem spList_calls (w : World) (bT : Nat) (t : Nat → Nat → Nat) (hT : Tb w bT t) (hW : Whole w) :
    Calls Tryd.prog 38 #[.pointer (some ⟨bT, 0, none⟩)] w (SomeP w (listL t)) := by
  obtain ⟨h0, h1⟩ := hW
  have C := Lib.hid (some_calls w bT 70 #[] t 0 256 pAll hT (enters_of Tryd.func70 (by kernel_rfl) rfl) (fun c m w' _ _ _ => list1_calls w' c m))
  clear hT
  go_enter Tryd.func38, Tryd.ntmps38
  go_wp2_with (go_at_call 69; refine C.out.mono ?_; rintro e w' ⟨⟨v, rfl, ho, hm⟩, -⟩)
  go_ret
  exact ⟨v, rfl, ho, hm⟩

theorem ag1_calls (w : World) (Bh : Nat) (x y hc hm : Int) (c m : Nat) (h1 : w.cell? ⟨Bh, 2, none⟩ = some (.int .i64 hc)) (h2 : w.cell? ⟨Bh, 3, none⟩ = some (.int .i64 hm)) :
    Calls Tryd.prog 135 (#[.int .i64 c, .int .i64 m] ++ #[.pointer (some ⟨Bh, 0, none⟩)]) w fun e w' => e = .returned (.bool (pAg hc hm c m)) ∧ w = w' := by
  have E := Lib.hid (show pAg hc hm c m = (decide (¬ (c : Int) = hc) && (decide (m = 2) || decide (hm = 2))) from rfl)
  by_cases e1 : (c : Int) = hc
  · subst e1
    go_enter Tryd.func135, Tryd.ntmps135
    go_wp2
    go_ret
    exact ⟨by rw [E.out]; simp, rfl⟩
  · have d1 : ((c : Int) != hc) = true := by simpa using e1
    by_cases e2 : m = 2
    · subst e2
      have HE := Lib.hid e1
      clear e1
      go_enter Tryd.func135, Tryd.ntmps135
      go_wp2
      go_ret
      exact ⟨by rw [E.out]; simp [HE.out], rfl⟩
    · have d2 : ((m : Int) == 2) = false := by simp; omega
      have HE := Lib.hid e1
      have HE2 := Lib.hid e2
      clear e1 e2
      go_enter Tryd.func135, Tryd.ntmps135
      go_wp2
      go_ret
      exact ⟨by rw [E.out]; simp [HE.out, HE2.out]; rfl, rfl⟩
theorem of1_calls (w : World) (Bc : Nat) (cl : Int) (c m : Nat) (h1 : w.cell? ⟨Bc, 0, none⟩ = some (.int .i64 cl)) :
    Calls Tryd.prog 136 (#[.int .i64 c, .int .i64 m] ++ #[.pointer (some ⟨Bc, 0, none⟩)]) w fun e w' => e = .returned (.bool (pOf cl c m)) ∧ w = w' := by
  go_enter Tryd.func136, Tryd.ntmps136
  go_wp2
  go_ret
  exact ⟨by simp [pOf]; rfl, rfl⟩
theorem of2_calls (w : World) (Bc : Nat) (cl : Int) (c m : Nat) (h1 : w.cell? ⟨Bc, 0, none⟩ = some (.int .i64 cl)) :
    Calls Tryd.prog 139 (#[.int .i64 c, .int .i64 m] ++ #[.pointer (some ⟨Bc, 0, none⟩)]) w fun e w' => e = .returned (.bool (pOf2 cl c m)) ∧ w = w' := by
  have E := Lib.hid (show pOf2 cl c m = (decide ((c : Int) = cl) && decide (m = 2)) from rfl)
  by_cases e1 : (c : Int) = cl
  · subst e1
    go_enter Tryd.func139, Tryd.ntmps139
    go_wp2
    go_ret
    exact ⟨by rw [E.out]; simp; rw [Bool.eq_iff_iff]; simp; omega, rfl⟩
  · have d1 : ((c : Int) == cl) = false := by simpa using e1
    have HE := Lib.hid e1
    clear e1
    go_enter Tryd.func139, Tryd.ntmps139
    go_wp2
    go_ret
    exact ⟨by rw [E.out]; simp [HE.out], rfl⟩
theorem zero_calls (w : World) (m : Nat) : Calls Tryd.prog 138 (#[.int .u8 (m : Nat)] ++ #[]) w fun e w' => e = .returned (.int .u8 ((fun _ => 0 : Nat → Nat) m : Nat)) ∧ w = w' := by
  go_enter Tryd.func138, Tryd.ntmps138
  go_wp2
  go_ret
  exact ⟨rfl, rfl⟩
theorem weak_calls (w : World) (m : Nat) : Calls Tryd.prog 140 (#[.int .u8 (m : Nat)] ++ #[]) w fun e w' => e = .returned (.int .u8 ((fun m => min m 1 : Nat → Nat) m : Nat)) ∧ w = w' := by
  have key : ∀ z : Int, z = ((min m 1 : Nat) : Int) → Ending.returned (.int .u8 z) = .returned (.int .u8 ((fun m => min m 1 : Nat → Nat) m : Nat)) := fun z h => by rw [h]
  go_enter Tryd.func140, Tryd.ntmps140
  go_wp2
  all_goals
    go_ret
    exact ⟨key _ (by omega), rfl⟩

set_option maxHeartbeats 1000000 in
theorem spAgainst_calls (w : World) (bT : Nat) (t : Nat → Nat → Nat) (a b hc hm : Int) (hT : Tb w bT t) :
    Calls Tryd.prog 118 #[.pointer (some ⟨bT, 0, none⟩), .agg #[.int .i64 a, .int .i64 b, .int .i64 hc, .int .i64 hm]] w (SomeP w (someL t a b (pAg hc hm))) := by
  have hT2 := hT.mod ((Mod.refl [] w).alloc (.cells #[.int .i64 a, .int .i64 b, .int .i64 hc, .int .i64 hm] 39)) (by simp)
  have C := Lib.hid (some_calls (w.alloc (.cells #[.int .i64 a, .int .i64 b, .int .i64 hc, .int .i64 hm] 39)) bT 135 #[.pointer (some ⟨w.heap.size, 0, none⟩)] t a b (pAg hc hm) hT2 (enters_of Tryd.func135 (by kernel_rfl) rfl)
    (fun c m w' _ _ md => ag1_calls w' w.heap.size a b hc hm c m (md.cell' (by simp) (by simp)) (md.cell' (by simp) (by simp))))
  clear hT hT2
  go_enter Tryd.func118, Tryd.ntmps118
  go_wp2_with (go_at_call 69; refine C.out.mono ?_; rintro e w' ⟨⟨v, rfl, ho, hm⟩, -⟩)
  go_ret
  exact ⟨v, rfl, own_base ho (by simp), ((Mod.refl _ _).alloc _).trans hm⟩

set_option maxHeartbeats 1000000 in
theorem spCut_calls (w : World) (bT : Nat) (t : Nat → Nat → Nat) (cl a b : Int) (hT : Tb w bT t) :
    Calls Tryd.prog 119 #[.pointer (some ⟨bT, 0, none⟩), .int .i64 cl, .agg #[.int .i64 a, .int .i64 b]] w fun e w' =>
      ∃ v, e = .returned v ∧ w'.ownsRow w.heap.size 39 4 v (someL t a b (pOf cl)).length (hcells (someL t a b (pOf cl))) ∧ Tb w' bT (setT t cl a b (fun _ => 0)) ∧ Mod [bT] w w' := by
  have hl := hT.lt
  have hT2 := hT.mod (((Mod.refl [] w).alloc (.cells #[.int .i64 cl] 3)).alloc (.cells #[.int .i64 a, .int .i64 b] 23)) (by simp)
  have C := Lib.hid (some_calls ((w.alloc (.cells #[.int .i64 cl] 3)).alloc (.cells #[.int .i64 a, .int .i64 b] 23)) bT 136 #[.pointer (some ⟨w.heap.size, 0, none⟩)] t a b (pOf cl) hT2 (enters_of Tryd.func136 (by kernel_rfl) rfl)
    (fun c m w' _ _ md => of1_calls w' w.heap.size cl c m (md.cell' (by simp) (by simp))))
  have k0 : ((w.alloc (.cells #[.int .i64 cl] 3)).alloc (.cells #[.int .i64 a, .int .i64 b] 23)).cell? ⟨w.heap.size, 0, none⟩ = some (.int .i64 cl) := by simp
  have k1 : ((w.alloc (.cells #[.int .i64 cl] 3)).alloc (.cells #[.int .i64 a, .int .i64 b] 23)).cell? ⟨w.heap.size + 1, 0, none⟩ = some (.int .i64 a) := by simp
  have k2 : ((w.alloc (.cells #[.int .i64 cl] 3)).alloc (.cells #[.int .i64 a, .int .i64 b] 23)).cell? ⟨w.heap.size + 1, 1, none⟩ = some (.int .i64 b) := by simp
  have K0 := Lib.hid k0
  have K1 := Lib.hid k1
  have K2 := Lib.hid k2
  have HT2 := Lib.hid hT2
  clear hT hT2 k0 k1 k2
  go_enter Tryd.func119, Tryd.ntmps119
  go_wp2_with (go_at_call 69; refine C.out.mono ?_; rintro e w2 ⟨⟨v, rfl, ho, hm⟩, -⟩; have c0 := hm.cell' K0.out (by simp); have c1 := hm.cell' K1.out (by simp); have c2 := hm.cell' K2.out (by simp))
  refine (set_calls w2 bT 138 #[] t cl a b (fun _ => 0) (HT2.out.mod hm (by simp)) (fun _ _ => by omega) (enters_of Tryd.func138 (by kernel_rfl) rfl) (fun m w' _ _ => zero_calls w' m)).mono ?_
  rintro e w3 ⟨rfl, hT3, m3⟩
  go_wp2_with fail
  go_ret
  refine ⟨v, rfl, own_mod (own_base ho (by simp; omega)) m3 (fun k hk => ?_), hT3, ((((Mod.refl _ _).alloc _).alloc _).trans hm).nil.trans m3⟩
  have := (own_lt' ho k hk).1
  simp at this ⊢
  omega

set_option maxHeartbeats 1000000 in
theorem spWeaken_calls (w : World) (bT : Nat) (t : Nat → Nat → Nat) (cl a b : Int) (hT : Tb w bT t) :
    Calls Tryd.prog 121 #[.pointer (some ⟨bT, 0, none⟩), .int .i64 cl, .agg #[.int .i64 a, .int .i64 b]] w fun e w' =>
      ∃ v, e = .returned v ∧ w'.ownsRow w.heap.size 39 4 v (someL t a b (pOf2 cl)).length (hcells (someL t a b (pOf2 cl))) ∧ Tb w' bT (setT t cl a b (fun m => min m 1)) ∧ Mod [bT] w w' := by
  have hl := hT.lt
  have hT2 := hT.mod (((Mod.refl [] w).alloc (.cells #[.int .i64 cl] 3)).alloc (.cells #[.int .i64 a, .int .i64 b] 23)) (by simp)
  have C := Lib.hid (some_calls ((w.alloc (.cells #[.int .i64 cl] 3)).alloc (.cells #[.int .i64 a, .int .i64 b] 23)) bT 139 #[.pointer (some ⟨w.heap.size, 0, none⟩)] t a b (pOf2 cl) hT2 (enters_of Tryd.func139 (by kernel_rfl) rfl)
    (fun c m w' _ _ md => of2_calls w' w.heap.size cl c m (md.cell' (by simp) (by simp))))
  have k0 : ((w.alloc (.cells #[.int .i64 cl] 3)).alloc (.cells #[.int .i64 a, .int .i64 b] 23)).cell? ⟨w.heap.size, 0, none⟩ = some (.int .i64 cl) := by simp
  have k1 : ((w.alloc (.cells #[.int .i64 cl] 3)).alloc (.cells #[.int .i64 a, .int .i64 b] 23)).cell? ⟨w.heap.size + 1, 0, none⟩ = some (.int .i64 a) := by simp
  have k2 : ((w.alloc (.cells #[.int .i64 cl] 3)).alloc (.cells #[.int .i64 a, .int .i64 b] 23)).cell? ⟨w.heap.size + 1, 1, none⟩ = some (.int .i64 b) := by simp
  have K0 := Lib.hid k0
  have K1 := Lib.hid k1
  have K2 := Lib.hid k2
  have HT2 := Lib.hid hT2
  clear hT hT2 k0 k1 k2
  go_enter Tryd.func121, Tryd.ntmps121
  go_wp2_with (go_at_call 69; refine C.out.mono ?_; rintro e w2 ⟨⟨v, rfl, ho, hm⟩, -⟩; have c0 := hm.cell' K0.out (by simp); have c1 := hm.cell' K1.out (by simp); have c2 := hm.cell' K2.out (by simp))
  refine (set_calls w2 bT 140 #[] t cl a b (fun m => min m 1) (HT2.out.mod hm (by simp)) (fun _ _ => by omega) (enters_of Tryd.func140 (by kernel_rfl) rfl) (fun m w' _ _ => weak_calls w' m)).mono ?_
  rintro e w3 ⟨rfl, hT3, m3⟩
  go_wp2_with fail
  go_ret
  refine ⟨v, rfl, own_mod (own_base ho (by simp; omega)) m3 (fun k hk => ?_), hT3, ((((Mod.refl _ _).alloc _).alloc _).trans hm).nil.trans m3⟩
  have := (own_lt' ho k hk).1
  simp at this ⊢
  omega
end Go.Proofs.YtijjbkkcienfgaaDoor
