/- What Has, Drop and Put of a table of holds (package span) come to. No condition beyond what stands in each. -/
import Derived.Test.YtijjbkkcienfgaaDoorSpan5
namespace Go.Proofs.YtijjbkkcienfgaaDoor
open Go.RowKit
set_option linter.unusedVariables false
set_option linter.unusedSimpArgs false
attribute [local go_sem ↓] Go.wp_at_zero Go.wp_at_succ

def hasV (t : Nat → Nat → Nat) (c k m : Int) : Bool := if inC8 c = false then false else if k < 0 then false else if 256 ≤ k then false else if m ≠ 1 ∧ m ≠ 2 then false else decide (m ≤ (t c.toNat k.toNat : Int))

theorem spDrop_calls (w : World) (bT : Nat) (t : Nat → Nat → Nat) (cl : Int) (hT : Tb w bT t) (hW : Whole w) :
    Calls Tryd.prog 128 #[.pointer (some ⟨bT, 0, none⟩), .int .i64 cl] w fun e w' =>
      ∃ v, e = .returned v ∧ w'.ownsRow w.heap.size 39 4 v (someL t 0 256 (pOf cl)).length (hcells (someL t 0 256 (pOf cl))) ∧ Tb w' bT (setT t cl 0 256 (fun _ => 0)) ∧ Mod [bT] w w' := by
  obtain ⟨h0, h1⟩ := hW
  have C := Lib.hid (spCut_calls w bT t cl 0 256 hT)
  clear hT
  go_enter Tryd.func128, Tryd.ntmps128
  go_wp2_with (go_at_call 119; refine C.out.mono ?_; rintro e w' ⟨v, rfl, ho, hT, hm⟩)
  go_ret
  exact ⟨v, rfl, ho, hT, hm⟩

theorem put1_calls (w : World) (Bh : Nat) (mm m : Nat) (hm : m ≤ 2) (hmm : mm ≤ 2) (h2 : w.cell? ⟨Bh, 3, none⟩ = some (.int .i64 (mm : Nat))) :
    Calls Tryd.prog 143 (#[.int .u8 (m : Nat)] ++ #[.pointer (some ⟨Bh, 0, none⟩)]) w fun e w' => e = .returned (.int .u8 ((fun x => max x mm : Nat → Nat) m : Nat)) ∧ w = w' := by
  have key : ∀ z : Int, z = ((max m mm : Nat) : Int) → Ending.returned (.int .u8 z) = .returned (.int .u8 ((fun x => max x mm : Nat → Nat) m : Nat)) := fun z h => by rw [h]
  have b0 : (0 : Int) ≤ ((mm : Nat) : Int) := by omega
  have b1 : ((mm : Nat) : Int) ≤ 2 := by omega
  go_enter Tryd.func143, Tryd.ntmps143
  go_wp2
  all_goals
    go_ret
    exact ⟨key _ (by omega), rfl⟩

/-! ### a client's row, taken out and laid back -/
def rowOf (t : Nat → Nat → Nat) (c : Nat) : List Value := (List.range 256).map fun k => .int .u8 (t c k : Nat)
theorem rowOf_len (t : Nat → Nat → Nat) (c : Nat) : (rowOf t c).length = 256 := by simp [rowOf]
theorem rowOf_get (t : Nat → Nat → Nat) (c k : Nat) (hk : k < 256) : (rowOf t c)[k]? = some (.int .u8 (t c k : Nat)) := by simp [rowOf, hk]
theorem Tb.range {w : World} {b : Nat} {t : Nat → Nat → Nat} (h : Tb w b t) (c : Nat) (hc : c < 8) : w.rangeAt b (c * 256) (rowOf t c) := by
  intro j v hv
  have hj : j < 256 := by
    have := (List.getElem?_eq_some_iff.1 hv).1
    rwa [rowOf_len] at this
  rw [rowOf_get _ _ _ hj] at hv
  cases hv
  exact h.cell c j hc hj
theorem Arr.setCells {b : Nat} {T : TypeId} {N : Nat} : ∀ (vs : List Value) (o : Nat) (w : World) (f : Nat → Value), Arr w b T N f → Arr (w.setCells b o vs) b T N (fun j => if o ≤ j ∧ j < o + vs.length then vs.getD (j - o) undef else f j)
  | [], o, w, f, h => h.congr (fun j _ => by rw [if_neg (by simp)])
  | v :: r, o, w, f, h => by
    rw [World.setCells]
    refine (Arr.setCells r (o + 1) _ _ (h.set o v)).congr (fun j _ => ?_)
    simp only [List.length_cons]
    by_cases e1 : o + 1 ≤ j ∧ j < o + 1 + r.length
    · rw [if_pos e1, if_pos (by omega)]
      obtain ⟨i, rfl⟩ : ∃ i, j = o + 1 + i := ⟨j - (o + 1), by omega⟩
      rw [show o + 1 + i - (o + 1) = i by omega, show o + 1 + i - o = i + 1 by omega]
      simp
    · rw [if_neg e1]
      by_cases e2 : j = o
      · subst e2
        rw [if_pos rfl, if_pos (by omega)]
        simp
      · rw [if_neg e2, if_neg (by omega)]
theorem mod_setCells (b : Nat) : ∀ (vs : List Value) (o : Nat) (w : World), Mod [b] w (w.setCells b o vs)
  | [], _, w => Mod.refl _ w
  | v :: r, o, w => by
    rw [World.setCells]
    exact ((Mod.refl _ w).setCell (by simp) v).trans (mod_setCells b r (o + 1) _)
/-- A row laid back. -/
theorem Tb.back {w : World} {b : Nat} {t t' : Nat → Nat → Nat} (h : Tb w b t') (c : Nat) (hc : c < 8) (ht : ∀ d j, d ≠ c → t' d j = t d j) (hb : ∀ d j, t d j ≤ 2) : Tb (w.setCells b (c * 256) (rowOf t c)) b t := by
  refine ⟨(Arr.setCells (rowOf t c) (c * 256) w _ h.arr).congr (fun j hj => ?_), hb⟩
  rw [rowOf_len]
  by_cases e : c * 256 ≤ j ∧ j < c * 256 + 256
  · rw [if_pos e, List.getD_eq_getElem?_getD, rowOf_get _ _ _ (by omega)]
    simp [tbF, show j / 256 = c by omega, show j % 256 = j - c * 256 by omega]
  · rw [if_neg e]
    unfold tbF
    rw [ht _ _ (by omega)]
end Go.Proofs.YtijjbkkcienfgaaDoor
