/- Both tables through a list of steps (package weirkeeplaw15): what stands between two steps. No condition. -/
import Derived.Test.YtkajedgghoboaaaDoorDoes
namespace Go.Proofs.YtkajedgghoboaaaDoor
open Go.RowKit
set_option linter.unusedVariables false
set_option linter.unusedSimpArgs false

structure ScI (W wr : World) (base bT r : Nat) : Prop where
  ex : ∃ t, Pair wr base bT r t
  md : Mod [] W wr
  s1 : W.heap.size ≤ bT
  s2 : W.heap.size ≤ r
theorem ScI.next {W wr w' : World} {base bT r : Nat} {t' : Nat → Nat → Nat} (h : ScI W wr base bT r) (hp : Pair w' base bT r t') (m : Mod [bT, r] wr w') : ScI W w' base bT r :=
  ⟨⟨_, hp⟩, h.md.fresh m (fun x hx => .inr (by have := h.s1; have := h.s2; simp at hx; omega)), h.s1, h.s2⟩
theorem ScI.same {W wr w' : World} {base bT r : Nat} (h : ScI W wr base bT r) (m : Mod [] wr w') : ScI W w' base bT r := by
  obtain ⟨t, hp⟩ := h.ex
  exact ⟨⟨t, hp.same m⟩, h.md.trans m, h.s1, h.s2⟩
/-- What the first cell of block r holds. -/
def rv (r : Nat) (w : World) : Value := (w.cell? ⟨r, 0, none⟩).getD undef
theorem rv_of {r : Nat} {w : World} {v : Value} (h : w.cell? ⟨r, 0, none⟩ = some v) : w.cell? ⟨r, 0, none⟩ = some (rv r w) := by rw [rv, h]; rfl
theorem rv_hs {w : World} {base r : Nat} {t : Nat → Nat → Nat} (h : RTab w base r t) : w.cell? ⟨r, 0, none⟩ = some (rv r w) ∧ Hs w (rv r w) (listL t) := by
  obtain ⟨v, hb, ho⟩ := h.ex
  have e : rv r w = v := by rw [rv, hb.cell]; rfl
  rw [e]
  exact ⟨hb.cell, hs_own ho⟩
theorem list_none : listL (fun _ _ => 0) = [] := holds_none 8 (fun _ _ _ _ _ => rfl)
theorem scI_new0 {W z : World} (hW : Whole z) (m : Mod [] W z) (h0 : 0 < W.heap.size) :
    Pair ((z.alloc (.cells zTab 87)).alloc (.cells #[.slice none 0 0] 42)) W.heap.size z.heap.size (z.heap.size + 1) (fun _ _ => 0) ∧
      Mod [] W ((z.alloc (.cells zTab 87)).alloc (.cells #[.slice none 0 0] 42)) ∧ W.heap.size ≤ z.heap.size ∧ W.heap.size ≤ z.heap.size + 1 := by
  have hs := m.size
  have m1 : Mod [] z ((z.alloc (.cells zTab 87)).alloc (.cells #[.slice none 0 0] 42)) := ((Mod.refl [] z).alloc _).alloc _
  have h1 := Boxed.new (z.alloc (.cells zTab 87)) 42 (.slice none 0 0)
  have e1 : (z.alloc (.cells zTab 87)).heap.size = z.heap.size + 1 := by simp
  rw [e1] at h1
  exact ⟨⟨(tb_new z).mod ((Mod.refl [] _).alloc _) (by simp), ⟨⟨_, h1, by rw [list_none]; exact own_nil _ _ _ _⟩, fun _ _ => by omega⟩, hW.mod m1 (by simp), by simp; omega, by omega, by omega⟩, m.trans m1, hs, by omega⟩
/-- Both tables, new. -/
theorem scI_new {W z : World} (hW : Whole z) (m : Mod [] W z) (h0 : 0 < W.heap.size) :
    ScI W ((z.alloc (.cells zTab 87)).alloc (.cells #[.slice none 0 0] 42)) W.heap.size z.heap.size (z.heap.size + 1) := by
  have ⟨h1, h2, h3, h4⟩ := scI_new0 hW m h0
  exact ⟨⟨_, h1⟩, h2, h3, h4⟩
end Go.Proofs.YtkajedgghoboaaaDoor
