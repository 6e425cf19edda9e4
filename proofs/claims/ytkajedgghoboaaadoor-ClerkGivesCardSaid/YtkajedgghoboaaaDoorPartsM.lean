/- For the walk of the law SpanParts (its numbers): what is cut out of the middle of a hold leaves both sides; what is put back makes one of them; the premise: the variable 'whole' holds what its initialiser lays. -/
import Derived.Test.YtkajedgghoboaaaDoorProg
import Derived.Test.YtkajedgghoboaaaDoorRow
import Derived.Test.YtkajedgghoboaaaDoorSpan8
import Derived.Test.YtkajedgghoboaaaDoorParts2
import Derived.Deep.DeepCutAuto
namespace Go.Proofs.YtkajedgghoboaaaDoor
open Go.RowKit
set_option linter.unusedVariables false
set_option linter.unusedSimpArgs false
attribute [local go_sem ↓] Go.wp_at_zero Go.wp_at_succ

theorem u8_nat {a : Int} (w : (Lit.int .u8 a).wf = true) : ∃ n : Nat, a = n ∧ n < 256 := by
  have := bd_u8 w
  exact ⟨a.toNat, by omega, by omega⟩
/-- The numbers of the law. -/
structure Nums (n2 n3 n4 n5 x1 x2 r2 p r3 q c m0 m : Nat) : Prop where
  x : x1 < x2
  x2b : x2 ≤ 256
  pa : x1 ≤ p
  pq : p < q
  qb : q ≤ x2
  c8 : c < 8
  mm : m = 1 ∨ m = 2
  r2b : r2 < 256
  r3b : r3 < 256
  m0b : m0 < 2
  e1 : (n2 : Int) % ((x2 : Int) - x1) = r2
  e2 : (x1 : Int) + r2 = p
  e3 : wrap64 ((x1 : Int) + r2) = p
  e5 : (n3 : Int) % ((x2 : Int) - p) = r3
  e6 : (p : Int) + 1 + r3 = q
  e7 : wrap64 ((p : Int) + 1 + r3) = q
  e8 : (n5 : Int) % 8 = c
  e9 : (n4 : Int) % 2 = m0
  e10 : 1 + (m0 : Int) = m
  d0 : ((x2 : Int) - x1 == 0) = false
  d1 : ((x2 : Int) - p == 0) = false
theorem wrap_small (z : Int) (h : -1000 ≤ z) (h2 : z ≤ 1000) : wrap64 z = z := by unfold wrap64; omega
theorem own_one {w : World} {base : Nat} {e : TypeId} {v a b c d : Value} (h : w.ownsRow base e 4 v 1 [a, b, c, d]) : ∃ g cap, v = .slice (some ⟨g, 0, none⟩) 1 cap ∧ base ≤ g ∧ g < w.heap.size ∧
    w.cell? ⟨g, 0, none⟩ = some a ∧ w.cell? ⟨g, 1, none⟩ = some b ∧ w.cell? ⟨g, 2, none⟩ = some c ∧ w.cell? ⟨g, 3, none⟩ = some d := by
  obtain ⟨_, h2 | ⟨g, cap, cur, rfl, hg, hh, h1, h2, h3, h4⟩⟩ := h
  · exact absurd h2.2 (by decide)
  · refine ⟨g, cap, rfl, hg, lt_of_block hh, ?_⟩
    have key : ∀ i x, i < 4 → [a, b, c, d][i]? = some x → w.cell? ⟨g, i, none⟩ = some x := fun i x hi hx => by
      rw [cell_of_row w g i cur e (0, 0) hh, ← Array.getElem?_toList, ← hx, ← h4, List.getElem?_take, if_pos (by omega)]
    exact ⟨key 0 a (by omega) rfl, key 1 b (by omega) rfl, key 2 c (by omega) rfl, key 3 d (by omega) rfl⟩
theorem wrap_eq (z : Int) : IntKind.i64.wrap z = wrap64 z := IntWalk.i64_left z
theorem nums_of (n2 n3 n4 n5 x1 x2 : Nat) (h : x1 < x2) (h2 : x2 ≤ 256) : ∃ r2 p r3 q c m0 m, Nums n2 n3 n4 n5 x1 x2 r2 p r3 q c m0 m := by
  have a1 : n2 % (x2 - x1) < x2 - x1 := Nat.mod_lt _ (by omega)
  have a2 : n3 % (x2 - (x1 + n2 % (x2 - x1))) < x2 - (x1 + n2 % (x2 - x1)) := Nat.mod_lt _ (by omega)
  generalize hr2 : n2 % (x2 - x1) = r2 at a1 a2
  generalize hr3 : n3 % (x2 - (x1 + r2)) = r3 at a2
  refine ⟨r2, x1 + r2, r3, x1 + r2 + 1 + r3, n5 % 8, n4 % 2, 1 + n4 % 2, ?_⟩
  have b1 : ((x2 - x1 : Nat) : Int) = (x2 : Int) - x1 := by omega
  have b2 : ((x2 - (x1 + r2) : Nat) : Int) = (x2 : Int) - (x1 + r2 : Nat) := by omega
  exact ⟨h, h2, by omega, by omega, by omega, by omega, by omega, by omega, by omega, by omega, by rw [← b1, ← Int.natCast_emod, hr2], by omega, by rw [wrap_small _ (by omega) (by omega)]; omega,
    by rw [← b2, ← Int.natCast_emod, hr3], by omega, by rw [wrap_small _ (by omega) (by omega)]; omega, by omega, by omega, by omega, by simp; omega, by simp; omega⟩


end Go.Proofs.YtkajedgghoboaaaDoor
