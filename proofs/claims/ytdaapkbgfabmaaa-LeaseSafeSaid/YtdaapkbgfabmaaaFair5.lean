/- A history that came in reads as one; what Fair says of short ones that the laws make themselves. No condition beyond what stands in each. -/
import Derived.Test.YtdaapkbgfabmaaaFair4
import Derived.Test.YtdaapkbgfabmaaaRow
namespace Go.Proofs.Ytdaapkbgfabmaaa
open Go.RowKit
set_option linter.unusedVariables false
set_option linter.unusedSimpArgs false
attribute [local go_sem ↓] Go.wp_at_zero Go.wp_at_succ

theorem irow_of {W : World} {v : Value} (h : CellOk W (.sl [.int .i64]) v) : ∃ n x, IRow W v n x := by
  obtain ⟨n, f, hA, hf⟩ := h.slA (by simp)
  obtain ⟨A, cap, rfl, hn, hcap, hcell⟩ := hA.ex
  refine ⟨n, fun j => match f j 0 with | .int _ z => z | _ => 0, ⟨A, cap, rfl, hn, hcap, fun h0 => ?_⟩⟩
  obtain ⟨b, off, rfl, hx⟩ := hcell h0
  refine ⟨b, off, rfl, fun j hj => ?_⟩
  have h1 := hx j 0 hj (by simp)
  obtain ⟨z, e, _⟩ := (hf j 0 _ hj rfl).int_inv
  simp only [List.length_cons, List.length_nil, Nat.zero_add, Nat.mul_one, Nat.add_zero] at h1
  rw [h1, e]
theorem ticks_of {W : World} {v : Value} (h : CellOk W (.sl [.sl [.int .i64]]) v) : ∃ m len x, Ticks W v m len x := by
  obtain ⟨n, f, hA, hf⟩ := h.slA (by simp)
  obtain ⟨A, cap, rfl, hn, hcap, hcell⟩ := hA.ex
  have key : ∀ i, ∃ k : Nat × (Nat → Int), i < n → IRow W (f i 0) k.1 k.2 := by
    intro i
    by_cases hi : i < n
    · obtain ⟨k, x, hr⟩ := irow_of (hf i 0 _ hi rfl)
      exact ⟨(k, x), fun _ => hr⟩
    · exact ⟨(0, fun _ => 0), fun h => absurd h hi⟩
  refine ⟨n, fun i => (Classical.choose (key i)).1, fun i => (Classical.choose (key i)).2, ⟨A, cap, fun i => f i 0, rfl, hn, hcap, fun h0 => ?_, fun i hi => Classical.choose_spec (key i) hi⟩⟩
  obtain ⟨b, off, rfl, hx⟩ := hcell h0
  refine ⟨b, off, rfl, fun i hi => ?_⟩
  have h1 := hx i 0 hi (by simp)
  simp only [List.length_cons, List.length_nil, Nat.zero_add, Nat.mul_one, Nat.add_zero] at h1
  exact h1

theorem heavy_calls (w : World) (A : Option Addr) (m cap : Nat) :
    Calls Try.prog 23 #[.slice A m cap] w fun e w' => e = .returned (.bool (decide (30 < m))) ∧ w = w' := by
  go_enter Try.func23, Try.ntmps23
  go_wp2
  go_ret
  exact ⟨by simp; omega, rfl⟩

/-- A slice that holds one row of ints, as the laws lay it. -/
theorem ticks_one (w : World) (r g : Nat) (cs : Array Value) (n : Nat) (x : Nat → Int) (hn : cs.size = n) (hm : n ≤ maxLen) (hx : ∀ j, j < n → cs[j]? = some (.int .i64 (x j)))
    (hr : w.heap[r]? = some (.cells cs 3 (0, 0))) (hg : w.cell? ⟨g, 0, none⟩ = some (.slice (some ⟨r, 0, none⟩) n n)) :
    Ticks w (.slice (some ⟨g, 0, none⟩) 1 1) 1 (fun _ => n) (fun _ => x) := by
  refine ⟨some ⟨g, 0, none⟩, 1, fun _ => .slice (some ⟨r, 0, none⟩) n n, rfl, Nat.le_refl _, by unfold maxLen; omega, fun _ => ⟨g, 0, rfl, fun i hi => ?_⟩, fun i hi => ⟨some ⟨r, 0, none⟩, n, rfl, Nat.le_refl _, hm, fun _ => ⟨r, 0, rfl, fun j hj => ?_⟩⟩⟩
  · obtain rfl : i = 0 := by omega
    exact hg
  · simp [World.cell?, hr, hx j hj]
theorem marg10 : margV 10 0 0 = 10 := by decide
end Go.Proofs.Ytdaapkbgfabmaaa
