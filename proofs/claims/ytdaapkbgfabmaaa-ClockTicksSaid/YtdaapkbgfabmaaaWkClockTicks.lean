/- The walk of the law ClockTicks: whatever clocks are told, they answer, and are at, what the document says; no condition. -/
import Derived.Test.YtdaapkbgfabmaaaProg
import Derived.Test.YtdaapkbgfabmaaaRow
import Derived.Test.YtdaapkbgfabmaaaClk
namespace Go.Proofs.Ytdaapkbgfabmaaa
open Go.RowKit
set_option linter.unusedVariables false
set_option linter.unusedSimpArgs false
attribute [local go_sem ↓] Go.wp_at_zero Go.wp_at_succ

set_option maxHeartbeats 1000000 in
theorem clockTicks_walk (W : World) (a0 : Int) (w0 : (Lit.int .i64 a0).wf = true)
    (v1 : Value) (c1 : CellOk W (.sl [.int .i64, .int .i64]) v1) :
    Calls Try.prog 4 #[.int .i64 a0, v1] W fun e w' => e = .returned (.bool true) ∧ Below W.heap.size W w' := by
  obtain ⟨n, f, hA, hf⟩ := c1.slA (by simp)
  obtain ⟨A, cap, rfl, hn, hcap, hcell⟩ := hA.ex
  unfold maxLen at hcap
  have hk : 1 ≤ clkN a0 ∧ clkN a0 ≤ 8 := by unfold clkN; omega
  by_cases h500 : 500 < n
  · go_enter Try.func4, Try.ntmps4
    go_wp2
    go_ret
    exact ⟨rfl, Below.refl _ _⟩
  have h5 : decide (500 < n) = false := by simpa using h500
  go_enter Try.func4, Try.ntmps4
  go_wp2_with fail
  refine (clkNew_calls _ _).mono ?_
  rintro e w1 ⟨rfl, hc1, m1⟩
  go_wp2_with fail
  refine (rNew_calls _ _).mono ?_
  rintro e w2 ⟨rfl, hr2, m2⟩
  have hb2 : Below W.heap.size W w2 := (m1.below (Nat.le_refl _) (by simp)).trans (m2.below m1.size (by simp))
  have hc2 := hc1.mod m2 (by simp)
  have hlt2 := m1.size
  have hb : W.heap.size < w1.heap.size := hc1.arr.lt
  generalize w1.heap.size = g at *
  clear hc1 m1 m2
  have hK := clkK_bd a0
  generalize clkK a0 = K at *
  have h0 := hr2.arr.cell 0 (by omega)
  go_wp2_with fail
  go_quiet ((go_at_call 18; exact quiet_ro (clkLen_calls _ _ _ _ (hc2.drewN _))))
  go_wp2_with fail
  go_loopw [7] (fun i wr => ∃ (k : Nat) (t : Nat → Int), k ≤ n ∧ i = .int .i64 k ∧ Ck wr W.heap.size K t ∧ RCk wr (g + 1) g K t ∧ Below W.heap.size W wr) (fun i _ => n - (intOf i).toNat)
  case atStart => exact ⟨0, fun _ => 0, Nat.zero_le _, rfl, hc2.drewN _, hr2.drewN _, pw_drewN hb2 _⟩
  case round =>
    obtain ⟨k, t, hkn, rfl, hc, hr, hB⟩ := hrel
    by_cases hlt : k < n
    · obtain ⟨b, off, rfl, hx⟩ := hcell (by omega)
      obtain ⟨x, hx0, wx⟩ := (hf k 0 _ hlt rfl).int_inv
      obtain ⟨y, hy0, wy⟩ := (hf k 1 _ hlt rfl).int_inv
      have hby := (bd_i64 wy).2
      have cx := hx k 0 hlt (by simp)
      have cy := hx k 1 hlt (by simp)
      rw [hx0] at cx
      rw [hy0] at cy
      simp only [List.length_cons, List.length_nil, Nat.zero_add, Nat.reduceAdd, Nat.add_zero] at cx cy
      have hbW : b < W.heap.size := World.block_lt_of_cell? W _ cx
      replace cx := (hB.cell (p := ⟨b, _, none⟩) hbW).trans cx
      replace cy := (hB.cell (p := ⟨b, _, none⟩) hbW).trans cy
      clear hx hx0 hy0 hf hcell c1 hA
      have i0 : (0 : Int) ≤ (k : Int) := by omega
      have i1 : (k : Int) < (n : Int) := by omega
      have hn1 : g + 1 ∉ [W.heap.size] := by simp; omega
      have hn2 : g ∉ [W.heap.size] := by simp; omega
      have hn3 : b ∉ [W.heap.size] := by simp; omega
      have hn4 : b ∉ [g] := by simp; omega
      have hn5 : W.heap.size ∉ [g] := by simp; omega
      go_wp2_with fail
      go_region_held3 (fun w' => w'.cell? ⟨b, off + k * 2, none⟩ = some (.int .i64 x) ∧ w'.cell? ⟨b, off + k * 2 + 1, none⟩ = some (.int .i64 y))
        (first | go_keep | exact ⟨m.cell' cx hn3, m.cell' cy hn3⟩ | exact ⟨m4.cell' (m.cell' cx hn3) hn4, m4.cell' (m.cell' cy hn3) hn4⟩)
        (first | (go_at_call 19; refine (clkTick_calls _ _ _ _ _ _ hc.drew hby).mono ?_; rintro e w3 ⟨rfl, hc3, m⟩) | (go_at_call 20; refine (rTick_calls _ _ _ _ _ _ _ (hr.drew.mod m hn1 hn2) hby).mono ?_; rintro e w4 ⟨rfl, hr4, m4⟩))
      go_wp2_with fail
      have hB4 : Below W.heap.size W w4 := (hB.trans ((Mod.of_drew m).below hB.size (by simp))).trans (m4.below (by have := hB.size; have := m.size; simp at this; omega) (by simp; omega))
      have hc4 := hc3.mod m4 hn5
      have h4 := hr4.arr.cell 0 (by omega)
      clear hc3 m m4 hr hc cx cy hB hn1 hn2 hn3 hn4 hn5
      go_loop [8] (fun j => ∃ q : Int, -1 ≤ q ∧ q ≤ K + 1 ∧ j = .int .i64 q) (fun j => ((K : Int) + 1 - intOf j).toNat)
      case atStart => exact ⟨-1, by omega, by omega, rfl⟩
      case round =>
        obtain ⟨q, hq0, hq1, rfl⟩ := hrel
        by_cases hqk : q ≤ K
        · go_wp2_with (first | (go_at_call 21; refine (clkNow_calls _ _ _ _ _ hc4).mono ?_; rintro e w5 ⟨rfl, rfl⟩) | (go_at_call 22; refine (rNow_calls _ _ _ _ _ _ hr4).mono ?_; rintro e w5 ⟨rfl, rfl⟩))
          go_round
          case rel => exact ⟨q + 1, by omega, by omega, rfl⟩
          case measure => simp [intOf]; omega
        · go_wp2_with fail
          go_roundw
          case rel => exact ⟨k + 1, _, by omega, by go_num, hc4, hr4, hB4⟩
          case measure => simp [intOf]; omega
    · go_wp2
      go_ret
      exact ⟨rfl, hB⟩
end Go.Proofs.Ytdaapkbgfabmaaa
