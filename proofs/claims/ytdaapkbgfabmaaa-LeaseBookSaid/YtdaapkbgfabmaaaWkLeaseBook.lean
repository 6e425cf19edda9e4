/- The walk of the law LeaseBook: whatever is renewed, swept and forgiven, a book answers, and has, what the document says; no condition. -/
import Derived.Test.YtdaapkbgfabmaaaProg
import Derived.Test.YtdaapkbgfabmaaaRow
import Derived.Test.YtdaapkbgfabmaaaBook3
namespace Go.Proofs.Ytdaapkbgfabmaaa
open Go.RowKit
set_option linter.unusedVariables false
set_option linter.unusedSimpArgs false
attribute [local go_sem ↓] Go.wp_at_zero Go.wp_at_succ

/-- Both books, as they stand in a round: one state. -/
structure Both (W wr : World) (b b2 gT gS gD cap : Nat) : Prop where
  ex : ∃ u s d, Bk wr b u s d ∧ RBk wr b2 gT gS gD cap u s d
  below : Below W.heap.size W wr
  l1 : W.heap.size ≤ b
  l2 : W.heap.size ≤ b2
  l3 : W.heap.size ≤ gT
  l4 : W.heap.size ≤ gS
  l5 : W.heap.size ≤ gD
  n1 : b ≠ b2
  n2 : b ≠ gT
  n3 : b ≠ gS
  n4 : b ≠ gD

set_option maxRecDepth 100000 in
set_option maxHeartbeats 4000000 in
theorem leaseBook_walk (W : World) (v0 : Value) (c0 : CellOk W (.sl [.int .i64, .int .i64, .int .i64, .int .i64, .int .i64]) v0) :
    Calls Try.prog 9 #[v0] W fun e w' => e = .returned (.bool true) ∧ Below W.heap.size W w' := by
  obtain ⟨n, f, hA, hf⟩ := c0.slA (by simp)
  obtain ⟨A, cap0, rfl, hn, hcap, hcell⟩ := hA.ex
  have hcap' : cap0 ≤ 9223372036854775807 := by unfold maxLen at hcap; omega
  clear hcap c0 hA
  by_cases h200 : 200 < n
  · have hi : (200 : Int) < (n : Int) := by omega
    go_enter Try.func9, Try.ntmps9
    go_wp2_with (go_at_call 27; refine (shown16_calls _).mono ?_; rintro e w' ⟨rfl, m⟩)
    go_ret
    exact ⟨rfl, m.below (Nat.le_refl _) (by simp)⟩
  have h5 : decide (200 < n) = false := by simpa using h200
  go_enter Try.func9, Try.ntmps9
  go_wp2_with fail
  refine (shown16_calls _).mono ?_
  rintro e w0 ⟨rfl, m0⟩
  go_wp2_with fail
  refine (bkNew_calls _).mono ?_
  rintro e w1 ⟨rfl, hb1, m1⟩
  go_wp2_with fail
  refine (rbNew_calls _).mono ?_
  rintro e w2 ⟨b2, gT, gS, gD, cap, rfl, hr2, m2, l2, l3, l4, l5⟩
  have hlt := hb1.arr.lt
  have hs0 := m0.size
  have H0 : Both W w2 w0.heap.size b2 gT gS gD cap := ⟨⟨u0, s0, d0, hb1.mod m2 (by simp), hr2⟩, (((m0.trans m1).trans m2).below (Nat.le_refl _) (by simp)), m0.size, by omega, by omega, by omega, by omega, by omega, by omega, by omega, by omega⟩
  generalize w0.heap.size = b at *
  clear m0 m1 m2 l2 l3 l4 l5 hb1 hr2 hs0 hlt
  go_wp2_with fail
  go_loopw [5] (fun i wr => ∃ k : Nat, k ≤ n ∧ i = .int .i64 k ∧ Both W wr b b2 gT gS gD cap) (fun i _ => n - (intOf i).toNat)
  case atStart => exact ⟨0, Nat.zero_le _, rfl, H0⟩
  case round =>
    obtain ⟨k, hkn, rfl, ⟨u, s, d, hb, hr⟩, hB, l1, l2, l3, l4, l5, n1, n2, n3, n4⟩ := hrel
    clear H0
    by_cases hlt : k < n
    · obtain ⟨bl, off, rfl, hx⟩ := hcell (by omega)
      obtain ⟨x0, e0, q0⟩ := (hf k 0 _ hlt rfl).int_inv
      obtain ⟨x1, e1, q1⟩ := (hf k 1 _ hlt rfl).int_inv
      obtain ⟨x2, e2, q2⟩ := (hf k 2 _ hlt rfl).int_inv
      obtain ⟨x3, e3, q3⟩ := (hf k 3 _ hlt rfl).int_inv
      obtain ⟨x4, e4, q4⟩ := (hf k 4 _ hlt rfl).int_inv
      have y0 := hx k 0 hlt (by simp)
      have y1 := hx k 1 hlt (by simp)
      have y2 := hx k 2 hlt (by simp)
      have y3 := hx k 3 hlt (by simp)
      have y4 := hx k 4 hlt (by simp)
      rw [e0] at y0
      rw [e1] at y1
      rw [e2] at y2
      rw [e3] at y3
      rw [e4] at y4
      simp only [List.length_cons, List.length_nil, Nat.zero_add, Nat.reduceAdd, Nat.add_zero] at y0 y1 y2 y3 y4
      have hbl : bl < W.heap.size := World.block_lt_of_cell? W _ y0
      replace y0 := (hB.cell (p := ⟨bl, _, none⟩) hbl).trans y0
      replace y1 := (hB.cell (p := ⟨bl, _, none⟩) hbl).trans y1
      replace y2 := (hB.cell (p := ⟨bl, _, none⟩) hbl).trans y2
      replace y3 := (hB.cell (p := ⟨bl, _, none⟩) hbl).trans y3
      replace y4 := (hB.cell (p := ⟨bl, _, none⟩) hbl).trans y4
      clear hx e0 e1 e2 e3 e4 hf hcell
      have i0 : (0 : Int) ≤ (k : Int) := by omega
      have i1 : (k : Int) < (n : Int) := by omega
      have lb := hb.arr.lt
      have lr := hr.arr.lt
      have lT := hr.rT.lt
      have lS := hr.rS.lt
      have lD := hr.rD.lt
      have hsz := hB.size
      have o1 : wr.heap.size ∉ [b] := by simp; omega
      have o2 : wr.heap.size ∉ [gT, gS, gD] := by simp; omega
      have o3 : b ∉ [gT, gS, gD] := by simp; omega
      have p1 : b2 ∉ [b] := by simp; omega
      have p2 : gT ∉ [b] := by simp; omega
      have p3 : gS ∉ [b] := by simp; omega
      have p4 : gD ∉ [b] := by simp; omega
      have o5 : wr.heap.size ∉ [gD] := by simp; omega
      have o6 : b ∉ [gD] := by simp; omega
      have hb' : Bk (wr.alloc (.cells #[.int .i64 x0, .int .i64 x1, .int .i64 x2, .int .i64 x3, .int .i64 x4] 57)) b u s d := hb.mod ((Mod.refl [] _).alloc _) (by simp)
      have hr' := hr.alloc (.cells #[.int .i64 x0, .int .i64 x1, .int .i64 x2, .int .i64 x3, .int .i64 x4] 57)
      have hB' := hB.alloc hB.size (.cells #[.int .i64 x0, .int .i64 x1, .int .i64 x2, .int .i64 x3, .int .i64 x4] 57)
      have z1 : (wr.alloc (.cells #[.int .i64 x0, .int .i64 x1, .int .i64 x2, .int .i64 x3, .int .i64 x4] 57)).cell? ⟨wr.heap.size, 1, none⟩ = some (.int .i64 x1) := by simp
      have z2 : (wr.alloc (.cells #[.int .i64 x0, .int .i64 x1, .int .i64 x2, .int .i64 x3, .int .i64 x4] 57)).cell? ⟨wr.heap.size, 2, none⟩ = some (.int .i64 x2) := by simp
      have z3 : (wr.alloc (.cells #[.int .i64 x0, .int .i64 x1, .int .i64 x2, .int .i64 x3, .int .i64 x4] 57)).cell? ⟨wr.heap.size, 3, none⟩ = some (.int .i64 x3) := by simp
      have z4 : (wr.alloc (.cells #[.int .i64 x0, .int .i64 x1, .int .i64 x2, .int .i64 x3, .int .i64 x4] 57)).cell? ⟨wr.heap.size, 4, none⟩ = some (.int .i64 x4) := by simp
      have Z1 := Lib.hid z1
      have Z2 := Lib.hid z2
      have Z3 := Lib.hid z3
      have Z4 := Lib.hid z4
      clear z1 z2 z3 z4
      have kinds : (x0 == 0) = true ∨ ((x0 == 0) = false ∧ (x0 == 1) = true) ∨ ((x0 == 0) = false ∧ (x0 == 1) = false ∧ (x0 == 2) = true) ∨ ((x0 == 0) = false ∧ (x0 == 1) = false ∧ (x0 == 2) = false) := by
        cases (x0 == 0) <;> cases (x0 == 1) <;> cases (x0 == 2) <;> simp
      rcases kinds with k0 | ⟨k0, k1⟩ | ⟨k0, k1, k2⟩ | ⟨k0, k1, k2⟩
      · -- renew
        go_wp2_with fail
        refine (bkRenew_calls _ _ _ _ _ _ _ _ _ hb').mono ?_
        rintro e w3 ⟨rfl, hb3, m3⟩
        have d1 := m3.cell' Z1.out o1
        have d2 := m3.cell' Z2.out o1
        have d3 := m3.cell' Z3.out o1
        have d4 := m3.cell' Z4.out o1
        have hr3 := hr'.mod m3 p1 p2 p3 p4
        have hB3 := below_mod hB' m3 hB'.size (by simp; omega)
        clear y0 y1 y2 y3 y4 hb hr hB hb' hr' hB' m3
        go_wp2_with fail
        refine (rbRenew_calls _ _ _ _ _ _ _ _ _ _ _ _ _ hr3).mono ?_
        rintro e w4 ⟨rfl, hr4, m4⟩
        have hb4 := hb3.mod m4 o3
        have hB4 := below_mod hB3 m4 hB3.size (by simp; omega)
        clear d1 d2 d3 d4 hb3 hr3 hB3 m4
        go_wp2_with fail
        go_loop [11] (fun j => ∃ q : Int, -1 ≤ q ∧ q ≤ 9 ∧ j = .int .i64 q) (fun j => (9 - intOf j).toNat)
        case atStart => exact ⟨-1, by omega, by omega, rfl⟩
        case round =>
          obtain ⟨q, hq0, hq1, rfl⟩ := hrel
          by_cases hq : q ≤ 8
          · go_wp2_with (first | (go_at_call 37; refine (bkDead_calls _ _ _ _ _ _ hb4).mono ?_; rintro e w' ⟨rfl, rfl⟩) | (go_at_call 38; refine (rbDead_calls _ _ _ _ _ _ _ _ _ _ hr4).mono ?_; rintro e w' ⟨rfl, rfl⟩) | (go_at_call 39; refine (bkUntil_calls _ _ _ _ _ _ hb4).mono ?_; rintro e w' ⟨rfl, rfl⟩) | (go_at_call 40; refine (rbUntil_calls _ _ _ _ _ _ _ _ _ _ hr4).mono ?_; rintro e w' ⟨rfl, rfl⟩))
            go_round
            case rel => exact ⟨q + 1, by omega, by omega, rfl⟩
            case measure => simp [intOf]; omega
          · go_wp2_with fail
            go_roundw
            case rel => exact ⟨k + 1, by omega, by go_num, ⟨⟨_, _, _, hb4, hr4⟩, hB4, l1, l2, l3, l4, l5, n1, n2, n3, n4⟩⟩
            case measure => simp [intOf]; omega
      · -- sweep
        go_wp2_with fail
        go_region_held3 (fun w' => w'.cell? ⟨wr.heap.size, 3, none⟩ = some (.int .i64 x3))
          (first | go_keep | exact m3.cell' Z3.out o1 | exact m4.cell' (m3.cell' Z3.out o1) o5)
          (first | (go_at_call 33; refine (bkSweep_calls _ _ _ _ _ _ hb'.drew).mono ?_; rintro e w3 ⟨v3, rfl, s3, hb3, m3⟩) | (go_at_call 34; refine (rbSweep_calls _ _ _ _ _ _ _ _ _ _ (hr'.drew.mod m3 p1 p2 p3 p4)).mono ?_; rintro e w4 ⟨v4, rfl, s4, hr4, m4⟩) | (go_at_call 32; refine Lib.hid (same16_after s3 s4 m4 (by simp; omega)) |>.out.mono ?_; rintro e w5 ⟨rfl, k5, rfl⟩))
        have hb5 : Bk (w4.drewN k5) b u s (swD u d x3 8) := (hb3.mod m4 o6).drewN _
        have hr5 : RBk (w4.drewN k5) b2 gT gS gD cap u s (swD u d x3 8) := hr4.drewN _
        have hB3 := below_mod hB' (Mod.of_drew m3) hB'.size (by simp; omega)
        have hB5 := pw_drewN (below_mod hB3 m4 hB3.size (by simp; omega)) k5
        clear y0 y1 y2 y3 y4 hb hr hB hb' hr' hB' m3 m4 s3 s4 hb3 hr4 hB3
        go_wp2_with fail
        go_loop [11] (fun j => ∃ q : Int, -1 ≤ q ∧ q ≤ 9 ∧ j = .int .i64 q) (fun j => (9 - intOf j).toNat)
        case atStart => exact ⟨-1, by omega, by omega, rfl⟩
        case round =>
          obtain ⟨q, hq0, hq1, rfl⟩ := hrel
          by_cases hq : q ≤ 8
          · go_wp2_with (first | (go_at_call 37; refine (bkDead_calls _ _ _ _ _ _ hb5).mono ?_; rintro e w' ⟨rfl, rfl⟩) | (go_at_call 38; refine (rbDead_calls _ _ _ _ _ _ _ _ _ _ hr5).mono ?_; rintro e w' ⟨rfl, rfl⟩) | (go_at_call 39; refine (bkUntil_calls _ _ _ _ _ _ hb5).mono ?_; rintro e w' ⟨rfl, rfl⟩) | (go_at_call 40; refine (rbUntil_calls _ _ _ _ _ _ _ _ _ _ hr5).mono ?_; rintro e w' ⟨rfl, rfl⟩))
            go_round
            case rel => exact ⟨q + 1, by omega, by omega, rfl⟩
            case measure => simp [intOf]; omega
          · go_wp2_with fail
            go_roundw
            case rel => exact ⟨k + 1, by omega, by go_num, ⟨⟨_, _, _, hb5, hr5⟩, hB5, l1, l2, l3, l4, l5, n1, n2, n3, n4⟩⟩
            case measure => simp [intOf]; omega
      · -- forgive
        go_wp2_with fail
        go_region_held3 (fun w' => w'.cell? ⟨wr.heap.size, 1, none⟩ = some (.int .i64 x1))
          (first | go_keep | exact m3.cell' Z1.out o1 | exact m4.cell' (m3.cell' Z1.out o1) o2)
          (first | (go_at_call 35; refine (bkForgive_calls _ _ _ _ _ _ hb'.drew).mono ?_; rintro e w3 ⟨rfl, hb3, m3⟩) | (go_at_call 36; refine (rbForgive_calls _ _ _ _ _ _ _ _ _ _ (hr'.drew.mod m3 p1 p2 p3 p4)).mono ?_; rintro e w4 ⟨rfl, hr4, m4⟩))
        have hb5 := hb3.mod m4 o3
        have hB3 := below_mod hB' (Mod.of_drew m3) hB'.size (by simp; omega)
        have hB5 := below_mod hB3 m4 hB3.size (by simp; omega)
        clear y0 y1 y2 y3 y4 hb hr hB hb' hr' hB' m3 m4 hb3 hB3
        go_wp2_with fail
        go_loop [11] (fun j => ∃ q : Int, -1 ≤ q ∧ q ≤ 9 ∧ j = .int .i64 q) (fun j => (9 - intOf j).toNat)
        case atStart => exact ⟨-1, by omega, by omega, rfl⟩
        case round =>
          obtain ⟨q, hq0, hq1, rfl⟩ := hrel
          by_cases hq : q ≤ 8
          · go_wp2_with (first | (go_at_call 37; refine (bkDead_calls _ _ _ _ _ _ hb5).mono ?_; rintro e w' ⟨rfl, rfl⟩) | (go_at_call 38; refine (rbDead_calls _ _ _ _ _ _ _ _ _ _ hr4).mono ?_; rintro e w' ⟨rfl, rfl⟩) | (go_at_call 39; refine (bkUntil_calls _ _ _ _ _ _ hb5).mono ?_; rintro e w' ⟨rfl, rfl⟩) | (go_at_call 40; refine (rbUntil_calls _ _ _ _ _ _ _ _ _ _ hr4).mono ?_; rintro e w' ⟨rfl, rfl⟩))
            go_round
            case rel => exact ⟨q + 1, by omega, by omega, rfl⟩
            case measure => simp [intOf]; omega
          · go_wp2_with fail
            go_roundw
            case rel => exact ⟨k + 1, by omega, by go_num, ⟨⟨_, _, _, hb5, hr4⟩, hB5, l1, l2, l3, l4, l5, n1, n2, n3, n4⟩⟩
            case measure => simp [intOf]; omega
      · -- nothing
        go_wp2_with fail
        go_loop [11] (fun j => ∃ q : Int, -1 ≤ q ∧ q ≤ 9 ∧ j = .int .i64 q) (fun j => (9 - intOf j).toNat)
        case atStart => exact ⟨-1, by omega, by omega, rfl⟩
        case round =>
          obtain ⟨q, hq0, hq1, rfl⟩ := hrel
          by_cases hq : q ≤ 8
          · go_wp2_with (first | (go_at_call 37; refine (bkDead_calls _ _ _ _ _ _ hb').mono ?_; rintro e w' ⟨rfl, rfl⟩) | (go_at_call 38; refine (rbDead_calls _ _ _ _ _ _ _ _ _ _ hr').mono ?_; rintro e w' ⟨rfl, rfl⟩) | (go_at_call 39; refine (bkUntil_calls _ _ _ _ _ _ hb').mono ?_; rintro e w' ⟨rfl, rfl⟩) | (go_at_call 40; refine (rbUntil_calls _ _ _ _ _ _ _ _ _ _ hr').mono ?_; rintro e w' ⟨rfl, rfl⟩))
            go_round
            case rel => exact ⟨q + 1, by omega, by omega, rfl⟩
            case measure => simp [intOf]; omega
          · go_wp2_with fail
            go_roundw
            case rel => exact ⟨k + 1, by omega, by go_num, ⟨⟨_, _, _, hb', hr'⟩, hB', l1, l2, l3, l4, l5, n1, n2, n3, n4⟩⟩
            case measure => simp [intOf]; omega
    · go_wp2
      go_ret
      exact ⟨rfl, hB⟩
end Go.Proofs.Ytdaapkbgfabmaaa
