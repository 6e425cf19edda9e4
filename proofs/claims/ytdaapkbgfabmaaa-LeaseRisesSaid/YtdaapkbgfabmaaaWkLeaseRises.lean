/- The walk of the law LeaseRises: a client's time never falls but by being forgiven; who is dead renews nothing; a renewal that comes twice is refused; no condition. -/
import Derived.Test.YtdaapkbgfabmaaaProg
import Derived.Test.YtdaapkbgfabmaaaRow
import Derived.Test.YtdaapkbgfabmaaaBook3
namespace Go.Proofs.Ytdaapkbgfabmaaa
open Go.RowKit
set_option linter.unusedVariables false
set_option linter.unusedSimpArgs false
attribute [local go_sem ↓] Go.wp_at_zero Go.wp_at_succ

theorem renew_ok {s : Nat → Int} {d : Nat → Bool} {c seq now len : Int} (h : renewE s d c seq now len = 0) :
    inC c = true ∧ 1 ≤ seq ∧ seq ≤ 1099511627776 ∧ 0 ≤ now ∧ now ≤ 1099511627776 ∧ 0 ≤ len ∧ len ≤ 1099511627776 ∧ d c.toNat = false ∧ s c.toNat < seq ∧ now + len ≤ 1099511627776 := by
  unfold renewE at h
  split at h; · omega
  split at h; · omega
  split at h; · omega
  split at h; · omega
  split at h; · omega
  split at h; · omega
  split at h; · omega
  split at h; · omega
  rename_i h1 h2 h3 h4 h5 h6 h7 h8
  have h4' : okT now = true := by simpa using h4
  have h5' : okT len = true := by simpa using h5
  simp [okT] at h4' h5'
  exact ⟨by simpa using h1, by omega, by omega, h4'.1, h4'.2, h5'.1, h5'.2, by simpa using h6, by omega, by omega⟩
theorem renew_twice {s : Nat → Int} {d : Nat → Bool} {c seq now len : Int} (h : renewE s d c seq now len = 0) : renewE (renewS s d c seq now len) d c seq now len = 5 := by
  obtain ⟨h1, h2, h3, h4, h5, h6, h7, h8, h9, h10⟩ := renew_ok h
  have e1 : okT now = true := by simp [okT]; omega
  have e2 : okT len = true := by simp [okT]; omega
  have e3 : renewS s d c seq now len c.toNat = seq := by simp [renewS, h, upd]
  unfold renewE
  rw [if_neg (by simp [h1]), if_neg (by omega), if_neg (by omega), if_neg (by simp [e1]), if_neg (by simp [e2]), if_neg (by simp [h8]), if_pos (by rw [e3]; exact Int.le_refl _)]
theorem renew_rises (u s : Nat → Int) (d : Nat → Bool) (c seq now len : Int) (m : Nat) (hm : m < 8) : untilV u m ≤ untilV (renewU u s d c seq now len) m := by
  have hi : inC (m : Int) = true := by simp [inC]; omega
  simp only [untilV, hi, Bool.true_eq_false, if_false, Int.toNat_natCast]
  unfold renewU
  split
  · unfold upd
    split
    · rename_i e; subst e; omega
    · exact Int.le_refl _
  · exact Int.le_refl _
theorem renew_ge {u s : Nat → Int} {d : Nat → Bool} {c seq now len : Int} (h : renewE s d c seq now len = 0) : now + len ≤ renewV u s d c seq now len := by
  simp only [renewV, h, if_true]
  omega
theorem dead_not_ok {s : Nat → Int} {d : Nat → Bool} {m : Nat} {seq now len : Int} (h : renewE s d m seq now len = 0) : deadV d m = false := by
  obtain ⟨h1, _, _, _, _, _, _, h8, _, _⟩ := renew_ok h
  simpa [deadV, h1] using h8
theorem sweep_dead (u : Nat → Int) (d : Nat → Bool) (now : Int) (m : Nat) (hm : m < 8) : deadV (swD u d now 8) m = (deadV d m || (decide (0 ≤ untilV u m) && decide (untilV u m < now))) := by
  have hi : inC (m : Int) = true := by simp [inC]; omega
  simp only [deadV, untilV, hi, Bool.true_eq_false, if_false, Int.toNat_natCast, swD, hm, true_and, swB]
  cases d m <;> simp
theorem forg_own (d : Nat → Bool) (m : Nat) : (forgE d m == 0) = deadV d m := by
  unfold forgE
  cases deadV d m <;> simp
theorem forg_until {u : Nat → Int} {d : Nat → Bool} {m : Nat} (h : deadV d m = true) : untilV (forgU u d m) m = -1 := by
  have hi : inC (m : Int) = true := by
    cases e : inC (m : Int)
    · simp [deadV, e] at h
    · rfl
  simp [untilV, hi, forgU, h, upd]

structure One (W wr : World) (b : Nat) : Prop where
  ex : ∃ u s d, Bk wr b u s d
  below : Below W.heap.size W wr
  l1 : W.heap.size ≤ b

set_option maxRecDepth 100000 in
set_option maxHeartbeats 4000000 in
theorem leaseRises_walk (W : World) (v0 : Value) (c0 : CellOk W (.sl [.int .i64, .int .i64, .int .i64, .int .i64, .int .i64]) v0)
    (a1 : Int) (w1 : (Lit.int .u8 a1).wf = true) :
    Calls Try.prog 10 #[v0, .int .u8 a1] W fun e w' => e = .returned (.bool true) ∧ Below W.heap.size W w' := by
  obtain ⟨n, f, hA, hf⟩ := c0.slA (by simp)
  obtain ⟨A, cap0, rfl, hn, hcap, hcell⟩ := hA.ex
  have hcap' : cap0 ≤ 9223372036854775807 := by unfold maxLen at hcap; omega
  have ha0 := (bd_u8 w1).1
  have ha1 := (bd_u8 w1).2
  clear hcap c0 hA w1
  by_cases h100 : 100 < n
  · have hi : (100 : Int) < (n : Int) := by omega
    go_enter Try.func10, Try.ntmps10
    go_wp2_with (go_at_call 27; refine (shown16_calls _).mono ?_; rintro e w' ⟨rfl, m⟩)
    go_ret
    exact ⟨rfl, m.below (Nat.le_refl _) (by simp)⟩
  have h5 : decide (100 < n) = false := by simpa using h100
  go_enter Try.func10, Try.ntmps10
  go_wp2_with fail
  refine (shown16_calls _).mono ?_
  rintro e w0 ⟨rfl, m0⟩
  go_wp2_with fail
  refine (bkNew_calls _).mono ?_
  rintro e w1 ⟨rfl, hb1, m1⟩
  have H0 : One W w1 w0.heap.size := ⟨⟨u0, s0, d0, hb1⟩, ((m0.trans m1).below (Nat.le_refl _) (by simp)), m0.size⟩
  generalize w0.heap.size = b at *
  clear m0 m1 hb1
  go_wp2_with fail
  obtain ⟨m, hm, hm8⟩ : ∃ m : Nat, a1 % 8 = m ∧ m < 8 := ⟨(a1 % 8).toNat, by omega, by omega⟩
  rw [hm]
  clear hm
  go_loopw [7] (fun i wr => ∃ k : Nat, k ≤ n ∧ i = .int .i64 k ∧ One W wr b) (fun i _ => n - (intOf i).toNat)
  case atStart => exact ⟨0, Nat.zero_le _, rfl, H0⟩
  case round =>
    obtain ⟨k, hkn, rfl, ⟨u, s, d, hb⟩, hB, l1⟩ := hrel
    clear H0
    by_cases hlt : k < n
    · obtain ⟨bl, off, rfl, hx⟩ := hcell (by omega)
      obtain ⟨x0, e0, q0⟩ := (hf k 0 _ hlt rfl).int_inv
      obtain ⟨x1, e1, q1⟩ := (hf k 1 _ hlt rfl).int_inv
      obtain ⟨x2, e2, q2⟩ := (hf k 2 _ hlt rfl).int_inv
      obtain ⟨x3, e3, q3⟩ := (hf k 3 _ hlt rfl).int_inv
      obtain ⟨x4, e4, q4⟩ := (hf k 4 _ hlt rfl).int_inv
      have y0 := hx k 0 hlt (by simp)
      have y1 := hx k 1 hlt (by simp)
      have y2 := hx k 2 hlt (by simp)
      have y3 := hx k 3 hlt (by simp)
      have y4 := hx k 4 hlt (by simp)
      rw [e0] at y0
      rw [e1] at y1
      rw [e2] at y2
      rw [e3] at y3
      rw [e4] at y4
      simp only [List.length_cons, List.length_nil, Nat.zero_add, Nat.reduceAdd, Nat.add_zero] at y0 y1 y2 y3 y4
      have hbl : bl < W.heap.size := World.block_lt_of_cell? W _ y0
      replace y0 := (hB.cell (p := ⟨bl, _, none⟩) hbl).trans y0
      replace y1 := (hB.cell (p := ⟨bl, _, none⟩) hbl).trans y1
      replace y2 := (hB.cell (p := ⟨bl, _, none⟩) hbl).trans y2
      replace y3 := (hB.cell (p := ⟨bl, _, none⟩) hbl).trans y3
      replace y4 := (hB.cell (p := ⟨bl, _, none⟩) hbl).trans y4
      clear hx e0 e1 e2 e3 e4 hf hcell
      have i0 : (0 : Int) ≤ (k : Int) := by omega
      have i1 : (k : Int) < (n : Int) := by omega
      have lb := hb.arr.lt
      have hsz := hB.size
      have o1 : wr.heap.size ∉ [b] := by simp; omega
      have hb' : Bk (wr.alloc (.cells #[.int .i64 x0, .int .i64 x1, .int .i64 x2, .int .i64 x3, .int .i64 x4] 57)) b u s d := hb.mod ((Mod.refl [] _).alloc _) (by simp)
      have hB' := hB.alloc hB.size (.cells #[.int .i64 x0, .int .i64 x1, .int .i64 x2, .int .i64 x3, .int .i64 x4] 57)
      have Z1 := Lib.hid (show (wr.alloc (.cells #[.int .i64 x0, .int .i64 x1, .int .i64 x2, .int .i64 x3, .int .i64 x4] 57)).cell? ⟨wr.heap.size, 1, none⟩ = some (.int .i64 x1) by simp)
      have Z2 := Lib.hid (show (wr.alloc (.cells #[.int .i64 x0, .int .i64 x1, .int .i64 x2, .int .i64 x3, .int .i64 x4] 57)).cell? ⟨wr.heap.size, 2, none⟩ = some (.int .i64 x2) by simp)
      have Z3 := Lib.hid (show (wr.alloc (.cells #[.int .i64 x0, .int .i64 x1, .int .i64 x2, .int .i64 x3, .int .i64 x4] 57)).cell? ⟨wr.heap.size, 3, none⟩ = some (.int .i64 x3) by simp)
      have Z4 := Lib.hid (show (wr.alloc (.cells #[.int .i64 x0, .int .i64 x1, .int .i64 x2, .int .i64 x3, .int .i64 x4] 57)).cell? ⟨wr.heap.size, 4, none⟩ = some (.int .i64 x4) by simp)
      have kinds : (x0 == 0) = true ∨ ((x0 == 0) = false ∧ (x0 == 1) = true) ∨ ((x0 == 0) = false ∧ (x0 == 1) = false ∧ (x0 == 2) = true) ∨ ((x0 == 0) = false ∧ (x0 == 1) = false ∧ (x0 == 2) = false) := by
        cases (x0 == 0) <;> cases (x0 == 1) <;> cases (x0 == 2) <;> simp
      rcases kinds with k0 | ⟨k0, k1⟩ | ⟨k0, k1, k2⟩ | ⟨k0, k1, k2⟩
      · -- renew
        have rise := renew_rises u s d x1 x2 x3 x4 m hm8
        by_cases hE : renewE s d x1 x2 x3 x4 = 0
        · obtain ⟨g1, g2, g3, g4, g5, g6, g7, g8, g9, g10⟩ := renew_ok hE
          have tw := Lib.hid (renew_twice hE)
          have ge := renew_ge (u := u) hE
          have hdd : (x1 == (m : Int)) = true → deadV d m = false := fun e => by
            have e' : x1 = m := by simpa using e
            rw [e'] at hE
            exact dead_not_ok hE
          have E := Lib.hid hE
          have vE := Lib.hid (show renewU (renewU u s d x1 x2 x3 x4) (renewS s d x1 x2 x3 x4) d x1 x2 x3 x4 = renewU u s d x1 x2 x3 x4 by simp [renewU, tw.out])
          clear hE g1 g8 g9
          by_cases hx1 : x1 = (m : Int)
          · subst hx1
            have hq2 := hdd (by simp)
            clear hdd
            go_wp2_with (first | (go_at_call 39; refine (bkUntil_calls _ _ _ _ _ _ hb').mono ?_; rintro e w' ⟨rfl, rfl⟩) | (go_at_call 37; refine (bkDead_calls _ _ _ _ _ _ hb').mono ?_; rintro e w' ⟨rfl, rfl⟩))
            refine (bkRenew_calls _ _ _ _ _ _ _ _ _ hb').mono ?_
            rintro e w3 ⟨rfl, hb3, m3⟩
            rw [E.out]
            have d1 := m3.cell' Z1.out o1
            have d2 := m3.cell' Z2.out o1
            have d3 := m3.cell' Z3.out o1
            have d4 := m3.cell' Z4.out o1
            have hB3 := below_mod hB' m3 hB'.size (by simp; omega)
            clear y0 y1 y2 y3 y4 hb hB hb' hB' m3
            go_wp2_with fail
            refine (bkRenew_calls _ _ _ _ _ _ _ _ _ hb3).mono ?_
            rintro e w4 ⟨rfl, hb4, m4⟩
            rw [tw.out]
            rw [vE.out] at hb4
            have hB4 := below_mod hB3 m4 hB3.size (by simp; omega)
            clear d1 d2 d3 d4 hb3 hB3 m4
            go_wp2_with (first | (go_at_call 39; refine (bkUntil_calls _ _ _ _ _ _ hb4).mono ?_; rintro e w' ⟨rfl, rfl⟩) | (go_at_call 37; refine (bkDead_calls _ _ _ _ _ _ hb4).mono ?_; rintro e w' ⟨rfl, rfl⟩))
            go_roundw
            case rel => exact ⟨k + 1, by omega, by go_num, ⟨⟨_, _, _, hb4⟩, hB4, l1⟩⟩
            case measure => simp [intOf]; omega
          · have hq1 : (x1 == (m : Int)) = false := by simpa using hx1
            clear hdd hx1
            go_wp2_with (first | (go_at_call 39; refine (bkUntil_calls _ _ _ _ _ _ hb').mono ?_; rintro e w' ⟨rfl, rfl⟩) | (go_at_call 37; refine (bkDead_calls _ _ _ _ _ _ hb').mono ?_; rintro e w' ⟨rfl, rfl⟩))
            refine (bkRenew_calls _ _ _ _ _ _ _ _ _ hb').mono ?_
            rintro e w3 ⟨rfl, hb3, m3⟩
            rw [E.out]
            have d1 := m3.cell' Z1.out o1
            have d2 := m3.cell' Z2.out o1
            have d3 := m3.cell' Z3.out o1
            have d4 := m3.cell' Z4.out o1
            have hB3 := below_mod hB' m3 hB'.size (by simp; omega)
            clear y0 y1 y2 y3 y4 hb hB hb' hB' m3
            go_wp2_with fail
            refine (bkRenew_calls _ _ _ _ _ _ _ _ _ hb3).mono ?_
            rintro e w4 ⟨rfl, hb4, m4⟩
            rw [tw.out]
            rw [vE.out] at hb4
            have hB4 := below_mod hB3 m4 hB3.size (by simp; omega)
            clear d1 d2 d3 d4 hb3 hB3 m4
            go_wp2_with (first | (go_at_call 39; refine (bkUntil_calls _ _ _ _ _ _ hb4).mono ?_; rintro e w' ⟨rfl, rfl⟩) | (go_at_call 37; refine (bkDead_calls _ _ _ _ _ _ hb4).mono ?_; rintro e w' ⟨rfl, rfl⟩))
            go_roundw
            case rel => exact ⟨k + 1, by omega, by go_num, ⟨⟨_, _, _, hb4⟩, hB4, l1⟩⟩
            case measure => simp [intOf]; omega
        · have hE' : (renewE s d x1 x2 x3 x4 == 0) = false := by simpa using hE
          clear hE
          by_cases hx1 : x1 = (m : Int)
          · subst hx1
            cases hdv : deadV d m
            all_goals
              go_wp2_with (first | (go_at_call 39; refine (bkUntil_calls _ _ _ _ _ _ hb').mono ?_; rintro e w' ⟨rfl, rfl⟩) | (go_at_call 37; refine (bkDead_calls _ _ _ _ _ _ hb').mono ?_; rintro e w' ⟨rfl, rfl⟩; (try rw [hdv])))
              refine (bkRenew_calls _ _ _ _ _ _ _ _ _ hb').mono ?_
              rintro e w3 ⟨rfl, hb3, m3⟩
              have d1 := m3.cell' Z1.out o1
              have d3 := m3.cell' Z3.out o1
              have d4 := m3.cell' Z4.out o1
              have hB3 := below_mod hB' m3 hB'.size (by simp; omega)
              clear y0 y1 y2 y3 y4 hb hB hb' hB' m3
              go_wp2_with (first | (go_at_call 39; refine (bkUntil_calls _ _ _ _ _ _ hb3).mono ?_; rintro e w' ⟨rfl, rfl⟩) | (go_at_call 37; refine (bkDead_calls _ _ _ _ _ _ hb3).mono ?_; rintro e w' ⟨rfl, rfl⟩; (try rw [hdv])))
              go_roundw
              case rel => exact ⟨k + 1, by omega, by go_num, ⟨⟨_, _, _, hb3⟩, hB3, l1⟩⟩
              case measure => simp [intOf]; omega
          · have hq1 : (x1 == (m : Int)) = false := by simpa using hx1
            clear hx1
            have hdv : True := trivial
            go_wp2_with (first | (go_at_call 39; refine (bkUntil_calls _ _ _ _ _ _ hb').mono ?_; rintro e w' ⟨rfl, rfl⟩) | (go_at_call 37; refine (bkDead_calls _ _ _ _ _ _ hb').mono ?_; rintro e w' ⟨rfl, rfl⟩; (try rw [hdv])))
            refine (bkRenew_calls _ _ _ _ _ _ _ _ _ hb').mono ?_
            rintro e w3 ⟨rfl, hb3, m3⟩
            have d1 := m3.cell' Z1.out o1
            have d3 := m3.cell' Z3.out o1
            have d4 := m3.cell' Z4.out o1
            have hB3 := below_mod hB' m3 hB'.size (by simp; omega)
            clear y0 y1 y2 y3 y4 hb hB hb' hB' m3
            go_wp2_with (first | (go_at_call 39; refine (bkUntil_calls _ _ _ _ _ _ hb3).mono ?_; rintro e w' ⟨rfl, rfl⟩) | (go_at_call 37; refine (bkDead_calls _ _ _ _ _ _ hb3).mono ?_; rintro e w' ⟨rfl, rfl⟩; (try rw [hdv])))
            go_roundw
            case rel => exact ⟨k + 1, by omega, by go_num, ⟨⟨_, _, _, hb3⟩, hB3, l1⟩⟩
            case measure => simp [intOf]; omega
      · -- sweep
        have sd := sweep_dead u d x3 m hm8
        go_wp2_with (first | (go_at_call 39; refine (bkUntil_calls _ _ _ _ _ _ hb').mono ?_; rintro e w' ⟨rfl, rfl⟩) | (go_at_call 37; refine (bkDead_calls _ _ _ _ _ _ hb').mono ?_; rintro e w' ⟨rfl, rfl⟩))
        refine (bkSweep_calls _ _ _ _ _ _ hb').mono ?_
        rintro e w3 ⟨v3, rfl, s3, hb3, m3⟩
        have d3 := m3.cell' Z3.out o1
        have hB3 := below_mod hB' m3 hB'.size (by simp; omega)
        clear y0 y1 y2 y3 y4 hb hB hb' hB' m3 s3
        go_wp2_with (first | (go_at_call 39; refine (bkUntil_calls _ _ _ _ _ _ hb3).mono ?_; rintro e w' ⟨rfl, rfl⟩) | (go_at_call 37; refine (bkDead_calls _ _ _ _ _ _ hb3).mono ?_; rintro e w' ⟨rfl, rfl⟩))
        all_goals
          go_roundw
          case rel => exact ⟨k + 1, by omega, by go_num, ⟨⟨_, _, _, hb3⟩, hB3, l1⟩⟩
          case measure => simp [intOf]; omega
      · -- forgive
        by_cases hx1 : x1 = (m : Int)
        · subst hx1
          have fo := forg_own d m
          cases hdv : deadV d m
          · rw [hdv] at fo
            go_wp2_with (first | (go_at_call 39; refine (bkUntil_calls _ _ _ _ _ _ hb').mono ?_; rintro e w' ⟨rfl, rfl⟩) | (go_at_call 37; refine (bkDead_calls _ _ _ _ _ _ hb').mono ?_; rintro e w' ⟨rfl, rfl⟩; rw [hdv]))
            refine (bkForgive_calls _ _ _ _ _ _ hb').mono ?_
            rintro e w3 ⟨rfl, hb3, m3⟩
            have d1 := m3.cell' Z1.out o1
            have hB3 := below_mod hB' m3 hB'.size (by simp; omega)
            clear y0 y1 y2 y3 y4 hb hB hb' hB' m3
            go_wp2_with fail
            go_roundw
            case rel => exact ⟨k + 1, by omega, by go_num, ⟨⟨_, _, _, hb3⟩, hB3, l1⟩⟩
            case measure => simp [intOf]; omega
          · rw [hdv] at fo
            have FU := forg_until (u := u) (d := d) (m := m) hdv
            go_wp2_with (first | (go_at_call 39; refine (bkUntil_calls _ _ _ _ _ _ hb').mono ?_; rintro e w' ⟨rfl, rfl⟩) | (go_at_call 37; refine (bkDead_calls _ _ _ _ _ _ hb').mono ?_; rintro e w' ⟨rfl, rfl⟩; rw [hdv]))
            refine (bkForgive_calls _ _ _ _ _ _ hb').mono ?_
            rintro e w3 ⟨rfl, hb3, m3⟩
            have d1 := m3.cell' Z1.out o1
            have hB3 := below_mod hB' m3 hB'.size (by simp; omega)
            clear y0 y1 y2 y3 y4 hb hB hb' hB' m3
            go_wp2_with (go_at_call 39; refine (bkUntil_calls _ _ _ _ _ _ hb3).mono ?_; rintro e w' ⟨rfl, rfl⟩)
            go_roundw
            case rel => exact ⟨k + 1, by omega, by go_num, ⟨⟨_, _, _, hb3⟩, hB3, l1⟩⟩
            case measure => simp [intOf]; omega
        · have hq1 : (x1 == (m : Int)) = false := by simpa using hx1
          clear hx1
          go_wp2_with (first | (go_at_call 39; refine (bkUntil_calls _ _ _ _ _ _ hb').mono ?_; rintro e w' ⟨rfl, rfl⟩) | (go_at_call 37; refine (bkDead_calls _ _ _ _ _ _ hb').mono ?_; rintro e w' ⟨rfl, rfl⟩; (try rw [hdv])))
          refine (bkForgive_calls _ _ _ _ _ _ hb').mono ?_
          rintro e w3 ⟨rfl, hb3, m3⟩
          have d1 := m3.cell' Z1.out o1
          have hB3 := below_mod hB' m3 hB'.size (by simp; omega)
          clear y0 y1 y2 y3 y4 hb hB hb' hB' m3
          go_wp2_with fail
          go_roundw
          case rel => exact ⟨k + 1, by omega, by go_num, ⟨⟨_, _, _, hb3⟩, hB3, l1⟩⟩
          case measure => simp [intOf]; omega
      · -- nothing
        go_wp2_with (first | (go_at_call 39; refine (bkUntil_calls _ _ _ _ _ _ hb').mono ?_; rintro e w' ⟨rfl, rfl⟩) | (go_at_call 37; refine (bkDead_calls _ _ _ _ _ _ hb').mono ?_; rintro e w' ⟨rfl, rfl⟩))
        go_roundw
        case rel => exact ⟨k + 1, by omega, by go_num, ⟨⟨_, _, _, hb'⟩, hB', l1⟩⟩
        case measure => simp [intOf]; omega
    · go_wp2
      go_ret
      exact ⟨rfl, hB⟩
end Go.Proofs.Ytdaapkbgfabmaaa
