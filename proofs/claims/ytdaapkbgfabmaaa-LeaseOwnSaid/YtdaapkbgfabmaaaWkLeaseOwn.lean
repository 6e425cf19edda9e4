/- The walk of the law LeaseOwn: whatever a client asks, gets and loses, its side answers, and has, what the document says; no condition. -/
import Derived.Test.YtdaapkbgfabmaaaProg
import Derived.Test.YtdaapkbgfabmaaaRow
import Derived.Test.YtdaapkbgfabmaaaOwnJ
import Derived.Test.YtdaapkbgfabmaaaBook3
namespace Go.Proofs.Ytdaapkbgfabmaaa
open Go.RowKit
set_option linter.unusedVariables false
set_option linter.unusedSimpArgs false
attribute [local go_sem ↓] Go.wp_at_zero Go.wp_at_succ

structure OneJ (W w : World) (b p q r N0 : Nat) (num slack : Int) : Prop where
  ex : ∃ a last got till, J w b p q r N0 num slack a last got till
  below : Below W.heap.size W w
  l1 : W.heap.size ≤ b
  l2 : W.heap.size ≤ r
theorem jTill {w : World} {b p q r N0 : Nat} {num slack : Int} {a : Nat → Int} {last got till : Int} (h : J w b p q r N0 num slack a last got till) : w.cell? ⟨r, 4, none⟩ = some (.int .i64 till) := by
  obtain ⟨v, h1, _⟩ := h.ref.ex
  exact h1.cell 4 (by omega)
set_option maxRecDepth 100000 in
set_option maxHeartbeats 1500000 in
theorem leaseOwn_walk (W : World) (a0 : Int) (w0 : (Lit.int .i64 a0).wf = true)
    (a1 : Int) (w1 : (Lit.int .i64 a1).wf = true)
    (v2 : Value) (c2 : CellOk W (.sl [.int .i64, .int .i64, .int .i64, .int .i64, .int .i64]) v2) :
    Calls Try.prog 11 #[.int .i64 a0, .int .i64 a1, v2] W fun e w' => e = .returned (.bool true) ∧ Below W.heap.size W w' := by
  obtain ⟨n, f, hA, hf⟩ := c2.slA (by simp)
  obtain ⟨A, cap0, rfl, hn, hcap, hcell⟩ := hA.ex
  have hcap' : cap0 ≤ 9223372036854775807 := by unfold maxLen at hcap; omega
  clear hcap c2 hA w0 w1
  by_cases h200 : 200 < n
  · have hi : (200 : Int) < (n : Int) := by omega
    go_enter Try.func11, Try.ntmps11
    go_wp2_with (go_at_call 27; refine (shown16_calls _).mono ?_; rintro e w' ⟨rfl, m⟩)
    go_ret
    exact ⟨rfl, m.below (Nat.le_refl _) (by simp)⟩
  have h5 : decide (200 < n) = false := by simpa using h200
  go_enter Try.func11, Try.ntmps11
  go_wp2_with fail
  refine (shown16_calls _).mono ?_
  rintro e w0 ⟨rfl, m0⟩
  go_wp2_with fail
  refine (owNew_calls _ a0 a1).mono ?_
  rintro e w1 ⟨rfl, hb1, m1⟩
  go_wp2_with fail
  refine (roNew_calls _ a0 a1 (sV 0 0) (gV (fun _ => 0) 0 0)).mono ?_
  rintro e w2 ⟨rfl, hr2, m2⟩
  have s0 := m0.size
  have s1 := m1.size
  have lb := hb1.arr.lt
  have lp := hb1.cp.lt
  have lq := hb1.cq.lt
  have H0 : OneJ W w2 (w0.heap.size + 1 + 1) w0.heap.size (w0.heap.size + 1) w1.heap.size (w1.heap.size + 1) a0 a1 :=
    ⟨⟨_, _, _, _, ⟨hb1.mod m2 (by simp) (by simp) (by simp), by rw [show nV 0 0 = 0 from nV_self 0]; exact hr2, by omega, by omega, by omega, by omega⟩⟩, ((m0.trans m1).trans m2).below (Nat.le_refl _) (by simp), by omega, by omega⟩
  obtain ⟨a', l', g', t', hJ'⟩ := H0.ex
  go_wp2_with fail
  refine (owTill_calls _ _ _ _ _ _ _ _ _ _ (hb1.mod m2 (by simp) (by simp) (by simp))).mono ?_
  rintro e w3 ⟨rfl, rfl⟩
  generalize w0.heap.size + 1 + 1 = b at *
  generalize w0.heap.size + 1 = q at *
  generalize w0.heap.size = p at *
  generalize w1.heap.size + 1 = N0 at *
  generalize w1.heap.size = r at *
  clear m0 m1 m2 hb1 hr2 hJ'
  go_wp2
  go_loopw [9] (fun i wr => ∃ k : Nat, k ≤ n ∧ i = .int .i64 k ∧ OneJ W wr b p q r N0 a0 a1) (fun i _ => n - (intOf i).toNat)
  case atStart => exact ⟨0, Nat.zero_le _, rfl, H0⟩
  case round =>
    obtain ⟨k, hkn, rfl, ⟨a, last, got, till, hJ⟩, hB, l1, l2⟩ := hrel
    clear H0
    by_cases hlt : k < n
    · obtain ⟨bl, off, rfl, hx⟩ := hcell (by omega)
      obtain ⟨x0, e0, q0⟩ := (hf k 0 _ hlt rfl).int_inv
      obtain ⟨x1, e1, q1⟩ := (hf k 1 _ hlt rfl).int_inv
      obtain ⟨x2, e2, q2⟩ := (hf k 2 _ hlt rfl).int_inv
      obtain ⟨x3, e3, q3⟩ := (hf k 3 _ hlt rfl).int_inv
      obtain ⟨x4, e4, q4⟩ := (hf k 4 _ hlt rfl).int_inv
      have y0 := hx k 0 hlt (by simp)
      have y1 := hx k 1 hlt (by simp)
      have y2 := hx k 2 hlt (by simp)
      have y3 := hx k 3 hlt (by simp)
      have y4 := hx k 4 hlt (by simp)
      rw [e0] at y0
      rw [e1] at y1
      rw [e2] at y2
      rw [e3] at y3
      rw [e4] at y4
      simp only [List.length_cons, List.length_nil, Nat.zero_add, Nat.reduceAdd, Nat.add_zero] at y0 y1 y2 y3 y4
      have hbl : bl < W.heap.size := World.block_lt_of_cell? W _ y0
      replace y0 := (hB.cell (p := ⟨bl, _, none⟩) hbl).trans y0
      replace y1 := (hB.cell (p := ⟨bl, _, none⟩) hbl).trans y1
      replace y2 := (hB.cell (p := ⟨bl, _, none⟩) hbl).trans y2
      replace y3 := (hB.cell (p := ⟨bl, _, none⟩) hbl).trans y3
      replace y4 := (hB.cell (p := ⟨bl, _, none⟩) hbl).trans y4
      clear hx e0 e1 e2 e3 e4 hf hcell q0 q1 q2 q3 q4
      have i0 : (0 : Int) ≤ (k : Int) := by omega
      have i1 : (k : Int) < (n : Int) := by omega
      have lbw := hJ.own.arr.lt
      have lrw := hJ.ref.lt
      have ob : wr.heap.size ∉ [b] := by simp; omega
      have orr : wr.heap.size ∉ [r] := by simp; omega
      have hJ' := hJ.mod0 ((Mod.refl [] _).alloc (.cells #[.int .i64 x0, .int .i64 x1, .int .i64 x2, .int .i64 x3, .int .i64 x4] 57))
      have hB' := hB.alloc hB.size (.cells #[.int .i64 x0, .int .i64 x1, .int .i64 x2, .int .i64 x3, .int .i64 x4] 57)
      have Y2 := Lib.hid (show (wr.alloc (.cells #[.int .i64 x0, .int .i64 x1, .int .i64 x2, .int .i64 x3, .int .i64 x4] 57)).cell? ⟨wr.heap.size, 2, none⟩ = some (.int .i64 x2) by simp)
      have Y3 := Lib.hid (show (wr.alloc (.cells #[.int .i64 x0, .int .i64 x1, .int .i64 x2, .int .i64 x3, .int .i64 x4] 57)).cell? ⟨wr.heap.size, 3, none⟩ = some (.int .i64 x3) by simp)
      have Y4 := Lib.hid (show (wr.alloc (.cells #[.int .i64 x0, .int .i64 x1, .int .i64 x2, .int .i64 x3, .int .i64 x4] 57)).cell? ⟨wr.heap.size, 4, none⟩ = some (.int .i64 x4) by simp)
      have hS : ∀ x, x ∈ [b] → W.heap.size ≤ x := by simp; omega
      have hSr : ∀ x, x ∈ [r] → W.heap.size ≤ x := by simp; omega
      have kinds : (x0 == 0) = true ∨ ((x0 == 0) = false ∧ (x0 == 1) = true) ∨ ((x0 == 0) = false ∧ (x0 == 1) = false ∧ (x0 == 2) = true) ∨ ((x0 == 0) = false ∧ (x0 == 1) = false ∧ (x0 == 2) = false) := by
        cases (x0 == 0) <;> cases (x0 == 1) <;> cases (x0 == 2) <;> simp
      rcases kinds with k0 | ⟨k0, k1⟩ | ⟨k0, k1, k2⟩ | ⟨k0, k1, k2⟩
      · -- ask
        go_wp2_with fail
        refine (jAsk1 _ _ _ _ _ _ _ _ _ _ _ _ x3 hJ').mono ?_
        rintro e w3 ⟨rfl, o3, r3, m3⟩
        have d3 := m3.cell' Y3.out ob
        have hB3 := below_mod hB' m3 hB'.size hS
        go_wp2_with fail
        refine (jAsk2 _ _ _ _ _ _ _ _ _ _ _ _ x3 o3 r3 hJ.lb hJ.rb hJ.rp hJ.rq hJ.own.l0 hJ.own.l1 hJ.own.g0 hJ.own.g1).mono ?_
        rintro e w4 ⟨rfl, hJ4, m4⟩
        have d4 := m4.cell' d3 orr
        have hB4 := below_mod hB3 m4 hB3.size hSr
        clear y0 y1 y2 y3 y4 hJ hB hJ' hB' o3 r3 m3 m4 d3 hB3
        have Z := jTill hJ4
        have y3d : (w4.drew).cell? ⟨wr.heap.size, 3, none⟩ = some (.int .i64 x3) := d4
        have Zd : (w4.drew).cell? ⟨r, 4, none⟩ = some (.int .i64 till) := Z
        have q1 := Lib.hid (owTill_calls w4.drew b p q a0 a1 _ _ _ till hJ4.own.drew)
        have q2 := Lib.hid (owGood_calls w4.drew b p q a0 a1 _ _ _ till x3 hJ4.own.drew)
        have q3 := Lib.hid (roGood_calls w4.drew r N0 a0 a1 _ _ _ _ till x3 (hJ4.ref.mod0 ((Mod.refl [] _).drew)))
        go_wp2_with fail
        go_region_held3 (fun w' => w'.cell? ⟨wr.heap.size, 3, none⟩ = some (.int .i64 x3) ∧ w'.cell? ⟨r, 4, none⟩ = some (.int .i64 till))
          (first | exact ⟨y3d, Zd⟩ | go_keep)
          (first | (go_at_call 43; refine q1.out.mono ?_; rintro e w9 ⟨rfl, rfl⟩) | (go_at_call 50; refine q2.out.mono ?_; rintro e w9 ⟨rfl, rfl⟩) | (go_at_call 51; refine q3.out.mono ?_; rintro e w9 ⟨rfl, rfl⟩))
        go_wp2
        go_roundw
        case rel => exact ⟨k + 1, by omega, by go_num, ⟨⟨_, _, _, _, hJ4.mod0 ((Mod.refl [] _).drew)⟩, hB4.drew, l1, l2⟩⟩
        case measure => simp [intOf]; omega
      · -- got
        have J0 := hJ'.mod0 ((Mod.refl [] _).drew)
        have Y2d : ((wr.alloc (.cells #[.int .i64 x0, .int .i64 x1, .int .i64 x2, .int .i64 x3, .int .i64 x4] 57)).drew).cell? ⟨wr.heap.size, 2, none⟩ = some (.int .i64 x2) := Y2.out
        have Y3d : ((wr.alloc (.cells #[.int .i64 x0, .int .i64 x1, .int .i64 x2, .int .i64 x3, .int .i64 x4] 57)).drew).cell? ⟨wr.heap.size, 3, none⟩ = some (.int .i64 x3) := Y3.out
        have Y4d : ((wr.alloc (.cells #[.int .i64 x0, .int .i64 x1, .int .i64 x2, .int .i64 x3, .int .i64 x4] 57)).drew).cell? ⟨wr.heap.size, 4, none⟩ = some (.int .i64 x4) := Y4.out
        have Q1 := Lib.hid (jGot1 _ _ _ _ _ _ _ _ _ _ _ _ x2 x4 J0)
        have G0 := hJ.own.g0
        have G1 := hJ.own.g1
        have T0 := hJ.own.t0
        have T1 := hJ.own.t1
        have hBd := hB'.drew
        clear hJ' J0
        go_wp2_with fail
        clear y0 y1 y2 y3 y4
        go_region_held3 (fun w' => w'.cell? ⟨wr.heap.size, 2, none⟩ = some (.int .i64 x2) ∧ w'.cell? ⟨wr.heap.size, 4, none⟩ = some (.int .i64 x4))
          (first | exact ⟨d24, d44⟩ | exact ⟨d23, d43⟩ | exact ⟨Y2d, Y4d⟩ | go_keep)
          (first
            | (go_at_call 46; refine Q1.out.mono ?_; rintro e w3 ⟨rfl, o3, r3, m3⟩; have d23 := m3.cell' Y2d ob; have d33 := m3.cell' Y3d ob; have d43 := m3.cell' Y4d ob)
            | (go_at_call 47; refine (jGot2 _ _ _ _ _ _ _ _ _ _ _ _ x2 x4 o3 r3 hJ.lb hJ.rb hJ.rp hJ.rq G0 G1 T0 T1).mono ?_; rintro e w4 ⟨rfl, hJ4, m4⟩; have d24 := m4.cell' d23 orr; have d34 := m4.cell' d33 orr; have d44 := m4.cell' d43 orr))
        have hB3 := below_mod hBd m3 hBd.size hS
        have hB4 := below_mod hB3 m4 hB3.size hSr
        clear hJ hB hB' o3 r3 m3 m4 d23 d33 d43 hB3 hBd
        have Z := jTill hJ4
        have y3d : (w4.drew).cell? ⟨wr.heap.size, 3, none⟩ = some (.int .i64 x3) := d34
        have Zd : (w4.drew).cell? ⟨r, 4, none⟩ = some (.int .i64 (gotT a last got till x2 x4 a0 a1)) := Z
        have q1 := Lib.hid (owTill_calls w4.drew b p q a0 a1 _ _ _ (gotT a last got till x2 x4 a0 a1) hJ4.own.drew)
        have q2 := Lib.hid (owGood_calls w4.drew b p q a0 a1 _ _ _ (gotT a last got till x2 x4 a0 a1) x3 hJ4.own.drew)
        have q3 := Lib.hid (roGood_calls w4.drew r N0 a0 a1 _ _ _ _ (gotT a last got till x2 x4 a0 a1) x3 (hJ4.ref.mod0 ((Mod.refl [] _).drew)))
        go_wp2_with fail
        go_region_held3 (fun w' => w'.cell? ⟨wr.heap.size, 3, none⟩ = some (.int .i64 x3) ∧ w'.cell? ⟨r, 4, none⟩ = some (.int .i64 (gotT a last got till x2 x4 a0 a1)))
          (first | exact ⟨y3d, Zd⟩ | go_keep)
          (first | (go_at_call 43; refine q1.out.mono ?_; rintro e w9 ⟨rfl, rfl⟩) | (go_at_call 50; refine q2.out.mono ?_; rintro e w9 ⟨rfl, rfl⟩) | (go_at_call 51; refine q3.out.mono ?_; rintro e w9 ⟨rfl, rfl⟩))
        go_wp2
        go_roundw
        case rel => exact ⟨k + 1, by omega, by go_num, ⟨⟨_, _, _, _, hJ4.mod0 ((Mod.refl [] _).drew)⟩, hB4.drew, l1, l2⟩⟩
        case measure => simp [intOf]; omega
      · -- lose
        go_wp2_with fail
        refine (jLose1 _ _ _ _ _ _ _ _ _ _ _ _ hJ').mono ?_
        rintro e w3 ⟨rfl, o3, r3, m3⟩
        have d3 := m3.cell' Y3.out ob
        have hB3 := below_mod hB' m3 hB'.size hS
        go_wp2_with fail
        refine (jLose2 _ _ _ _ _ _ _ _ _ _ _ _ o3 r3 hJ.lb hJ.rb hJ.rp hJ.rq).mono ?_
        rintro e w4 ⟨rfl, hJ4, m4⟩
        have d4 := m4.cell' d3 orr
        have hB4 := below_mod hB3 m4 hB3.size hSr
        clear y0 y1 y2 y3 y4 hJ hB hJ' hB' o3 r3 m3 m4 d3 hB3
        have Z := jTill hJ4
        have y3d : (w4.drew).cell? ⟨wr.heap.size, 3, none⟩ = some (.int .i64 x3) := d4
        have Zd : (w4.drew).cell? ⟨r, 4, none⟩ = some (.int .i64 (-1)) := Z
        have q1 := Lib.hid (owTill_calls w4.drew b p q a0 a1 _ _ _ (-1) hJ4.own.drew)
        have q2 := Lib.hid (owGood_calls w4.drew b p q a0 a1 _ _ _ (-1) x3 hJ4.own.drew)
        have q3 := Lib.hid (roGood_calls w4.drew r N0 a0 a1 _ _ _ _ (-1) x3 (hJ4.ref.mod0 ((Mod.refl [] _).drew)))
        go_wp2_with fail
        go_region_held3 (fun w' => w'.cell? ⟨wr.heap.size, 3, none⟩ = some (.int .i64 x3) ∧ w'.cell? ⟨r, 4, none⟩ = some (.int .i64 (-1)))
          (first | exact ⟨y3d, Zd⟩ | go_keep)
          (first | (go_at_call 43; refine q1.out.mono ?_; rintro e w9 ⟨rfl, rfl⟩) | (go_at_call 50; refine q2.out.mono ?_; rintro e w9 ⟨rfl, rfl⟩) | (go_at_call 51; refine q3.out.mono ?_; rintro e w9 ⟨rfl, rfl⟩))
        go_wp2
        go_roundw
        case rel => exact ⟨k + 1, by omega, by go_num, ⟨⟨_, _, _, _, hJ4.mod0 ((Mod.refl [] _).drew)⟩, hB4.drew, l1, l2⟩⟩
        case measure => simp [intOf]; omega
      · -- nothing
        have Z := jTill hJ'
        have y3d : ((wr.alloc (.cells #[.int .i64 x0, .int .i64 x1, .int .i64 x2, .int .i64 x3, .int .i64 x4] 57)).drew).cell? ⟨wr.heap.size, 3, none⟩ = some (.int .i64 x3) := Y3.out
        have Zd : ((wr.alloc (.cells #[.int .i64 x0, .int .i64 x1, .int .i64 x2, .int .i64 x3, .int .i64 x4] 57)).drew).cell? ⟨r, 4, none⟩ = some (.int .i64 (till)) := Z
        have q1 := Lib.hid (owTill_calls (wr.alloc (.cells #[.int .i64 x0, .int .i64 x1, .int .i64 x2, .int .i64 x3, .int .i64 x4] 57)).drew b p q a0 a1 _ _ _ (till) hJ'.own.drew)
        have q2 := Lib.hid (owGood_calls (wr.alloc (.cells #[.int .i64 x0, .int .i64 x1, .int .i64 x2, .int .i64 x3, .int .i64 x4] 57)).drew b p q a0 a1 _ _ _ (till) x3 hJ'.own.drew)
        have q3 := Lib.hid (roGood_calls (wr.alloc (.cells #[.int .i64 x0, .int .i64 x1, .int .i64 x2, .int .i64 x3, .int .i64 x4] 57)).drew r N0 a0 a1 _ _ _ _ (till) x3 (hJ'.ref.mod0 ((Mod.refl [] _).drew)))
        go_wp2_with fail
        go_region_held3 (fun w' => w'.cell? ⟨wr.heap.size, 3, none⟩ = some (.int .i64 x3) ∧ w'.cell? ⟨r, 4, none⟩ = some (.int .i64 (till)))
          (first | exact ⟨y3d, Zd⟩ | go_keep)
          (first | (go_at_call 43; refine q1.out.mono ?_; rintro e w9 ⟨rfl, rfl⟩) | (go_at_call 50; refine q2.out.mono ?_; rintro e w9 ⟨rfl, rfl⟩) | (go_at_call 51; refine q3.out.mono ?_; rintro e w9 ⟨rfl, rfl⟩))
        go_wp2
        go_roundw
        case rel => exact ⟨k + 1, by omega, by go_num, ⟨⟨_, _, _, _, hJ'.mod0 ((Mod.refl [] _).drew)⟩, hB'.drew, l1, l2⟩⟩
        case measure => simp [intOf]; omega
    · go_wp2
      go_ret
      exact ⟨rfl, hB⟩
end Go.Proofs.Ytdaapkbgfabmaaa
