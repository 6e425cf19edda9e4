/- The walk of the law LeaseSafe: in a fair history, whatever is lost and however late it comes: a client whose lease is good is not dead, and has a time in the book that is not over; no condition. -/
import Derived.Test.YtdaapkbgfabmaaaSafeM
import Derived.Test.YtdaapkbgfabmaaaBook3
import Derived.BigRegion
import Derived.Deep.DeepCutAuto
namespace Go.Proofs.Ytdaapkbgfabmaaa
open Go.RowKit
set_option linter.unusedVariables false
set_option linter.unusedSimpArgs false
attribute [local go_sem ↓] Go.wp_at_zero Go.wp_at_succ

theorem lsi_new {x : Nat → Nat → Int} {num slack len : Int} {w1 w2 w3 : World} {bB b p q : Nat} (hb : Bk w2 bB u0 s0 d0) (m1 : Mod [] w1 w2) (l0 : w1.heap.size ≤ bB) (ho : Ow w3 b p q num slack (fun _ => 0) 0 0 (-1)) (m2 : Mod [] w2 w3) (l1 : w2.heap.size ≤ b) :
    LSI x num slack len w1 w3.heap.size bB b p q 0 0 0 0 (.slice (some ⟨w3.heap.size, 0, none⟩) 0 0) (w3.alloc (.cells #[] 3)) := by
  have m3 : Mod [] w3 (w3.alloc (.cells #[] 3)) := (Mod.refl [] w3).alloc _
  have z1 := m1.size
  have z2 := m2.size
  have z3 := m3.size
  have g1 := hb.arr.lt
  have g2 := ho.arr.lt
  have g3 := ho.cp.lt
  have g4 := ho.cq.lt
  refine ⟨_, _, _, _, _, _, _, [], ⟨(hb.mod m2 (by simp)).mod m3 (by simp), ho.mod m3 (by simp) (by simp) (by simp), ?_, (m1.trans m2).trans m3, l0, by omega, by omega, by omega, by omega, by omega, by omega, z3⟩, LS.new x num slack len, Nat.le_refl _⟩
  exact ⟨by simp [nums], .inr ⟨w3.heap.size, 0, #[], rfl, Nat.le_refl _, World.alloc_heap_new _ _, Nat.le_refl _, Nat.zero_le _, rfl, rfl⟩⟩

set_option maxRecDepth 100000 in
set_option maxHeartbeats 8000000 in
theorem leaseSafe_walk (W : World) (v0 : Value) (c0 : CellOk W (.sl [.int .u8, .int .u8]) v0)
    (v1 : Value) (c1 : CellOk W (.sl [.bool, .bool, .bool, .int .u8, .int .u8]) v1)
    (a2 : Int) (w2 : (Lit.int .u8 a2).wf = true)
    (a3 : Int) (w3 : (Lit.int .u8 a3).wf = true)
    (a4 : Int) (w4 : (Lit.int .u16 a4).wf = true) :
    Calls Try.prog 13 #[v0, v1, .int .u8 a2, .int .u8 a3, .int .u16 a4] W fun e w' => e = .returned (.bool true) ∧ Below W.heap.size W w' := by
  obtain ⟨n, f, hA, hf⟩ := c0.slA (by simp)
  obtain ⟨A, cap0, rfl, hn, hcap, hcell⟩ := hA.ex
  have hcap' : cap0 ≤ 9223372036854775807 := by unfold maxLen at hcap; omega
  obtain ⟨n2, f2, hA2, hf2⟩ := c1.slA (by simp)
  obtain ⟨A2, cap2, rfl, hn2, hcap2, hcell2⟩ := hA2.ex
  have hcap2' : cap2 ≤ 9223372036854775807 := by unfold maxLen at hcap2; omega
  obtain ⟨b20, b21⟩ := bd_u8 w2
  obtain ⟨b30, b31⟩ := bd_u8 w3
  obtain ⟨b40, b41⟩ := bd_u16 w4
  clear hcap hcap2 c0 c1 hA hA2 w2 w3 w4
  by_cases h30 : 30 < n
  · have hi : (30 : Int) < (n : Int) := by omega
    go_enter Try.func13, Try.ntmps13
    go_wp2_with (go_at_call 27; refine (shown16_calls _).mono ?_; rintro e w' ⟨rfl, m⟩)
    go_ret
    exact ⟨rfl, m.below (Nat.le_refl _) (by simp)⟩
  have h5 : decide (30 < n) = false := by simpa using h30
  obtain ⟨x, hwy⟩ : ∃ x : Nat → Nat → Int, ∀ i, i < n → ∀ j, j < 2 → f i j = .int .u8 (x i j) ∧ 0 ≤ x i j ∧ x i j ≤ 255 := by
    refine ⟨fun i j => match f i j with | .int _ z => z | _ => 0, fun i hi j hj => ?_⟩
    obtain ⟨z, e, q⟩ := (match j, hj with
      | 0, _ => (hf i 0 _ hi rfl).int_inv
      | 1, _ => (hf i 1 _ hi rfl).int_inv : ∃ z, f i j = .int .u8 z ∧ (Lit.int .u8 z).wf = true)
    have hh := bd_u8 q
    simp only [e]
    first | exact hh | exact ⟨trivial, hh⟩
  have Hwy := Lib.hid hwy
  go_enter Try.func13, Try.ntmps13
  go_wp2_with fail
  refine (shown16_calls _).mono ?_
  rintro e z0 ⟨rfl, m0⟩
  have R0 : RowsB z0.heap.size (z0.alloc (.cells #[] 31)) (.slice (some ⟨z0.heap.size, 0, none⟩) 0 0) 0 x :=
    ⟨[], ⟨by simp, .inr ⟨z0.heap.size, 0, #[], rfl, Nat.le_refl _, World.alloc_heap_new _ _, Nat.le_refl _, Nat.zero_le _, rfl, rfl⟩⟩, fun i hi => absurd hi (by omega)⟩
  have M0 : Mod [] W (z0.alloc (.cells #[] 31)) := m0.alloc _
  have HR0 := Lib.hid R0
  have HM0 := Lib.hid M0
  have hz0 : W.heap.size ≤ z0.heap.size := m0.size
  clear hwy hf R0 M0 m0
  go_wp2
  go_loopw [11, 12, 13] (fun v i _ wr => ∃ k : Nat, k ≤ n ∧ i = .int .i64 k ∧ RowsB z0.heap.size wr v k x ∧ Mod [] W wr ∧ z0.heap.size ≤ wr.heap.size ∧ ∃ A c, v = .slice A k c) (fun _ i _ _ => n - (intOf i).toNat)
  case atStart => exact ⟨0, Nat.zero_le _, rfl, HR0.out, HM0.out, by simp, _, _, rfl⟩
  case round =>
    obtain ⟨k, hk, rfl, hR, hB, hsz, A9, c9, rfl⟩ := hrel
    clear HR0 HM0
    by_cases hlt : k < n
    · obtain ⟨bl, off, rfl, hx⟩ := hcell (by omega)
      have y0 := hx k 0 hlt (by simp)
      have y1 := hx k 1 hlt (by simp)
      obtain ⟨e0, p0, p1⟩ := Hwy.out k hlt 0 (by omega)
      obtain ⟨e1, p2, p3⟩ := Hwy.out k hlt 1 (by omega)
      rw [e0] at y0
      rw [e1] at y1
      simp only [List.length_cons, List.length_nil, Nat.zero_add, Nat.reduceAdd, Nat.add_zero] at y0 y1
      replace y0 := hB.cell' y0 (by simp)
      replace y1 := hB.cell' y1 (by simp)
      have i0 : (0 : Int) ≤ (k : Int) := by omega
      have i1 : (k : Int) < (n : Int) := by omega
      generalize hz : x k 0 = X0 at *
      generalize hz' : x k 1 = X1 at *
      have HZ := Lib.hid (And.intro hz hz')
      clear hx hcell hcell2 e0 e1 hz hz'
      go_wp2_with fail
      have hm : Mod [] wr ((wr.alloc (.cells #[.int .i64 X0, .int .i64 X1] 3)).alloc (.cells #[.slice (some ⟨wr.heap.size, 0, none⟩) 2 2] 31)).drew := (((Mod.refl _ _).alloc _).alloc _).drew
      have hR1 := Lib.hid (hR.mod hm)
      have hr1 : RowB z0.heap.size ((wr.alloc (.cells #[.int .i64 X0, .int .i64 X1] 3)).alloc (.cells #[.slice (some ⟨wr.heap.size, 0, none⟩) 2 2] 31)).drew (.slice (some ⟨wr.heap.size, 0, none⟩) 2 2) (fun j => if j = 0 then X0 else X1) :=
        ⟨wr.heap.size, rfl, hsz, heap_alloc2_old wr _ _⟩
      have Hr1 := Lib.hid hr1
      have hc1 : ((wr.alloc (.cells #[.int .i64 X0, .int .i64 X1] 3)).alloc (.cells #[.slice (some ⟨wr.heap.size, 0, none⟩) 2 2] 31)).drew.cell? ⟨wr.heap.size + 1, 0, none⟩ = some (.slice (some ⟨wr.heap.size, 0, none⟩) 2 2) := by simp
      have Hc1 := Lib.hid hc1
      have HB := Lib.hid (hB.trans hm)
      clear hm hr1 hc1 hR hB
      go_region
      go_wp2_with (at_builtin; refine app_rowB z0.heap.size rfl _ _ rfl (.slice A9 k c9) k _ rfl hR1.out (wr.heap.size + 1) _ _ rfl Hc1.out Hr1.out (by omega) (by simp; omega) ?_; rintro v' w' hR2 hv2 hm2 ⟨A', c', rfl⟩)
      go_roundw
      case rel =>
        obtain ⟨vs, q1, q2⟩ := hR2.ex
        have e9 := hm2.size
        have e8 : wr.heap.size ≤ ((wr.alloc (.cells #[.int .i64 X0, .int .i64 X1] 3)).alloc (.cells #[.slice (some ⟨wr.heap.size, 0, none⟩) 2 2] 31)).drew.heap.size := by simp; omega
        refine ⟨k + 1, by omega, by go_num, ⟨vs, q1, fun i hi => ?_⟩, HB.out.fresh hm2 (fun z hz => .inr (by have := hv2 z hz; omega)), by omega, _, _, rfl⟩
        have := q2 i hi
        by_cases e : i < k
        · simpa only [if_pos e] using this
        · obtain rfl : i = k := by omega
          rw [if_neg e] at this
          obtain ⟨r, u1, u2, u3⟩ := this.ex
          exact ⟨r, u1, u2, by rw [HZ.out.1, HZ.out.2]; exact u3⟩
      case measure => simp [intOf]; omega
    · obtain rfl : k = n := by omega
      have hT := hR.ticks
      have HBW := Lib.hid hB
      clear hR hcell hB
      go_wp2_with fail
      refine (fair_calls _ _ k _ _ hT (by omega) _ _ _).mono ?_
      rintro e w3 ⟨⟨u1, u2, u3, rfl, hF3⟩, m3⟩
      have hT3 := hT.under (m3.under (Nat.le_refl _) (by simp))
      have HW3 := Lib.hid (HBW.out.trans m3)
      clear hT m3 HBW
      go_wp2_with fail
      refine (rfair_calls _ _ k _ _ hT3 (by omega) _ _ _).mono ?_
      rintro e w4 ⟨⟨y1, y2, y3, rfl, hF4⟩, rfl⟩
      obtain ⟨rfl, rfl, rfl⟩ := hF3.eq hF4
      clear hF4
      have S16 := Lib.hid shown16_calls
      by_cases hc : u3 = true ∧ a3 ≤ a4
      rotate_left
      · have ways : u3 = false ∨ (u3 = true ∧ a4 < a3) := by
          cases u3 with
          | false => exact .inl rfl
          | true => exact .inr ⟨rfl, Int.not_le.1 (fun h => hc ⟨rfl, h⟩)⟩
        clear hc hF3 hT3
        rcases ways with rfl | ⟨rfl, h1⟩
        all_goals
          go_wp2_with (go_at_call 27; refine (S16.out _).mono ?_; rintro e w' ⟨rfl, m⟩)
          go_ret
          exact ⟨rfl, (HW3.out.trans m).below (Nat.le_refl _) (by simp)⟩
      obtain ⟨rfl, hle⟩ := hc
      have d1 : decide (a4 < a3) = false := by simpa using hle
      have hsl : clampV a3 1048576 ≤ a4 := by unfold clampV; omega
      have e2 : (max 1 (min (2 : Int) 8)).toNat = 2 := by decide
      rw [e2] at hF3
      have HF := Lib.hid (hF3.fair.1 rfl)
      have HSL := Lib.hid hsl
      have HT3 := Lib.hid hT3
      clear hF3 hT3 hsl e2
      go_wp2_with fail
      refine (bkNew_calls _).mono ?_
      rintro e w5 ⟨rfl, hb5, m5⟩
      have HB5 := Lib.hid hb5
      have HM5 := Lib.hid m5
      clear hb5 m5
      go_wp2_with fail
      refine (owNew_calls _ _ _).mono ?_
      rintro e w6 ⟨rfl, ho6, m6⟩
      have HI := Lib.hid (lsi_new (x := x) (len := a4) HB5.out HM5.out (Nat.le_refl _) ho6 m6 (by show w5.heap.size ≤ w5.heap.size + 1 + 1; omega))
      clear ho6 m6
      obtain ⟨bB, hbB⟩ : ∃ bB, bB = w3.heap.size := ⟨_, rfl⟩
      obtain ⟨b, hb⟩ : ∃ b, b = w5.heap.size + 1 + 1 := ⟨_, rfl⟩
      obtain ⟨p, hp⟩ : ∃ p, p = w5.heap.size := ⟨_, rfl⟩
      obtain ⟨q, hq⟩ : ∃ q, q = w5.heap.size + 1 := ⟨_, rfl⟩
      obtain ⟨N2, hN2⟩ : ∃ N2, N2 = w6.heap.size := ⟨_, rfl⟩
      have HI2 : Hid (LSI x a2 a3 a4 w3 N2 bB b p q 0 0 0 0 (.slice (some ⟨N2, 0, none⟩) 0 0) (w6.alloc (.cells #[] 3))) := by rw [hbB, hb, hp, hq, hN2]; exact HI
      rw [← hbB, ← hb]
      clear HI hp hq HB5 HM5 hbB hb
      go_wp2
      rw [← hN2]
      clear hN2
      obtain ⟨A1, cap1, rv, eA, hA1, hA1m, hrows, hir⟩ := HT3.out.ex
      cases eA
      have HIR := Lib.hid hir
      clear hir HT3
      go_loopw [22, 23, 24, 25, 26, 27, 28, 29, 30, 31, 32] (fun mine its asked vh i _ _ _ _ _ _ wr => ∃ (j : Nat) (K : Int) (vh' : Value), j ≤ k ∧ i = .int .i64 j ∧ mine = .int .i64 (SM x 0 j) ∧ its = .int .i64 (SM x 1 j) ∧ asked = .int .i64 K ∧ vh = vh' ∧ LSI x a2 a3 a4 w3 N2 bB b p q j j j K vh' wr) (fun _ _ _ _ i _ _ _ _ _ _ _ => k - (intOf i).toNat)
      case atStart => exact ⟨0, 0, _, Nat.zero_le _, rfl, rfl, rfl, rfl, rfl, HI2.out⟩
      case round =>
        obtain ⟨j, K, vh, hj, rfl, rfl, rfl, rfl, rfl, hI⟩ := hrel
        clear HI2
        by_cases hj1 : j < k
        rotate_left
        · obtain rfl : j = k := by omega
          have hjd : decide (j < j) = false := by simp
          obtain ⟨u, s, d, a, last, got, till, L, hM, hL, hlen⟩ := hI
          have FIN := Lib.hid ((HW3.out.trans hM.md).below (Nat.le_refl W.heap.size) (by simp))
          clear hM hL hlen
          go_wp2
          go_ret
          exact ⟨rfl, FIN.out⟩
        have hj1' : (j : Int) < (k : Int) := by omega
        by_cases hj2 : j < n2
        rotate_left
        · have hjd : decide (j < n2) = false := by simpa using hj2
          obtain ⟨u, s, d, a, last, got, till, L, hM, hL, hlen⟩ := hI
          have FIN := Lib.hid ((HW3.out.trans hM.md).below (Nat.le_refl W.heap.size) (by simp))
          clear hM hL hlen
          go_wp2
          go_ret
          exact ⟨rfl, FIN.out⟩
        have hj2' : (j : Int) < (n2 : Int) := by omega
        have hj0 : (0 : Int) ≤ (j : Int) := by omega
        obtain ⟨rb, ro, eA9, hrow⟩ := hrows (by omega)
        subst eA9
        have r0 := hrow j hj1
        obtain ⟨A3, cap3, erv, hc3, hm3, hcells⟩ := (HIR.out j hj1).ex
        obtain ⟨rb2, ro2, eA3, hcell3⟩ := hcells (by omega)
        subst eA3
        rw [erv] at r0
        have r1 := hcell3 0 (by omega)
        have r2 := hcell3 1 (by omega)
        simp only [Nat.add_zero] at r1
        obtain ⟨bl2, off2, rfl, hx2⟩ := hcell2 (by omega)
        obtain ⟨x0, e0⟩ := (hf2 j 0 _ hj2 rfl).bool_inv
        obtain ⟨x1, e1⟩ := (hf2 j 1 _ hj2 rfl).bool_inv
        obtain ⟨x2, e2⟩ := (hf2 j 2 _ hj2 rfl).bool_inv
        obtain ⟨x3, e3, q3⟩ := (hf2 j 3 _ hj2 rfl).int_inv
        obtain ⟨x4, e4, q4⟩ := (hf2 j 4 _ hj2 rfl).int_inv
        have t0 := hx2 j 0 hj2 (by simp)
        have t1 := hx2 j 1 hj2 (by simp)
        have t2 := hx2 j 2 hj2 (by simp)
        have t3 := hx2 j 3 hj2 (by simp)
        have t4 := hx2 j 4 hj2 (by simp)
        rw [e0] at t0
        rw [e1] at t1
        rw [e2] at t2
        rw [e3] at t3
        rw [e4] at t4
        simp only [List.length_cons, List.length_nil, Nat.zero_add, Nat.reduceAdd, Nat.add_zero] at t0 t1 t2 t3 t4
        replace t0 := HW3.out.cell' t0 (by simp)
        replace t1 := HW3.out.cell' t1 (by simp)
        replace t2 := HW3.out.cell' t2 (by simp)
        replace t3 := HW3.out.cell' t3 (by simp)
        replace t4 := HW3.out.cell' t4 (by simp)
        obtain ⟨b50, b51⟩ := bd_u8 q3
        obtain ⟨b60, b61⟩ := bd_u8 q4
        obtain ⟨-, f0, f1⟩ := Hwy.out j hj1 0 (by omega)
        obtain ⟨-, f2', f3⟩ := Hwy.out j hj1 1 (by omega)
        have hs0 := SM_succ x 0 j (by omega) ⟨f0, f1⟩
        have hs1 := SM_succ x 1 j (by omega) ⟨f2', f3⟩
        have hb0 := SM_bd x 0 j
        have hb1 := SM_bd x 1 j
        have hB0 := SM_bd x 0 (j + 1)
        have hB1 := SM_bd x 1 (j + 1)
        obtain ⟨u, s, d, a, last, got, till, L, hM, hL, hlen⟩ := hI
        have T0 := Lib.hid t0
        have T1 := Lib.hid t1
        have T2 := Lib.hid t2
        have T3 := Lib.hid t3
        have T4 := Lib.hid t4
        replace r0 := hM.md.cell' r0 (by simp)
        replace r1 := hM.md.cell' r1 (by simp)
        replace r2 := hM.md.cell' r2 (by simp)
        generalize hm0 : SM x 0 j = m0 at *
        generalize hm1 : SM x 1 j = m1 at *
        generalize hm2 : SM x 0 (j + 1) = M0 at *
        generalize hm3' : SM x 1 (j + 1) = M1 at *
        generalize hxx0 : x j 0 = X0 at *
        generalize hxx1 : x j 1 = X1 at *
        have k0 : IntKind.i64.wrap (m0 + X0) = m0 + X0 := IntWalk.i64_in _ (by omega)
        have k1 : IntKind.i64.wrap (m1 + X1) = m1 + X1 := IntWalk.i64_in _ (by omega)
        have HS0 := Lib.hid hs0
        have HS1 := Lib.hid hs1
        have hU := hM.bk
        have SW := Lib.hid (bkSweep_calls wr bB u s d M1 hM.bk)
        have HL := Lib.hid hL.sweep
        rw [hm3'] at HL
        have HMS := Lib.hid hM
        have HLEN := Lib.hid hlen
        have E0 := Lib.hid hm2
        have E1 := Lib.hid hm3'
        clear hU hL hM hlen hs0 hs1 t0 t1 t2 t3 t4 e0 e1 e2 e3 e4 q3 q4 hx2 hf2 hcell2 hcells hcell3 hrow hrows hm0 hm1 hm2 hm3' hxx0 hxx1 erv HIR
        go_wp2_with fail
        rw [← HS0.out, ← HS1.out]
        refine SW.out.mono ?_
        rintro e w8 ⟨v8, rfl, -, hb8, m8⟩
        have HM8 := Lib.hid (HMS.out.book hb8 m8)
        clear SW HMS hb8 m8 r0 r1 r2 k0 k1
        have GD := Lib.hid (fun h => HL.out.ok (m := k) HF.out b40 (by omega) HSL.out hj1 h)
        rw [E0.out, E1.out] at GD
        obtain ⟨d8, hd8⟩ : ∃ d8, d8 = swD u d M1 8 := ⟨_, rfl⟩
        rw [← hd8] at HL HM8 GD
        clear hd8
        have HG := Lib.hid (owGood_calls w8 b p q a2 a3 a last got till M0 HM8.out.ow)
        have HD := Lib.hid (bkDead_calls w8 bB u s d8 3 HM8.out.bk)
        have HU := Lib.hid (bkUntil_calls w8 bB u s d8 3 HM8.out.bk)
        rw [show deadV d8 3 = d8 3 from rfl] at HD
        rw [show untilV u 3 = u 3 from rfl] at HU
        go_upto_region 27 with (fail)
        go_cut [148] (fun s148 wx => s148 = .bool false ∧ wx = w8)
        case first =>
          as_aux_lemma =>
            by_cases hg : M0 ≤ till
            · obtain ⟨g1, g2⟩ := GD.out hg
              rw [g1] at HD
              have g3 : decide (u 3 < M1) = false := by simpa using g2
              have hg' : decide (M0 ≤ till) = true := by simpa using hg
              rw [hg'] at HG
              clear g1 g2 hg hg'
              go_wp2_with (first
                | (go_at_call 50; (with_reducible refine HG.out.mono ?_); rintro e w' ⟨rfl, rfl⟩)
                | (go_at_call 37; (with_reducible refine HD.out.mono ?_); rintro e w' ⟨rfl, rfl⟩)
                | (go_at_call 39; (with_reducible refine HU.out.mono ?_); rintro e w' ⟨rfl, rfl⟩))
              go_meet
              exact ⟨rfl, rfl⟩
            · have hg' : decide (M0 ≤ till) = false := by simpa using hg
              rw [hg'] at HG
              clear hg hg'
              go_wp2_with (first
                | (go_at_call 50; (with_reducible refine HG.out.mono ?_); rintro e w' ⟨rfl, rfl⟩))
              go_meet
              exact ⟨rfl, rfl⟩
        case rest =>
          obtain ⟨h148, hwc⟩ := hcut
          subst h148
          subst hwc
          clear HG HD HU GD
          have c0 := HM8.out.md.cell' T0.out (by simp)
          have c1 := HM8.out.md.cell' T1.out (by simp)
          have c2 := HM8.out.md.cell' T2.out (by simp)
          have c3 := HM8.out.md.cell' T3.out (by simp)
          have c4 := HM8.out.md.cell' T4.out (by simp)
          obtain ⟨A9', cap9, hvh, hcp1, hcp2, hvx⟩ := (own_slA HM8.out.hd).ex
          obtain ⟨w8', hw8⟩ : ∃ w8', w8' = wc := ⟨_, rfl⟩
          rw [← hw8] at HM8 c0 c1 c2 c3 c4 ⊢
          obtain ⟨Z, hZ⟩ : ∃ Z, Z = w8'.alloc (.cells #[.bool x0, .bool x1, .bool x2, .int .u8 x3, .int .u8 x4] 81) := ⟨_, rfl⟩
          have MZ : Mod [] w8' Z := by rw [hZ]; exact (Mod.refl [] w8').alloc _
          have AZ : Arr Z w8'.heap.size 81 5 (turnF x0 x1 x2 x3 x4) := by
            rw [hZ]
            exact Arr.new' w8' _ _ 5 _ rfl (fun i hi => by
              match i, hi with
              | 0, _ | 1, _ | 2, _ | 3, _ | 4, _ => rfl)
          have HZ := Lib.hid hZ
          have MSZ := Lib.hid (HM8.out.same MZ)
          have AZ' := Lib.hid AZ
          clear hZ MZ AZ hw8 hvx hcp1 hcp2 hvh
          go_upto_if 154 with (fail)
          rw [← HZ.out]
          obtain ⟨tb, htb⟩ : ∃ tb, tb = w8'.heap.size := ⟨_, rfl⟩
          rw [← htb] at AZ' ⊢
          clear htb HM8 HZ c0 c1 c2 c3 c4
          go_cut [24, 28, 29] (fun s24 s28 s29 wx => ∃ K' : Int, s24 = .int .i64 K' ∧ LSI x a2 a3 a4 w3 N2 bB b p q (j + 1) (j + 1) j K' u25 wx ∧ Arr wx tb 81 5 (turnF x0 x1 x2 x3 x4))
          case first =>
            as_aux_lemma =>
              cases x0 with
              | false =>
                go_wp2
                go_meet
                exact ⟨K, rfl, ⟨_, _, _, _, _, _, _, _, MSZ.out, HL.out.more (by omega), HLEN.out⟩, AZ'.out⟩
              | true =>
                have hla := HL.out.la
                have hk0 := HL.out.a0
                have hk1 := HL.out.ai
                have EA := Lib.hid (show askE last M0 = 0 by
                  unfold askE
                  rw [if_neg (by simp [okT]; omega), if_neg (by omega)])
                have EV := Lib.hid (show askV last M0 = K + 1 by unfold askV; rw [if_pos EA.out, hla])
                have EL := Lib.hid (show askL last M0 = last + 1 by unfold askL; rw [if_pos EA.out])
                have EAA := Lib.hid (show askA a last M0 = upd a ((K + 1) % 16).toNat M0 by unfold askA; rw [if_pos EA.out, hla])
                have kw : IntKind.i64.wrap (K + 1) = K + 1 := IntWalk.i64_in _ (by omega)
                have OA := Lib.hid (owAsk_calls Z b p q a2 a3 a last got till M0 MSZ.out.ow)
                clear hla hk0 hk1
                go_wp2_with fail
                refine OA.out.mono ?_
                rintro e w9 ⟨rfl, ho9, m9⟩
                rw [EA.out, EV.out]
                rw [EL.out, EAA.out] at ho9
                have HL9 := HL.out.asks
                rw [E0.out] at HL9
                have F := Lib.hid (show LSI x a2 a3 a4 w3 N2 bB b p q (j + 1) (j + 1) j (K + 1) u25 w9 ∧ Arr w9 tb 81 5 (turnF true x1 x2 x3 x4) from ⟨⟨_, _, _, _, _, _, _, _, MSZ.out.own ho9 m9, HL9, HLEN.out⟩, MSZ.out.t2 AZ'.out m9⟩)
                clear ho9 m9 HL9
                go_wp2
                go_meet
                exact ⟨K + 1, rfl, F.out⟩
          case rest =>
            obtain ⟨K9, h24, hI9, hT9⟩ := hcut
            subst h24
            clear MSZ HL AZ' HLEN
            obtain ⟨u9, s9, d9, a9, last9, got9, till9, L9, hM9, hL9, hlen9⟩ := hI9
            have cc1 : wc.cell? ⟨tb, 1, none⟩ = some (.bool x1) := hT9.cell 1 (by omega)
            have cc3 : wc.cell? ⟨tb, 3, none⟩ = some (.int .u8 x3) := hT9.cell 3 (by omega)
            have M9 := Lib.hid hM9
            have L9H := Lib.hid hL9
            have LEN9 := Lib.hid hlen9
            have AT9 := Lib.hid hT9
            have hk0 := hL9.a0
            have hk1 := hL9.ai
            obtain ⟨r4, hr4⟩ : ∃ r4, r4 = x3 % 4 := ⟨_, rfl⟩
            have hr40 : 0 ≤ r4 := by omega
            have hr41 : r4 < 4 := by omega
            have hr4' : x3 % 4 = r4 := hr4.symm
            have kw : wrap64 (K9 - r4) = K9 - r4 := by unfold wrap64; omega
            clear hM9 hL9 hlen9 hT9 hr4
            obtain ⟨wz, hwz⟩ : ∃ wz, wz = wc := ⟨_, rfl⟩
            rw [← hwz] at cc1 cc3 M9 AT9 ⊢
            clear hwz
            go_upto_region 35 with (fail)
            go_cut [179] (fun s179 wx => s179 = .bool (x1 && decide (r4 < K9)) ∧ wx = wz)
            case first =>
              as_aux_lemma =>
                cases x1 with
                | false =>
                  go_wp2
                  go_meet
                  exact ⟨rfl, rfl⟩
                | true =>
                  go_wp2
                  go_meet
                  exact ⟨by simp, rfl⟩
            case rest =>
            obtain ⟨h179, hwc⟩ := hcut
            subst h179
            obtain ⟨wy, hwy⟩ : ∃ wy, wy = wc := ⟨_, rfl⟩
            rw [← hwy] at hwc ⊢
            clear hwy
            subst hwc
            go_upto_if 179 with (fail)
            go_cut [25, 30, 31, 32] (fun s25 s30 s31 s32 wx => LSI x a2 a3 a4 w3 N2 bB b p q (j + 1) (j + 1) (j + 1) K9 s25 wx ∧ Arr wx tb 81 5 (turnF x0 x1 x2 x3 x4))
            case first =>
              as_aux_lemma =>
                by_cases hH : (x1 && decide (r4 < K9)) = true
                rotate_left
                · have hH' : (x1 && decide (r4 < K9)) = false := by simpa using hH
                  rw [hH']
                  clear hH hH'
                  go_wp2
                  go_meet
                  exact ⟨⟨_, _, _, _, _, _, _, _, M9.out, L9H.out, by have := LEN9.out; omega⟩, AT9.out⟩
                · have hr5 : r4 < K9 := by simp at hH; exact hH.2
                  rw [hH]
                  clear hH
                  go_wp2_with fail
                  have RN := Lib.hid (L9H.out.renews (s := s9) (K9 - r4) (by omega) (by omega))
                  rw [E1.out] at RN
                  refine (bkRenew_calls wy bB u9 s9 d9 3 (K9 - r4) M1 a4 M9.out.bk).mono ?_
                  rintro e w10 ⟨rfl, hb10, m10⟩
                  have M10 := Lib.hid (M9.out.book hb10 m10)
                  have AT10 := Lib.hid (M9.out.t1 AT9.out m10)
                  obtain ⟨EE, hEE⟩ : ∃ EE, EE = renewE s9 d9 3 (K9 - r4) M1 a4 := ⟨_, rfl⟩
                  rw [← hEE] at RN ⊢
                  clear hb10 m10 hEE AT9 M9 cc1 cc3
                  by_cases hE0 : EE = 0
                  rotate_left
                  · have hE0' : (EE == 0) = false := by simpa using hE0
                    rw [if_neg hE0] at RN
                    clear hE0
                    go_wp2
                    go_meet
                    exact ⟨⟨_, _, _, _, _, _, _, _, M10.out, RN.out, by have := LEN9.out; omega⟩, AT10.out⟩
                  · rw [if_pos hE0] at RN
                    have hE0' : (EE == 0) = true := by simpa using hE0
                    clear hE0
                    obtain ⟨nn, hnn⟩ : ∃ nn, nn = K9 - r4 := ⟨_, rfl⟩
                    rw [← hnn] at kw RN M10 ⊢
                    have ma : Mod [] w10 (w10.alloc (.cells #[.int .i64 nn] 3)) := (Mod.refl [] w10).alloc _
                    have ho1 := own_mod M10.out.hd ma (by simp)
                    have hc0 := new_cell1 w10 (.int .i64 nn) 3 w10.heap.size rfl
                    have M10a := Lib.hid (M10.out.same ma)
                    have AT10a := Lib.hid (AT10.out.mod ma (by simp))
                    have hsz10 := M10a.out.hs
                    have hl9 := LEN9.out
                    clear hnn ma M10 AT10 kw
                    go_wp2_with (at_builtin; refine app1 N2 31 3 (.int .i64 0) 1 8 Try.underlying31 bk_info_int rfl (by omega) (by omega) rfl _ _ rfl u25 _ _ rfl ho1 w10.heap.size [.int .i64 nn] rfl rfl (news1 hc0) (by simp [Value.oneCell']) (by omega) (by omega) ?_; intro g cap w11 ho2 hm2 hg hbg)
                    have e1 : (L9 ++ [nn]).length = L9.length + 1 := by simp
                    rw [← nums_app, ← e1] at ho2
                    have M11 := Lib.hid (M10a.out.heard ho2 hm2)
                    have AT11 := Lib.hid (M10a.out.t3 AT10a.out hm2)
                    rw [e1] at M11
                    clear ho2 hm2
                    go_wp2
                    go_meet
                    exact ⟨⟨_, _, _, _, _, _, _, _, M11.out, RN.out, by omega⟩, AT11.out⟩
            case rest =>
              obtain ⟨hI11, hT11⟩ := hcut
              clear M9 L9H LEN9 AT9 cc1 cc3 kw hk0 hk1 hr4' hr40 hr41
              obtain ⟨u11, s11, d11, a11, last11, got11, till11, L11, hM11, hL11, hlen11⟩ := hI11
              obtain ⟨A11, cap11, evh, hcp1, hcp2, hvx⟩ := (own_slA hM11.hd).ex
              subst evh
              have hcap11 : cap11 ≤ 9223372036854775807 := by unfold maxLen at hcp2; omega
              have dd2 : wc.cell? ⟨tb, 2, none⟩ = some (.bool x2) := hT11.cell 2 (by omega)
              have dd4 : wc.cell? ⟨tb, 4, none⟩ = some (.int .u8 x4) := hT11.cell 4 (by omega)
              have M12 := Lib.hid hM11
              have L12 := Lib.hid hL11
              have LEN12 := Lib.hid hlen11
              have AT12 := Lib.hid hT11
              obtain ⟨r3, hr3⟩ : ∃ r3, r3 = x4 % 3 := ⟨_, rfl⟩
              have hr30 : 0 ≤ r3 := by omega
              have hr31 : r3 < 3 := by omega
              have hr3' : x4 % 3 = r3 := hr3.symm
              obtain ⟨ln, hln⟩ : ∃ ln, ln = L11.length := ⟨_, rfl⟩
              have HVX := Lib.hid hvx
              rw [← hln] at HVX hcp1 LEN12 M12
              have HLN := Lib.hid hln
              have hlb : (ln : Int) ≤ 1000 := by have := LEN12.out; omega
              obtain ⟨wv, hwv⟩ : ∃ wv, wv = wc := ⟨_, rfl⟩
              rw [← hwv] at dd2 dd4 M12 AT12 HVX ⊢
              rw [← hln]
              clear hM11 hL11 hlen11 hT11 hr3 hvx hln hwv hcp2
              go_upto_region 40 with (fail)
              go_cut [211] (fun s211 wx => s211 = .bool (x2 && decide (r3 < (ln : Int))) ∧ wx = wv)
              case first =>
                as_aux_lemma =>
                  cases x2 with
                  | false =>
                    go_wp2
                    go_meet
                    exact ⟨rfl, rfl⟩
                  | true =>
                    go_wp2
                    go_meet
                    exact ⟨by simp, rfl⟩
              case rest =>
              obtain ⟨h211, hwc⟩ := hcut
              subst h211
              obtain ⟨wy2, hwy2⟩ : ∃ wy2, wy2 = wc := ⟨_, rfl⟩
              rw [← hwy2] at hwc ⊢
              clear hwy2
              subst hwc
              go_upto_if 211 with (fail)
              go_cut [30] (fun s30 wx => LSI x a2 a3 a4 w3 N2 bB b p q (j + 1) (j + 1) (j + 1) K9 (.slice A11 ln cap11) wx)
              case first =>
                as_aux_lemma =>
                  by_cases hH : (x2 && decide (r3 < (ln : Int))) = true
                  rotate_left
                  · have hH' : (x2 && decide (r3 < (ln : Int))) = false := by simpa using hH
                    rw [hH']
                    clear hH hH'
                    go_wp2
                    go_meet
                    exact ⟨_, _, _, _, _, _, _, _, M12.out, L12.out, by have := LEN12.out; have := HLN.out; omega⟩
                  · have hr5 : r3 < (ln : Int) := by simp at hH; exact hH.2
                    rw [hH]
                    clear hH
                    obtain ⟨ix, hix⟩ : ∃ ix : Nat, (ix : Int) = (ln : Int) - 1 - r3 := ⟨((ln : Int) - 1 - r3).toNat, by omega⟩
                    have hixl : ix < ln := by omega
                    have kx : (ln : Int) - 1 - r3 = (ix : Int) := by omega
                    obtain ⟨gb, go, eg, hgx⟩ := HVX.out (by omega)
                    have hgy := hgx ix 0 hixl (by omega)
                    obtain ⟨hn1, hn2⟩ : ∃ nn, L11[ix]? = some nn := ⟨_, List.getElem?_eq_getElem (by have := HLN.out; omega)⟩
                    have hmem : hn1 ∈ L11 := List.mem_of_getElem? hn2
                    have hval : (nums L11).getD (ix * 1 + 0) undef = .int .i64 hn1 := by
                      simp [nums, List.getD_eq_getElem?_getD, hn2]
                    rw [hval] at hgy
                    simp only [Nat.mul_one, Nat.add_zero] at hgy
                    subst eg
                    have i0 : (0 : Int) ≤ (ix : Int) := by omega
                    have i1 : (ix : Int) < (ln : Int) := by omega
                    have F12 := Lib.hid (L12.out.hear hn1 hmem)
                    have G12 := Lib.hid (owGot_calls wy2 b p q a2 a3 a11 last11 got11 till11 hn1 a4 M12.out.ow)
                    clear hgx hn2 hmem hval hix hixl
                    go_wp2_with fail
                    refine G12.out.mono ?_
                    rintro e w13 ⟨rfl, ho13, m13⟩
                    have M13 := Lib.hid (M12.out.own ho13 m13)
                    clear ho13 m13
                    go_wp2
                    go_meet
                    exact ⟨_, _, _, _, _, _, _, _, M13.out, F12.out, by have := LEN12.out; have := HLN.out; omega⟩
              case rest =>
                have HI14 := Lib.hid hcut
                clear hcut M12 L12 LEN12 AT12 HVX HLN dd2 dd4 hcap11 hcp1 hlb hr30 hr31 hr3'
                obtain ⟨u14, s14, d14, a14, last14, got14, till14, L14, hM14, hL14, hlen14⟩ := HI14.out
                have GD := Lib.hid (fun h => hL14.ok (m := k) HF.out b40 (by omega) HSL.out hj1 h)
                rw [E0.out, E1.out] at GD
                have HG := Lib.hid (owGood_calls wc b p q a2 a3 a14 last14 got14 till14 M0 hM14.ow)
                have HD := Lib.hid (bkDead_calls wc bB u14 s14 d14 3 hM14.bk)
                have HU := Lib.hid (bkUntil_calls wc bB u14 s14 d14 3 hM14.bk)
                rw [show deadV d14 3 = d14 3 from rfl] at HD
                rw [show untilV u14 3 = u14 3 from rfl] at HU
                clear hM14 hL14 hlen14
                obtain ⟨wq, hwq⟩ : ∃ wq, wq = wc := ⟨_, rfl⟩
                rw [← hwq] at HG HD HU HI14 ⊢
                clear hwq
                go_upto_region 42 with (fail)
                go_cut [239] (fun s239 wx => s239 = .bool false ∧ wx = wq)
                case first =>
                  as_aux_lemma =>
                    by_cases hg : M0 ≤ till14
                    · obtain ⟨g1, g2⟩ := GD.out hg
                      rw [g1] at HD
                      have g3 : decide (u14 3 < M1) = false := by simpa using g2
                      have hg' : decide (M0 ≤ till14) = true := by simpa using hg
                      rw [hg'] at HG
                      clear g1 g2 hg hg'
                      go_wp2_with (first
                        | (go_at_call 50; (with_reducible refine HG.out.mono ?_); rintro e w' ⟨rfl, rfl⟩)
                        | (go_at_call 37; (with_reducible refine HD.out.mono ?_); rintro e w' ⟨rfl, rfl⟩)
                        | (go_at_call 39; (with_reducible refine HU.out.mono ?_); rintro e w' ⟨rfl, rfl⟩))
                      go_meet
                      exact ⟨rfl, rfl⟩
                    · have hg' : decide (M0 ≤ till14) = false := by simpa using hg
                      rw [hg'] at HG
                      clear hg hg'
                      go_wp2_with (first
                        | (go_at_call 50; (with_reducible refine HG.out.mono ?_); rintro e w' ⟨rfl, rfl⟩))
                      go_meet
                      exact ⟨rfl, rfl⟩
                case rest =>
                  obtain ⟨h239, hwc⟩ := hcut
                  subst h239
                  subst hwc
                  clear HG HD HU GD
                  go_wp2
                  go_roundw
                  case rel => exact ⟨j + 1, K9, _, by omega, by go_num, by rw [E0.out], by rw [E1.out], rfl, rfl, HI14.out⟩
                  case measure => simp [intOf]; omega
end Go.Proofs.Ytdaapkbgfabmaaa
