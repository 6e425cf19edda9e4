/- The walk of the law GrantDead: who is dead keeps what it held, till one that lives has recovered it. Premises: the whole range and the table of kinds lie as laid. (Written by wip/tools/genDead.py.) -/
import Derived.Test.YtijjbkkcienfgaaDoorProg
import Derived.Test.YtijjbkkcienfgaaDoorGrD
namespace Go.Proofs.YtijjbkkcienfgaaDoor
open Go.RowKit
set_option linter.unusedVariables false
set_option linter.unusedSimpArgs false
attribute [local go_sem ↓] Go.wp_at_zero Go.wp_at_succ

/-- A command, its answer told, with its rows. -/
theorem doL_row {W w : World} {B sv bT bB mB : Nat} {v : Value} {x : GS} (h : LawS W w B sv bT bB mB v x) (c : CmdT) (x' : GS) (e n : Int) (gl : List (Nat × HoldT)) (rl : List HoldT) (zl : List Nat) (hy : x.Do c = (x', ⟨e, n, gl, rl, zl⟩)) :
    Calls Tryd.prog 14 #[.pointer (some ⟨sv, 0, none⟩), .agg #[.int .i64 c.k, .int .i64 c.c, .int .i64 c.q, .int .i64 c.n, .int .i64 c.l, .int .i64 c.a, .int .i64 c.b, .int .i64 c.m, .int .i64 c.o]] w fun r w' =>
      ∃ gp gc rp rc dp dc v', r = .returned (.agg #[.int .i64 e, .int .i64 n, .slice gp gl.length gc, .slice rp rl.length rc, .slice dp zl.length dc]) ∧ w'.ownsRow w.heap.size 39 4 (.slice rp rl.length rc) rl.length (hcells rl) ∧ w'.ownsRow w.heap.size 3 1 (.slice dp zl.length dc) zl.length (intsOf zl) ∧
      LawS W w' B sv bT bB mB v' x' ∧ (∀ k, v'.ownBlock = some k → v.ownBlock = some k ∨ w.heap.size ≤ k) ∧ Mod (SvS sv bT bB mB v) w w' := by
  refine (doL_calls W w B sv bT bB mB v x c h).mono ?_
  rintro r w' ⟨gp, gc, rp, rc, dp, dc, v', hr, o1, o2, o3, s, hv, m⟩
  rw [hy] at hr o2 o3 s
  exact ⟨gp, gc, rp, rc, dp, dc, v', hr, o2, o3, s, hv, m⟩
/-- The same, with what its holds are not. -/
theorem doL_rv {W w : World} {B sv bT bB mB : Nat} {v : Value} {x : GS} (h : LawS W w B sv bT bB mB v x) (c : CmdT) (x' : GS) (e n : Int) (gl : List (Nat × HoldT)) (rl : List HoldT) (zl : List Nat) (hy : x.Do c = (x', ⟨e, n, gl, rl, zl⟩)) :
    Calls Tryd.prog 14 #[.pointer (some ⟨sv, 0, none⟩), .agg #[.int .i64 c.k, .int .i64 c.c, .int .i64 c.q, .int .i64 c.n, .int .i64 c.l, .int .i64 c.a, .int .i64 c.b, .int .i64 c.m, .int .i64 c.o]] w fun r w' =>
      ∃ gp gc rp rc dp dc v', r = .returned (.agg #[.int .i64 e, .int .i64 n, .slice gp gl.length gc, .slice rp rl.length rc, .slice dp zl.length dc]) ∧ w'.ownsRow w.heap.size 39 4 (.slice rp rl.length rc) rl.length (hcells rl) ∧ (∀ k, (Value.slice rp rl.length rc).ownBlock = some k → k ∉ SvS sv bT bB mB v') ∧
      LawS W w' B sv bT bB mB v' x' ∧ (∀ k, v'.ownBlock = some k → v.ownBlock = some k ∨ w.heap.size ≤ k) ∧ Mod (SvS sv bT bB mB v) w w' := by
  refine (do_calls w B sv bT bB mB v x c h.s h.k).mono ?_
  rintro r w' ⟨gv, rv, dv, v', hr, o1, o2, o3, s, hv, m, hrv⟩
  rw [hy] at hr o1 o2 o3 s
  obtain ⟨p1, c1, rfl⟩ := own_len o1
  obtain ⟨p2, c2, rfl⟩ := own_len o2
  obtain ⟨p3, c3, rfl⟩ := own_len o3
  have low := fun k (hk : k ∈ SvS sv bT bB mB v) => svS_low h.s hk
  have hlo := h.s.lo
  exact ⟨p1, c1, p2, c2, p3, c3, v', hr, o2, hrv, ⟨s, h.k.mod m (fun e => by have := (low _ e).1; omega), h.m.fresh m (fun k hk => .inr (by have := (low _ hk).1; have := h.b; omega)), h.b, h.lo⟩, hv, m⟩
/-- What becomes of the numbers that a law does not know. -/
theorem do_any (x : GS) (c : CmdT) : ∃ x' e n gl rl zl, x.Do c = (x', ⟨e, n, gl, rl, zl⟩) ∧ x' = (x.Do c).1 := ⟨_, _, _, _, _, _, rfl, rfl⟩
set_option maxRecDepth 100000 in
set_option maxHeartbeats 8000000 in
theorem grantDead_walk (W : World) (t0 : Whole W) (t1 : Kd W) (s0 : Array Value) (c0 : CellsOk W [.int .i64, .int .i64] s0.toList)
    (a1 : Int) (w1 : (Lit.int .i64 a1).wf = true)
    (v2 : Value) (c2 : CellOk W (.sl [.int .i64, .int .i64, .int .i64, .int .i64, .int .i64, .int .i64, .int .i64, .int .i64, .int .i64]) v2) :
    Calls Tryd.prog 3 #[.agg s0, .int .i64 a1, v2] W fun e w' => e = .returned (.bool true) ∧ Below W.heap.size W w' := by
  obtain ⟨ra, rb, rfl⟩ : ∃ ra rb : Int, s0 = #[.int .i64 ra, .int .i64 rb] := by
    obtain ⟨hl, hc⟩ := c0
    obtain ⟨xs⟩ := s0
    simp only at hl hc
    match xs, hl with
    | [x, y], _ =>
      obtain ⟨a, rfl, _⟩ := (hc 0 _ x rfl rfl).int_inv
      obtain ⟨b, rfl, _⟩ := (hc 1 _ y rfl rfl).int_inv
      exact ⟨a, b, rfl⟩
  obtain ⟨p0, n, cap0, f, rfl, hn, hcap, hA⟩ := cmdArg_of c2
  clear c0 c2 w1
  have HT := Lib.hid (And.intro t0 t1)
  have HA := Lib.hid hA
  clear t0 t1 hA
  obtain ⟨w0, hw0⟩ : ∃ w0, w0 = W.alloc (.cells #[.int .i64 ra, .int .i64 rb] 23) := ⟨_, rfl⟩
  have HW0 := Lib.hid hw0
  have M0 := Lib.hid (show Mod [] W w0 by rw [hw0]; exact (Mod.refl _ _).alloc _)
  have HSZ := Lib.hid (show w0.heap.size = W.heap.size + 1 by rw [hw0]; simp)
  have HR0 := Lib.hid (show Arr w0 W.heap.size 23 2 (fun i => if i = 0 then .int .i64 ra else .int .i64 rb) by
    rw [hw0]
    exact Arr.new' W _ _ 2 _ rfl (fun i hi => by
      match i, hi with
      | 0, _ | 1, _ => rfl))
  have BL := Lib.hid (blocks_calls w0 ra rb)
  have SH := Lib.hid (fun w (m : Mod [] w0 w) => shown_calls w (Sv.whole_mod HT.out.1 (M0.out.trans m) (by simp)) (HT.out.2.mod (M0.out.trans m) (by simp)))
  clear hw0
  by_cases h30 : 30 < n
  · have hi : (30 : Int) < (n : Int) := by omega
    go_enter Tryd.func3, Tryd.ntmps3
    go_wp2_with fail
    rw [← HW0.out]
    refine (SH.out _ (Mod.refl _ _)).mono ?_
    rintro e z2 ⟨rfl, m2⟩
    go_wp2
    go_ret
    exact ⟨rfl, (M0.out.trans m2).below (Nat.le_refl _) (by simp)⟩
  have h5 : decide (30 < n) = false := by simpa using h30
  have q0 := HR0.out.cell 0 (by omega)
  have q1 := HR0.out.cell 1 (by omega)
  simp only [if_true, if_false, Nat.reduceEqDiff] at q0 q1
  rw [HW0.out] at q0 q1
  cases hb : blk ra rb with
  | false =>
    rw [hb] at BL
    go_enter Tryd.func3, Tryd.ntmps3
    go_wp2_with fail
    rw [← HW0.out]
    refine BL.out.mono ?_
    rintro e z1 ⟨rfl, hz1⟩
    have M1 := Lib.hid (show Mod [] w0 z1 by rw [← hz1]; exact (Mod.refl _ _).alloc _)
    clear hz1
    go_wp2_with fail
    refine (SH.out _ M1.out).mono ?_
    rintro e z2 ⟨rfl, m2⟩
    go_wp2
    go_ret
    exact ⟨rfl, ((M0.out.trans M1.out).trans m2).below (Nat.le_refl _) (by simp)⟩
  | true =>
    rw [hb] at BL
    by_cases hm : a1 = 1 ∨ a1 = 2
    rotate_left
    · have g1 : (a1 != 1) = true := by simp; omega
      have g2 : (a1 != 2) = true := by simp; omega
      clear hm
      go_enter Tryd.func3, Tryd.ntmps3
      go_wp2_with fail
      rw [← HW0.out]
      refine BL.out.mono ?_
      rintro e z1 ⟨rfl, hz1⟩
      have M1 := Lib.hid (show Mod [] w0 z1 by rw [← hz1]; exact (Mod.refl _ _).alloc _)
      clear hz1
      go_wp2_with fail
      refine (SH.out _ M1.out).mono ?_
      rintro e z2 ⟨rfl, m2⟩
      go_wp2
      go_ret
      exact ⟨rfl, ((M0.out.trans M1.out).trans m2).below (Nat.le_refl _) (by simp)⟩
    · have HM := Lib.hid hm
      have HB := Lib.hid hb
      have AK := Lib.hid (dead_ask hb hm)
      obtain ⟨qm, hqm⟩ : ∃ qm : Bool, qm = false := ⟨_, rfl⟩
      have g3 : (a1 != 1 && a1 != 2) = false := by rcases hm with h | h <;> subst h <;> rfl
      clear hb
      go_enter Tryd.func3, Tryd.ntmps3
      go_upto_region 1 with (fail)
      go_cut [36] (fun s wx => s = .bool false ∧ Mod [] w0 wx)
      case first =>
        rw [← HW0.out] at *
        rcases hm with h | h
        all_goals
          subst h
          clear g3
          go_wp2_with (first
            | (go_at_call 11; refine BL.out.mono ?_; rintro e z1 ⟨rfl, hz1⟩; have m1 : Mod [] w0 z1 := by rw [← hz1]; exact (Mod.refl _ _).alloc _)
            | (go_at_call 12; refine (SH.out _ m1).mono ?_; rintro e z2 ⟨rfl, m2⟩))
          go_meet
          exact ⟨congrArg Value.bool (decide_eq_false (by omega)), m1.trans m2⟩
      case rest =>
        obtain ⟨rfl, mc⟩ := hcut
        generalize wc = wn at *
        have M2 := Lib.hid (M0.out.trans mc)
        have R2 := Lib.hid (HR0.out.mod mc (by simp))
        have HZL := Lib.hid mc.size
        have HN := Lib.hid (new_calls wn (Sv.whole_mod HT.out.1 M2.out (by simp)))
        clear hm g3 mc q0 q1 BL
        go_wp2_with fail
        refine HN.out.mono ?_
        rintro e z3 ⟨sv, bT, bB, mB, rfl, s3, m3⟩
        have L3 := Lib.hid (show LawS wn z3 wn.heap.size sv bT bB mB (.slice none 0 0) GS.new from ⟨s3, HT.out.2.mod (M2.out.trans m3) (by simp), m3, Nat.le_refl _, by have := World.block_lt_of_cell? W _ HT.out.1.1; have := M2.out.size; simp only at *; omega⟩)
        have R3 := Lib.hid (R2.out.mod m3 (by simp))
        obtain ⟨x1, f1, n1, g1, r1, y1, e1, hx1⟩ := do_any GS.new ⟨4, 5, 1, 0, 10, 0, 0, 0, 0⟩
        have C1 := Lib.hid (doL_row L3.out _ _ _ _ _ _ _ e1)
        clear s3 m3
        go_wp2_with fail
        refine C1.out.mono ?_
        rintro e z4 ⟨gp4, gc4, rp4, rc4, dp4, dc4, v4, rfl, or4, oz4, s4, hv4, m4⟩
        have R4 := Lib.hid (show KArr z4 sv bT bB mB v4 W.heap.size 23 2 (fun i => if i = 0 then .int .i64 ra else .int .i64 rb) from KArr.next ⟨R3.out, fun e => by have h1 : wn.heap.size ≤ W.heap.size := (svS_low L3.out.s e).1; have := HZL.out; have := HSZ.out; omega⟩ hv4 m4)
        have L4 := Lib.hid s4
        obtain ⟨x2, f2, n2, g2, r2, y2, e2, hx2⟩ := do_any x1 ⟨4, 6, 1, 0, 1000, 0, 0, 0, 0⟩
        have hx2' : x2 = deadS2 := by rw [hx2, hx1]; rfl
        have C2 := Lib.hid (doL_row L4.out _ _ _ _ _ _ _ e2)
        rw [hx2'] at C2
        clear or4 oz4 s4 hv4 m4 C1 e1 e2 hx1 hx2
        go_wp2_with fail
        refine C2.out.mono ?_
        rintro e z5 ⟨gp5, gc5, rp5, rc5, dp5, dc5, v5, rfl, or5, oz5, s5, hv5, m5⟩
        have R5 := Lib.hid (R4.out.next hv5 m5)
        have L5 := Lib.hid s5
        have c0 := R5.out.1.cell 0 (by omega)
        have c1 := R5.out.1.cell 1 (by omega)
        simp only [if_true, if_false, Nat.reduceEqDiff] at c0 c1
        obtain ⟨z6, hz6⟩ : ∃ z6, z6 = z5.alloc (.cells #[.int .i64 ra, .int .i64 rb, .int .i64 5, .int .i64 a1] 39) := ⟨_, rfl⟩
        have HZ6 := Lib.hid hz6
        have m6 : Mod [] z5 z6 := by rw [hz6]; exact (Mod.refl _ _).alloc _
        have L6 := Lib.hid (L5.out.mod0 m6)
        have R6 := Lib.hid (R5.out.mod0 m6)
        have K6 := Lib.hid (show KArr z6 sv bT bB mB v5 z5.heap.size 39 4 (fun i => if i = 0 then .int .i64 ra else if i = 1 then .int .i64 rb else if i = 2 then .int .i64 5 else .int .i64 a1) from ⟨by
          rw [hz6]
          exact Arr.new' z5 _ _ 4 _ rfl (fun i hi => by
            match i, hi with
            | 0, _ | 1, _ | 2, _ | 3, _ => rfl), sv_ne L5.out.s (Nat.le_refl _)⟩)
        have C3 := Lib.hid (doL_row L6.out _ _ _ _ _ _ _ AK.out)
        clear or5 oz5 s5 hv5 m5 C2 hz6 m6
        have zlt : W.heap.size < z5.heap.size := R5.out.lt
        go_wp2_with fail
        rw [← HZ6.out]
        refine C3.out.mono ?_
        rintro e z7 ⟨gp7, gc7, rp7, rc7, dp7, dc7, v7, rfl, or7, oz7, s7, hv7, m7⟩
        have hfl := fun w => ans_field0 w 0 1 gp7 rp7 dp7 0 gc7 0 rc7 0 dc7
        have K7 := Lib.hid (K6.out.next hv7 m7)
        obtain ⟨x4, hx4, hD⟩ := dead_sweep ra.toNat rb.toNat a1.toNat
        have C4 := Lib.hid (doL_row s7 _ _ _ _ _ _ _ hx4)
        have HD := Lib.hid hD
        clear or7 oz7 s7 hv7 m7 C3 c0 c1 hx4 hD
        simp only [List.length_nil]
        go_wp2_with fail
        refine C4.out.mono ?_
        rintro e z8 ⟨gp8, gc8, rp8, rc8, dp8, dc8, v8, rfl, or8, oz8, s8, hv8, m8⟩
        obtain ⟨gz, cz, hgz, hgb, hcz1, hcz2, hz8⟩ := own_arr oz8 (by simp)
        have hz5 := hz8.cell 0 (by simp)
        simp only [intsOf, List.map_cons, List.map_nil] at hz5
        have hgz : dp8 = some ⟨gz, 0, none⟩ := by
          injection hgz
        subst hgz
        obtain ⟨z9, hz9⟩ : ∃ z9, z9 = z8.alloc (.cells #[.int .i64 0, .int .i64 0, .slice gp8 0 gc8, .slice rp8 0 rc8, .slice (some ⟨gz, 0, none⟩) 1 dc8] 34) := ⟨_, rfl⟩
        have HZ9 := Lib.hid hz9
        have m9 : Mod [] z8 z9 := by rw [hz9]; exact (Mod.refl _ _).alloc _
        have L9 := Lib.hid (s8.mod0 m9)
        have K9 := Lib.hid ((K7.out.next hv8 m8).mod0 m9)
        have A9 := (show Arr z9 z8.heap.size 34 5 (ansF 0 0 (.slice gp8 0 gc8) (.slice rp8 0 rc8) (.slice (some ⟨gz, 0, none⟩) 1 dc8)) by rw [hz9]; exact ans_new _ _ _ _ _ _)
        have b4 := A9.cell 4 (by omega)
        simp only [ansF, if_true, if_false, Nat.reduceEqDiff] at b4
        have hz6 : z9.cell? ⟨gz, 0, none⟩ = some (.int .i64 5) := m9.cell' hz5 (by simp)
        have c1 := L9.out.s.c1
        have DC := Lib.hid ((bkDead_calls z9 bB x4.u x4.s x4.d 5 L9.out.s.bk).mono (R' := fun e w' => e = .returned (.bool true) ∧ z9 = w') (fun e w' h => ⟨by rw [h.1, show deadV x4.d 5 = true from by unfold deadV; rw [if_neg (by decide)]; exact HD.out.dd], h.2⟩))
        clear or8 oz8 s8 hv8 m8 C4 hz9 m9 A9 hz8 hgb hcz1 hcz2 hz5 hfl
        simp only [List.length_nil, List.length_cons, Nat.zero_add]
        go_upto_region 10 with (fail)
        rw [← HZ9.out]
        go_wp2_with (go_at_call 15; refine DC.out.mono ?_; rintro e w9 ⟨rfl, rfl⟩)
        have MZ := Lib.hid (And.intro M2.out zlt)
        clear c1 b4 hz6 DC
        go_loopw [10] (fun i wr => ∃ (k : Nat) (v : Value) (x : GS), k ≤ n ∧ i = .int .i64 k ∧ DInv ra.toNat rb.toNat a1.toNat x ∧ LawS wn wr wn.heap.size sv bT bB mB v x ∧ KArr wr sv bT bB mB v z5.heap.size 39 4 (fun i => if i = 0 then .int .i64 ra else if i = 1 then .int .i64 rb else if i = 2 then .int .i64 5 else .int .i64 a1)) (fun i _ => n - (intOf i).toNat)
        case atStart => exact ⟨0, _, _, Nat.zero_le _, rfl, HD.out, L9.out, K9.out⟩
        case round =>
          obtain ⟨k, v, x, hk, rfl, hD, hI, hKA⟩ := hrel
          clear HD
          by_cases hlt : k < n
          · have i0 : (0 : Int) ≤ (k : Int) := by omega
            have i1 : (k : Int) < (n : Int) := by omega
            obtain ⟨b, off, rfl, y0, y1, y2, y3, y4, y5, y6, y7, y8⟩ := cmdArg_at HA.out (MZ.out.1.trans hI.m) hlt
            have C := Lib.hid (doL_calls wn wr wn.heap.size sv bT bB mB v x (cm f k) hI)
            obtain ⟨q, hq⟩ : ∃ q : Bool, q = (decide ((cm f k).k ≠ 7) && (decide ((cm f k).c ≠ 5) && decide ((cm f k).c ≠ 6))) := ⟨_, rfl⟩
            have HQ := Lib.hid hq
            have HD := Lib.hid hD
            have HI := Lib.hid hI
            have HK := Lib.hid hKA
            clear hq hD hI hKA
            generalize wr = wl at *
            go_upto_region 15 with (fail)
            go_cut [105] (fun s wx => s = .bool q ∧ wx = wl)
            case first =>
              by_cases k7 : (cm f k).k = 7
              · have e := Lib.hid (show q = false by rw [HQ.out]; simp [k7])
                have t7 : ((cm f k).k != 7) = false := by simpa using k7
                clear k7
                go_wp2
                go_meet
                exact ⟨by rw [e.out], rfl⟩
              · have t7 : ((cm f k).k != 7) = true := by simpa using k7
                by_cases c5 : (cm f k).c = 5
                · have e := Lib.hid (show q = false by rw [HQ.out]; simp [c5])
                  have t5 : ((cm f k).c != 5) = false := by simpa using c5
                  clear k7 c5
                  go_wp2
                  go_meet
                  exact ⟨by rw [e.out], rfl⟩
                · have t5 : ((cm f k).c != 5) = true := by simpa using c5
                  by_cases c6 : (cm f k).c = 6
                  · have e := Lib.hid (show q = false by rw [HQ.out]; simp [c6])
                    have t6 : ((cm f k).c != 6) = false := by simpa using c6
                    clear k7 c5 c6
                    go_wp2
                    go_meet
                    exact ⟨by rw [e.out], rfl⟩
                  · have e := Lib.hid (show q = true by rw [HQ.out]; simp [k7, c5, c6])
                    have t6 : ((cm f k).c != 6) = true := by simpa using c6
                    clear k7 c5 c6
                    go_wp2
                    go_meet
                    exact ⟨by rw [e.out], rfl⟩
            case rest =>
              obtain ⟨rfl, hwx⟩ := hcut
              subst wc
              go_upto_if 105 with (fail)
              go_cut [10] (fun s wx => s = .int .i64 k ∧ ∃ (v : Value) (x : GS), DInv ra.toNat rb.toNat a1.toNat x ∧ LawS wn wx wn.heap.size sv bT bB mB v x ∧ KArr wx sv bT bB mB v z5.heap.size 39 4 (fun i => if i = 0 then .int .i64 ra else if i = 1 then .int .i64 rb else if i = 2 then .int .i64 5 else .int .i64 a1))
              case first =>
                cases q with
                | true =>
                  have hq3 : (cm f k).k ≠ 7 ∧ (cm f k).c ≠ 5 ∧ (cm f k).c ≠ 6 := by
                    have := HQ.out.symm
                    simpa using this
                  have HN3 := Lib.hid hq3
                  clear hq3
                  go_wp2_with fail
                  refine C.out.mono ?_
                  rintro e w2 ⟨gp, gc, rp, rc, dp, dc, v', rfl, o1, o2, o3, s2, hv, m2⟩
                  have FIN := Lib.hid (And.intro (dinv_do HD.out HN3.out.1 HN3.out.2.1 HN3.out.2.2) (And.intro s2 (HK.out.next hv m2)))
                  clear o1 o2 o3 s2 hv m2 y0 y1 y2 y3 y4 y5 y6 y7 y8
                  go_wp2
                  go_meet
                  exact ⟨rfl, _, _, FIN.out⟩
                | false =>
                  go_wp2
                  go_meet
                  exact ⟨rfl, _, _, HD.out, HI.out, HK.out⟩
              case rest =>
                obtain ⟨rfl, v9, x9, hD9, hI9, hK9⟩ := hcut
                have hwr : IntKind.i64.wrap (100 + (k : Int)) = 100 + (k : Int) := by rw [IntKind.wrap_i64]; omega
                have CR := Lib.hid (doL_row hI9 _ _ _ _ _ _ _ (dinv_renew hD9 (i := k) (by omega)))
                have HD9 := Lib.hid hD9
                have HK9 := Lib.hid hK9
                clear hD9 hI9 hK9 C HD HI HK y0 y1 y2 y3 y4 y5 y6 y7 y8
                go_wp2_with fail
                refine CR.out.mono ?_
                rintro e w3 ⟨gp, gc, rp, rc, dp, dc, v', rfl, o2, o3, s2, hv, m2⟩
                have hfl := fun w => ans_field0 w 200 0 gp rp dp 0 gc 0 rc 0 dc
                have S3 := Lib.hid s2
                have K3 := Lib.hid (HK9.out.next hv m2)
                clear o2 o3 s2 hv m2 CR
                simp only [List.length_nil]
                go_wp2
                go_roundw
                case rel => exact ⟨k + 1, v', x9, by omega, by go_num, HD9.out, S3.out, K3.out⟩
                case measure => simp [intOf]; omega
          · obtain rfl : k = n := by omega
            have hlt' : decide ((k : Int) < (k : Int)) = false := by simp
            have HO := Lib.hid (holds_calls wr wn.heap.size sv bT bB mB v x hI.s)
            obtain ⟨L, hL⟩ : ∃ L, L = listL x.t := ⟨_, rfl⟩
            rw [← hL] at HO
            have HD := Lib.hid hD
            have HI := Lib.hid hI
            have HK := Lib.hid hKA
            have HLL := Lib.hid hL
            clear hL hD hI hKA
            have hbb : 0 ≤ ra ∧ ra < rb ∧ rb ≤ 256 := by
              have := HB.out
              simp only [blk, Bool.and_eq_true, decide_eq_true_eq] at this
              omega
            have hmm := HM.out
            have ER := Lib.hid (show ra = ((ra.toNat : Nat) : Int) ∧ rb = ((rb.toNat : Nat) : Int) ∧ a1 = ((a1.toNat : Nat) : Int) ∧ ra.toNat < rb.toNat ∧ rb.toNat ≤ 256 ∧ a1.toNat ≠ 0 from ⟨by omega, by omega, by omega, by omega, by omega, by omega⟩)
            clear hbb hmm
            go_wp2_with fail
            refine HO.out.mono ?_
            rintro e wh ⟨vh, rfl, oh, mh⟩
            obtain ⟨ph, ch, rfl, l1, l2, hxh⟩ := own_holds' oh
            have HXH := Lib.hid hxh
            have IH := Lib.hid (HI.out.mod0 mh)
            have KH := Lib.hid (HK.out.mod0 mh)
            clear oh mh hxh HO HI HK
            go_wp2
            go_loopw [13, 12] (fun i s wr => ∃ j : Nat, j ≤ L.length ∧ i = .int .i64 j ∧ s = .bool ((L.take j).any fun y => decide (y = (ra.toNat, rb.toNat, 5, a1.toNat))) ∧ Mod [] wh wr) (fun i _ _ => L.length - (intOf i).toNat)
            case atStart => exact ⟨0, Nat.zero_le _, rfl, rfl, Mod.refl _ _⟩
            case round =>
              obtain ⟨j, hj, rfl, rfl, hM⟩ := hrel
              by_cases hlj : j < L.length
              · obtain ⟨y, hy⟩ : ∃ y, L[j]? = some y := ⟨_, List.getElem?_eq_getElem hlj⟩
                obtain ⟨g, rfl, _, _, hc⟩ := HXH.out (by omega)
                obtain ⟨y0, y1, y2, y3⟩ := hc j y hy
                have ET := Lib.hid (any_take (fun y => decide (y = (ra.toNat, rb.toNat, 5, a1.toNat))) hy)
                replace y0 := hM.cell' y0 (by simp)
                replace y1 := hM.cell' y1 (by simp)
                replace y2 := hM.cell' y2 (by simp)
                replace y3 := hM.cell' y3 (by simp)
                have KM := (KH.out.mod0 hM).1
                have x0 := KM.cell 0 (by omega)
                have x1 := KM.cell 1 (by omega)
                have x2 := KM.cell 2 (by omega)
                have x3 := KM.cell 3 (by omega)
                simp only [if_true, if_false, Nat.reduceEqDiff] at x0 x1 x2 x3
                have HMM := Lib.hid hM
                have j0 : (0 : Int) ≤ (j : Int) := by omega
                have j1 : (j : Int) < (L.length : Int) := by omega
                generalize (L.take j).any (fun y => decide (y = (ra.toNat, rb.toNat, 5, a1.toNat))) = an at *
                clear hc hM hy KM
                cases an with
                | true =>
                  go_wp2
                  go_quiet (fail)
                  go_wp2
                  go_roundw
                  case rel => exact ⟨j + 1, by omega, by go_num, by rw [ET.out]; rfl, HMM.out.drewN _⟩
                  case measure => simp [intOf]; omega
                | false =>
                  obtain ⟨z0, z1, z2, z3⟩ := y
                  obtain ⟨er1, er2, er3, -⟩ := ER.out
                  simp only at y0 y1 y2 y3
                  by_cases f0 : (z0 : Int) = ra
                  rotate_left
                  · have e2 := Lib.hid (show decide ((z0, z1, z2, z3) = (ra.toNat, rb.toNat, 5, a1.toNat)) = false from decide_eq_false (fun e => by simp only [Prod.mk.injEq] at e; omega))
                    have t0 : ((z0 : Int) == ra) = false := by simpa using f0
                    clear er1 er2 er3 f0
                    go_wp2
                    go_quiet (fail)
                    go_wp2
                    go_roundw
                    case rel => exact ⟨j + 1, by omega, by go_num, by rw [ET.out, e2.out]; rfl, HMM.out.drewN _⟩
                    case measure => simp [intOf]; omega
                  by_cases f1 : (z1 : Int) = rb
                  rotate_left
                  · have e2 := Lib.hid (show decide ((z0, z1, z2, z3) = (ra.toNat, rb.toNat, 5, a1.toNat)) = false from decide_eq_false (fun e => by simp only [Prod.mk.injEq] at e; omega))
                    have t1 : ((z1 : Int) == rb) = false := by simpa using f1
                    have t0 : ((z0 : Int) == ra) = true := by simpa using f0
                    clear er1 er2 er3 f0 f1
                    go_wp2
                    go_quiet (fail)
                    go_wp2
                    go_roundw
                    case rel => exact ⟨j + 1, by omega, by go_num, by rw [ET.out, e2.out]; rfl, HMM.out.drewN _⟩
                    case measure => simp [intOf]; omega
                  by_cases f2 : (z2 : Int) = 5
                  rotate_left
                  · have e2 := Lib.hid (show decide ((z0, z1, z2, z3) = (ra.toNat, rb.toNat, 5, a1.toNat)) = false from decide_eq_false (fun e => by simp only [Prod.mk.injEq] at e; omega))
                    have t2 : ((z2 : Int) == 5) = false := by simpa using f2
                    have t0 : ((z0 : Int) == ra) = true := by simpa using f0
                    have t1 : ((z1 : Int) == rb) = true := by simpa using f1
                    clear er1 er2 er3 f0 f1 f2
                    go_wp2
                    go_quiet (fail)
                    go_wp2
                    go_roundw
                    case rel => exact ⟨j + 1, by omega, by go_num, by rw [ET.out, e2.out]; rfl, HMM.out.drewN _⟩
                    case measure => simp [intOf]; omega
                  by_cases f3 : (z3 : Int) = a1
                  rotate_left
                  · have e2 := Lib.hid (show decide ((z0, z1, z2, z3) = (ra.toNat, rb.toNat, 5, a1.toNat)) = false from decide_eq_false (fun e => by simp only [Prod.mk.injEq] at e; omega))
                    have t3 : ((z3 : Int) == a1) = false := by simpa using f3
                    have t0 : ((z0 : Int) == ra) = true := by simpa using f0
                    have t1 : ((z1 : Int) == rb) = true := by simpa using f1
                    have t2 : ((z2 : Int) == 5) = true := by simpa using f2
                    clear er1 er2 er3 f0 f1 f2 f3
                    go_wp2
                    go_quiet (fail)
                    go_wp2
                    go_roundw
                    case rel => exact ⟨j + 1, by omega, by go_num, by rw [ET.out, e2.out]; rfl, HMM.out.drewN _⟩
                    case measure => simp [intOf]; omega
                  have e2 := Lib.hid (show decide ((z0, z1, z2, z3) = (ra.toNat, rb.toNat, 5, a1.toNat)) = true from decide_eq_true (by simp only [Prod.mk.injEq]; omega))
                  have t0 : ((z0 : Int) == ra) = true := by simpa using f0
                  have t1 : ((z1 : Int) == rb) = true := by simpa using f1
                  have t2 : ((z2 : Int) == 5) = true := by simpa using f2
                  have t3 : ((z3 : Int) == a1) = true := by simpa using f3
                  clear er1 er2 er3 f0 f1 f2 f3
                  go_wp2
                  go_quiet (fail)
                  go_wp2
                  go_roundw
                  case rel => exact ⟨j + 1, by omega, by go_num, by rw [ET.out, e2.out]; rfl, HMM.out.drewN _⟩
                  case measure => simp [intOf]; omega
              · obtain rfl : j = L.length := by omega
                have hlj' : decide ((L.length : Int) < (L.length : Int)) = false := by simp
                have hany : ((L.take L.length).any fun y => decide (y = (ra.toNat, rb.toNat, 5, a1.toNat))) = true := by
                  rw [List.take_length, List.any_eq_true]
                  exact ⟨_, by rw [HLL.out]; exact dinv_mem HD.out ER.out.2.2.2.1 ER.out.2.2.2.2.1 ER.out.2.2.2.2.2, by simp⟩
                rw [hany]
                have I1 := Lib.hid (IH.out.mod0 hM)
                have K1 := Lib.hid (KH.out.mod0 hM)
                obtain ⟨e7, he7, hd7⟩ := dinv_done HD.out
                have C7 := Lib.hid (doL_row I1.out _ _ _ _ _ _ _ hd7)
                have t7 : (e7 == 0) = false := by simpa using he7
                clear hany hM HXH IH KH he7 hd7
                go_wp2_with fail
                refine C7.out.mono ?_
                rintro e w7 ⟨gp7, gc7, rp7, rc7, dp7, dc7, v7, rfl, or7, oz7, s7, hv7, m7⟩
                have hfl7 := fun w => ans_field0 w e7 0 gp7 rp7 dp7 0 gc7 0 rc7 0 dc7
                have I2 := Lib.hid s7
                have K2 := Lib.hid (K1.out.next hv7 m7)
                clear or7 oz7 s7 hv7 m7 C7
                simp only [List.length_nil]
                rcases dinv_recover HD.out ER.out.2.2.2.1 ER.out.2.2.2.2.1 ER.out.2.2.2.2.2 with ⟨e8, he8, hd8⟩ | ⟨hr8, hd8⟩
                · have C8 := Lib.hid (doL_row I2.out _ _ _ _ _ _ _ hd8)
                  clear hd8
                  go_wp2_with fail
                  refine C8.out.mono ?_
                  rintro e w8 ⟨gp8, gc8, rp8, rc8, dp8, dc8, v8, rfl, or8, oz8, s8, hv8, m8⟩
                  obtain ⟨w9, hw9⟩ : ∃ w9, w9 = w8.alloc (.cells #[.int .i64 e8, .int .i64 0, .slice gp8 0 gc8, .slice rp8 0 rc8, .slice dp8 0 dc8] 34) := ⟨_, rfl⟩
                  have HW9 := Lib.hid hw9
                  have m9 : Mod [] w8 w9 := by rw [hw9]; exact (Mod.refl _ _).alloc _
                  have I9 := Lib.hid (s8.mod0 m9)
                  have A9 := (show Arr w9 w8.heap.size 34 5 (ansF e8 0 (.slice gp8 0 gc8) (.slice rp8 0 rc8) (.slice dp8 0 dc8)) by rw [hw9]; exact ans_new _ _ _ _ _ _)
                  have b0 := A9.cell 0 (by omega)
                  simp only [ansF, if_true, if_false, Nat.reduceEqDiff] at b0
                  have c1 := I9.out.s.c1
                  have DC := Lib.hid ((bkDead_calls w9 bB x.u x.s x.d 5 I9.out.s.bk).mono (R' := fun e w' => e = .returned (.bool true) ∧ w9 = w') (fun e w' h => ⟨by rw [h.1, show deadV x.d 5 = true from by unfold deadV; rw [if_neg (by decide)]; exact HD.out.dd], h.2⟩))
                  clear or8 oz8 s8 hv8 m8 C8 hw9 m9 A9
                  simp only [GA.err, List.length_nil]
                  rcases he8 with h | h
                  all_goals
                    subst h
                    go_upto_region 28 with (fail)
                    rw [← HW9.out]
                    go_wp2_with (go_at_call 15; refine DC.out.mono ?_; rintro e w9 ⟨rfl, rfl⟩)
                    go_ret
                    exact ⟨rfl, (M2.out.trans I9.out.m).below (Nat.le_refl _) (by simp)⟩
                · have C8 := Lib.hid (doL_rv I2.out _ _ _ _ _ _ _ hd8)
                  obtain ⟨hfE, hfD, hfU, hfL⟩ := dinv_free HD.out hr8
                  obtain ⟨x9, f9, n9, g9, r9, y9, e9, hx9⟩ := do_any ({ x with bb := upd x.bb 5 6 } : GS) ⟨7, 6, 0, 0, 0, 0, 0, 0, 5⟩
                  rw [e9] at hfE hfD hfU hfL
                  simp only at hfE hfD hfU hfL
                  subst hfE
                  have FU := Lib.hid (And.intro hfD (And.intro hfU hfL))
                  have HE9 := Lib.hid e9
                  clear hd8 hr8 hfD hfU hfL e9 hx9
                  go_wp2_with fail
                  refine C8.out.mono ?_
                  rintro e w8 ⟨gp8, gc8, rp8, rc8, dp8, dc8, v8, rfl, or8, nr8, s8, hv8, m8⟩
                  obtain ⟨gr, cr, hgr, hgrb, hcr1, hcr2, hz8⟩ := own_arr or8 (by simp)
                  have hgr : rp8 = some ⟨gr, 0, none⟩ := by
                    injection hgr
                  subst hgr
                  have RW8 : KArr w8 sv bT bB mB v8 gr 39 4 (fun i => (hcells [(ra.toNat, rb.toNat, 5, a1.toNat)]).getD i undef) := ⟨hz8, nr8 _ rfl⟩
                  obtain ⟨w9, hw9⟩ : ∃ w9, w9 = w8.alloc (.cells #[.int .i64 0, .int .i64 0, .slice gp8 0 gc8, .slice (some ⟨gr, 0, none⟩) 1 rc8, .slice dp8 0 dc8] 34) := ⟨_, rfl⟩
                  have HW9 := Lib.hid hw9
                  have m9 : Mod [] w8 w9 := by rw [hw9]; exact (Mod.refl _ _).alloc _
                  have I9 := Lib.hid (s8.mod0 m9)
                  have K9 := Lib.hid ((K2.out.next hv8 m8).mod0 m9)
                  have RW9 := Lib.hid (RW8.mod0 m9)
                  have A9 := Lib.hid (show KArr w9 sv bT bB mB v8 w8.heap.size 34 5 (ansF 0 0 (.slice gp8 0 gc8) (.slice (some ⟨gr, 0, none⟩) 1 rc8) (.slice dp8 0 dc8)) by rw [hw9]; exact karr_ans s8 _ _ _ _ _)
                  have b0 := A9.out.1.cell 0 (by omega)
                  simp only [ansF, if_true, if_false, Nat.reduceEqDiff] at b0
                  have CX := Lib.hid (doL_row I9.out _ _ _ _ _ _ _ HE9.out)
                  clear or8 nr8 s8 hv8 m8 C8 hz8 hw9 m9 RW8 hgrb hcr1 hcr2 t7 hfl7
                  simp only [List.length_nil, List.length_cons, Nat.zero_add]
                  go_upto_region 30 with (fail)
                  rw [← HW9.out]
                  clear b0
                  go_wp2_with fail
                  refine CX.out.mono ?_
                  rintro e wa ⟨gpa, gca, rpa, rca, dpa, dca, va, rfl, ora, oza, sa, hva, ma⟩
                  obtain ⟨wb, hwb⟩ : ∃ wb, wb = wa.alloc (.cells #[.int .i64 0, .int .i64 n9, .slice gpa g9.length gca, .slice rpa r9.length rca, .slice dpa y9.length dca] 34) := ⟨_, rfl⟩
                  have HWB := Lib.hid hwb
                  have mb : Mod [] wa wb := by rw [hwb]; exact (Mod.refl _ _).alloc _
                  have IB := Lib.hid (sa.mod0 mb)
                  have KB := (K9.out.next hva ma).mod0 mb
                  have RB := (RW9.out.next hva ma).mod0 mb
                  have AB := (A9.out.next hva ma).mod0 mb
                  have BB := (show KArr wb sv bT bB mB va wa.heap.size 34 5 (ansF 0 n9 (.slice gpa g9.length gca) (.slice rpa r9.length rca) (.slice dpa y9.length dca)) by rw [hwb]; exact karr_ans sa _ _ _ _ _)
                  have a0 := AB.1.cell 0 (by omega)
                  have a3 := AB.1.cell 3 (by omega)
                  have b0 := BB.1.cell 0 (by omega)
                  simp only [ansF, if_true, if_false, Nat.reduceEqDiff] at a0 a3 b0
                  have h0 := KB.1.cell 0 (by omega)
                  have h1 := KB.1.cell 1 (by omega)
                  have h2 := KB.1.cell 2 (by omega)
                  have h3 := KB.1.cell 3 (by omega)
                  simp only [if_true, if_false, Nat.reduceEqDiff] at h0 h1 h2 h3
                  have er1 := ER.out.1
                  have er2 := ER.out.2.1
                  have er3 := ER.out.2.2.1
                  have r0 : wb.cell? ⟨gr, 0, none⟩ = some (.int .i64 ra) := (RB.1.cell 0 (by omega)).trans (by show some (Value.int .i64 (ra.toNat : Nat)) = _; rw [← er1])
                  have r1 : wb.cell? ⟨gr, 1, none⟩ = some (.int .i64 rb) := (RB.1.cell 1 (by omega)).trans (by show some (Value.int .i64 (rb.toNat : Nat)) = _; rw [← er2])
                  have r2 : wb.cell? ⟨gr, 2, none⟩ = some (.int .i64 5) := (RB.1.cell 2 (by omega)).trans rfl
                  have r3 : wb.cell? ⟨gr, 3, none⟩ = some (.int .i64 a1) := (RB.1.cell 3 (by omega)).trans (by show some (Value.int .i64 (a1.toNat : Nat)) = _; rw [← er3])
                  have c1 := IB.out.s.c1
                  have DC := Lib.hid (fun w (m : Mod [] wb w) => (bkDead_calls w bB x9.u x9.s x9.d 5 (IB.out.s.mod0 m).bk).mono (R' := fun e w' => e = .returned (.bool false) ∧ w' = w) (fun e w' h => ⟨by rw [h.1, FU.out.1], h.2.symm⟩))
                  clear ora oza sa hva ma CX hwb mb KB RB AB BB er1 er2 er3 A9 RW9 K9
                  go_upto_region 31 with (fail)
                  rw [← HWB.out]
                  go_quiet (first | (go_at_call 15; exact Calls.quiet_of_same (DC.out _ ((Mod.refl _ _).drewN _))))
                  have IC := Lib.hid (IB.out.mod0 ((Mod.refl [] wb).drewN nq))
                  clear a0 a3 b0 h0 h1 h2 h3 r0 r1 r2 r3 c1 DC
                  generalize wb.drewN nq = wz at *
                  have HO2 := Lib.hid (holds_calls wz wn.heap.size sv bT bB mB va x9 IC.out.s)
                  obtain ⟨L2, hL2⟩ : ∃ L2, L2 = listL x9.t := ⟨_, rfl⟩
                  have HNL := Lib.hid (show ∀ y ∈ L2, y.2.2.1 ≠ 5 by rw [hL2]; exact FU.out.2.2)
                  rw [← hL2] at HO2
                  clear hL2
                  go_wp2_with fail
                  refine HO2.out.mono ?_
                  rintro e wy ⟨vy, rfl, oy, my⟩
                  obtain ⟨py, cy, rfl, ly1, ly2, hxy⟩ := own_holds' oy
                  have HXY := Lib.hid hxy
                  have IY := Lib.hid (IC.out.mod0 my)
                  clear oy my hxy HO2
                  go_wp2
                  go_loop [16] (fun i => ∃ j : Nat, j ≤ L2.length ∧ i = .int .i64 j) (fun i => L2.length - (intOf i).toNat)
                  case atStart => exact ⟨0, Nat.zero_le _, rfl⟩
                  case round =>
                    obtain ⟨j, hj, rfl⟩ := hrel
                    by_cases hlj : j < L2.length
                    · obtain ⟨y, hy⟩ : ∃ y, L2[j]? = some y := ⟨_, List.getElem?_eq_getElem hlj⟩
                      obtain ⟨g, rfl, _, _, hc⟩ := HXY.out (by omega)
                      obtain ⟨y0, y1, y2, y3⟩ := hc j y hy
                      have j0 : (0 : Int) ≤ (j : Int) := by omega
                      have j1 : (j : Int) < (L2.length : Int) := by omega
                      have hn5 : y.2.2.1 ≠ 5 := HNL.out y (List.mem_of_getElem? hy)
                      have t5 : ((y.2.2.1 : Int) == 5) = false := by simp; omega
                      clear hc hy y0 y1 y3 hn5
                      go_wp2
                      go_round
                      case rel => exact ⟨j + 1, by omega, by go_num⟩
                      case measure => simp [intOf]; omega
                    · obtain rfl : j = L2.length := by omega
                      have hlj' : decide ((L2.length : Int) < (L2.length : Int)) = false := by simp
                      have c1 := IY.out.s.c1
                      have UC := Lib.hid ((bkUntil_calls wy bB x9.u x9.s x9.d 5 IY.out.s.bk).mono (R' := fun e w' => e = .returned (.int .i64 (-1)) ∧ wy = w') (fun e w' h => ⟨by rw [h.1, FU.out.2.1], h.2⟩))
                      go_wp2_with (go_at_call 17; refine UC.out.mono ?_; rintro e wu ⟨rfl, rfl⟩)
                      go_ret
                      exact ⟨rfl, (M2.out.trans IY.out.m).below (Nat.le_refl _) (by simp)⟩
end Go.Proofs.YtijjbkkcienfgaaDoor
