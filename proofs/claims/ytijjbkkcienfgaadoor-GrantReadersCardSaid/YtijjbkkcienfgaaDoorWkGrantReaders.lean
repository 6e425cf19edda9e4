/- The walk of the law GrantReaders: readers of one range, and one that asks to write it. Premises: the whole range and the table of kinds lie as laid. (Written by wip/tools/genReaders.py.) -/
import Derived.Test.YtijjbkkcienfgaaDoorProg
import Derived.Test.YtijjbkkcienfgaaDoorGrR
namespace Go.Proofs.YtijjbkkcienfgaaDoor
open Go.RowKit
set_option linter.unusedVariables false
set_option linter.unusedSimpArgs false
attribute [local go_sem ↓] Go.wp_at_zero Go.wp_at_succ

/-- A command, its answer told, with its grants. -/
theorem doL_g {W w : World} {B sv bT bB mB : Nat} {v : Value} {x : GS} (h : LawS W w B sv bT bB mB v x) (c : CmdT) (x' : GS) (e n : Int) (gl : List (Nat × HoldT)) (rl : List HoldT) (zl : List Nat) (hy : x.Do c = (x', ⟨e, n, gl, rl, zl⟩)) :
    Calls Tryd.prog 14 #[.pointer (some ⟨sv, 0, none⟩), .agg #[.int .i64 c.k, .int .i64 c.c, .int .i64 c.q, .int .i64 c.n, .int .i64 c.l, .int .i64 c.a, .int .i64 c.b, .int .i64 c.m, .int .i64 c.o]] w fun r w' =>
      ∃ gp gc rp rc dp dc v', r = .returned (.agg #[.int .i64 e, .int .i64 n, .slice gp gl.length gc, .slice rp rl.length rc, .slice dp zl.length dc]) ∧ w'.ownsRow w.heap.size 71 5 (.slice gp gl.length gc) gl.length (gcells gl) ∧
      LawS W w' B sv bT bB mB v' x' ∧ (∀ k, v'.ownBlock = some k → v.ownBlock = some k ∨ w.heap.size ≤ k) ∧ Mod (SvS sv bT bB mB v) w w' := by
  refine (doL_calls W w B sv bT bB mB v x c h).mono ?_
  rintro r w' ⟨gp, gc, rp, rc, dp, dc, v', hr, o1, o2, o3, s, hv, m⟩
  rw [hy] at hr o1 s
  exact ⟨gp, gc, rp, rc, dp, dc, v', hr, o1, s, hv, m⟩
theorem beg_do (k : Nat) (hk : k < 4) : (bg k).Do ⟨4, k, 1, 0, 1000, 0, 0, 0, 0⟩ = (bg (k + 1), ⟨0, 1000, [], [], []⟩) := by
  have h1 : renewE (bg k).s (bg k).d k 1 0 1000 = 0 := by
    match k, hk with
    | 0, _ | 1, _ | 2, _ | 3, _ => decide +kernel
  have h2 : renewV (bg k).u (bg k).s (bg k).d k 1 0 1000 = 1000 := by
    match k, hk with
    | 0, _ | 1, _ | 2, _ | 3, _ => decide +kernel
  have h3 : ((bg k).Do ⟨4, k, 1, 0, 1000, 0, 0, 0, 0⟩).2 = ⟨0, 1000, [], [], []⟩ := by
    have e0 : (bg k).Do ⟨4, k, 1, 0, 1000, 0, 0, 0, 0⟩ = (bg k).renew ⟨4, k, 1, 0, 1000, 0, 0, 0, 0⟩ := by simp only [GS.Do]; rfl
    rw [e0]
    unfold GS.renew
    show (⟨renewE (bg k).s (bg k).d k 1 0 1000, renewV (bg k).u (bg k).s (bg k).d k 1 0 1000, [], [], []⟩ : GA) = _
    rw [h1, h2]
  rw [← h3]
  rfl
set_option maxRecDepth 100000 in
set_option maxHeartbeats 8000000 in
theorem grantReaders_walk (W : World) (t0 : Whole W) (t1 : Kd W) (s0 : Array Value) (c0 : CellsOk W [.int .i64, .int .i64] s0.toList)
    (v1 : Value) (c1 : CellOk W (.sl [.bool]) v1) :
    Calls Tryd.prog 8 #[.agg s0, v1] W fun e w' => e = .returned (.bool true) ∧ Below W.heap.size W w' := by
  obtain ⟨ra, rb, rfl⟩ : ∃ ra rb : Int, s0 = #[.int .i64 ra, .int .i64 rb] := by
    obtain ⟨hl, hc⟩ := c0
    obtain ⟨xs⟩ := s0
    simp only at hl hc
    match xs, hl with
    | [x, y], _ =>
      obtain ⟨a, rfl, _⟩ := (hc 0 _ x rfl rfl).int_inv
      obtain ⟨b, rfl, _⟩ := (hc 1 _ y rfl rfl).int_inv
      exact ⟨a, b, rfl⟩
  obtain ⟨p0, n, cap0, rfl⟩ : ∃ p n cap, v1 = .slice p n cap := by
    cases c1 with
    | nil => exact ⟨none, 0, 0, rfl⟩
    | sl f h1 h2 h3 h4 => exact ⟨_, _, _, rfl⟩
  clear c0 c1
  have HT := Lib.hid (And.intro t0 t1)
  clear t0 t1
  obtain ⟨w0, hw0⟩ : ∃ w0, w0 = W.alloc (.cells #[.int .i64 ra, .int .i64 rb] 23) := ⟨_, rfl⟩
  have HW0 := Lib.hid hw0
  have M0 := Lib.hid (show Mod [] W w0 by rw [hw0]; exact (Mod.refl _ _).alloc _)
  have HSZ := Lib.hid (show w0.heap.size = W.heap.size + 1 by rw [hw0]; simp)
  have HR0 := Lib.hid (show Arr w0 W.heap.size 23 2 (fun i => if i = 0 then .int .i64 ra else .int .i64 rb) by
    rw [hw0]
    exact Arr.new' W _ _ 2 _ rfl (fun i hi => by
      match i, hi with
      | 0, _ | 1, _ => rfl))
  have BL := Lib.hid (blocks_calls w0 ra rb)
  have SH := Lib.hid (fun w (m : Mod [] w0 w) => shown_calls w (Sv.whole_mod HT.out.1 (M0.out.trans m) (by simp)) (HT.out.2.mod (M0.out.trans m) (by simp)))
  clear hw0
  have q0 := HR0.out.cell 0 (by omega)
  have q1 := HR0.out.cell 1 (by omega)
  simp only [if_true, if_false, Nat.reduceEqDiff] at q0 q1
  rw [HW0.out] at q0 q1
  cases hb : blk ra rb with
  | false =>
    rw [hb] at BL
    go_enter Tryd.func8, Tryd.ntmps8
    go_wp2_with fail
    rw [← HW0.out]
    refine BL.out.mono ?_
    rintro e z1 ⟨rfl, hz1⟩
    have M1 := Lib.hid (show Mod [] w0 z1 by rw [← hz1]; exact (Mod.refl _ _).alloc _)
    clear hz1
    go_wp2_with fail
    refine (SH.out _ M1.out).mono ?_
    rintro e z2 ⟨rfl, m2⟩
    go_wp2
    go_ret
    exact ⟨rfl, ((M0.out.trans M1.out).trans m2).below (Nat.le_refl _) (by simp)⟩
  | true =>
    rw [hb] at BL
    by_cases h10 : 10 < n
    · have hi : (10 : Int) < (n : Int) := by omega
      go_enter Tryd.func8, Tryd.ntmps8
      go_wp2_with fail
      rw [← HW0.out]
      refine BL.out.mono ?_
      rintro e z1 ⟨rfl, hz1⟩
      have M1 := Lib.hid (show Mod [] w0 z1 by rw [← hz1]; exact (Mod.refl _ _).alloc _)
      clear hz1
      go_wp2_with fail
      refine (SH.out _ M1.out).mono ?_
      rintro e z2 ⟨rfl, m2⟩
      go_wp2
      go_ret
      exact ⟨rfl, ((M0.out.trans M1.out).trans m2).below (Nat.le_refl _) (by simp)⟩
    · have h5 : decide (10 < n) = false := by simpa using h10
      have h5' : decide ((10 : Int) < (n : Int)) = false := decide_eq_false (by omega)
      have h5n : ¬ (10 : Int) < (n : Int) := by omega
      have hb3 : 0 ≤ ra ∧ ra < rb ∧ rb ≤ 256 := by
        simp only [blk, Bool.and_eq_true, decide_eq_true_eq] at hb
        omega
      obtain ⟨a, rfl⟩ : ∃ a : Nat, ra = a := ⟨ra.toNat, by omega⟩
      obtain ⟨b, rfl⟩ : ∃ b : Nat, rb = b := ⟨rb.toNat, by omega⟩
      have AB := Lib.hid (show a < b ∧ b ≤ 256 from ⟨by omega, by omega⟩)
      clear hb hb3 h10
      go_enter Tryd.func8, Tryd.ntmps8
      go_wp2_with fail
      rw [← HW0.out]
      refine BL.out.mono ?_
      rintro e z1 ⟨rfl, hz1⟩
      have m1 : Mod [] w0 z1 := by rw [← hz1]; exact (Mod.refl _ _).alloc _
      have M1 := Lib.hid m1
      clear hz1 m1 q0 q1
      go_wp2_with fail
      refine (SH.out _ M1.out).mono ?_
      rintro e wn ⟨rfl, m2⟩
      have M2 := Lib.hid (M0.out.trans (M1.out.trans m2))
      have RN := Lib.hid (HR0.out.mod (M1.out.trans m2) (by simp))
      have HZL := Lib.hid (M1.out.trans m2).size
      have HN := Lib.hid (new_calls wn (Sv.whole_mod HT.out.1 M2.out (by simp)))
      clear m2 BL SH
      go_wp2_with fail
      refine HN.out.mono ?_
      rintro e z3 ⟨sv, bT, bB, mB, rfl, s3, m3⟩
      have LB := Lib.hid (show LawS wn z3 wn.heap.size sv bT bB mB (.slice none 0 0) (bg 0) from ⟨s3, HT.out.2.mod (M2.out.trans m3) (by simp), m3, Nat.le_refl _, by have := World.block_lt_of_cell? W _ HT.out.1.1; have := M2.out.size; simp only at *; omega⟩)
      have RB := Lib.hid (show KArr z3 sv bT bB mB (.slice none 0 0) W.heap.size 23 2 (fun i => if i = 0 then .int .i64 (a : Nat) else .int .i64 (b : Nat)) from ⟨RN.out.mod m3 (by simp), fun e => by have h1 : wn.heap.size ≤ W.heap.size := (svS_low LB.out.s e).1; have := HZL.out; have := HSZ.out; omega⟩)
      clear s3 m3 HN
      go_wp2
      go_loopw [6] (fun i wr => ∃ (k : Nat) (v : Value), k ≤ 4 ∧ i = .int .i64 k ∧ LawS wn wr wn.heap.size sv bT bB mB v (bg k) ∧ KArr wr sv bT bB mB v W.heap.size 23 2 (fun i => if i = 0 then .int .i64 (a : Nat) else .int .i64 (b : Nat))) (fun i _ => 4 - (intOf i).toNat)
      case atStart => exact ⟨0, _, Nat.zero_le _, rfl, LB.out, RB.out⟩
      case round =>
        obtain ⟨k, v, hk, rfl, hI, hKA⟩ := hrel
        by_cases hlt : k < 4
        · have i1 : (k : Int) < 4 := by omega
          have C := Lib.hid (doL_g hI _ _ _ _ _ _ _ (beg_do k hlt))
          have HK := Lib.hid hKA
          clear hI hKA
          go_wp2_with fail
          refine C.out.mono ?_
          rintro e w2 ⟨gp, gc, rp, rc, dp, dc, v', rfl, o1, s2, hv, m2⟩
          have hfl := fun w => ans_field0 w 0 1000 gp rp dp 0 gc 0 rc 0 dc
          have S2 := Lib.hid s2
          have K2 := Lib.hid (HK.out.next hv m2)
          clear o1 s2 hv m2
          simp only [List.length_nil]
          go_wp2
          go_roundw
          case rel => exact ⟨k + 1, v', by omega, by go_num, S2.out, K2.out⟩
          case measure => simp [intOf]; omega
        · obtain rfl : k = 4 := by omega
          clear LB RB
          have L0 := Lib.hid hI
          have R0 := Lib.hid hKA
          clear hI hKA
          have r0 := R0.out.1.cell 0 (by omega)
          have r1 := R0.out.1.cell 1 (by omega)
          simp only [if_true, if_false, Nat.reduceEqDiff] at r0 r1
          have C1 := Lib.hid (doL_g L0.out _ _ _ _ _ _ _ (rd_1 AB.out.1 AB.out.2))
          go_wp2_with fail
          refine C1.out.mono ?_
          rintro e y1 ⟨gp1, gc1, rp1, rc1, dp1, dc1, v1, rfl, og1, s1, hv1, m1⟩
          have hfl1 := fun w => ans_field0 w 0 1 gp1 rp1 dp1 0 gc1 0 rc1 0 dc1
          have L1 := Lib.hid s1
          have R1 := Lib.hid (R0.out.next hv1 m1)
          clear og1 s1 hv1 m1 r0 r1 C1
          simp only [List.length_nil, List.length_cons, Nat.zero_add, Nat.reduceAdd]
          have r0 := R1.out.1.cell 0 (by omega)
          have r1 := R1.out.1.cell 1 (by omega)
          simp only [if_true, if_false, Nat.reduceEqDiff] at r0 r1
          have C2 := Lib.hid (doL_g L1.out _ _ _ _ _ _ _ (rd_2 AB.out.1 AB.out.2))
          go_wp2_with fail
          refine C2.out.mono ?_
          rintro e y2 ⟨gp2, gc2, rp2, rc2, dp2, dc2, v2, rfl, og2, s2, hv2, m2⟩
          have hfl2 := fun w => ans_field0 w 0 2 gp2 rp2 dp2 0 gc2 0 rc2 0 dc2
          have L2 := Lib.hid s2
          have R2 := Lib.hid (R1.out.next hv2 m2)
          clear og2 s2 hv2 m2 r0 r1 C2
          simp only [List.length_nil, List.length_cons, Nat.zero_add, Nat.reduceAdd]
          have r0 := R2.out.1.cell 0 (by omega)
          have r1 := R2.out.1.cell 1 (by omega)
          simp only [if_true, if_false, Nat.reduceEqDiff] at r0 r1
          clear hfl1
          have C3 := Lib.hid (doL_g L2.out _ _ _ _ _ _ _ (rd_3 AB.out.1 AB.out.2))
          go_wp2_with fail
          refine C3.out.mono ?_
          rintro e y3 ⟨gp3, gc3, rp3, rc3, dp3, dc3, v3, rfl, og3, s3, hv3, m3⟩
          obtain ⟨z3, hz3⟩ : ∃ z3, z3 = y3.alloc (.cells #[.int .i64 170, .int .i64 0, .slice gp3 0 gc3, .slice rp3 2 rc3, .slice dp3 0 dc3] 34) := ⟨_, rfl⟩
          have HZ3 := Lib.hid hz3
          have mz3 : Mod [] y3 z3 := by rw [hz3]; exact (Mod.refl _ _).alloc _
          have L3 := Lib.hid (s3.mod0 mz3)
          have R3 := Lib.hid ((R2.out.next hv3 m3).mod0 mz3)
          have A3 := Lib.hid (show KArr z3 sv bT bB mB v3 y3.heap.size 34 5 (ansF 170 0 (.slice gp3 0 gc3) (.slice rp3 2 rc3) (.slice dp3 0 dc3)) by rw [hz3]; exact karr_ans s3 _ _ _ _ _)
          clear og3 s3 hv3 m3 r0 r1 C3 hz3 mz3
          simp only [List.length_nil, List.length_cons, Nat.zero_add, Nat.reduceAdd]
          clear hfl2
          go_upto_region 12 with (fail)
          rw [← HZ3.out]
          have r0 := R3.out.1.cell 0 (by omega)
          have r1 := R3.out.1.cell 1 (by omega)
          simp only [if_true, if_false, Nat.reduceEqDiff] at r0 r1
          have C4 := Lib.hid (doL_g L3.out _ _ _ _ _ _ _ (rd_4 AB.out.1 AB.out.2))
          go_wp2_with fail
          refine C4.out.mono ?_
          rintro e y4 ⟨gp4, gc4, rp4, rc4, dp4, dc4, v4, rfl, og4, s4, hv4, m4⟩
          obtain ⟨z4, hz4⟩ : ∃ z4, z4 = y4.alloc (.cells #[.int .i64 170, .int .i64 0, .slice gp4 0 gc4, .slice rp4 0 rc4, .slice dp4 0 dc4] 34) := ⟨_, rfl⟩
          have HZ4 := Lib.hid hz4
          have mz4 : Mod [] y4 z4 := by rw [hz4]; exact (Mod.refl _ _).alloc _
          have L4 := Lib.hid (s4.mod0 mz4)
          have R4 := Lib.hid ((R3.out.next hv4 m4).mod0 mz4)
          have A3k4 := Lib.hid ((A3.out.next hv4 m4).mod0 mz4)
          have A4 := Lib.hid (show KArr z4 sv bT bB mB v4 y4.heap.size 34 5 (ansF 170 0 (.slice gp4 0 gc4) (.slice rp4 0 rc4) (.slice dp4 0 dc4)) by rw [hz4]; exact karr_ans s4 _ _ _ _ _)
          clear og4 s4 hv4 m4 r0 r1 C4 hz4 mz4
          simp only [List.length_nil, List.length_cons, Nat.zero_add, Nat.reduceAdd]
          have WT := Lib.hid (waits_calls z4 wn.heap.size sv bT bB mB v4 _ L4.out.s)
          have a30 := A3k4.out.1.cell 0 (by omega)
          have a33 := A3k4.out.1.cell 3 (by omega)
          have a40 := A4.out.1.cell 0 (by omega)
          have a43 := A4.out.1.cell 3 (by omega)
          simp only [ansF, if_true, if_false, Nat.reduceEqDiff] at a30 a33 a40 a43
          go_upto_region 13 with (fail)
          rw [← HZ4.out]
          go_wp2_with (go_at_call 25; refine WT.out.mono ?_; rintro e w5 ⟨vw5, rfl, ow5, mw5⟩; obtain ⟨pw5, cw5, rfl⟩ := own_len ow5; have L5 := Lib.hid (L4.out.mod0 mw5); have R5 := Lib.hid (R4.out.mod0 mw5); clear ow5 mw5; have r0 := R5.out.1.cell 0 (by omega); have r1 := R5.out.1.cell 1 (by omega); simp only [if_true, if_false, Nat.reduceEqDiff] at r0 r1; have C6 := Lib.hid (doL_g L5.out _ _ _ _ _ _ _ (rd_5 AB.out.1 AB.out.2)))
          refine C6.out.mono ?_
          rintro e y6 ⟨gp6, gc6, rp6, rc6, dp6, dc6, v6, rfl, og6, s6, hv6, m6⟩
          obtain ⟨z6, hz6⟩ : ∃ z6, z6 = y6.alloc (.cells #[.int .i64 0, .int .i64 0, .slice gp6 0 gc6, .slice rp6 0 rc6, .slice dp6 0 dc6] 34) := ⟨_, rfl⟩
          have HZ6 := Lib.hid hz6
          have mz6 : Mod [] y6 z6 := by rw [hz6]; exact (Mod.refl _ _).alloc _
          have L6 := Lib.hid (s6.mod0 mz6)
          have R6 := Lib.hid ((R5.out.next hv6 m6).mod0 mz6)
          have A6 := Lib.hid (show KArr z6 sv bT bB mB v6 y6.heap.size 34 5 (ansF 0 0 (.slice gp6 0 gc6) (.slice rp6 0 rc6) (.slice dp6 0 dc6)) by rw [hz6]; exact karr_ans s6 _ _ _ _ _)
          clear og6 s6 hv6 m6 r0 r1 C6 hz6 mz6
          simp only [List.length_nil, List.length_cons, Nat.zero_add, Nat.reduceAdd]
          go_upto_region 16 with (fail)
          rw [← HZ6.out]
          clear a30 a33 a40 a43
          have r0 := R6.out.1.cell 0 (by omega)
          have r1 := R6.out.1.cell 1 (by omega)
          simp only [if_true, if_false, Nat.reduceEqDiff] at r0 r1
          have C7 := Lib.hid (doL_g L6.out _ _ _ _ _ _ _ (rd_6 AB.out.1 AB.out.2))
          go_wp2_with fail
          refine C7.out.mono ?_
          rintro e y7 ⟨gp7, gc7, rp7, rc7, dp7, dc7, v7, rfl, og7, s7, hv7, m7⟩
          obtain ⟨gn7, gx7, gh7⟩ := own_grants og7 rfl
          obtain ⟨gg7, hgp7, -, hgc7⟩ := gh7 (by simp)
          subst hgp7
          obtain ⟨gc0, -, -, gc3, -⟩ := hgc7 0 _ rfl
          simp only [Nat.zero_mul, Nat.zero_add] at gc0 gc3
          obtain ⟨z7, hz7⟩ : ∃ z7, z7 = y7.alloc (.cells #[.int .i64 0, .int .i64 0, .slice (some ⟨gg7, 0, none⟩) 1 gc7, .slice rp7 0 rc7, .slice dp7 0 dc7] 34) := ⟨_, rfl⟩
          have HZ7 := Lib.hid hz7
          have mz7 : Mod [] y7 z7 := by rw [hz7]; exact (Mod.refl _ _).alloc _
          have L7 := Lib.hid (s7.mod0 mz7)
          have R7 := Lib.hid ((R6.out.next hv7 m7).mod0 mz7)
          have A6k7 := Lib.hid ((A6.out.next hv7 m7).mod0 mz7)
          replace gc0 := mz7.cell' gc0 (by simp)
          replace gc3 := mz7.cell' gc3 (by simp)
          have GC7 := Lib.hid (And.intro gc0 gc3)
          clear gc0 gc3 gn7 gx7 gh7 hgc7
          have A7 := Lib.hid (show KArr z7 sv bT bB mB v7 y7.heap.size 34 5 (ansF 0 0 (.slice (some ⟨gg7, 0, none⟩) 1 gc7) (.slice rp7 0 rc7) (.slice dp7 0 dc7)) by rw [hz7]; exact karr_ans s7 _ _ _ _ _)
          clear og7 s7 hv7 m7 r0 r1 C7 hz7 mz7
          simp only [List.length_nil, List.length_cons, Nat.zero_add, Nat.reduceAdd]
          have a62 := A6k7.out.1.cell 2 (by omega)
          have a72 := A7.out.1.cell 2 (by omega)
          simp only [ansF, if_true, if_false, Nat.reduceEqDiff] at a62 a72
          obtain ⟨gc0, gc3⟩ := GC7.out
          go_upto_region 17 with (fail)
          rw [← HZ7.out]
          have r0 := R7.out.1.cell 0 (by omega)
          have r1 := R7.out.1.cell 1 (by omega)
          simp only [if_true, if_false, Nat.reduceEqDiff] at r0 r1
          have C8 := Lib.hid (doL_g L7.out _ _ _ _ _ _ _ (rd_7 AB.out.1 AB.out.2))
          go_wp2_with fail
          refine C8.out.mono ?_
          clear gc0 gc3 a62 a72
          rintro e y8 ⟨gp8, gc8, rp8, rc8, dp8, dc8, v8, rfl, og8, s8, hv8, m8⟩
          obtain ⟨gn8, gx8, gh8⟩ := own_grants og8 rfl
          obtain ⟨gg8, hgp8, -, hgc8⟩ := gh8 (by simp)
          subst hgp8
          obtain ⟨gc0, -, -, gc3, -⟩ := hgc8 0 _ rfl
          simp only [Nat.zero_mul, Nat.zero_add] at gc0 gc3
          obtain ⟨z8, hz8⟩ : ∃ z8, z8 = y8.alloc (.cells #[.int .i64 0, .int .i64 0, .slice (some ⟨gg8, 0, none⟩) 1 gc8, .slice rp8 0 rc8, .slice dp8 0 dc8] 34) := ⟨_, rfl⟩
          have HZ8 := Lib.hid hz8
          have mz8 : Mod [] y8 z8 := by rw [hz8]; exact (Mod.refl _ _).alloc _
          have L8 := Lib.hid (s8.mod0 mz8)
          have R8 := Lib.hid ((R7.out.next hv8 m8).mod0 mz8)
          replace gc0 := mz8.cell' gc0 (by simp)
          replace gc3 := mz8.cell' gc3 (by simp)
          have GC8 := Lib.hid (And.intro gc0 gc3)
          clear gc0 gc3 gn8 gx8 gh8 hgc8
          have A8 := Lib.hid (show KArr z8 sv bT bB mB v8 y8.heap.size 34 5 (ansF 0 0 (.slice (some ⟨gg8, 0, none⟩) 1 gc8) (.slice rp8 0 rc8) (.slice dp8 0 dc8)) by rw [hz8]; exact karr_ans s8 _ _ _ _ _)
          clear og8 s8 hv8 m8 r0 r1 C8 hz8 mz8
          simp only [List.length_nil, List.length_cons, Nat.zero_add, Nat.reduceAdd]
          have a82 := A8.out.1.cell 2 (by omega)
          simp only [ansF, if_true, if_false, Nat.reduceEqDiff] at a82
          obtain ⟨gc0, gc3⟩ := GC8.out
          have WT8 := Lib.hid (waits_calls z8 wn.heap.size sv bT bB mB v8 _ L8.out.s)
          go_upto_region 20 with (fail)
          rw [← HZ8.out]
          go_wp2_with fail
          refine WT8.out.mono ?_
          rintro e w9 ⟨vw9, rfl, ow9, mw9⟩
          obtain ⟨pw9, cw9, rfl⟩ := own_len ow9
          have L9 := Lib.hid (L8.out.mod0 mw9)
          have HH9 := Lib.hid (holds_calls w9 wn.heap.size sv bT bB mB v8 _ L9.out.s)
          have HL9 := Lib.hid (rd_list AB.out.1 AB.out.2)
          clear ow9 mw9 a82 gc0 gc3
          go_wp2_with fail
          refine HH9.out.mono ?_
          rintro e w10 ⟨vw10, rfl, ow10, mw10⟩
          rw [HL9.out] at ow10
          obtain ⟨pw10, cw10, rfl⟩ := own_len ow10
          have M10 := Lib.hid (L9.out.m.trans mw10)
          clear ow10 mw10
          go_wp2
          go_ret
          exact ⟨rfl, (M2.out.trans M10.out).below (Nat.le_refl _) (by simp)⟩
end Go.Proofs.YtijjbkkcienfgaaDoor
