/- The walk of the law GrantLives: who has no lease gets nothing; who renews lives till its time. Premises: the whole range and the table of kinds lie as laid. (Written by wip/tools/genLives.py.) -/
import Derived.Test.YtijjbkkcienfgaaDoorProg
import Derived.Test.YtijjbkkcienfgaaDoorGrL
namespace Go.Proofs.YtijjbkkcienfgaaDoor
open Go.RowKit
set_option linter.unusedVariables false
set_option linter.unusedSimpArgs false
attribute [local go_sem ↓] Go.wp_at_zero Go.wp_at_succ

/-- A command, its answer told in numbers. -/
theorem doL_as {W w : World} {B sv bT bB mB : Nat} {v : Value} {x : GS} (h : LawS W w B sv bT bB mB v x) (c : CmdT) (e n : Int) (gl rl zl : Nat) (x' : GS) (hy : (x.Do c).2.e = e ∧ (x.Do c).2.n = n ∧ (x.Do c).2.g.length = gl ∧ (x.Do c).2.r.length = rl ∧ (x.Do c).2.z.length = zl ∧ (x.Do c).1 = x') :
    Calls Tryd.prog 14 #[.pointer (some ⟨sv, 0, none⟩), .agg #[.int .i64 c.k, .int .i64 c.c, .int .i64 c.q, .int .i64 c.n, .int .i64 c.l, .int .i64 c.a, .int .i64 c.b, .int .i64 c.m, .int .i64 c.o]] w fun r w' =>
      ∃ gp gc rp rc dp dc v', r = .returned (.agg #[.int .i64 e, .int .i64 n, .slice gp gl gc, .slice rp rl rc, .slice dp zl dc]) ∧ LawS W w' B sv bT bB mB v' x' ∧ (∀ k, v'.ownBlock = some k → v.ownBlock = some k ∨ w.heap.size ≤ k) ∧ Mod (SvS sv bT bB mB v) w w' := by
  obtain ⟨rfl, rfl, rfl, rfl, rfl, rfl⟩ := hy
  refine (doL_calls W w B sv bT bB mB v x c h).mono ?_
  rintro r w' ⟨gp, gc, rp, rc, dp, dc, v', rfl, o1, o2, o3, s, hv, m⟩
  exact ⟨gp, gc, rp, rc, dp, dc, v', rfl, s, hv, m⟩
set_option maxRecDepth 100000 in
set_option maxHeartbeats 8000000 in
theorem grantLives_walk (W : World) (t0 : Whole W) (t1 : Kd W) (a0 : Int) (w0 : (Lit.int .i64 a0).wf = true)
    (a1 : Int) (w1 : (Lit.int .u16 a1).wf = true)
    (a2 : Int) (w2 : (Lit.int .u16 a2).wf = true)
    (a3 : Int) (w3 : (Lit.int .u16 a3).wf = true)
    (s4 : Array Value) (c4 : CellsOk W [.int .i64, .int .i64] s4.toList) :
    Calls Tryd.prog 4 #[.int .i64 a0, .int .u16 a1, .int .u16 a2, .int .u16 a3, .agg s4] W fun e w' => e = .returned (.bool true) ∧ Below W.heap.size W w' := by
  obtain ⟨ra, rb, rfl⟩ : ∃ ra rb : Int, s4 = #[.int .i64 ra, .int .i64 rb] := by
    obtain ⟨hl, hc⟩ := c4
    obtain ⟨xs⟩ := s4
    simp only at hl hc
    match xs, hl with
    | [x, y], _ =>
      obtain ⟨a, rfl, _⟩ := (hc 0 _ x rfl rfl).int_inv
      obtain ⟨b, rfl, _⟩ := (hc 1 _ y rfl rfl).int_inv
      exact ⟨a, b, rfl⟩
  obtain ⟨l1, u1⟩ := bd_u16 w1
  obtain ⟨l2, u2⟩ := bd_u16 w2
  obtain ⟨l3, u3⟩ := bd_u16 w3
  clear c4 w0 w1 w2 w3
  have HT := Lib.hid (And.intro t0 t1)
  clear t0 t1
  obtain ⟨w0, hw0⟩ : ∃ w0, w0 = W.alloc (.cells #[.int .i64 ra, .int .i64 rb] 23) := ⟨_, rfl⟩
  have HW0 := Lib.hid hw0
  have M0 := Lib.hid (show Mod [] W w0 by rw [hw0]; exact (Mod.refl _ _).alloc _)
  have HSZ := Lib.hid (show w0.heap.size = W.heap.size + 1 by rw [hw0]; simp)
  have HR0 := Lib.hid (show Arr w0 W.heap.size 23 2 (fun i => if i = 0 then .int .i64 ra else .int .i64 rb) by
    rw [hw0]
    exact Arr.new' W _ _ 2 _ rfl (fun i hi => by
      match i, hi with
      | 0, _ | 1, _ => rfl))
  clear hw0
  have ER := Lib.hid (show (GS.new.Do ⟨6, a0, 0, 0, 0, 0, 0, 0, 1⟩).2.e = 200 ∧ (GS.new.Do ⟨6, a0, 0, 0, 0, 0, 0, 0, 1⟩).2.n = 0 ∧ (GS.new.Do ⟨6, a0, 0, 0, 0, 0, 0, 0, 1⟩).2.g.length = 0 ∧ (GS.new.Do ⟨6, a0, 0, 0, 0, 0, 0, 0, 1⟩).2.r.length = 0 ∧ (GS.new.Do ⟨6, a0, 0, 0, 0, 0, 0, 0, 1⟩).2.z.length = 0 ∧ (GS.new.Do ⟨6, a0, 0, 0, 0, 0, 0, 0, 1⟩).1 = GS.new by
    rw [show GS.new.Do ⟨6, a0, 0, 0, 0, 0, 0, 0, 1⟩ = (GS.new, .err 200) from by simp only [GS.Do]; exact recover_new _]
    exact ⟨rfl, rfl, rfl, rfl, rfl, rfl⟩)
  have ask := fun e (he : (if inC8 a0 = false then 1 else if blk ra rb = false then 71 else 200) = e) => (show (GS.new.Do ⟨1, a0, 0, 0, 0, ra, rb, 1, 0⟩).2.e = e ∧ (GS.new.Do ⟨1, a0, 0, 0, 0, ra, rb, 1, 0⟩).2.n = 0 ∧ (GS.new.Do ⟨1, a0, 0, 0, 0, ra, rb, 1, 0⟩).2.g.length = 0 ∧ (GS.new.Do ⟨1, a0, 0, 0, 0, ra, rb, 1, 0⟩).2.r.length = 0 ∧ (GS.new.Do ⟨1, a0, 0, 0, 0, ra, rb, 1, 0⟩).2.z.length = 0 ∧ (GS.new.Do ⟨1, a0, 0, 0, 0, ra, rb, 1, 0⟩).1 = GS.new by
    rw [show GS.new.Do ⟨1, a0, 0, 0, 0, ra, rb, 1, 0⟩ = (GS.new, .err e) from by simp only [GS.Do, if_true]; rw [ask_new _ rfl]; simp only; rw [he]]
    exact ⟨rfl, rfl, rfl, rfl, rfl, rfl⟩)
  cases hi : inC8 a0 with
  | false =>
    have HI := Lib.hid hi
    have EA := Lib.hid (ask 1 (by rw [if_pos hi]))
    have EB := Lib.hid (show (GS.new.Do ⟨4, a0, 1, a1, a2, 0, 0, 0, 0⟩).2.e = 1 ∧ (GS.new.Do ⟨4, a0, 1, a1, a2, 0, 0, 0, 0⟩).2.n = 0 ∧ (GS.new.Do ⟨4, a0, 1, a1, a2, 0, 0, 0, 0⟩).2.g.length = 0 ∧ (GS.new.Do ⟨4, a0, 1, a1, a2, 0, 0, 0, 0⟩).2.r.length = 0 ∧ (GS.new.Do ⟨4, a0, 1, a1, a2, 0, 0, 0, 0⟩).2.z.length = 0 ∧ (GS.new.Do ⟨4, a0, 1, a1, a2, 0, 0, 0, 0⟩).1 = GS.new by
      rw [show GS.new.Do ⟨4, a0, 1, a1, a2, 0, 0, 0, 0⟩ = (GS.new, .err 1) from by simp only [GS.Do]; exact (renew_new rfl ⟨l1, u1⟩ ⟨l2, u2⟩).1 hi]
      exact ⟨rfl, rfl, rfl, rfl, rfl, rfl⟩)
    clear hi ask
    go_enter Tryd.func4, Tryd.ntmps4
    have CQ := Lib.hid (fun w => (rclient_calls w a0).mono (R' := fun e w' => e = .returned (.bool false) ∧ w' = w) (fun e w' h => ⟨by rw [h.1, HI.out], h.2.symm⟩))
    go_wp2_with fail
    rw [← HW0.out]
    refine (shown_calls _ (Sv.whole_mod HT.out.1 M0.out (by simp)) (HT.out.2.mod M0.out (by simp))).mono ?_
    rintro e z2 ⟨rfl, m2⟩
    have M2 := Lib.hid (M0.out.trans m2)
    have HN := Lib.hid (new_calls z2 (Sv.whole_mod HT.out.1 M2.out (by simp)))
    have R2 := Lib.hid (HR0.out.mod m2 (by simp))
    have HZL := Lib.hid m2.size
    clear m2
    go_wp2_with fail
    refine HN.out.mono ?_
    rintro e z3 ⟨sv, bT, bB, mB, rfl, s3, m3⟩
    have L3 := Lib.hid (show LawS z2 z3 z2.heap.size sv bT bB mB (.slice none 0 0) GS.new from ⟨s3, HT.out.2.mod (M2.out.trans m3) (by simp), m3, Nat.le_refl _, by have := World.block_lt_of_cell? W _ HT.out.1.1; have := M2.out.size; simp only at *; omega⟩)
    have R3 := Lib.hid (R2.out.mod m3 (by simp))
    have r0 := R3.out.cell 0 (by omega)
    have r1 := R3.out.cell 1 (by omega)
    simp only [if_true, if_false, Nat.reduceEqDiff] at r0 r1
    obtain ⟨z4, hz4⟩ : ∃ z4, z4 = z3.alloc (.cells #[.int .i64 1, .int .i64 a0, .int .i64 0, .int .i64 0, .int .i64 0, .int .i64 ra, .int .i64 rb, .int .i64 1, .int .i64 0] 37) := ⟨_, rfl⟩
    have HZ4 := Lib.hid hz4
    have L4 := Lib.hid (show LawS z2 z4 z2.heap.size sv bT bB mB (.slice none 0 0) GS.new by rw [hz4]; exact L3.out.alloc _)
    have K4 := Lib.hid (show KArr z4 sv bT bB mB (.slice none 0 0) z3.heap.size 37 9 (CmdT.f ⟨1, a0, 0, 0, 0, ra, rb, 1, 0⟩) by rw [hz4]; exact karr_cmd L3.out ⟨1, a0, 0, 0, 0, ra, rb, 1, 0⟩)
    have RK4 := Lib.hid (show KArr z4 sv bT bB mB (.slice none 0 0) W.heap.size 23 2 (fun i => if i = 0 then .int .i64 ra else .int .i64 rb) from ⟨R3.out.mod (S := []) (by rw [hz4]; exact (Mod.refl _ _).alloc _) (by simp), fun e => by have h1 : z2.heap.size ≤ W.heap.size := (svS_low L3.out.s e).1; have := HZL.out; have := HSZ.out; omega⟩)
    have C1 := Lib.hid (doL_as L4.out ⟨1, a0, 0, 0, 0, ra, rb, 1, 0⟩ 1 0 0 0 0 GS.new EA.out)
    clear s3 m3 hz4
    go_wp2_with fail
    rw [← HZ4.out]
    refine C1.out.mono ?_
    rintro e z5 ⟨gp1, gc1, rp1, rc1, dp1, dc1, v5, rfl, s5, hv5, m5⟩
    have HZ5 := Lib.hid (show W.heap.size ≤ z5.heap.size from (M2.out.trans s5.m).size)
    obtain ⟨z6, hz6⟩ : ∃ z6, z6 = z5.alloc (.cells #[.int .i64 1, .int .i64 0, .slice gp1 0 gc1, .slice rp1 0 rc1, .slice dp1 0 dc1] 34) := ⟨_, rfl⟩
    have HZ6 := Lib.hid hz6
    have m6 : Mod [] z5 z6 := by rw [hz6]; exact (Mod.refl _ _).alloc _
    have L6 := Lib.hid (s5.mod0 m6)
    have K6 := Lib.hid ((K4.out.next hv5 m5).mod0 m6)
    have RK6 := Lib.hid ((RK4.out.next hv5 m5).mod0 m6)
    have A6 := Lib.hid (show KArr z6 sv bT bB mB v5 z5.heap.size 34 5 (ansF 1 0 (.slice gp1 0 gc1) (.slice rp1 0 rc1) (.slice dp1 0 dc1)) by rw [hz6]; exact karr_ans s5 _ _ _ _ _)
    have CL6 := Lib.hid (rclient_calls z6 a0)
    rw [HI.out] at CL6
    have BL6 := Lib.hid (blocks_calls z6 ra rb)
    have r0 := RK6.out.1.cell 0 (by omega)
    have r1 := RK6.out.1.cell 1 (by omega)
    simp only [if_true, if_false, Nat.reduceEqDiff] at r0 r1
    clear s5 hv5 m5 m6 hz6 C1
    go_wp2_with fail
    rw [← HZ6.out]
    refine CL6.out.mono ?_
    rintro e w9 ⟨rfl, rfl⟩
    have m7 : Mod [] z6 z6 := Mod.refl _ _
    have L7 := Lib.hid (L6.out.mod0 m7)
    have K7 := Lib.hid (K6.out.mod0 m7)
    have A7 := Lib.hid (A6.out.mod0 m7)
    have a0c := A7.out.1.cell 0 (by omega)
    simp only [ansF, if_true, if_false, Nat.reduceEqDiff] at a0c
    have C2 := Lib.hid (doL_as L7.out ⟨6, a0, 0, 0, 0, 0, 0, 0, 1⟩ 200 0 0 0 0 GS.new ER.out)
    clear m7 r0 r1
    go_wp2_with fail
    refine C2.out.mono ?_
    rintro e z8 ⟨gp2, gc2, rp2, rc2, dp2, dc2, v8, rfl, s8, hv8, m8⟩
    have hfl := fun w => ans_field0 w 200 0 gp2 rp2 dp2 0 gc2 0 rc2 0 dc2
    have L8 := Lib.hid s8
    have K8 := Lib.hid (K7.out.next hv8 m8)
    have A8 := Lib.hid (A7.out.next hv8 m8)
    clear s8 hv8 m8 a0c C2
    have C3 := Lib.hid (doL_as L8.out ⟨4, a0, 1, a1, a2, 0, 0, 0, 0⟩ 1 0 0 0 0 GS.new EB.out)
    go_wp2_with fail
    refine C3.out.mono ?_
    rintro e z9 ⟨gp3, gc3, rp3, rc3, dp3, dc3, v9, rfl, s9, hv9, m9⟩
    obtain ⟨za, hza⟩ : ∃ za, za = z9.alloc (.cells #[.int .i64 1, .int .i64 0, .slice gp3 0 gc3, .slice rp3 0 rc3, .slice dp3 0 dc3] 34) := ⟨_, rfl⟩
    have HZA := Lib.hid hza
    have LA := Lib.hid (show LawS z2 za z2.heap.size sv bT bB mB v9 GS.new by rw [hza]; exact s9.alloc _)
    have AA := (show KArr za sv bT bB mB v9 z9.heap.size 34 5 (ansF 1 0 (.slice gp3 0 gc3) (.slice rp3 0 rc3) (.slice dp3 0 dc3)) by rw [hza]; exact karr_ans s9 _ _ _ _ _)
    have b0 := AA.1.cell 0 (by omega)
    simp only [ansF, if_true, if_false, Nat.reduceEqDiff] at b0
    clear s9 hv9 m9 hza AA C3
    go_wp2
    rw [← HZA.out]
    go_quiet (first | (go_at_call 18; exact Calls.quiet_of_same (CQ.out _)))
    go_wp2
    go_ret
    exact ⟨rfl, ((M2.out.trans LA.out.m).drewN _).below (Nat.le_refl _) (by simp)⟩
  | true =>
    have HI := Lib.hid hi
    have hc := inC8_iff.1 hi
    have hw1 : IntKind.i64.wrap (a1 + a2) = a1 + a2 := by rw [IntKind.wrap_i64]; omega
    have hw2 : IntKind.i64.wrap (a1 + a3) = a1 + a3 := by rw [IntKind.wrap_i64]; omega
    have EB := Lib.hid (show (GS.new.Do ⟨4, a0, 1, a1, a2, 0, 0, 0, 0⟩).2.e = 0 ∧ (GS.new.Do ⟨4, a0, 1, a1, a2, 0, 0, 0, 0⟩).2.n = a1 + a2 ∧ (GS.new.Do ⟨4, a0, 1, a1, a2, 0, 0, 0, 0⟩).2.g.length = 0 ∧ (GS.new.Do ⟨4, a0, 1, a1, a2, 0, 0, 0, 0⟩).2.r.length = 0 ∧ (GS.new.Do ⟨4, a0, 1, a1, a2, 0, 0, 0, 0⟩).2.z.length = 0 ∧ (GS.new.Do ⟨4, a0, 1, a1, a2, 0, 0, 0, 0⟩).1 = oneL a0.toNat (a1 + a2) by
      rw [show GS.new.Do ⟨4, a0, 1, a1, a2, 0, 0, 0, 0⟩ = (oneL a0.toNat (a1 + a2), ⟨0, a1 + a2, [], [], []⟩) from by simp only [GS.Do]; exact (renew_new rfl ⟨l1, u1⟩ ⟨l2, u2⟩).2 hi]
      exact ⟨rfl, rfl, rfl, rfl, rfl, rfl⟩)
    have EU := Lib.hid (show untilV (oneL a0.toNat (a1 + a2)).u a0 = a1 + a2 by
      unfold untilV
      rw [if_neg (by rw [show inC a0 = true from hi]; simp)]
      show upd u0 a0.toNat (a1 + a2) a0.toNat = _
      unfold upd
      rw [if_pos rfl])
    have SW := sweep_one (c := a0.toNat) (by omega) (t := a1 + a2) (by omega) ⟨5, 0, 0, a1 + a3, 0, 0, 0, 0, 0⟩
    have hdo : (oneL a0.toNat (a1 + a2)).Do ⟨5, 0, 0, a1 + a3, 0, 0, 0, 0, 0⟩ = (oneL a0.toNat (a1 + a2)).sweep ⟨5, 0, 0, a1 + a3, 0, 0, 0, 0, 0⟩ := by simp only [GS.Do]; rfl
    simp only at SW
    rw [← hdo] at SW
    cases hb : blk ra rb with
    | false =>
      have HB := Lib.hid hb
      have EA := Lib.hid (ask 71 (by rw [if_neg (by simp [hi]), if_pos hb]))
      by_cases hl : a2 < a3
      · obtain ⟨x4, h4, x4u, x4d, x4w⟩ := SW.2 (by omega)
        have ES := Lib.hid (show ((oneL a0.toNat (a1 + a2)).Do ⟨5, 0, 0, a1 + a3, 0, 0, 0, 0, 0⟩).2.e = 0 ∧ ((oneL a0.toNat (a1 + a2)).Do ⟨5, 0, 0, a1 + a3, 0, 0, 0, 0, 0⟩).2.n = 0 ∧ ((oneL a0.toNat (a1 + a2)).Do ⟨5, 0, 0, a1 + a3, 0, 0, 0, 0, 0⟩).2.g.length = 0 ∧ ((oneL a0.toNat (a1 + a2)).Do ⟨5, 0, 0, a1 + a3, 0, 0, 0, 0, 0⟩).2.r.length = 0 ∧ ((oneL a0.toNat (a1 + a2)).Do ⟨5, 0, 0, a1 + a3, 0, 0, 0, 0, 0⟩).2.z.length = 1 ∧ ((oneL a0.toNat (a1 + a2)).Do ⟨5, 0, 0, a1 + a3, 0, 0, 0, 0, 0⟩).1 = x4 by rw [h4]; exact ⟨rfl, rfl, rfl, rfl, rfl, rfl⟩)
        have hd := (show deadV x4.d a0 = true by
          unfold deadV
          rw [if_neg (by rw [show inC a0 = true from hi]; simp), x4d]
          unfold swD
          rw [sw_one (by omega) (by omega)]
          simp
          exact .inl ⟨by omega, by omega⟩)
        have ED := Lib.hid hd
        obtain ⟨x5, hx5⟩ : ∃ x5, x5 = (x4.Do ⟨1, a0, 0, 0, 0, ra, rb, 1, 0⟩).1 := ⟨_, rfl⟩
        have E5 := Lib.hid (show (x4.Do ⟨1, a0, 0, 0, 0, ra, rb, 1, 0⟩).2.e = 71 ∧ (x4.Do ⟨1, a0, 0, 0, 0, ra, rb, 1, 0⟩).2.n = 0 ∧ (x4.Do ⟨1, a0, 0, 0, 0, ra, rb, 1, 0⟩).2.g.length = 0 ∧ (x4.Do ⟨1, a0, 0, 0, 0, ra, rb, 1, 0⟩).2.r.length = 0 ∧ (x4.Do ⟨1, a0, 0, 0, 0, ra, rb, 1, 0⟩).2.z.length = 0 ∧ (x4.Do ⟨1, a0, 0, 0, 0, ra, rb, 1, 0⟩).1 = x5 by
          rw [show (x4.Do ⟨1, a0, 0, 0, 0, ra, rb, 1, 0⟩).2 = GA.err 71 from by simp only [GS.Do, if_true]; exact ask_bad hi rfl hb]
          exact ⟨rfl, rfl, rfl, rfl, rfl, hx5.symm⟩)
        clear hi hb ask hc SW hdo h4 hx5 x4u x4d x4w hd
        go_enter Tryd.func4, Tryd.ntmps4
        have CQ := Lib.hid (fun w => (rclient_calls w a0).mono (R' := fun e w' => e = .returned (.bool true) ∧ w' = w) (fun e w' h => ⟨by rw [h.1, HI.out], h.2.symm⟩))
        go_wp2_with fail
        rw [← HW0.out]
        refine (shown_calls _ (Sv.whole_mod HT.out.1 M0.out (by simp)) (HT.out.2.mod M0.out (by simp))).mono ?_
        rintro e z2 ⟨rfl, m2⟩
        have M2 := Lib.hid (M0.out.trans m2)
        have HN := Lib.hid (new_calls z2 (Sv.whole_mod HT.out.1 M2.out (by simp)))
        have R2 := Lib.hid (HR0.out.mod m2 (by simp))
        have HZL := Lib.hid m2.size
        clear m2
        go_wp2_with fail
        refine HN.out.mono ?_
        rintro e z3 ⟨sv, bT, bB, mB, rfl, s3, m3⟩
        have L3 := Lib.hid (show LawS z2 z3 z2.heap.size sv bT bB mB (.slice none 0 0) GS.new from ⟨s3, HT.out.2.mod (M2.out.trans m3) (by simp), m3, Nat.le_refl _, by have := World.block_lt_of_cell? W _ HT.out.1.1; have := M2.out.size; simp only at *; omega⟩)
        have R3 := Lib.hid (R2.out.mod m3 (by simp))
        have r0 := R3.out.cell 0 (by omega)
        have r1 := R3.out.cell 1 (by omega)
        simp only [if_true, if_false, Nat.reduceEqDiff] at r0 r1
        obtain ⟨z4, hz4⟩ : ∃ z4, z4 = z3.alloc (.cells #[.int .i64 1, .int .i64 a0, .int .i64 0, .int .i64 0, .int .i64 0, .int .i64 ra, .int .i64 rb, .int .i64 1, .int .i64 0] 37) := ⟨_, rfl⟩
        have HZ4 := Lib.hid hz4
        have L4 := Lib.hid (show LawS z2 z4 z2.heap.size sv bT bB mB (.slice none 0 0) GS.new by rw [hz4]; exact L3.out.alloc _)
        have K4 := Lib.hid (show KArr z4 sv bT bB mB (.slice none 0 0) z3.heap.size 37 9 (CmdT.f ⟨1, a0, 0, 0, 0, ra, rb, 1, 0⟩) by rw [hz4]; exact karr_cmd L3.out ⟨1, a0, 0, 0, 0, ra, rb, 1, 0⟩)
        have RK4 := Lib.hid (show KArr z4 sv bT bB mB (.slice none 0 0) W.heap.size 23 2 (fun i => if i = 0 then .int .i64 ra else .int .i64 rb) from ⟨R3.out.mod (S := []) (by rw [hz4]; exact (Mod.refl _ _).alloc _) (by simp), fun e => by have h1 : z2.heap.size ≤ W.heap.size := (svS_low L3.out.s e).1; have := HZL.out; have := HSZ.out; omega⟩)
        have C1 := Lib.hid (doL_as L4.out ⟨1, a0, 0, 0, 0, ra, rb, 1, 0⟩ 71 0 0 0 0 GS.new EA.out)
        clear s3 m3 hz4
        go_wp2_with fail
        rw [← HZ4.out]
        refine C1.out.mono ?_
        rintro e z5 ⟨gp1, gc1, rp1, rc1, dp1, dc1, v5, rfl, s5, hv5, m5⟩
        have HZ5 := Lib.hid (show W.heap.size ≤ z5.heap.size from (M2.out.trans s5.m).size)
        obtain ⟨z6, hz6⟩ : ∃ z6, z6 = z5.alloc (.cells #[.int .i64 71, .int .i64 0, .slice gp1 0 gc1, .slice rp1 0 rc1, .slice dp1 0 dc1] 34) := ⟨_, rfl⟩
        have HZ6 := Lib.hid hz6
        have m6 : Mod [] z5 z6 := by rw [hz6]; exact (Mod.refl _ _).alloc _
        have L6 := Lib.hid (s5.mod0 m6)
        have K6 := Lib.hid ((K4.out.next hv5 m5).mod0 m6)
        have RK6 := Lib.hid ((RK4.out.next hv5 m5).mod0 m6)
        have A6 := Lib.hid (show KArr z6 sv bT bB mB v5 z5.heap.size 34 5 (ansF 71 0 (.slice gp1 0 gc1) (.slice rp1 0 rc1) (.slice dp1 0 dc1)) by rw [hz6]; exact karr_ans s5 _ _ _ _ _)
        have CL6 := Lib.hid (rclient_calls z6 a0)
        rw [HI.out] at CL6
        have BL6 := Lib.hid (blocks_calls z6 ra rb)
        rw [HB.out] at BL6
        have r0 := RK6.out.1.cell 0 (by omega)
        have r1 := RK6.out.1.cell 1 (by omega)
        simp only [if_true, if_false, Nat.reduceEqDiff] at r0 r1
        clear s5 hv5 m5 m6 hz6 C1
        go_wp2_with fail
        rw [← HZ6.out]
        refine CL6.out.mono ?_
        rintro e w9 ⟨rfl, rfl⟩
        go_wp2_with fail
        refine BL6.out.mono ?_
        rintro e z7 ⟨rfl, hz7⟩
        have m7 : Mod [] z6 z7 := by rw [← hz7]; exact (Mod.refl _ _).alloc _
        have L7 := Lib.hid (L6.out.mod0 m7)
        have K7 := Lib.hid (K6.out.mod0 m7)
        have A7 := Lib.hid (A6.out.mod0 m7)
        have a0c := A7.out.1.cell 0 (by omega)
        simp only [ansF, if_true, if_false, Nat.reduceEqDiff] at a0c
        have C2 := Lib.hid (doL_as L7.out ⟨6, a0, 0, 0, 0, 0, 0, 0, 1⟩ 200 0 0 0 0 GS.new ER.out)
        clear m7 r0 r1
        go_wp2_with fail
        refine C2.out.mono ?_
        rintro e z8 ⟨gp2, gc2, rp2, rc2, dp2, dc2, v8, rfl, s8, hv8, m8⟩
        have hfl := fun w => ans_field0 w 200 0 gp2 rp2 dp2 0 gc2 0 rc2 0 dc2
        have L8 := Lib.hid s8
        have K8 := Lib.hid (K7.out.next hv8 m8)
        have A8 := Lib.hid (A7.out.next hv8 m8)
        clear s8 hv8 m8 a0c C2
        have C3 := Lib.hid (doL_as L8.out ⟨4, a0, 1, a1, a2, 0, 0, 0, 0⟩ 0 (a1 + a2) 0 0 0 (oneL a0.toNat (a1 + a2)) EB.out)
        go_wp2_with fail
        refine C3.out.mono ?_
        rintro e z9 ⟨gp3, gc3, rp3, rc3, dp3, dc3, v9, rfl, s9, hv9, m9⟩
        obtain ⟨za, hza⟩ : ∃ za, za = z9.alloc (.cells #[.int .i64 0, .int .i64 (a1 + a2), .slice gp3 0 gc3, .slice rp3 0 rc3, .slice dp3 0 dc3] 34) := ⟨_, rfl⟩
        have HZA := Lib.hid hza
        have ma : Mod [] z9 za := by rw [hza]; exact (Mod.refl _ _).alloc _
        have LA := Lib.hid (s9.mod0 ma)
        have KA := Lib.hid ((K8.out.next hv9 m9).mod0 ma)
        have A1A := Lib.hid ((A8.out.next hv9 m9).mod0 ma)
        have AA := Lib.hid (show KArr za sv bT bB mB v9 z9.heap.size 34 5 (ansF 0 (a1 + a2) (.slice gp3 0 gc3) (.slice rp3 0 rc3) (.slice dp3 0 dc3)) by rw [hza]; exact karr_ans s9 _ _ _ _ _)
        have b0 := AA.out.1.cell 0 (by omega)
        have b1 := AA.out.1.cell 1 (by omega)
        simp only [ansF, if_true, if_false, Nat.reduceEqDiff] at b0 b1
        clear s9 hv9 m9 hza ma C3
        go_wp2
        rw [← HZA.out]
        go_quiet (first | (go_at_call 18; exact Calls.quiet_of_same (CQ.out _)))
        have LB := Lib.hid (LA.out.mod0 ((Mod.refl [] za).drewN nq))
        have KB := Lib.hid (KA.out.mod0 ((Mod.refl [] za).drewN nq))
        have A1B := Lib.hid (A1A.out.mod0 ((Mod.refl [] za).drewN nq))
        have AB := Lib.hid (AA.out.mod0 ((Mod.refl [] za).drewN nq))
        generalize za.drewN nq = zb at *
        have b0 := AB.out.1.cell 0 (by omega)
        have b1 := AB.out.1.cell 1 (by omega)
        simp only [ansF, if_true, if_false, Nat.reduceEqDiff] at b0 b1
        have c1 := LB.out.s.c1
        have UQ := Lib.hid (fun w (m : Mod [] zb w) => (bkUntil_calls w bB (oneL a0.toNat (a1 + a2)).u (oneL a0.toNat (a1 + a2)).s (oneL a0.toNat (a1 + a2)).d a0 (LB.out.s.mod0 m).bk).mono (R' := fun e w' => e = .returned (.int .i64 (a1 + a2)) ∧ w' = w) (fun e w' h => ⟨by rw [h.1, EU.out], h.2.symm⟩))
        go_wp2
        go_quiet (first | (go_at_call 17; exact Calls.quiet_of_same (UQ.out _ ((Mod.refl _ _).drewN _))))
        have LC := Lib.hid (LB.out.mod0 ((Mod.refl [] zb).drewN nq))
        have KC := Lib.hid (KB.out.mod0 ((Mod.refl [] zb).drewN nq))
        have A1C := Lib.hid (A1B.out.mod0 ((Mod.refl [] zb).drewN nq))
        clear b0 b1 c1 UQ
        generalize zb.drewN nq = zc at *
        have C4 := Lib.hid (doL_as LC.out ⟨5, 0, 0, a1 + a3, 0, 0, 0, 0, 0⟩ 0 0 0 0 1 x4 ES.out)
        go_wp2_with fail
        refine C4.out.mono ?_
        rintro e zd ⟨gp4, gc4, rp4, rc4, dp4, dc4, v10, rfl, s10, hv10, m10⟩
        obtain ⟨ze, hze⟩ : ∃ ze, ze = zd.alloc (.cells #[.int .i64 0, .int .i64 0, .slice gp4 0 gc4, .slice rp4 0 rc4, .slice dp4 1 dc4] 34) := ⟨_, rfl⟩
        have HZE := Lib.hid hze
        have me : Mod [] zd ze := by rw [hze]; exact (Mod.refl _ _).alloc _
        have LE := Lib.hid (s10.mod0 me)
        have KE := Lib.hid ((KC.out.next hv10 m10).mod0 me)
        have A1E := Lib.hid ((A1C.out.next hv10 m10).mod0 me)
        have AE := (show KArr ze sv bT bB mB v10 zd.heap.size 34 5 (ansF 0 0 (.slice gp4 0 gc4) (.slice rp4 0 rc4) (.slice dp4 1 dc4)) by rw [hze]; exact karr_ans s10 _ _ _ _ _)
        have d0 := AE.1.cell 0 (by omega)
        have d4 := AE.1.cell 4 (by omega)
        simp only [ansF, if_true, if_false, Nat.reduceEqDiff] at d0 d4
        have c1 := LE.out.s.c1
        have DC := Lib.hid ((bkDead_calls ze bB x4.u x4.s x4.d a0 LE.out.s.bk).mono (R' := fun e w' => e = .returned (.bool true) ∧ ze = w') (fun e w' h => ⟨by rw [h.1, ED.out], h.2⟩))
        clear s10 hv10 m10 hze me AE C4
        go_upto_region 18 with (fail)
        rw [← HZE.out]
        have k0 := KE.out.1.cell 0 (by omega)
        have k1 := KE.out.1.cell 1 (by omega)
        have k2 := KE.out.1.cell 2 (by omega)
        have k3 := KE.out.1.cell 3 (by omega)
        have k4 := KE.out.1.cell 4 (by omega)
        have k5 := KE.out.1.cell 5 (by omega)
        have k6 := KE.out.1.cell 6 (by omega)
        have k7 := KE.out.1.cell 7 (by omega)
        have k8 := KE.out.1.cell 8 (by omega)
        simp only [CmdT.f, if_true, if_false, Nat.reduceEqDiff] at k0 k1 k2 k3 k4 k5 k6 k7 k8
        have C5 := Lib.hid (doL_as LE.out ⟨1, a0, 0, 0, 0, ra, rb, 1, 0⟩ 71 0 0 0 0 x5 E5.out)
        go_wp2_with (first
          | (go_at_call 15; refine DC.out.mono ?_; rintro e w9 ⟨rfl, rfl⟩)
          | (go_at_call 14; refine C5.out.mono ?_; rintro e zf ⟨gp5, gc5, rp5, rc5, dp5, dc5, v11, rfl, s11, hv11, m11⟩; have A1F := (A1E.out.next hv11 m11).1; obtain ⟨h0, h1, h2, h3, h4, f0, f1, f2, f3, f4⟩ := ans_facts A1F))
        go_ret
        refine ⟨rfl, ((M2.out.trans s11.m).nil.trans (put5_mod zf z5.heap.size _ _ _ _ _)).below (Nat.le_refl _) (fun x hx => ?_)⟩
        have hx := List.mem_singleton.1 hx
        have := HZ5.out
        omega
      · have h4 := SW.1 (by omega)
        obtain ⟨x4, hx4⟩ : ∃ x4, x4 = oneL a0.toNat (a1 + a2) := ⟨_, rfl⟩
        have ES := Lib.hid (show ((oneL a0.toNat (a1 + a2)).Do ⟨5, 0, 0, a1 + a3, 0, 0, 0, 0, 0⟩).2.e = 0 ∧ ((oneL a0.toNat (a1 + a2)).Do ⟨5, 0, 0, a1 + a3, 0, 0, 0, 0, 0⟩).2.n = 0 ∧ ((oneL a0.toNat (a1 + a2)).Do ⟨5, 0, 0, a1 + a3, 0, 0, 0, 0, 0⟩).2.g.length = 0 ∧ ((oneL a0.toNat (a1 + a2)).Do ⟨5, 0, 0, a1 + a3, 0, 0, 0, 0, 0⟩).2.r.length = 0 ∧ ((oneL a0.toNat (a1 + a2)).Do ⟨5, 0, 0, a1 + a3, 0, 0, 0, 0, 0⟩).2.z.length = 0 ∧ ((oneL a0.toNat (a1 + a2)).Do ⟨5, 0, 0, a1 + a3, 0, 0, 0, 0, 0⟩).1 = x4 by rw [h4, hx4]; exact ⟨rfl, rfl, rfl, rfl, rfl, rfl⟩)
        have ED := Lib.hid (show deadV x4.d a0 = false by rw [hx4]; unfold deadV; split <;> rfl)
        obtain ⟨x5, hx5⟩ : ∃ x5, x5 = (x4.Do ⟨1, a0, 0, 0, 0, ra, rb, 1, 0⟩).1 := ⟨_, rfl⟩
        have E5 := Lib.hid (show (x4.Do ⟨1, a0, 0, 0, 0, ra, rb, 1, 0⟩).2.e = 71 ∧ (x4.Do ⟨1, a0, 0, 0, 0, ra, rb, 1, 0⟩).2.n = 0 ∧ (x4.Do ⟨1, a0, 0, 0, 0, ra, rb, 1, 0⟩).2.g.length = 0 ∧ (x4.Do ⟨1, a0, 0, 0, 0, ra, rb, 1, 0⟩).2.r.length = 0 ∧ (x4.Do ⟨1, a0, 0, 0, 0, ra, rb, 1, 0⟩).2.z.length = 0 ∧ (x4.Do ⟨1, a0, 0, 0, 0, ra, rb, 1, 0⟩).1 = x5 by
          rw [show (x4.Do ⟨1, a0, 0, 0, 0, ra, rb, 1, 0⟩).2 = GA.err 71 from by simp only [GS.Do, if_true]; exact ask_bad hi rfl hb]
          exact ⟨rfl, rfl, rfl, rfl, rfl, hx5.symm⟩)
        clear hi hb ask hc SW hdo h4 hx5 hx4
        go_enter Tryd.func4, Tryd.ntmps4
        have CQ := Lib.hid (fun w => (rclient_calls w a0).mono (R' := fun e w' => e = .returned (.bool true) ∧ w' = w) (fun e w' h => ⟨by rw [h.1, HI.out], h.2.symm⟩))
        go_wp2_with fail
        rw [← HW0.out]
        refine (shown_calls _ (Sv.whole_mod HT.out.1 M0.out (by simp)) (HT.out.2.mod M0.out (by simp))).mono ?_
        rintro e z2 ⟨rfl, m2⟩
        have M2 := Lib.hid (M0.out.trans m2)
        have HN := Lib.hid (new_calls z2 (Sv.whole_mod HT.out.1 M2.out (by simp)))
        have R2 := Lib.hid (HR0.out.mod m2 (by simp))
        have HZL := Lib.hid m2.size
        clear m2
        go_wp2_with fail
        refine HN.out.mono ?_
        rintro e z3 ⟨sv, bT, bB, mB, rfl, s3, m3⟩
        have L3 := Lib.hid (show LawS z2 z3 z2.heap.size sv bT bB mB (.slice none 0 0) GS.new from ⟨s3, HT.out.2.mod (M2.out.trans m3) (by simp), m3, Nat.le_refl _, by have := World.block_lt_of_cell? W _ HT.out.1.1; have := M2.out.size; simp only at *; omega⟩)
        have R3 := Lib.hid (R2.out.mod m3 (by simp))
        have r0 := R3.out.cell 0 (by omega)
        have r1 := R3.out.cell 1 (by omega)
        simp only [if_true, if_false, Nat.reduceEqDiff] at r0 r1
        obtain ⟨z4, hz4⟩ : ∃ z4, z4 = z3.alloc (.cells #[.int .i64 1, .int .i64 a0, .int .i64 0, .int .i64 0, .int .i64 0, .int .i64 ra, .int .i64 rb, .int .i64 1, .int .i64 0] 37) := ⟨_, rfl⟩
        have HZ4 := Lib.hid hz4
        have L4 := Lib.hid (show LawS z2 z4 z2.heap.size sv bT bB mB (.slice none 0 0) GS.new by rw [hz4]; exact L3.out.alloc _)
        have K4 := Lib.hid (show KArr z4 sv bT bB mB (.slice none 0 0) z3.heap.size 37 9 (CmdT.f ⟨1, a0, 0, 0, 0, ra, rb, 1, 0⟩) by rw [hz4]; exact karr_cmd L3.out ⟨1, a0, 0, 0, 0, ra, rb, 1, 0⟩)
        have RK4 := Lib.hid (show KArr z4 sv bT bB mB (.slice none 0 0) W.heap.size 23 2 (fun i => if i = 0 then .int .i64 ra else .int .i64 rb) from ⟨R3.out.mod (S := []) (by rw [hz4]; exact (Mod.refl _ _).alloc _) (by simp), fun e => by have h1 : z2.heap.size ≤ W.heap.size := (svS_low L3.out.s e).1; have := HZL.out; have := HSZ.out; omega⟩)
        have C1 := Lib.hid (doL_as L4.out ⟨1, a0, 0, 0, 0, ra, rb, 1, 0⟩ 71 0 0 0 0 GS.new EA.out)
        clear s3 m3 hz4
        go_wp2_with fail
        rw [← HZ4.out]
        refine C1.out.mono ?_
        rintro e z5 ⟨gp1, gc1, rp1, rc1, dp1, dc1, v5, rfl, s5, hv5, m5⟩
        have HZ5 := Lib.hid (show W.heap.size ≤ z5.heap.size from (M2.out.trans s5.m).size)
        obtain ⟨z6, hz6⟩ : ∃ z6, z6 = z5.alloc (.cells #[.int .i64 71, .int .i64 0, .slice gp1 0 gc1, .slice rp1 0 rc1, .slice dp1 0 dc1] 34) := ⟨_, rfl⟩
        have HZ6 := Lib.hid hz6
        have m6 : Mod [] z5 z6 := by rw [hz6]; exact (Mod.refl _ _).alloc _
        have L6 := Lib.hid (s5.mod0 m6)
        have K6 := Lib.hid ((K4.out.next hv5 m5).mod0 m6)
        have RK6 := Lib.hid ((RK4.out.next hv5 m5).mod0 m6)
        have A6 := Lib.hid (show KArr z6 sv bT bB mB v5 z5.heap.size 34 5 (ansF 71 0 (.slice gp1 0 gc1) (.slice rp1 0 rc1) (.slice dp1 0 dc1)) by rw [hz6]; exact karr_ans s5 _ _ _ _ _)
        have CL6 := Lib.hid (rclient_calls z6 a0)
        rw [HI.out] at CL6
        have BL6 := Lib.hid (blocks_calls z6 ra rb)
        rw [HB.out] at BL6
        have r0 := RK6.out.1.cell 0 (by omega)
        have r1 := RK6.out.1.cell 1 (by omega)
        simp only [if_true, if_false, Nat.reduceEqDiff] at r0 r1
        clear s5 hv5 m5 m6 hz6 C1
        go_wp2_with fail
        rw [← HZ6.out]
        refine CL6.out.mono ?_
        rintro e w9 ⟨rfl, rfl⟩
        go_wp2_with fail
        refine BL6.out.mono ?_
        rintro e z7 ⟨rfl, hz7⟩
        have m7 : Mod [] z6 z7 := by rw [← hz7]; exact (Mod.refl _ _).alloc _
        have L7 := Lib.hid (L6.out.mod0 m7)
        have K7 := Lib.hid (K6.out.mod0 m7)
        have A7 := Lib.hid (A6.out.mod0 m7)
        have a0c := A7.out.1.cell 0 (by omega)
        simp only [ansF, if_true, if_false, Nat.reduceEqDiff] at a0c
        have C2 := Lib.hid (doL_as L7.out ⟨6, a0, 0, 0, 0, 0, 0, 0, 1⟩ 200 0 0 0 0 GS.new ER.out)
        clear m7 r0 r1
        go_wp2_with fail
        refine C2.out.mono ?_
        rintro e z8 ⟨gp2, gc2, rp2, rc2, dp2, dc2, v8, rfl, s8, hv8, m8⟩
        have hfl := fun w => ans_field0 w 200 0 gp2 rp2 dp2 0 gc2 0 rc2 0 dc2
        have L8 := Lib.hid s8
        have K8 := Lib.hid (K7.out.next hv8 m8)
        have A8 := Lib.hid (A7.out.next hv8 m8)
        clear s8 hv8 m8 a0c C2
        have C3 := Lib.hid (doL_as L8.out ⟨4, a0, 1, a1, a2, 0, 0, 0, 0⟩ 0 (a1 + a2) 0 0 0 (oneL a0.toNat (a1 + a2)) EB.out)
        go_wp2_with fail
        refine C3.out.mono ?_
        rintro e z9 ⟨gp3, gc3, rp3, rc3, dp3, dc3, v9, rfl, s9, hv9, m9⟩
        obtain ⟨za, hza⟩ : ∃ za, za = z9.alloc (.cells #[.int .i64 0, .int .i64 (a1 + a2), .slice gp3 0 gc3, .slice rp3 0 rc3, .slice dp3 0 dc3] 34) := ⟨_, rfl⟩
        have HZA := Lib.hid hza
        have ma : Mod [] z9 za := by rw [hza]; exact (Mod.refl _ _).alloc _
        have LA := Lib.hid (s9.mod0 ma)
        have KA := Lib.hid ((K8.out.next hv9 m9).mod0 ma)
        have A1A := Lib.hid ((A8.out.next hv9 m9).mod0 ma)
        have AA := Lib.hid (show KArr za sv bT bB mB v9 z9.heap.size 34 5 (ansF 0 (a1 + a2) (.slice gp3 0 gc3) (.slice rp3 0 rc3) (.slice dp3 0 dc3)) by rw [hza]; exact karr_ans s9 _ _ _ _ _)
        have b0 := AA.out.1.cell 0 (by omega)
        have b1 := AA.out.1.cell 1 (by omega)
        simp only [ansF, if_true, if_false, Nat.reduceEqDiff] at b0 b1
        clear s9 hv9 m9 hza ma C3
        go_wp2
        rw [← HZA.out]
        go_quiet (first | (go_at_call 18; exact Calls.quiet_of_same (CQ.out _)))
        have LB := Lib.hid (LA.out.mod0 ((Mod.refl [] za).drewN nq))
        have KB := Lib.hid (KA.out.mod0 ((Mod.refl [] za).drewN nq))
        have A1B := Lib.hid (A1A.out.mod0 ((Mod.refl [] za).drewN nq))
        have AB := Lib.hid (AA.out.mod0 ((Mod.refl [] za).drewN nq))
        generalize za.drewN nq = zb at *
        have b0 := AB.out.1.cell 0 (by omega)
        have b1 := AB.out.1.cell 1 (by omega)
        simp only [ansF, if_true, if_false, Nat.reduceEqDiff] at b0 b1
        have c1 := LB.out.s.c1
        have UQ := Lib.hid (fun w (m : Mod [] zb w) => (bkUntil_calls w bB (oneL a0.toNat (a1 + a2)).u (oneL a0.toNat (a1 + a2)).s (oneL a0.toNat (a1 + a2)).d a0 (LB.out.s.mod0 m).bk).mono (R' := fun e w' => e = .returned (.int .i64 (a1 + a2)) ∧ w' = w) (fun e w' h => ⟨by rw [h.1, EU.out], h.2.symm⟩))
        go_wp2
        go_quiet (first | (go_at_call 17; exact Calls.quiet_of_same (UQ.out _ ((Mod.refl _ _).drewN _))))
        have LC := Lib.hid (LB.out.mod0 ((Mod.refl [] zb).drewN nq))
        have KC := Lib.hid (KB.out.mod0 ((Mod.refl [] zb).drewN nq))
        have A1C := Lib.hid (A1B.out.mod0 ((Mod.refl [] zb).drewN nq))
        clear b0 b1 c1 UQ
        generalize zb.drewN nq = zc at *
        have C4 := Lib.hid (doL_as LC.out ⟨5, 0, 0, a1 + a3, 0, 0, 0, 0, 0⟩ 0 0 0 0 0 x4 ES.out)
        go_wp2_with fail
        refine C4.out.mono ?_
        rintro e zd ⟨gp4, gc4, rp4, rc4, dp4, dc4, v10, rfl, s10, hv10, m10⟩
        obtain ⟨ze, hze⟩ : ∃ ze, ze = zd.alloc (.cells #[.int .i64 0, .int .i64 0, .slice gp4 0 gc4, .slice rp4 0 rc4, .slice dp4 0 dc4] 34) := ⟨_, rfl⟩
        have HZE := Lib.hid hze
        have me : Mod [] zd ze := by rw [hze]; exact (Mod.refl _ _).alloc _
        have LE := Lib.hid (s10.mod0 me)
        have KE := Lib.hid ((KC.out.next hv10 m10).mod0 me)
        have A1E := Lib.hid ((A1C.out.next hv10 m10).mod0 me)
        have AE := (show KArr ze sv bT bB mB v10 zd.heap.size 34 5 (ansF 0 0 (.slice gp4 0 gc4) (.slice rp4 0 rc4) (.slice dp4 0 dc4)) by rw [hze]; exact karr_ans s10 _ _ _ _ _)
        have d0 := AE.1.cell 0 (by omega)
        have d4 := AE.1.cell 4 (by omega)
        simp only [ansF, if_true, if_false, Nat.reduceEqDiff] at d0 d4
        have c1 := LE.out.s.c1
        have DC := Lib.hid ((bkDead_calls ze bB x4.u x4.s x4.d a0 LE.out.s.bk).mono (R' := fun e w' => e = .returned (.bool false) ∧ ze = w') (fun e w' h => ⟨by rw [h.1, ED.out], h.2⟩))
        clear s10 hv10 m10 hze me AE C4
        go_upto_region 18 with (fail)
        rw [← HZE.out]
        have k0 := KE.out.1.cell 0 (by omega)
        have k1 := KE.out.1.cell 1 (by omega)
        have k2 := KE.out.1.cell 2 (by omega)
        have k3 := KE.out.1.cell 3 (by omega)
        have k4 := KE.out.1.cell 4 (by omega)
        have k5 := KE.out.1.cell 5 (by omega)
        have k6 := KE.out.1.cell 6 (by omega)
        have k7 := KE.out.1.cell 7 (by omega)
        have k8 := KE.out.1.cell 8 (by omega)
        simp only [CmdT.f, if_true, if_false, Nat.reduceEqDiff] at k0 k1 k2 k3 k4 k5 k6 k7 k8
        have C5 := Lib.hid (doL_as LE.out ⟨1, a0, 0, 0, 0, ra, rb, 1, 0⟩ 71 0 0 0 0 x5 E5.out)
        go_wp2_with (first
          | (go_at_call 15; refine DC.out.mono ?_; rintro e w9 ⟨rfl, rfl⟩)
          | (go_at_call 14; refine C5.out.mono ?_; rintro e zf ⟨gp5, gc5, rp5, rc5, dp5, dc5, v11, rfl, s11, hv11, m11⟩; have A1F := (A1E.out.next hv11 m11).1; obtain ⟨h0, h1, h2, h3, h4, f0, f1, f2, f3, f4⟩ := ans_facts A1F))
        go_ret
        refine ⟨rfl, ((M2.out.trans s11.m).nil.trans (put5_mod zf z5.heap.size _ _ _ _ _)).below (Nat.le_refl _) (fun x hx => ?_)⟩
        have hx := List.mem_singleton.1 hx
        have := HZ5.out
        omega
    | true =>
      have HB := Lib.hid hb
      have EA := Lib.hid (ask 200 (by rw [if_neg (by simp [hi]), if_neg (by simp [hb])]))
      by_cases hl : a2 < a3
      · obtain ⟨x4, h4, x4u, x4d, x4w⟩ := SW.2 (by omega)
        have ES := Lib.hid (show ((oneL a0.toNat (a1 + a2)).Do ⟨5, 0, 0, a1 + a3, 0, 0, 0, 0, 0⟩).2.e = 0 ∧ ((oneL a0.toNat (a1 + a2)).Do ⟨5, 0, 0, a1 + a3, 0, 0, 0, 0, 0⟩).2.n = 0 ∧ ((oneL a0.toNat (a1 + a2)).Do ⟨5, 0, 0, a1 + a3, 0, 0, 0, 0, 0⟩).2.g.length = 0 ∧ ((oneL a0.toNat (a1 + a2)).Do ⟨5, 0, 0, a1 + a3, 0, 0, 0, 0, 0⟩).2.r.length = 0 ∧ ((oneL a0.toNat (a1 + a2)).Do ⟨5, 0, 0, a1 + a3, 0, 0, 0, 0, 0⟩).2.z.length = 1 ∧ ((oneL a0.toNat (a1 + a2)).Do ⟨5, 0, 0, a1 + a3, 0, 0, 0, 0, 0⟩).1 = x4 by rw [h4]; exact ⟨rfl, rfl, rfl, rfl, rfl, rfl⟩)
        have hd := (show deadV x4.d a0 = true by
          unfold deadV
          rw [if_neg (by rw [show inC a0 = true from hi]; simp), x4d]
          unfold swD
          rw [sw_one (by omega) (by omega)]
          simp
          exact .inl ⟨by omega, by omega⟩)
        have ED := Lib.hid hd
        obtain ⟨x5, hx5⟩ : ∃ x5, x5 = (x4.Do ⟨1, a0, 0, 0, 0, ra, rb, 1, 0⟩).1 := ⟨_, rfl⟩
        have E5 := Lib.hid (show (x4.Do ⟨1, a0, 0, 0, 0, ra, rb, 1, 0⟩).2.e = 200 ∧ (x4.Do ⟨1, a0, 0, 0, 0, ra, rb, 1, 0⟩).2.n = 0 ∧ (x4.Do ⟨1, a0, 0, 0, 0, ra, rb, 1, 0⟩).2.g.length = 0 ∧ (x4.Do ⟨1, a0, 0, 0, 0, ra, rb, 1, 0⟩).2.r.length = 0 ∧ (x4.Do ⟨1, a0, 0, 0, 0, ra, rb, 1, 0⟩).2.z.length = 0 ∧ (x4.Do ⟨1, a0, 0, 0, 0, ra, rb, 1, 0⟩).1 = x5 by
          rw [show (x4.Do ⟨1, a0, 0, 0, 0, ra, rb, 1, 0⟩).2 = GA.err 200 from by simp only [GS.Do, if_true]; exact (ask_dead hi rfl (livesB_dead hd)).trans (by rw [if_neg (by simp [hb])])]
          exact ⟨rfl, rfl, rfl, rfl, rfl, hx5.symm⟩)
        clear hi hb ask hc SW hdo h4 hx5 x4u x4d x4w hd
        go_enter Tryd.func4, Tryd.ntmps4
        have CQ := Lib.hid (fun w => (rclient_calls w a0).mono (R' := fun e w' => e = .returned (.bool true) ∧ w' = w) (fun e w' h => ⟨by rw [h.1, HI.out], h.2.symm⟩))
        go_wp2_with fail
        rw [← HW0.out]
        refine (shown_calls _ (Sv.whole_mod HT.out.1 M0.out (by simp)) (HT.out.2.mod M0.out (by simp))).mono ?_
        rintro e z2 ⟨rfl, m2⟩
        have M2 := Lib.hid (M0.out.trans m2)
        have HN := Lib.hid (new_calls z2 (Sv.whole_mod HT.out.1 M2.out (by simp)))
        have R2 := Lib.hid (HR0.out.mod m2 (by simp))
        have HZL := Lib.hid m2.size
        clear m2
        go_wp2_with fail
        refine HN.out.mono ?_
        rintro e z3 ⟨sv, bT, bB, mB, rfl, s3, m3⟩
        have L3 := Lib.hid (show LawS z2 z3 z2.heap.size sv bT bB mB (.slice none 0 0) GS.new from ⟨s3, HT.out.2.mod (M2.out.trans m3) (by simp), m3, Nat.le_refl _, by have := World.block_lt_of_cell? W _ HT.out.1.1; have := M2.out.size; simp only at *; omega⟩)
        have R3 := Lib.hid (R2.out.mod m3 (by simp))
        have r0 := R3.out.cell 0 (by omega)
        have r1 := R3.out.cell 1 (by omega)
        simp only [if_true, if_false, Nat.reduceEqDiff] at r0 r1
        obtain ⟨z4, hz4⟩ : ∃ z4, z4 = z3.alloc (.cells #[.int .i64 1, .int .i64 a0, .int .i64 0, .int .i64 0, .int .i64 0, .int .i64 ra, .int .i64 rb, .int .i64 1, .int .i64 0] 37) := ⟨_, rfl⟩
        have HZ4 := Lib.hid hz4
        have L4 := Lib.hid (show LawS z2 z4 z2.heap.size sv bT bB mB (.slice none 0 0) GS.new by rw [hz4]; exact L3.out.alloc _)
        have K4 := Lib.hid (show KArr z4 sv bT bB mB (.slice none 0 0) z3.heap.size 37 9 (CmdT.f ⟨1, a0, 0, 0, 0, ra, rb, 1, 0⟩) by rw [hz4]; exact karr_cmd L3.out ⟨1, a0, 0, 0, 0, ra, rb, 1, 0⟩)
        have RK4 := Lib.hid (show KArr z4 sv bT bB mB (.slice none 0 0) W.heap.size 23 2 (fun i => if i = 0 then .int .i64 ra else .int .i64 rb) from ⟨R3.out.mod (S := []) (by rw [hz4]; exact (Mod.refl _ _).alloc _) (by simp), fun e => by have h1 : z2.heap.size ≤ W.heap.size := (svS_low L3.out.s e).1; have := HZL.out; have := HSZ.out; omega⟩)
        have C1 := Lib.hid (doL_as L4.out ⟨1, a0, 0, 0, 0, ra, rb, 1, 0⟩ 200 0 0 0 0 GS.new EA.out)
        clear s3 m3 hz4
        go_wp2_with fail
        rw [← HZ4.out]
        refine C1.out.mono ?_
        rintro e z5 ⟨gp1, gc1, rp1, rc1, dp1, dc1, v5, rfl, s5, hv5, m5⟩
        have HZ5 := Lib.hid (show W.heap.size ≤ z5.heap.size from (M2.out.trans s5.m).size)
        obtain ⟨z6, hz6⟩ : ∃ z6, z6 = z5.alloc (.cells #[.int .i64 200, .int .i64 0, .slice gp1 0 gc1, .slice rp1 0 rc1, .slice dp1 0 dc1] 34) := ⟨_, rfl⟩
        have HZ6 := Lib.hid hz6
        have m6 : Mod [] z5 z6 := by rw [hz6]; exact (Mod.refl _ _).alloc _
        have L6 := Lib.hid (s5.mod0 m6)
        have K6 := Lib.hid ((K4.out.next hv5 m5).mod0 m6)
        have RK6 := Lib.hid ((RK4.out.next hv5 m5).mod0 m6)
        have A6 := Lib.hid (show KArr z6 sv bT bB mB v5 z5.heap.size 34 5 (ansF 200 0 (.slice gp1 0 gc1) (.slice rp1 0 rc1) (.slice dp1 0 dc1)) by rw [hz6]; exact karr_ans s5 _ _ _ _ _)
        have CL6 := Lib.hid (rclient_calls z6 a0)
        rw [HI.out] at CL6
        have BL6 := Lib.hid (blocks_calls z6 ra rb)
        rw [HB.out] at BL6
        have r0 := RK6.out.1.cell 0 (by omega)
        have r1 := RK6.out.1.cell 1 (by omega)
        simp only [if_true, if_false, Nat.reduceEqDiff] at r0 r1
        clear s5 hv5 m5 m6 hz6 C1
        go_wp2_with fail
        rw [← HZ6.out]
        refine CL6.out.mono ?_
        rintro e w9 ⟨rfl, rfl⟩
        go_wp2_with fail
        refine BL6.out.mono ?_
        rintro e z7 ⟨rfl, hz7⟩
        have m7 : Mod [] z6 z7 := by rw [← hz7]; exact (Mod.refl _ _).alloc _
        have L7 := Lib.hid (L6.out.mod0 m7)
        have K7 := Lib.hid (K6.out.mod0 m7)
        have A7 := Lib.hid (A6.out.mod0 m7)
        have a0c := A7.out.1.cell 0 (by omega)
        simp only [ansF, if_true, if_false, Nat.reduceEqDiff] at a0c
        have C2 := Lib.hid (doL_as L7.out ⟨6, a0, 0, 0, 0, 0, 0, 0, 1⟩ 200 0 0 0 0 GS.new ER.out)
        clear m7 r0 r1
        go_wp2_with fail
        refine C2.out.mono ?_
        rintro e z8 ⟨gp2, gc2, rp2, rc2, dp2, dc2, v8, rfl, s8, hv8, m8⟩
        have hfl := fun w => ans_field0 w 200 0 gp2 rp2 dp2 0 gc2 0 rc2 0 dc2
        have L8 := Lib.hid s8
        have K8 := Lib.hid (K7.out.next hv8 m8)
        have A8 := Lib.hid (A7.out.next hv8 m8)
        clear s8 hv8 m8 a0c C2
        have C3 := Lib.hid (doL_as L8.out ⟨4, a0, 1, a1, a2, 0, 0, 0, 0⟩ 0 (a1 + a2) 0 0 0 (oneL a0.toNat (a1 + a2)) EB.out)
        go_wp2_with fail
        refine C3.out.mono ?_
        rintro e z9 ⟨gp3, gc3, rp3, rc3, dp3, dc3, v9, rfl, s9, hv9, m9⟩
        obtain ⟨za, hza⟩ : ∃ za, za = z9.alloc (.cells #[.int .i64 0, .int .i64 (a1 + a2), .slice gp3 0 gc3, .slice rp3 0 rc3, .slice dp3 0 dc3] 34) := ⟨_, rfl⟩
        have HZA := Lib.hid hza
        have ma : Mod [] z9 za := by rw [hza]; exact (Mod.refl _ _).alloc _
        have LA := Lib.hid (s9.mod0 ma)
        have KA := Lib.hid ((K8.out.next hv9 m9).mod0 ma)
        have A1A := Lib.hid ((A8.out.next hv9 m9).mod0 ma)
        have AA := Lib.hid (show KArr za sv bT bB mB v9 z9.heap.size 34 5 (ansF 0 (a1 + a2) (.slice gp3 0 gc3) (.slice rp3 0 rc3) (.slice dp3 0 dc3)) by rw [hza]; exact karr_ans s9 _ _ _ _ _)
        have b0 := AA.out.1.cell 0 (by omega)
        have b1 := AA.out.1.cell 1 (by omega)
        simp only [ansF, if_true, if_false, Nat.reduceEqDiff] at b0 b1
        clear s9 hv9 m9 hza ma C3
        go_wp2
        rw [← HZA.out]
        go_quiet (first | (go_at_call 18; exact Calls.quiet_of_same (CQ.out _)))
        have LB := Lib.hid (LA.out.mod0 ((Mod.refl [] za).drewN nq))
        have KB := Lib.hid (KA.out.mod0 ((Mod.refl [] za).drewN nq))
        have A1B := Lib.hid (A1A.out.mod0 ((Mod.refl [] za).drewN nq))
        have AB := Lib.hid (AA.out.mod0 ((Mod.refl [] za).drewN nq))
        generalize za.drewN nq = zb at *
        have b0 := AB.out.1.cell 0 (by omega)
        have b1 := AB.out.1.cell 1 (by omega)
        simp only [ansF, if_true, if_false, Nat.reduceEqDiff] at b0 b1
        have c1 := LB.out.s.c1
        have UQ := Lib.hid (fun w (m : Mod [] zb w) => (bkUntil_calls w bB (oneL a0.toNat (a1 + a2)).u (oneL a0.toNat (a1 + a2)).s (oneL a0.toNat (a1 + a2)).d a0 (LB.out.s.mod0 m).bk).mono (R' := fun e w' => e = .returned (.int .i64 (a1 + a2)) ∧ w' = w) (fun e w' h => ⟨by rw [h.1, EU.out], h.2.symm⟩))
        go_wp2
        go_quiet (first | (go_at_call 17; exact Calls.quiet_of_same (UQ.out _ ((Mod.refl _ _).drewN _))))
        have LC := Lib.hid (LB.out.mod0 ((Mod.refl [] zb).drewN nq))
        have KC := Lib.hid (KB.out.mod0 ((Mod.refl [] zb).drewN nq))
        have A1C := Lib.hid (A1B.out.mod0 ((Mod.refl [] zb).drewN nq))
        clear b0 b1 c1 UQ
        generalize zb.drewN nq = zc at *
        have C4 := Lib.hid (doL_as LC.out ⟨5, 0, 0, a1 + a3, 0, 0, 0, 0, 0⟩ 0 0 0 0 1 x4 ES.out)
        go_wp2_with fail
        refine C4.out.mono ?_
        rintro e zd ⟨gp4, gc4, rp4, rc4, dp4, dc4, v10, rfl, s10, hv10, m10⟩
        obtain ⟨ze, hze⟩ : ∃ ze, ze = zd.alloc (.cells #[.int .i64 0, .int .i64 0, .slice gp4 0 gc4, .slice rp4 0 rc4, .slice dp4 1 dc4] 34) := ⟨_, rfl⟩
        have HZE := Lib.hid hze
        have me : Mod [] zd ze := by rw [hze]; exact (Mod.refl _ _).alloc _
        have LE := Lib.hid (s10.mod0 me)
        have KE := Lib.hid ((KC.out.next hv10 m10).mod0 me)
        have A1E := Lib.hid ((A1C.out.next hv10 m10).mod0 me)
        have AE := (show KArr ze sv bT bB mB v10 zd.heap.size 34 5 (ansF 0 0 (.slice gp4 0 gc4) (.slice rp4 0 rc4) (.slice dp4 1 dc4)) by rw [hze]; exact karr_ans s10 _ _ _ _ _)
        have d0 := AE.1.cell 0 (by omega)
        have d4 := AE.1.cell 4 (by omega)
        simp only [ansF, if_true, if_false, Nat.reduceEqDiff] at d0 d4
        have c1 := LE.out.s.c1
        have DC := Lib.hid ((bkDead_calls ze bB x4.u x4.s x4.d a0 LE.out.s.bk).mono (R' := fun e w' => e = .returned (.bool true) ∧ ze = w') (fun e w' h => ⟨by rw [h.1, ED.out], h.2⟩))
        clear s10 hv10 m10 hze me AE C4
        go_upto_region 18 with (fail)
        rw [← HZE.out]
        have k0 := KE.out.1.cell 0 (by omega)
        have k1 := KE.out.1.cell 1 (by omega)
        have k2 := KE.out.1.cell 2 (by omega)
        have k3 := KE.out.1.cell 3 (by omega)
        have k4 := KE.out.1.cell 4 (by omega)
        have k5 := KE.out.1.cell 5 (by omega)
        have k6 := KE.out.1.cell 6 (by omega)
        have k7 := KE.out.1.cell 7 (by omega)
        have k8 := KE.out.1.cell 8 (by omega)
        simp only [CmdT.f, if_true, if_false, Nat.reduceEqDiff] at k0 k1 k2 k3 k4 k5 k6 k7 k8
        have C5 := Lib.hid (doL_as LE.out ⟨1, a0, 0, 0, 0, ra, rb, 1, 0⟩ 200 0 0 0 0 x5 E5.out)
        go_wp2_with (first
          | (go_at_call 15; refine DC.out.mono ?_; rintro e w9 ⟨rfl, rfl⟩)
          | (go_at_call 14; refine C5.out.mono ?_; rintro e zf ⟨gp5, gc5, rp5, rc5, dp5, dc5, v11, rfl, s11, hv11, m11⟩; have A1F := (A1E.out.next hv11 m11).1; obtain ⟨h0, h1, h2, h3, h4, f0, f1, f2, f3, f4⟩ := ans_facts A1F))
        go_ret
        refine ⟨rfl, ((M2.out.trans s11.m).nil.trans (put5_mod zf z5.heap.size _ _ _ _ _)).below (Nat.le_refl _) (fun x hx => ?_)⟩
        have hx := List.mem_singleton.1 hx
        have := HZ5.out
        omega
      · have h4 := SW.1 (by omega)
        obtain ⟨x4, hx4⟩ : ∃ x4, x4 = oneL a0.toNat (a1 + a2) := ⟨_, rfl⟩
        have ES := Lib.hid (show ((oneL a0.toNat (a1 + a2)).Do ⟨5, 0, 0, a1 + a3, 0, 0, 0, 0, 0⟩).2.e = 0 ∧ ((oneL a0.toNat (a1 + a2)).Do ⟨5, 0, 0, a1 + a3, 0, 0, 0, 0, 0⟩).2.n = 0 ∧ ((oneL a0.toNat (a1 + a2)).Do ⟨5, 0, 0, a1 + a3, 0, 0, 0, 0, 0⟩).2.g.length = 0 ∧ ((oneL a0.toNat (a1 + a2)).Do ⟨5, 0, 0, a1 + a3, 0, 0, 0, 0, 0⟩).2.r.length = 0 ∧ ((oneL a0.toNat (a1 + a2)).Do ⟨5, 0, 0, a1 + a3, 0, 0, 0, 0, 0⟩).2.z.length = 0 ∧ ((oneL a0.toNat (a1 + a2)).Do ⟨5, 0, 0, a1 + a3, 0, 0, 0, 0, 0⟩).1 = x4 by rw [h4, hx4]; exact ⟨rfl, rfl, rfl, rfl, rfl, rfl⟩)
        have ED := Lib.hid (show deadV x4.d a0 = false by rw [hx4]; unfold deadV; split <;> rfl)
        obtain ⟨x5, hx5⟩ : ∃ x5, x5 = (x4.Do ⟨1, a0, 0, 0, 0, ra, rb, 1, 0⟩).1 := ⟨_, rfl⟩
        have E5 := Lib.hid (show (x4.Do ⟨1, a0, 0, 0, 0, ra, rb, 1, 0⟩).2.e = 0 ∧ (x4.Do ⟨1, a0, 0, 0, 0, ra, rb, 1, 0⟩).2.n = 1 ∧ (x4.Do ⟨1, a0, 0, 0, 0, ra, rb, 1, 0⟩).2.g.length = 0 ∧ (x4.Do ⟨1, a0, 0, 0, 0, ra, rb, 1, 0⟩).2.r.length = 0 ∧ (x4.Do ⟨1, a0, 0, 0, 0, ra, rb, 1, 0⟩).2.z.length = 0 ∧ (x4.Do ⟨1, a0, 0, 0, 0, ra, rb, 1, 0⟩).1 = x5 by
          rw [show (x4.Do ⟨1, a0, 0, 0, 0, ra, rb, 1, 0⟩).2 = ⟨0, 1, [], [], []⟩ from by simp only [GS.Do, if_true]; exact (by rw [hx4]; exact ask_one hi rfl hb (by omega))]
          exact ⟨rfl, rfl, rfl, rfl, rfl, hx5.symm⟩)
        clear hi hb ask hc SW hdo h4 hx5 hx4
        go_enter Tryd.func4, Tryd.ntmps4
        have CQ := Lib.hid (fun w => (rclient_calls w a0).mono (R' := fun e w' => e = .returned (.bool true) ∧ w' = w) (fun e w' h => ⟨by rw [h.1, HI.out], h.2.symm⟩))
        go_wp2_with fail
        rw [← HW0.out]
        refine (shown_calls _ (Sv.whole_mod HT.out.1 M0.out (by simp)) (HT.out.2.mod M0.out (by simp))).mono ?_
        rintro e z2 ⟨rfl, m2⟩
        have M2 := Lib.hid (M0.out.trans m2)
        have HN := Lib.hid (new_calls z2 (Sv.whole_mod HT.out.1 M2.out (by simp)))
        have R2 := Lib.hid (HR0.out.mod m2 (by simp))
        have HZL := Lib.hid m2.size
        clear m2
        go_wp2_with fail
        refine HN.out.mono ?_
        rintro e z3 ⟨sv, bT, bB, mB, rfl, s3, m3⟩
        have L3 := Lib.hid (show LawS z2 z3 z2.heap.size sv bT bB mB (.slice none 0 0) GS.new from ⟨s3, HT.out.2.mod (M2.out.trans m3) (by simp), m3, Nat.le_refl _, by have := World.block_lt_of_cell? W _ HT.out.1.1; have := M2.out.size; simp only at *; omega⟩)
        have R3 := Lib.hid (R2.out.mod m3 (by simp))
        have r0 := R3.out.cell 0 (by omega)
        have r1 := R3.out.cell 1 (by omega)
        simp only [if_true, if_false, Nat.reduceEqDiff] at r0 r1
        obtain ⟨z4, hz4⟩ : ∃ z4, z4 = z3.alloc (.cells #[.int .i64 1, .int .i64 a0, .int .i64 0, .int .i64 0, .int .i64 0, .int .i64 ra, .int .i64 rb, .int .i64 1, .int .i64 0] 37) := ⟨_, rfl⟩
        have HZ4 := Lib.hid hz4
        have L4 := Lib.hid (show LawS z2 z4 z2.heap.size sv bT bB mB (.slice none 0 0) GS.new by rw [hz4]; exact L3.out.alloc _)
        have K4 := Lib.hid (show KArr z4 sv bT bB mB (.slice none 0 0) z3.heap.size 37 9 (CmdT.f ⟨1, a0, 0, 0, 0, ra, rb, 1, 0⟩) by rw [hz4]; exact karr_cmd L3.out ⟨1, a0, 0, 0, 0, ra, rb, 1, 0⟩)
        have RK4 := Lib.hid (show KArr z4 sv bT bB mB (.slice none 0 0) W.heap.size 23 2 (fun i => if i = 0 then .int .i64 ra else .int .i64 rb) from ⟨R3.out.mod (S := []) (by rw [hz4]; exact (Mod.refl _ _).alloc _) (by simp), fun e => by have h1 : z2.heap.size ≤ W.heap.size := (svS_low L3.out.s e).1; have := HZL.out; have := HSZ.out; omega⟩)
        have C1 := Lib.hid (doL_as L4.out ⟨1, a0, 0, 0, 0, ra, rb, 1, 0⟩ 200 0 0 0 0 GS.new EA.out)
        clear s3 m3 hz4
        go_wp2_with fail
        rw [← HZ4.out]
        refine C1.out.mono ?_
        rintro e z5 ⟨gp1, gc1, rp1, rc1, dp1, dc1, v5, rfl, s5, hv5, m5⟩
        have HZ5 := Lib.hid (show W.heap.size ≤ z5.heap.size from (M2.out.trans s5.m).size)
        obtain ⟨z6, hz6⟩ : ∃ z6, z6 = z5.alloc (.cells #[.int .i64 200, .int .i64 0, .slice gp1 0 gc1, .slice rp1 0 rc1, .slice dp1 0 dc1] 34) := ⟨_, rfl⟩
        have HZ6 := Lib.hid hz6
        have m6 : Mod [] z5 z6 := by rw [hz6]; exact (Mod.refl _ _).alloc _
        have L6 := Lib.hid (s5.mod0 m6)
        have K6 := Lib.hid ((K4.out.next hv5 m5).mod0 m6)
        have RK6 := Lib.hid ((RK4.out.next hv5 m5).mod0 m6)
        have A6 := Lib.hid (show KArr z6 sv bT bB mB v5 z5.heap.size 34 5 (ansF 200 0 (.slice gp1 0 gc1) (.slice rp1 0 rc1) (.slice dp1 0 dc1)) by rw [hz6]; exact karr_ans s5 _ _ _ _ _)
        have CL6 := Lib.hid (rclient_calls z6 a0)
        rw [HI.out] at CL6
        have BL6 := Lib.hid (blocks_calls z6 ra rb)
        rw [HB.out] at BL6
        have r0 := RK6.out.1.cell 0 (by omega)
        have r1 := RK6.out.1.cell 1 (by omega)
        simp only [if_true, if_false, Nat.reduceEqDiff] at r0 r1
        clear s5 hv5 m5 m6 hz6 C1
        go_wp2_with fail
        rw [← HZ6.out]
        refine CL6.out.mono ?_
        rintro e w9 ⟨rfl, rfl⟩
        go_wp2_with fail
        refine BL6.out.mono ?_
        rintro e z7 ⟨rfl, hz7⟩
        have m7 : Mod [] z6 z7 := by rw [← hz7]; exact (Mod.refl _ _).alloc _
        have L7 := Lib.hid (L6.out.mod0 m7)
        have K7 := Lib.hid (K6.out.mod0 m7)
        have A7 := Lib.hid (A6.out.mod0 m7)
        have a0c := A7.out.1.cell 0 (by omega)
        simp only [ansF, if_true, if_false, Nat.reduceEqDiff] at a0c
        have C2 := Lib.hid (doL_as L7.out ⟨6, a0, 0, 0, 0, 0, 0, 0, 1⟩ 200 0 0 0 0 GS.new ER.out)
        clear m7 r0 r1
        go_wp2_with fail
        refine C2.out.mono ?_
        rintro e z8 ⟨gp2, gc2, rp2, rc2, dp2, dc2, v8, rfl, s8, hv8, m8⟩
        have hfl := fun w => ans_field0 w 200 0 gp2 rp2 dp2 0 gc2 0 rc2 0 dc2
        have L8 := Lib.hid s8
        have K8 := Lib.hid (K7.out.next hv8 m8)
        have A8 := Lib.hid (A7.out.next hv8 m8)
        clear s8 hv8 m8 a0c C2
        have C3 := Lib.hid (doL_as L8.out ⟨4, a0, 1, a1, a2, 0, 0, 0, 0⟩ 0 (a1 + a2) 0 0 0 (oneL a0.toNat (a1 + a2)) EB.out)
        go_wp2_with fail
        refine C3.out.mono ?_
        rintro e z9 ⟨gp3, gc3, rp3, rc3, dp3, dc3, v9, rfl, s9, hv9, m9⟩
        obtain ⟨za, hza⟩ : ∃ za, za = z9.alloc (.cells #[.int .i64 0, .int .i64 (a1 + a2), .slice gp3 0 gc3, .slice rp3 0 rc3, .slice dp3 0 dc3] 34) := ⟨_, rfl⟩
        have HZA := Lib.hid hza
        have ma : Mod [] z9 za := by rw [hza]; exact (Mod.refl _ _).alloc _
        have LA := Lib.hid (s9.mod0 ma)
        have KA := Lib.hid ((K8.out.next hv9 m9).mod0 ma)
        have A1A := Lib.hid ((A8.out.next hv9 m9).mod0 ma)
        have AA := Lib.hid (show KArr za sv bT bB mB v9 z9.heap.size 34 5 (ansF 0 (a1 + a2) (.slice gp3 0 gc3) (.slice rp3 0 rc3) (.slice dp3 0 dc3)) by rw [hza]; exact karr_ans s9 _ _ _ _ _)
        have b0 := AA.out.1.cell 0 (by omega)
        have b1 := AA.out.1.cell 1 (by omega)
        simp only [ansF, if_true, if_false, Nat.reduceEqDiff] at b0 b1
        clear s9 hv9 m9 hza ma C3
        go_wp2
        rw [← HZA.out]
        go_quiet (first | (go_at_call 18; exact Calls.quiet_of_same (CQ.out _)))
        have LB := Lib.hid (LA.out.mod0 ((Mod.refl [] za).drewN nq))
        have KB := Lib.hid (KA.out.mod0 ((Mod.refl [] za).drewN nq))
        have A1B := Lib.hid (A1A.out.mod0 ((Mod.refl [] za).drewN nq))
        have AB := Lib.hid (AA.out.mod0 ((Mod.refl [] za).drewN nq))
        generalize za.drewN nq = zb at *
        have b0 := AB.out.1.cell 0 (by omega)
        have b1 := AB.out.1.cell 1 (by omega)
        simp only [ansF, if_true, if_false, Nat.reduceEqDiff] at b0 b1
        have c1 := LB.out.s.c1
        have UQ := Lib.hid (fun w (m : Mod [] zb w) => (bkUntil_calls w bB (oneL a0.toNat (a1 + a2)).u (oneL a0.toNat (a1 + a2)).s (oneL a0.toNat (a1 + a2)).d a0 (LB.out.s.mod0 m).bk).mono (R' := fun e w' => e = .returned (.int .i64 (a1 + a2)) ∧ w' = w) (fun e w' h => ⟨by rw [h.1, EU.out], h.2.symm⟩))
        go_wp2
        go_quiet (first | (go_at_call 17; exact Calls.quiet_of_same (UQ.out _ ((Mod.refl _ _).drewN _))))
        have LC := Lib.hid (LB.out.mod0 ((Mod.refl [] zb).drewN nq))
        have KC := Lib.hid (KB.out.mod0 ((Mod.refl [] zb).drewN nq))
        have A1C := Lib.hid (A1B.out.mod0 ((Mod.refl [] zb).drewN nq))
        clear b0 b1 c1 UQ
        generalize zb.drewN nq = zc at *
        have C4 := Lib.hid (doL_as LC.out ⟨5, 0, 0, a1 + a3, 0, 0, 0, 0, 0⟩ 0 0 0 0 0 x4 ES.out)
        go_wp2_with fail
        refine C4.out.mono ?_
        rintro e zd ⟨gp4, gc4, rp4, rc4, dp4, dc4, v10, rfl, s10, hv10, m10⟩
        obtain ⟨ze, hze⟩ : ∃ ze, ze = zd.alloc (.cells #[.int .i64 0, .int .i64 0, .slice gp4 0 gc4, .slice rp4 0 rc4, .slice dp4 0 dc4] 34) := ⟨_, rfl⟩
        have HZE := Lib.hid hze
        have me : Mod [] zd ze := by rw [hze]; exact (Mod.refl _ _).alloc _
        have LE := Lib.hid (s10.mod0 me)
        have KE := Lib.hid ((KC.out.next hv10 m10).mod0 me)
        have A1E := Lib.hid ((A1C.out.next hv10 m10).mod0 me)
        have AE := (show KArr ze sv bT bB mB v10 zd.heap.size 34 5 (ansF 0 0 (.slice gp4 0 gc4) (.slice rp4 0 rc4) (.slice dp4 0 dc4)) by rw [hze]; exact karr_ans s10 _ _ _ _ _)
        have d0 := AE.1.cell 0 (by omega)
        have d4 := AE.1.cell 4 (by omega)
        simp only [ansF, if_true, if_false, Nat.reduceEqDiff] at d0 d4
        have c1 := LE.out.s.c1
        have DC := Lib.hid ((bkDead_calls ze bB x4.u x4.s x4.d a0 LE.out.s.bk).mono (R' := fun e w' => e = .returned (.bool false) ∧ ze = w') (fun e w' h => ⟨by rw [h.1, ED.out], h.2⟩))
        clear s10 hv10 m10 hze me AE C4
        go_upto_region 18 with (fail)
        rw [← HZE.out]
        have k0 := KE.out.1.cell 0 (by omega)
        have k1 := KE.out.1.cell 1 (by omega)
        have k2 := KE.out.1.cell 2 (by omega)
        have k3 := KE.out.1.cell 3 (by omega)
        have k4 := KE.out.1.cell 4 (by omega)
        have k5 := KE.out.1.cell 5 (by omega)
        have k6 := KE.out.1.cell 6 (by omega)
        have k7 := KE.out.1.cell 7 (by omega)
        have k8 := KE.out.1.cell 8 (by omega)
        simp only [CmdT.f, if_true, if_false, Nat.reduceEqDiff] at k0 k1 k2 k3 k4 k5 k6 k7 k8
        have C5 := Lib.hid (doL_as LE.out ⟨1, a0, 0, 0, 0, ra, rb, 1, 0⟩ 0 1 0 0 0 x5 E5.out)
        go_wp2_with (first
          | (go_at_call 15; refine DC.out.mono ?_; rintro e w9 ⟨rfl, rfl⟩)
          | (go_at_call 14; refine C5.out.mono ?_; rintro e zf ⟨gp5, gc5, rp5, rc5, dp5, dc5, v11, rfl, s11, hv11, m11⟩; have A1F := (A1E.out.next hv11 m11).1; obtain ⟨h0, h1, h2, h3, h4, f0, f1, f2, f3, f4⟩ := ans_facts A1F))
        go_ret
        refine ⟨rfl, ((M2.out.trans s11.m).nil.trans (put5_mod zf z5.heap.size _ _ _ _ _)).below (Nat.le_refl _) (fun x hx => ?_)⟩
        have hx := List.mem_singleton.1 hx
        have := HZ5.out
        omega
end Go.Proofs.YtijjbkkcienfgaaDoor
