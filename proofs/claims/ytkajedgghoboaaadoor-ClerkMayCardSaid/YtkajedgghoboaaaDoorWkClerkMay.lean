/- The walk of the law ClerkMay: without a lease that is good, or a hold, nothing may be; with both it may, till just when the lease ends; lost, nothing may any more. The premise: the variable 'whole' holds what its initialiser lays. -/
import Derived.Test.YtkajedgghoboaaaDoorProg
import Derived.Test.YtkajedgghoboaaaDoorRow
import Derived.Test.YtkajedgghoboaaaDoorClerkP
namespace Go.Proofs.YtkajedgghoboaaaDoor
open Go.RowKit
set_option linter.unusedVariables false
set_option linter.unusedSimpArgs false
attribute [local go_sem ↓] Go.wp_at_zero Go.wp_at_succ

set_option maxRecDepth 100000 in
set_option maxHeartbeats 8000000 in
theorem clerkMay_walk (W : World) (t0 : Whole W) (s0 : Array Value) (c0 : CellsOk W [.int .i64, .int .i64, .int .i64, .int .i64] s0.toList)
    (a1 : Int) (w1 : (Lit.int .i64 a1).wf = true)
    (a2 : Int) (w2 : (Lit.int .i64 a2).wf = true)
    (a3 : Int) (w3 : (Lit.int .i64 a3).wf = true)
    (a4 : Int) (w4 : (Lit.int .i64 a4).wf = true) :
    Calls Tryd.prog 10 #[.agg s0, .int .i64 a1, .int .i64 a2, .int .i64 a3, .int .i64 a4] W fun e w' => e = .returned (.bool true) ∧ Below W.heap.size W w' := by
  obtain ⟨x, y, c, m, rfl⟩ := hold_of c0
  clear c0 w1 w2 w3 w4
  have hw0 : 0 < W.heap.size := World.block_lt_of_cell? W _ t0.1
  obtain ⟨W1, hW1⟩ : ∃ W1, W1 = W.alloc (.cells #[.int .i64 x, .int .i64 y, .int .i64 c, .int .i64 m] 31) := ⟨_, rfl⟩
  have MW : Mod [] W W1 := by rw [hW1]; exact (Mod.refl [] W).alloc _
  have A1 : Arr W1 W.heap.size 31 4 (hcF x y c m) := by rw [hW1]; exact hold_new W x y c m
  have hs1 : W.heap.size < W1.heap.size := by rw [hW1]; simp
  have C0 := Lib.hid (shown20_calls W1 (t0.mod MW (by simp)))
  have HT := Lib.hid (t0.mod MW (by simp))
  have HW1 := Lib.hid hW1
  have HMW := Lib.hid MW
  have HA1 := Lib.hid A1
  clear t0 hW1 MW A1
  by_cases hb : a1 < 0 ∨ 1073741824 < a1 ∨ a2 < 0 ∨ 1073741824 < a2
  · have four : (a1 < 0) ∨ (decide (a1 < 0) = false ∧ 1073741824 < a1) ∨ (decide (a1 < 0) = false ∧ decide (1073741824 < a1) = false ∧ a2 < 0) ∨ (decide (a1 < 0) = false ∧ decide (1073741824 < a1) = false ∧ decide (a2 < 0) = false ∧ 1073741824 < a2) := by
      simp only [decide_eq_false_iff_not]
      omega
    clear hb
    rcases four with h1 | ⟨h1, h2⟩ | ⟨h1, h2, h3⟩ | ⟨h1, h2, h3, h4⟩
    all_goals
      go_enter Tryd.func10, Tryd.ntmps10
      go_wp2_with fail
      rw [← HW1.out]
      refine C0.out.mono ?_
      rintro e z0 ⟨rfl, n0⟩
      have HW0 := Lib.hid (HT.out.mod n0 (by simp))
      have HN0 := Lib.hid (HMW.out.trans n0)
      clear n0
      go_wp2_with fail
      refine (shown20_calls z0 HW0.out).mono ?_
      rintro e z1 ⟨rfl, n1⟩
      have HN1 := Lib.hid (HN0.out.trans n1)
      clear n1
      go_wp2
      go_ret
      exact ⟨rfl, HN1.out.below (Nat.le_refl _) (by simp)⟩
  have b1 : 0 ≤ a1 := by omega
  have b2 : a1 ≤ 1073741824 := by omega
  have b3 : 0 ≤ a2 := by omega
  have b4 : a2 ≤ 1073741824 := by omega
  have d1 : decide (a1 < 0) = false := by simpa using b1
  have d2 : decide (1073741824 < a1) = false := by simpa using b2
  have d3 : decide (a2 < 0) = false := by simpa using b3
  have d4 : decide (1073741824 < a2) = false := by simpa using b4
  clear hb
  go_enter Tryd.func10, Tryd.ntmps10
  go_wp2_with fail
  rw [← HW1.out]
  refine C0.out.mono ?_
  rintro e z0 ⟨rfl, n0⟩
  have HW0 := Lib.hid (HT.out.mod n0 (by simp))
  have HN0 := Lib.hid n0
  have s0 := n0.size
  clear n0
  go_wp2_with fail
  refine (ckNew_calls z0 3 10 2 HW0.out).mono ?_
  rintro e z1 ⟨k, b, p, q, bT, rfl, h1, n1, l1, l2, l3, l4, l5⟩
  have A2 := HA1.out.mod (HN0.out.trans n1) (by simp)
  have e0 := A2.cell 2 (by omega)
  have f0 := A2.free 2
  have o1 := A2.lt
  obtain ⟨Z, hZ⟩ : ∃ Z, Z = z1.setCell ⟨W.heap.size, 2, none⟩ (.int .i64 3) := ⟨_, rfl⟩
  have MZ : Mod [W.heap.size] z1 Z := by rw [hZ]; exact (Mod.refl _ _).setCell (by simp) _
  have A3 : Arr Z W.heap.size 31 4 (hcF x y 3 m) := by
    rw [hZ]
    exact (A2.set 2 _).congr fun j hj => by
      match j, hj with
      | 0, _ | 1, _ | 2, _ | 3, _ => rfl
  have hk : k ≠ W.heap.size := by omega
  have IZ : CkI W Z W.heap.size k b p q bT x y 3 m (stNew 3 10 2) :=
    ⟨h1.mod MZ (by simp; omega) (by simp; omega) (by simp; omega) (by simp; omega) (by simp; omega) (by simp; omega), A3, ((HMW.out.trans HN0.out).trans n1).fresh MZ (fun z hz => .inr (by simp at hz; omega)), Nat.le_refl _, by omega, by omega, by omega, hw0⟩
  have HI := Lib.hid IZ
  clear h1 n1 A2 A3 MZ IZ
  go_wp2_with fail
  rw [← hZ]
  clear hZ e0 f0
  by_cases hnow : a3 < 0
  · have E := Lib.hid (show mayE (stNew 3 10 2) a3 0 1 = 170 by
      unfold mayE
      rw [if_neg (by omega), if_neg (by omega), if_neg (by omega), if_neg (by show ¬ (-1 : Int) < a3; omega), show hasV (stNew 3 10 2).t (stNew 3 10 2).id 0 1 = false from has_zero _ _ _ (.inl rfl), if_pos rfl])
    refine (ckMay_calls Z k b p q bT _ a3 0 1 HI.out.ck).mono ?_
    rintro e z2 ⟨rfl, n2⟩
    rw [E.out]
    have HI2 := Lib.hid (HI.out.same n2)
    clear n2
    go_wp2
    go_ret
    exact ⟨rfl, HI2.out.md.below (Nat.le_refl _) (by simp)⟩
  have E1 := Lib.hid (show mayE (stNew 3 10 2) a3 0 1 = 200 by
    unfold mayE
    rw [if_neg (by omega), if_neg (by omega), if_neg (by omega), if_pos (by show (-1 : Int) < a3; omega)])
  refine (ckMay_calls Z k b p q bT _ a3 0 1 HI.out.ck).mono ?_
  rintro e z2 ⟨rfl, n2⟩
  rw [E1.out]
  have HI2 := Lib.hid (HI.out.same n2)
  have g0 := HI2.out.ck.c0
  have OF := Lib.hid (oneF 3 10 2 a1 a2 b1 (by omega) b3 (by omega))
  clear n2 E1 HI hnow
  go_wp2_with fail
  refine (ckAsk_calls z2 k b p q bT _ a1 HI2.out.ck).mono ?_
  rintro e z3 ⟨rfl, h3, n3⟩
  rw [OF.out.e1, OF.out.v1]
  have HI3 := Lib.hid (HI2.out.next h3 n3 (by simp))
  clear h3 n3 g0 HI2
  go_wp2_with fail
  refine (ckGot_calls z3 k b p q bT _ 1 a2 HI3.out.ck).mono ?_
  rintro e z4 ⟨rfl, h4, n4⟩
  rw [OF.out.g1]
  have J4 := HI3.out.next h4 n4 (by simp)
  obtain ⟨s2, hs2⟩ : ∃ s2, s2 = gotS (askS (stNew 3 10 2) a1) 1 a2 := ⟨_, rfl⟩
  rw [← hs2] at J4
  obtain ⟨M, hM⟩ : ∃ M, M = margV a2 10 2 := ⟨_, rfl⟩
  have hmb := margV_bd a2 10 2
  rw [← hM] at hmb
  have m0 : 0 ≤ M := hmb.1
  have m1 : M ≤ a2 := by
    have h := hmb.2.1
    unfold clampV at h
    omega
  have HTL := Lib.hid (show s2.till = a1 + M by rw [hs2, OF.out.t2, hM])
  have HS2 := Lib.hid hs2
  have HI4 := Lib.hid J4
  clear h4 n4 J4 HI3 hs2 hM hmb OF
  go_wp2_with fail
  refine (ckLeft_calls z4 k b p q bT s2 a1 HI4.out.ck (by omega)).mono ?_
  rintro e z' ⟨rfl, rfl⟩
  rw [show leftV s2.till a1 = M by rw [HTL.out]; unfold leftV; omega]
  have hml : ¬ a2 < M := by omega
  go_wp2_with fail
  refine (ckMay_calls z4 k b p q bT s2 _ 0 1 HI4.out.ck).mono ?_
  rintro e z5 ⟨rfl, n5⟩
  rw [show mayE s2 (a1 + M + 1) 0 1 = 200 by
    unfold mayE
    rw [if_neg (by omega), if_neg (by omega), if_neg (by omega), if_pos (by rw [HTL.out]; omega)]]
  have HI5 := Lib.hid (HI4.out.same n5)
  clear n5 HI4
  go_wp2_with fail
  refine (ckMay_calls z5 k b p q bT s2 _ 0 1 HI5.out.ck).mono ?_
  rintro e z6 ⟨rfl, n6⟩
  rw [show mayE s2 (a1 + M) 0 1 = 170 by
    unfold mayE
    rw [if_neg (by omega), if_neg (by omega), if_neg (by omega), if_neg (by rw [HTL.out]; omega), show hasV s2.t s2.id 0 1 = false by rw [HS2.out]; exact has_zero _ _ _ (.inl rfl), if_pos rfl]]
  have HI6 := Lib.hid (HI5.out.same n6)
  have g0 := HI6.out.h0
  have g1 := HI6.out.h1
  have g2 := HI6.out.h2
  have g3 := HI6.out.h3
  clear n6 HI5
  go_wp2_with fail
  refine (ckGiven_calls z6 k b p q bT s2 x y 3 m 4 HI6.out.ck).mono ?_
  rintro e z7 ⟨rfl, h7, n7⟩
  have HGE := Lib.hid (show givenE s2 x y 3 m 4 = putE (fun _ _ => 0) x y 3 m by
    unfold givenE
    rw [if_neg (by omega), if_neg (by omega), if_neg (by rw [HS2.out]; exact fun h => h rfl)]
    by_cases h : putE (fun _ _ => 0) x y 3 m ≠ 0
    · rw [if_pos h]
    · rw [if_neg h, if_neg (by rw [HS2.out]; show ¬ (4 : Int) ≤ 0; omega)]
      omega)
  have J7 := HI6.out.next h7 n7 (by simp)
  replace g0 := J7.h0
  replace g1 := J7.h1
  replace g2 := J7.h2
  replace g3 := J7.h3
  have o7 := J7.hd.lt
  have HI7 := Lib.hid J7
  rw [HGE.out]
  obtain ⟨E, hE⟩ : ∃ E, E = putE (fun _ _ => 0) x y 3 m := ⟨_, rfl⟩
  rw [← hE]
  have HE := Lib.hid hE
  clear h7 n7 J7 HI6 hE
  by_cases hE0 : E = 0
  rotate_left
  · have hbad := put_bad (i := 3) (x := x) (y := y) (m := m) (by omega) (fun h => hE0 (HE.out.trans h))
    have e1 : (E != 0) = true := by simpa using hE0
    clear hE0
    rcases hbad with hb | ⟨hb, hm1, hm2⟩
    · go_wp2_with (go_at_call 14; refine (blocks_calls _ _ _).mono ?_; rintro e w' ⟨rfl, rfl⟩; rw [hb])
      go_ret
      exact ⟨rfl, (HI7.out.md.alloc _).below (Nat.le_refl _) (by simp)⟩
    · have f1 : (m != 1) = true := by simpa using hm1
      have f2 : (m != 2) = true := by simpa using hm2
      clear hm1 hm2
      go_wp2_with (go_at_call 14; refine (blocks_calls _ _ _).mono ?_; rintro e w' ⟨rfl, rfl⟩; rw [hb])
      go_ret
      exact ⟨rfl, (HI7.out.md.alloc _).below (Nat.le_refl _) (by simp)⟩
  subst hE0
  obtain ⟨hblk, hm12⟩ := put_good (i := 3) HE.out.symm
  obtain ⟨r1, r2, r3⟩ := blk_of hblk
  have PO := Lib.hid (put_one (i := 3) (by omega) hm12 hblk).2
  have HS3 : givenS s2 x y 3 m 4 = { s2 with t := putT s2.t x y 3 m, grant := 4, told := 0 } := by
    unfold givenS
    rw [if_pos (HGE.out.trans HE.out.symm)]
  have J8 := HI7.out
  rw [HS3] at J8
  have HT3 : putT s2.t x y 3 m = putT (fun _ _ => 0) x y 3 m := by rw [HS2.out]; rfl
  rw [HT3] at J8
  have HID : s2.id = 3 := by rw [HS2.out]; rfl
  obtain ⟨s3, hs3⟩ : ∃ s3 : St, s3 = { s2 with t := putT (fun _ _ => 0) x y 3 m, grant := 4, told := 0 } := ⟨_, rfl⟩
  rw [← hs3] at J8
  have HI8 := Lib.hid J8
  have HTI := Lib.hid (show s3.till = a1 + M by rw [hs3]; exact HTL.out)
  have HSV := Lib.hid (show hasV s3.t s3.id a4 m = hasV (putT (fun _ _ => 0) x y 3 m) 3 a4 m by rw [hs3]; show hasV _ s2.id _ _ = _; rw [HID])
  have HMM := Lib.hid hm12
  clear HS3 J8 HT3 HID hs3 HI7 HGE HE hblk hm12
  go_wp2_with fail
  refine (ckMay_calls z7 k b p q bT s3 a1 a4 m HI8.out.ck).mono ?_
  rintro e z8 ⟨rfl, n8⟩
  obtain ⟨F, hF⟩ : ∃ F, F = mayE s3 a1 a4 m := ⟨_, rfl⟩
  rw [← hF]
  have hFv : F = if a4 < 0 then 71 else if 256 ≤ a4 then 71 else if hasV s3.t s3.id a4 m = false then 170 else 0 := by
    rw [hF]
    unfold mayE
    by_cases h1 : a4 < 0
    · rw [if_pos h1, if_pos h1]
    · rw [if_neg h1, if_neg h1]
      by_cases h2 : 256 ≤ a4
      · rw [if_pos h2, if_pos h2]
      · rw [if_neg h2, if_neg h2, if_neg (by have := HMM.out; omega), if_neg (by rw [HTI.out]; omega)]
  have HI9 := Lib.hid (HI8.out.same n8)
  replace g0 := HI9.out.h0
  replace g1 := HI9.out.h1
  replace g2 := HI9.out.h2
  replace g3 := HI9.out.h3
  have HFV := Lib.hid hFv
  clear n8 hF hFv HI8
  have four : (decide (0 ≤ a4) = false) ∨ (0 ≤ a4 ∧ decide (a4 < 256) = false) ∨ (0 ≤ a4 ∧ a4 < 256 ∧ x ≤ a4 ∧ a4 < y ∧ (F == 0) = true) ∨ (0 ≤ a4 ∧ a4 < 256 ∧ decide (x ≤ a4) = false ∧ (F == 0) = false) ∨ (0 ≤ a4 ∧ a4 < 256 ∧ x ≤ a4 ∧ decide (a4 < y) = false ∧ (F == 0) = false) := by
    simp only [decide_eq_false_iff_not]
    by_cases e1 : 0 ≤ a4
    · by_cases e2 : a4 < 256
      · have hv : hasV (putT (fun _ _ => 0) x y 3 m) 3 a4 m = (decide (x ≤ a4 ∧ a4 < y) && decide (m ≤ m)) := PO.out a4 m e1 e2 HMM.out
        rw [← HSV.out] at hv
        have hf := HFV.out
        rw [if_neg (by omega), if_neg (by omega), hv] at hf
        by_cases e3 : x ≤ a4
        · by_cases e4 : a4 < y
          · refine .inr (.inr (.inl ⟨e1, e2, e3, e4, ?_⟩))
            rw [hf]
            simp [e3, e4]
          · refine .inr (.inr (.inr (.inr ⟨e1, e2, e3, e4, ?_⟩)))
            rw [hf]
            simp [e4]
        · refine .inr (.inr (.inr (.inl ⟨e1, e2, e3, ?_⟩)))
          rw [hf]
          simp [e3]
      · exact .inr (.inl ⟨e1, e2⟩)
    · exact .inl e1
  clear PO HSV HFV
  rcases four with u1 | ⟨u1, u2⟩ | ⟨u1, u2, u3, u4, u5⟩ | ⟨u1, u2, u3, u5⟩ | ⟨u1, u2, u3, u4, u5⟩
  all_goals
    go_wp2_with fail
    refine (ckLose_calls z8 k b p q bT s3 HI9.out.ck).mono ?_
    rintro e z9 ⟨rfl, bT', l9, h9, n9⟩
    have I10 : CkI W z9 W.heap.size k b p q bT' x y 3 m { s3 with got := s3.last, till := -1, t := fun _ _ => 0 } := by
      have hn1 := HI9.out.n1
      have hn2 := HI9.out.n2
      have k1 := HI9.out.l1
      have k2 := HI9.out.l2
      exact ⟨h9, HI9.out.hd.mod n9 (by simp; omega), HI9.out.md.fresh n9 (fun z hz => .inr (by simp at hz; omega)), Nat.le_refl _, k1, k2, by have := HI9.out.md.size; omega, HI9.out.w0⟩
    have v0 := I10.h0
    have HI10 := Lib.hid I10
    clear h9 n9 I10 g0 g1 g2 g3
    go_wp2_with fail
    refine (ckMay_calls z9 k b p q bT' _ a1 x 1 HI10.out.ck).mono ?_
    rintro e z10 ⟨rfl, n10⟩
    rw [show mayE { s3 with got := s3.last, till := -1, t := fun _ _ => 0 } a1 x 1 = 200 by
      unfold mayE
      rw [if_neg (by omega), if_neg (by omega), if_neg (by omega), if_pos (by show (-1 : Int) < a1; omega)]]
    have HI11 := Lib.hid (HI10.out.same n10)
    clear n10 HI10
    go_wp2_with fail
    refine (ckHolds_calls z10 k b p q bT' _ HI11.out.ck).mono ?_
    rintro e z11 ⟨v, rfl, ho, n11⟩
    rw [show listL (fun _ _ => 0) = [] from holds_none 8 (fun _ _ _ _ _ => rfl)] at ho
    obtain ⟨p9, cap9, rfl⟩ := own_slice ho
    have HM11 := Lib.hid (HI11.out.md.trans n11)
    clear ho n11
    go_wp2
    go_ret
    exact ⟨rfl, HM11.out.below (Nat.le_refl _) (by simp)⟩
end Go.Proofs.YtkajedgghoboaaaDoor
